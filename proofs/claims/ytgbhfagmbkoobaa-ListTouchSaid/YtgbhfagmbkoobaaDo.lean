/-
  THE WALK OF the law's own helper do.
-/
import Derived.Test.YtgbhfagmbkoobaaSame
namespace Go.Proofs.Ytgbhfagmbkoobaa
open Go.RowKit
/-- what one act makes of the numbers -/
def actL (l : List Nat) (b : Bool) (id : Int) : List Nat :=
  if 0 ≤ id ∧ id < 64 then (if b then l.erase id.toNat else id.toNat :: l.erase id.toNat) else l
theorem actL_valid {l : List Nat} (h : Valid l) (b : Bool) (id : Int) : Valid (actL l b id) := by
  unfold actL
  split
  · split
    · exact h.erase _
    · exact (h.erase _).cons (by omega) (h.not_mem_erase _)
  · exact h
def AnsL (l : List Nat) (w : World) (e : Ending) (w' : World) : Prop := ∃ n, Ans (toldL l) n w e w'
theorem touch_act (l : List Nat) (hv : Valid l) (id : Int) (w : World) : Calls Try.prog 14 #[.agg (cells (toldL l).at), .int .i64 id] w (AnsL (actL l false id) w) := by
  by_cases h : 0 ≤ id ∧ id < 64
  · obtain ⟨k, rfl⟩ := Int.eq_ofNat_of_zero_le h.1
    have e : actL l false (k : Int) = k :: l.erase k := by unfold actL; rw [if_pos h]; rfl
    rw [e]
    by_cases hk : k ∈ l
    · exact (touch_in l hv k hk w).mono fun _ _ h => ⟨_, h⟩
    · rw [List.erase_of_not_mem hk]
      exact (touch_new l hv k (by omega) hk w).mono fun _ _ h => ⟨_, h⟩
  · have e : actL l false id = l := by unfold actL; rw [if_neg h]
    rw [e]
    exact (touch_range l hv id h w).mono fun _ _ h => ⟨_, h⟩
theorem drop_act (l : List Nat) (hv : Valid l) (id : Int) (w : World) : Calls Try.prog 16 #[.agg (cells (toldL l).at), .int .i64 id] w (AnsL (actL l true id) w) := by
  by_cases h : 0 ≤ id ∧ id < 64
  · obtain ⟨k, rfl⟩ := Int.eq_ofNat_of_zero_le h.1
    have e : actL l true (k : Int) = l.erase k := by unfold actL; rw [if_pos h]; rfl
    rw [e]
    by_cases hk : k ∈ l
    · exact (drop_in l hv k hk w).mono fun _ _ h => ⟨_, h⟩
    · rw [List.erase_of_not_mem hk]
      exact (drop_new l hv k (by omega) hk w).mono fun _ _ h => ⟨_, h⟩
  · have e : actL l true id = l := by unfold actL; rw [if_neg h]
    rw [e]
    exact (drop_range l hv id h w).mono fun _ _ h => ⟨_, h⟩
theorem heap3_0 (w : World) (a b c : Obj) : (((w.alloc a).alloc b).alloc c).heap[w.heap.size]? = some a := by
  rw [Below.heap_alloc _ _ _ (by simp; omega)]; exact heap_prev w a b
theorem heap3_2 (w : World) (a b c : Obj) : (((w.alloc a).alloc b).alloc c).heap[w.heap.size + 2]? = some c := by
  have := heap_alloc_last ((w.alloc a).alloc b) c
  simpa using this
theorem below_alloc3 {w w1 : World} {a b c : Obj} (h : Below (((w.alloc a).alloc b).alloc c).heap.size (((w.alloc a).alloc b).alloc c) w1) : Below w.heap.size w w1 :=
  ((((Below.refl w.heap.size w).alloc (Nat.le_refl _) a).alloc (by simp) b).alloc (by simp; omega) c).trans (h.mono (by simp; omega))
attribute [local go_sem] zero26 cells_get cells_set upd_at at_hd at_tl
set_option maxRecDepth 100000 in
set_option maxHeartbeats 800000 in
theorem do_drop (l : List Nat) (hv : Valid l) (id : Int) (w : World) : Calls Try.prog 23 #[.agg (cells (toldL l).at), .agg #[.bool true, .int .i64 id]] w (AnsL (actL l true id) w) := by
  have HV := Lib.hid hv
  clear hv
  go_enter Try.func23, Try.ntmps23
  go_wp2_with (first
    | (refine wpList_load_row rfl 26 (.tmp 2) rfl w.heap.size rfl 26 _ (0, 0) _ (heap3_0 _ _ _ _) Try.underlying26 rfl (size26 _) ?_)
    | fail)
  refine (drop_act l HV.out id _).mono ?_
  rintro e w1 ⟨n, rfl, hb1⟩
  have HZ := Lib.hid (Lies.below (g := w.heap.size + 2) (c := z0.at) ⟨heap3_2 w _ _ _⟩ hb1)
  have HB := Lib.hid (below_alloc3 hb1)
  clear hb1
  go_wp2_with (first
    | (refine wpList_store_row rfl 26 (.tmp 4) (.tmp 12) rfl (w.heap.size + 2) _ rfl rfl 26 _ HZ.out.row (size26 _) (size_same _ _) (Flat.all (Flat.at _)) ?_)
    | fail)
  refine bodyPost_ret (v := .tuple #[.agg (cells (toldL (actL l true id)).at), .int .i64 n]) ?_ rfl ⟨n, rfl, below_setRow HB.out (by omega)⟩
  exact results_row_tmp rfl _ _ (w.heap.size + 2) 26 _ (0, 0) _ _ rfl (HZ.out.setRow _).row Try.underlying26 rfl (size26 _) rfl
set_option maxRecDepth 100000 in
set_option maxHeartbeats 800000 in
theorem do_touch (l : List Nat) (hv : Valid l) (id : Int) (w : World) : Calls Try.prog 23 #[.agg (cells (toldL l).at), .agg #[.bool false, .int .i64 id]] w (AnsL (actL l false id) w) := by
  have HV := Lib.hid hv
  clear hv
  go_enter Try.func23, Try.ntmps23
  go_wp2_with (first
    | (refine wpList_load_row rfl 26 (.tmp 2) rfl w.heap.size rfl 26 _ (0, 0) _ (heap3_0 _ _ _ _) Try.underlying26 rfl (size26 _) ?_)
    | fail)
  refine (touch_act l HV.out id _).mono ?_
  rintro e w1 ⟨n, rfl, hb1⟩
  have HZ := Lib.hid (Lies.below (g := w.heap.size + 2) (c := z0.at) ⟨heap3_2 w _ _ _⟩ hb1)
  have HB := Lib.hid (below_alloc3 hb1)
  clear hb1
  go_wp2_with (first
    | (refine wpList_store_row rfl 26 (.tmp 4) (.tmp 18) rfl (w.heap.size + 2) _ rfl rfl 26 _ HZ.out.row (size26 _) (size_same _ _) (Flat.all (Flat.at _)) ?_)
    | fail)
  refine bodyPost_ret (v := .tuple #[.agg (cells (toldL (actL l false id)).at), .int .i64 n]) ?_ rfl ⟨n, rfl, below_setRow HB.out (by omega)⟩
  exact results_row_tmp rfl _ _ (w.heap.size + 2) 26 _ (0, 0) _ _ rfl (HZ.out.setRow _).row Try.underlying26 rfl (size26 _) rfl
theorem do_any (l : List Nat) (hv : Valid l) (b : Bool) (id : Int) (w : World) : Calls Try.prog 23 #[.agg (cells (toldL l).at), .agg #[.bool b, .int .i64 id]] w (AnsL (actL l b id) w) := by
  cases b
  · exact do_touch l hv id w
  · exact do_drop l hv id w
end Go.Proofs.Ytgbhfagmbkoobaa
