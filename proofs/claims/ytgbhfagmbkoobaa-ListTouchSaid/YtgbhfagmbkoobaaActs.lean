/-
  THE WALKS OF list.Touch, list.Drop and list.Last.
-/
import Derived.Test.YtgbhfagmbkoobaaPlain
namespace Go.Proofs.Ytgbhfagmbkoobaa
open Go.RowKit
theorem erase_mid (p : List Nat) (k : Nat) (s : List Nat) (hn : (p ++ k :: s).Nodup) : (p ++ k :: s).erase k = p ++ s := by
  have hk : k ∉ p := fun h => by
    rw [List.nodup_append] at hn
    exact absurd rfl (hn.2.2 k h k (by simp))
  rw [List.erase_append_right _ hk, List.erase_cons_head]
theorem Valid.erase {l : List Nat} (h : Valid l) (k : Nat) : Valid (l.erase k) := ⟨fun a ha => h.1 a (List.mem_of_mem_erase ha), h.2.erase k⟩
theorem Valid.cons {l : List Nat} (h : Valid l) {k : Nat} (hk : k < 64) (hn : k ∉ l) : Valid (k :: l) :=
  ⟨fun a ha => by rcases List.mem_cons.mp ha with rfl | ha; exact hk; exact h.1 a ha, List.nodup_cons.mpr ⟨hn, h.2⟩⟩
theorem Valid.not_mem_erase {l : List Nat} (h : Valid l) (k : Nat) : k ∉ l.erase k := fun hm => (h.2.mem_erase_iff.mp hm).1 rfl
theorem pull_any (l : List Nat) (hv : Valid l) (k : Nat) (hk : k ∈ l) (w : World) :
    Calls Try.prog 28 #[.agg (cells (toldL l).at), .int .i64 k] w fun e w' => e = .returned (.agg (cells (toldL (l.erase k)).at)) ∧ Below w.heap.size w w' := by
  obtain ⟨p, s, rfl⟩ := List.append_of_mem hk
  have hk64 := hv.1 k hk
  rw [erase_mid p k s hv.2, ← pull_told p k s hv.2]
  have hnx := told_nx p k s hv.2
  have hpv := told_pv p k s hv.2
  have hs : hdI s = -1 ∨ ∃ a : Nat, hdI s = (a : Int) ∧ a < 64 := by
    cases s with
    | nil => exact Or.inl rfl
    | cons a s => exact Or.inr ⟨a, rfl, hv.1 a (by simp)⟩
  have hp : lastI p = -1 ∨ ∃ b : Nat, lastI p = (b : Int) ∧ b < 64 := by
    by_cases he : p = []
    · subst he; exact Or.inl rfl
    · obtain ⟨b, h1, h2⟩ := lastI_mem p he
      exact Or.inr ⟨b, h1, hv.1 b (by simp [h2])⟩
  rcases hs with hs | ⟨a, hs, ha⟩ <;> rcases hp with hp | ⟨b, hp, hb⟩
  · exact pull00 _ k hk64 (by rw [hnx, hs]) (by rw [hpv, hp]) w
  · exact pull01 _ k hk64 (by rw [hnx, hs]) b (by rw [hpv, hp]) hb w
  · exact pull10 _ k hk64 a (by rw [hnx, hs]) ha (by rw [hpv, hp]) w
  · exact pull11 _ k hk64 a (by rw [hnx, hs]) ha b (by rw [hpv, hp]) hb w
def OrderTold (l : List Nat) (w : World) (e : Ending) (w' : World) : Prop := ∃ A c, e = .returned (.tuple #[.slice A l.length c, .bool true]) ∧ RowI w' A (castL l) ∧ Below w.heap.size w w'
theorem orderSays_told {l : List Nat} (hv : Valid l) {w w' : World} {e : Ending} (h : OrderSays (toldL l) w e w') : OrderTold l w e w' := by
  obtain ⟨hb, ⟨m, hm, hs, A, c, he, hr, _⟩ | ⟨hn, _⟩⟩ := h
  · obtain rfl := told_inj hv hm hs
    exact ⟨A, c, he, hr, hb⟩
  · exact absurd (SameL.refl _) (hn l hv)
theorem order_told (l : List Nat) (hv : Valid l) (w : World) : Calls Try.prog 12 #[.agg (cells (toldL l).at)] w (OrderTold l w) := (order_any _ w).mono fun _ _ h => orderSays_told hv h
theorem refOrder_told (l : List Nat) (hv : Valid l) (w : World) : Calls Try.prog 13 #[.agg (cells (toldL l).at)] w (OrderTold l w) := (refOrder_any _ w).mono fun _ _ h => orderSays_told hv h
theorem order_fresh (l : List Nat) (hv : Valid l) (w : World) : Calls Try.prog 12 #[.agg (cells (toldL l).at)] w fun e w' => ∃ A c, e = .returned (.tuple #[.slice A l.length c, .bool true]) ∧ RowI w' A (castL l) ∧ FreshA A w.heap.size ∧ Below w.heap.size w w' :=
  (order_any _ w).mono fun e w' h => by
    obtain ⟨hb, ⟨m, hm, hs, A, c, he, hr, hf⟩ | ⟨hn, _⟩⟩ := h
    · obtain rfl := told_inj hv hm hs
      exact ⟨A, c, he, hr, hf.1, hb⟩
    · exact absurd (SameL.refl _) (hn l hv)
theorem order_cap (l : List Nat) (hv : Valid l) (w : World) : Calls Try.prog 12 #[.agg (cells (toldL l).at)] w fun e w' => ∃ A c, e = .returned (.tuple #[.slice A l.length c, .bool true]) ∧ RowI w' A (castL l) ∧ l.length ≤ c ∧ Below w.heap.size w w' :=
  (order_any _ w).mono fun e w' h => by
    obtain ⟨hb, ⟨m, hm, hs, A, c, he, hr, hf⟩ | ⟨hn, _⟩⟩ := h
    · obtain rfl := told_inj hv hm hs
      exact ⟨A, c, he, hr, hf.2, hb⟩
    · exact absurd (SameL.refl _) (hn l hv)
def NoTell (x : Ls) : Prop := ∀ l, Valid l → ¬ SameL x (toldL l)
theorem orderSays_none {x : Ls} (hx : NoTell x) {w w' : World} {e : Ending} (h : OrderSays x w e w') : e = .returned (.tuple #[.slice none 0 0, .bool false]) ∧ Below w.heap.size w w' := by
  obtain ⟨hb, ⟨m, hm, hs, _⟩ | ⟨_, he⟩⟩ := h
  · exact absurd hs (hx m hm)
  · exact ⟨he, hb⟩
theorem order_none (x : Ls) (hx : NoTell x) (w : World) : Calls Try.prog 12 #[.agg (cells x.at)] w fun e w' => e = .returned (.tuple #[.slice none 0 0, .bool false]) ∧ Below w.heap.size w w' := (order_any _ w).mono fun _ _ h => orderSays_none hx h
theorem refOrder_none (x : Ls) (hx : NoTell x) (w : World) : Calls Try.prog 13 #[.agg (cells x.at)] w fun e w' => e = .returned (.tuple #[.slice none 0 0, .bool false]) ∧ Below w.heap.size w w' := (refOrder_any _ w).mono fun _ _ h => orderSays_none hx h
/-- the call answers the list y and the number n -/
def Ans (y : Ls) (n : Int) (w : World) (e : Ending) (w' : World) : Prop := e = .returned (.tuple #[.agg (cells y.at), .int .i64 n]) ∧ Below w.heap.size w w'
theorem below_alloc2 {w w1 : World} {a b : Obj} (h : Below ((w.alloc a).alloc b).heap.size ((w.alloc a).alloc b) w1) : Below w.heap.size w w1 :=
  (((Below.refl w.heap.size w).alloc (Nat.le_refl _) a).alloc (by simp) b).trans (h.mono (by simp; omega))
attribute [local go_sem] zero26 cells_get cells_set upd_at at_hd at_tl
set_option maxRecDepth 100000 in
set_option maxHeartbeats 800000 in
theorem touch_none (x : Ls) (hx : NoTell x) (id : Int) (w : World) : Calls Try.prog 14 #[.agg (cells x.at), .int .i64 id] w (Ans x 120 w) := by
  have HXN := Lib.hid hx
  clear hx
  go_enter Try.func14, Try.ntmps14
  go_wp2_with (first
    | (refine wpList_load_row rfl 26 (.tmp 2) rfl w.heap.size rfl 26 _ (0, 0) _ (heap_prev _ _ _) Try.underlying26 rfl (size26 _) ?_)
    | fail)
  refine (order_none x HXN.out _).mono ?_
  rintro e w1 ⟨rfl, hb1⟩
  have HX := Lib.hid (Lies.below (g := w.heap.size) (c := x.at) ⟨heap_prev w _ _⟩ hb1)
  have HZ := Lib.hid (Lies.below (g := w.heap.size + 1) (c := z0.at) ⟨heap_last2 w _ _⟩ hb1)
  have HB := Lib.hid (below_alloc2 hb1)
  clear hb1
  go_wp2_with (first
    | (refine wpList_load_row rfl 26 (.tmp 2) rfl w.heap.size rfl 26 _ (0, 0) _ HX.out.row Try.underlying26 rfl (size26 _) ?_)
    | (refine wpList_store_row rfl 26 (.tmp 4) (.tmp 16) rfl (w.heap.size + 1) _ rfl rfl 26 _ HZ.out.row (size26 _) (size_same _ _) (Flat.all (Flat.at _)) ?_)
    | fail)
  refine bodyPost_ret (v := .tuple #[.agg (cells x.at), .int .i64 120]) ?_ rfl ⟨rfl, below_setRow HB.out (by omega)⟩
  exact results_row_tmp rfl _ _ (w.heap.size + 1) 26 _ (0, 0) _ _ rfl (HZ.out.setRow _).row Try.underlying26 rfl (size26 _) rfl
set_option maxRecDepth 100000 in
set_option maxHeartbeats 800000 in
theorem touch_range (l : List Nat) (hv : Valid l) (id : Int) (hi : ¬ (0 ≤ id ∧ id < 64)) (w : World) : Calls Try.prog 14 #[.agg (cells (toldL l).at), .int .i64 id] w (Ans (toldL l) 110 w) := by
  have HV := Lib.hid hv
  have hi3 : decide (0 ≤ id ∧ id < 64) = false := decide_eq_false hi
  clear hv hi
  go_enter Try.func14, Try.ntmps14
  go_wp2_with (first
    | (refine wpList_load_row rfl 26 (.tmp 2) rfl w.heap.size rfl 26 _ (0, 0) _ (heap_prev _ _ _) Try.underlying26 rfl (size26 _) ?_)
    | fail)
  refine (order_told l HV.out _).mono ?_
  rintro e w1 ⟨A, c, rfl, hrow, hb1⟩
  have HX := Lib.hid (Lies.below (g := w.heap.size) (c := (toldL l).at) ⟨heap_prev w _ _⟩ hb1)
  have HZ := Lib.hid (Lies.below (g := w.heap.size + 1) (c := z0.at) ⟨heap_last2 w _ _⟩ hb1)
  have HB := Lib.hid (below_alloc2 hb1)
  clear hb1 hrow
  go_wp2_with (first
    | (refine wpList_load_row rfl 26 (.tmp 2) rfl w.heap.size rfl 26 _ (0, 0) _ HX.out.row Try.underlying26 rfl (size26 _) ?_)
    | (go_at_call 24; refine (is_any _ _).mono ?_; rintro e w2 ⟨rfl, rfl⟩; rw [hi3])
    | (refine wpList_store_row rfl 26 (.tmp 4) (.tmp 21) rfl (w.heap.size + 1) _ rfl rfl 26 _ HZ.out.row (size26 _) (size_same _ _) (Flat.all (Flat.at _)) ?_)
    | fail)
  refine bodyPost_ret (v := .tuple #[.agg (cells (toldL l).at), .int .i64 110]) ?_ rfl ⟨rfl, below_setRow HB.out (by omega)⟩
  exact results_row_tmp rfl _ _ (w.heap.size + 1) 26 _ (0, 0) _ _ rfl (HZ.out.setRow _).row Try.underlying26 rfl (size26 _) rfl
set_option maxRecDepth 100000 in
set_option maxHeartbeats 800000 in
theorem touch_in (l : List Nat) (hv : Valid l) (k : Nat) (hk : k ∈ l) (w : World) : Calls Try.prog 14 #[.agg (cells (toldL l).at), .int .i64 k] w (Ans (toldL (k :: l.erase k)) 0 w) := by
  have hk64 := hv.1 k hk
  have hi1 : (0 : Int) ≤ (k : Int) := by omega
  have hi2 : (k : Int) < 64 := by omega
  have hi3 : decide (0 ≤ (k : Int) ∧ (k : Int) < 64) = true := by simp; omega
  have HV := Lib.hid hv
  have HK := Lib.hid hk
  clear hv hk
  go_enter Try.func14, Try.ntmps14
  go_wp2_with (first
    | (refine wpList_load_row rfl 26 (.tmp 2) rfl w.heap.size rfl 26 _ (0, 0) _ (heap_prev _ _ _) Try.underlying26 rfl (size26 _) ?_)
    | fail)
  refine (order_told l HV.out _).mono ?_
  rintro e w1 ⟨A, c, rfl, hrow, hb1⟩
  have HX := Lib.hid (Lies.below (g := w.heap.size) (c := (toldL l).at) ⟨heap_prev w _ _⟩ hb1)
  have HZ := Lib.hid (Lies.below (g := w.heap.size + 1) (c := z0.at) ⟨heap_last2 w _ _⟩ hb1)
  have HB := Lib.hid (below_alloc2 hb1)
  clear hb1 hrow
  have hc : w1.cell? ⟨w.heap.size, 128 + k, none⟩ = some (.bool true) := by rw [HX.out.cell _ (by omega), at_inn _ _ hk64, told_inn]; exact congrArg some (congrArg Value.bool (decide_eq_true HK.out))
  go_wp2_with (first
    | (refine wpList_load_row rfl 26 (.tmp 2) rfl w.heap.size rfl 26 _ (0, 0) _ HX.out.row Try.underlying26 rfl (size26 _) ?_)
    | (go_at_call 24; refine (is_any _ _).mono ?_; rintro e w2 ⟨rfl, rfl⟩; rw [hi3])
    | fail)
  refine (pull_any l HV.out k HK.out _).mono ?_
  rintro e w2 ⟨rfl, hb2⟩
  have HX2 := Lib.hid (HX.out.below hb2)
  have HZ2 := Lib.hid (HZ.out.below hb2)
  have HB2 := Lib.hid (HB.out.trans (hb2.mono HB.out.size))
  clear hb2 hc HX HZ HB
  have HX3 := Lib.hid (HX2.out.setRow (toldL (l.erase k)).at)
  have HZ3 := Lib.hid (HZ2.out.other w.heap.size (by omega) (cells (toldL (l.erase k)).at))
  have HB3 := Lib.hid (below_setRow (cs := cells (toldL (l.erase k)).at) HB2.out (Nat.le_refl _))
  go_wp2_with (first
    | (refine wpList_store_row rfl 26 (.tmp 2) (.tmp 29) rfl w.heap.size _ rfl rfl 26 _ HX2.out.row (size26 _) (size_same _ _) (Flat.all (Flat.at _)) ?_)
    | (refine wpList_load_row rfl 26 (.tmp 2) rfl w.heap.size rfl 26 _ (0, 0) _ HX3.out.row Try.underlying26 rfl (size26 _) ?_)
    | fail)
  refine (push_any (l.erase k) k hk64 (HV.out.erase k).1 _).mono ?_
  rintro e w4 ⟨rfl, hb4⟩
  have HZ4 := Lib.hid (HZ3.out.below hb4)
  have HB4 := Lib.hid (HB3.out.trans (hb4.mono HB3.out.size))
  clear hb4 HX2 HZ2 HB2 HX3 HZ3 HB3
  go_wp2_with (first
    | (refine wpList_store_row rfl 26 (.tmp 4) (.tmp 32) rfl (w.heap.size + 1) _ rfl rfl 26 _ HZ4.out.row (size26 _) (size_same _ _) (Flat.all (Flat.at _)) ?_)
    | fail)
  refine bodyPost_ret (v := .tuple #[.agg (cells (toldL (k :: l.erase k)).at), .int .i64 0]) ?_ rfl ⟨rfl, below_setRow HB4.out (by omega)⟩
  exact results_row_tmp rfl _ _ (w.heap.size + 1) 26 _ (0, 0) _ _ rfl (HZ4.out.setRow _).row Try.underlying26 rfl (size26 _) rfl
set_option maxRecDepth 100000 in
set_option maxHeartbeats 800000 in
theorem touch_new (l : List Nat) (hv : Valid l) (k : Nat) (hk64 : k < 64) (hk : k ∉ l) (w : World) : Calls Try.prog 14 #[.agg (cells (toldL l).at), .int .i64 k] w (Ans (toldL (k :: l)) 0 w) := by
  have hi1 : (0 : Int) ≤ (k : Int) := by omega
  have hi2 : (k : Int) < 64 := by omega
  have hi3 : decide (0 ≤ (k : Int) ∧ (k : Int) < 64) = true := by simp; omega
  have HV := Lib.hid hv
  have HK := Lib.hid hk
  clear hv hk
  go_enter Try.func14, Try.ntmps14
  go_wp2_with (first
    | (refine wpList_load_row rfl 26 (.tmp 2) rfl w.heap.size rfl 26 _ (0, 0) _ (heap_prev _ _ _) Try.underlying26 rfl (size26 _) ?_)
    | fail)
  refine (order_told l HV.out _).mono ?_
  rintro e w1 ⟨A, c, rfl, hrow, hb1⟩
  have HX := Lib.hid (Lies.below (g := w.heap.size) (c := (toldL l).at) ⟨heap_prev w _ _⟩ hb1)
  have HZ := Lib.hid (Lies.below (g := w.heap.size + 1) (c := z0.at) ⟨heap_last2 w _ _⟩ hb1)
  have HB := Lib.hid (below_alloc2 hb1)
  clear hb1 hrow
  have hc : w1.cell? ⟨w.heap.size, 128 + k, none⟩ = some (.bool false) := by rw [HX.out.cell _ (by omega), at_inn _ _ hk64, told_inn]; exact congrArg some (congrArg Value.bool (decide_eq_false HK.out))
  go_wp2_with (first
    | (refine wpList_load_row rfl 26 (.tmp 2) rfl w.heap.size rfl 26 _ (0, 0) _ HX.out.row Try.underlying26 rfl (size26 _) ?_)
    | (go_at_call 24; refine (is_any _ _).mono ?_; rintro e w2 ⟨rfl, rfl⟩; rw [hi3])
    | fail)
  refine (push_any l k hk64 HV.out.1 _).mono ?_
  rintro e w4 ⟨rfl, hb4⟩
  have HZ4 := Lib.hid (HZ.out.below hb4)
  have HB4 := Lib.hid (HB.out.trans (hb4.mono HB.out.size))
  clear hb4 HX HZ HB hc
  go_wp2_with (first
    | (refine wpList_store_row rfl 26 (.tmp 4) (.tmp 32) rfl (w.heap.size + 1) _ rfl rfl 26 _ HZ4.out.row (size26 _) (size_same _ _) (Flat.all (Flat.at _)) ?_)
    | fail)
  refine bodyPost_ret (v := .tuple #[.agg (cells (toldL (k :: l)).at), .int .i64 0]) ?_ rfl ⟨rfl, below_setRow HB4.out (by omega)⟩
  exact results_row_tmp rfl _ _ (w.heap.size + 1) 26 _ (0, 0) _ _ rfl (HZ4.out.setRow _).row Try.underlying26 rfl (size26 _) rfl
set_option maxRecDepth 100000 in
set_option maxHeartbeats 800000 in
theorem drop_none (x : Ls) (hx : NoTell x) (id : Int) (w : World) : Calls Try.prog 16 #[.agg (cells x.at), .int .i64 id] w (Ans x 120 w) := by
  have HXN := Lib.hid hx
  clear hx
  go_enter Try.func16, Try.ntmps16
  go_wp2_with (first
    | (refine wpList_load_row rfl 26 (.tmp 2) rfl w.heap.size rfl 26 _ (0, 0) _ (heap_prev _ _ _) Try.underlying26 rfl (size26 _) ?_)
    | fail)
  refine (order_none x HXN.out _).mono ?_
  rintro e w1 ⟨rfl, hb1⟩
  have HX := Lib.hid (Lies.below (g := w.heap.size) (c := x.at) ⟨heap_prev w _ _⟩ hb1)
  have HZ := Lib.hid (Lies.below (g := w.heap.size + 1) (c := z0.at) ⟨heap_last2 w _ _⟩ hb1)
  have HB := Lib.hid (below_alloc2 hb1)
  clear hb1
  go_wp2_with (first
    | (refine wpList_load_row rfl 26 (.tmp 2) rfl w.heap.size rfl 26 _ (0, 0) _ HX.out.row Try.underlying26 rfl (size26 _) ?_)
    | (refine wpList_store_row rfl 26 (.tmp 4) (.tmp 27) rfl (w.heap.size + 1) _ rfl rfl 26 _ HZ.out.row (size26 _) (size_same _ _) (Flat.all (Flat.at _)) ?_)
    | fail)
  refine bodyPost_ret (v := .tuple #[.agg (cells x.at), .int .i64 120]) ?_ rfl ⟨rfl, below_setRow HB.out (by omega)⟩
  exact results_row_tmp rfl _ _ (w.heap.size + 1) 26 _ (0, 0) _ _ rfl (HZ.out.setRow _).row Try.underlying26 rfl (size26 _) rfl
set_option maxRecDepth 100000 in
set_option maxHeartbeats 800000 in
theorem drop_range (l : List Nat) (hv : Valid l) (id : Int) (hi : ¬ (0 ≤ id ∧ id < 64)) (w : World) : Calls Try.prog 16 #[.agg (cells (toldL l).at), .int .i64 id] w (Ans (toldL l) 120 w) := by
  have HV := Lib.hid hv
  have hi3 : decide (0 ≤ id ∧ id < 64) = false := decide_eq_false hi
  clear hv hi
  go_enter Try.func16, Try.ntmps16
  go_wp2_with (first
    | (refine wpList_load_row rfl 26 (.tmp 2) rfl w.heap.size rfl 26 _ (0, 0) _ (heap_prev _ _ _) Try.underlying26 rfl (size26 _) ?_)
    | fail)
  refine (order_told l HV.out _).mono ?_
  rintro e w1 ⟨A, c, rfl, hrow, hb1⟩
  have HX := Lib.hid (Lies.below (g := w.heap.size) (c := (toldL l).at) ⟨heap_prev w _ _⟩ hb1)
  have HZ := Lib.hid (Lies.below (g := w.heap.size + 1) (c := z0.at) ⟨heap_last2 w _ _⟩ hb1)
  have HB := Lib.hid (below_alloc2 hb1)
  clear hb1 hrow
  go_wp2_with (first
    | (refine wpList_load_row rfl 26 (.tmp 2) rfl w.heap.size rfl 26 _ (0, 0) _ HX.out.row Try.underlying26 rfl (size26 _) ?_)
    | (go_at_call 24; refine (is_any _ _).mono ?_; rintro e w2 ⟨rfl, rfl⟩; rw [hi3])
    | (refine wpList_store_row rfl 26 (.tmp 4) (.tmp 27) rfl (w.heap.size + 1) _ rfl rfl 26 _ HZ.out.row (size26 _) (size_same _ _) (Flat.all (Flat.at _)) ?_)
    | fail)
  refine bodyPost_ret (v := .tuple #[.agg (cells (toldL l).at), .int .i64 120]) ?_ rfl ⟨rfl, below_setRow HB.out (by omega)⟩
  exact results_row_tmp rfl _ _ (w.heap.size + 1) 26 _ (0, 0) _ _ rfl (HZ.out.setRow _).row Try.underlying26 rfl (size26 _) rfl
set_option maxRecDepth 100000 in
set_option maxHeartbeats 800000 in
theorem drop_new (l : List Nat) (hv : Valid l) (k : Nat) (hk64 : k < 64) (hk : k ∉ l) (w : World) : Calls Try.prog 16 #[.agg (cells (toldL l).at), .int .i64 k] w (Ans (toldL l) 120 w) := by
  have hi1 : (0 : Int) ≤ (k : Int) := by omega
  have hi2 : (k : Int) < 64 := by omega
  have hi3 : decide (0 ≤ (k : Int) ∧ (k : Int) < 64) = true := by simp; omega
  have HV := Lib.hid hv
  have HK := Lib.hid hk
  clear hv hk
  go_enter Try.func16, Try.ntmps16
  go_wp2_with (first
    | (refine wpList_load_row rfl 26 (.tmp 2) rfl w.heap.size rfl 26 _ (0, 0) _ (heap_prev _ _ _) Try.underlying26 rfl (size26 _) ?_)
    | fail)
  refine (order_told l HV.out _).mono ?_
  rintro e w1 ⟨A, c, rfl, hrow, hb1⟩
  have HX := Lib.hid (Lies.below (g := w.heap.size) (c := (toldL l).at) ⟨heap_prev w _ _⟩ hb1)
  have HZ := Lib.hid (Lies.below (g := w.heap.size + 1) (c := z0.at) ⟨heap_last2 w _ _⟩ hb1)
  have HB := Lib.hid (below_alloc2 hb1)
  clear hb1 hrow
  have hc : w1.cell? ⟨w.heap.size, 128 + k, none⟩ = some (.bool false) := by rw [HX.out.cell _ (by omega), at_inn _ _ hk64, told_inn]; exact congrArg some (congrArg Value.bool (decide_eq_false HK.out))
  go_wp2_with (first
    | (refine wpList_load_row rfl 26 (.tmp 2) rfl w.heap.size rfl 26 _ (0, 0) _ HX.out.row Try.underlying26 rfl (size26 _) ?_)
    | (go_at_call 24; refine (is_any _ _).mono ?_; rintro e w2 ⟨rfl, rfl⟩; rw [hi3])
    | (refine wpList_store_row rfl 26 (.tmp 4) (.tmp 27) rfl (w.heap.size + 1) _ rfl rfl 26 _ HZ.out.row (size26 _) (size_same _ _) (Flat.all (Flat.at _)) ?_)
    | fail)
  refine bodyPost_ret (v := .tuple #[.agg (cells (toldL l).at), .int .i64 120]) ?_ rfl ⟨rfl, below_setRow HB.out (by omega)⟩
  exact results_row_tmp rfl _ _ (w.heap.size + 1) 26 _ (0, 0) _ _ rfl (HZ.out.setRow _).row Try.underlying26 rfl (size26 _) rfl
set_option maxRecDepth 100000 in
set_option maxHeartbeats 800000 in
theorem drop_in (l : List Nat) (hv : Valid l) (k : Nat) (hk : k ∈ l) (w : World) : Calls Try.prog 16 #[.agg (cells (toldL l).at), .int .i64 k] w (Ans (toldL (l.erase k)) 0 w) := by
  have hk64 := hv.1 k hk
  have hi1 : (0 : Int) ≤ (k : Int) := by omega
  have hi2 : (k : Int) < 64 := by omega
  have hi3 : decide (0 ≤ (k : Int) ∧ (k : Int) < 64) = true := by simp; omega
  have HV := Lib.hid hv
  have HK := Lib.hid hk
  clear hv hk
  go_enter Try.func16, Try.ntmps16
  go_wp2_with (first
    | (refine wpList_load_row rfl 26 (.tmp 2) rfl w.heap.size rfl 26 _ (0, 0) _ (heap_prev _ _ _) Try.underlying26 rfl (size26 _) ?_)
    | fail)
  refine (order_told l HV.out _).mono ?_
  rintro e w1 ⟨A, c, rfl, hrow, hb1⟩
  have HX := Lib.hid (Lies.below (g := w.heap.size) (c := (toldL l).at) ⟨heap_prev w _ _⟩ hb1)
  have HZ := Lib.hid (Lies.below (g := w.heap.size + 1) (c := z0.at) ⟨heap_last2 w _ _⟩ hb1)
  have HB := Lib.hid (below_alloc2 hb1)
  clear hb1 hrow
  have hc : w1.cell? ⟨w.heap.size, 128 + k, none⟩ = some (.bool true) := by rw [HX.out.cell _ (by omega), at_inn _ _ hk64, told_inn]; exact congrArg some (congrArg Value.bool (decide_eq_true HK.out))
  go_wp2_with (first
    | (refine wpList_load_row rfl 26 (.tmp 2) rfl w.heap.size rfl 26 _ (0, 0) _ HX.out.row Try.underlying26 rfl (size26 _) ?_)
    | (go_at_call 24; refine (is_any _ _).mono ?_; rintro e w2 ⟨rfl, rfl⟩; rw [hi3])
    | fail)
  refine (pull_any l HV.out k HK.out _).mono ?_
  rintro e w4 ⟨rfl, hb4⟩
  have HZ4 := Lib.hid (HZ.out.below hb4)
  have HB4 := Lib.hid (HB.out.trans (hb4.mono HB.out.size))
  clear hb4 HX HZ HB hc
  go_wp2_with (first
    | (refine wpList_store_row rfl 26 (.tmp 4) (.tmp 30) rfl (w.heap.size + 1) _ rfl rfl 26 _ HZ4.out.row (size26 _) (size_same _ _) (Flat.all (Flat.at _)) ?_)
    | fail)
  refine bodyPost_ret (v := .tuple #[.agg (cells (toldL (l.erase k)).at), .int .i64 0]) ?_ rfl ⟨rfl, below_setRow HB4.out (by omega)⟩
  exact results_row_tmp rfl _ _ (w.heap.size + 1) 26 _ (0, 0) _ _ rfl (HZ4.out.setRow _).row Try.underlying26 rfl (size26 _) rfl
theorem below_alloc1 {w w1 : World} {a : Obj} (h : Below (w.alloc a).heap.size (w.alloc a) w1) : Below w.heap.size w w1 :=
  ((Below.refl w.heap.size w).alloc (Nat.le_refl _) a).trans (h.mono (by simp))
def AnsN (n : Int) (b : Bool) (w : World) (e : Ending) (w' : World) : Prop := e = .returned (.tuple #[.int .i64 n, .bool b]) ∧ Below w.heap.size w w'
set_option maxRecDepth 100000 in
set_option maxHeartbeats 800000 in
theorem last_none (x : Ls) (hx : NoTell x) (w : World) : Calls Try.prog 18 #[.agg (cells x.at)] w (AnsN 0 false w) := by
  have HXN := Lib.hid hx
  clear hx
  go_enter Try.func18, Try.ntmps18
  go_wp2_with (first
    | (refine wpList_load_row rfl 26 (.tmp 1) rfl w.heap.size rfl 26 _ (0, 0) _ (heap_alloc_last _ _) Try.underlying26 rfl (size26 _) ?_)
    | fail)
  refine (order_none x HXN.out _).mono ?_
  rintro e w1 ⟨rfl, hb1⟩
  have HB := Lib.hid (below_alloc1 hb1)
  clear hb1
  go_wp2_with fail
  go_ret2
  exact ⟨rfl, HB.out⟩
set_option maxRecDepth 100000 in
set_option maxHeartbeats 800000 in
theorem last_nil (w : World) : Calls Try.prog 18 #[.agg (cells (toldL []).at)] w (AnsN 0 false w) := by
  go_enter Try.func18, Try.ntmps18
  go_wp2_with (first
    | (refine wpList_load_row rfl 26 (.tmp 1) rfl w.heap.size rfl 26 _ (0, 0) _ (heap_alloc_last _ _) Try.underlying26 rfl (size26 _) ?_)
    | fail)
  refine (order_told [] ⟨by simp, by simp⟩ _).mono ?_
  rintro e w1 ⟨A, c, rfl, hrow, hb1⟩
  have HB := Lib.hid (below_alloc1 hb1)
  have HX := Lib.hid (Lies.below (g := w.heap.size) (c := (toldL []).at) ⟨heap_alloc_last w _⟩ hb1)
  have hc : w1.cell? ⟨w.heap.size, 193, none⟩ = some (.int .i64 (-1)) := by rw [HX.out.cell _ (by omega)]; rfl
  clear hb1 hrow
  go_wp2_with fail
  go_ret2
  exact ⟨rfl, HB.out⟩
set_option maxRecDepth 100000 in
set_option maxHeartbeats 800000 in
theorem last_some (m : List Nat) (b : Nat) (hv : Valid (m ++ [b])) (w : World) : Calls Try.prog 18 #[.agg (cells (toldL (m ++ [b])).at)] w (AnsN b true w) := by
  have HV := Lib.hid hv
  clear hv
  have hbn : ((b : Int) == -1) = false := by simp
  go_enter Try.func18, Try.ntmps18
  go_wp2_with (first
    | (refine wpList_load_row rfl 26 (.tmp 1) rfl w.heap.size rfl 26 _ (0, 0) _ (heap_alloc_last _ _) Try.underlying26 rfl (size26 _) ?_)
    | fail)
  refine (order_told (m ++ [b]) HV.out _).mono ?_
  rintro e w1 ⟨A, c, rfl, hrow, hb1⟩
  have HB := Lib.hid (below_alloc1 hb1)
  have HX := Lib.hid (Lies.below (g := w.heap.size) (c := (toldL (m ++ [b])).at) ⟨heap_alloc_last w _⟩ hb1)
  have hc : w1.cell? ⟨w.heap.size, 193, none⟩ = some (.int .i64 b) := by rw [HX.out.cell _ (by omega), at_tl, tl_told, lastI_snoc]
  clear hb1 hrow
  go_wp2_with fail
  go_ret2
  exact ⟨rfl, HB.out⟩
end Go.Proofs.Ytgbhfagmbkoobaa
