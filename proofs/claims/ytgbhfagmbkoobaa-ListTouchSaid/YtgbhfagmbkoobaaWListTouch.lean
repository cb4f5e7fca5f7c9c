/-
  THE WALK OF ListTouch.
-/
import Derived.Test.YtgbhfagmbkoobaaSpec
import Derived.BigQuiet
namespace Go.Proofs.Ytgbhfagmbkoobaa
open Go.RowKit
theorem head_erase (l : List Nat) (k : Nat) : (k :: l.erase k).erase k = l.erase k := by rw [List.erase_cons_head]
theorem head_touch (l : List Nat) (k : Nat) (hv : Valid (k :: l.erase k)) (w : World) : Calls Try.prog 14 #[.agg (cells (toldL (k :: l.erase k)).at), .int .i64 k] w (Ans (toldL (k :: l.erase k)) 0 w) := by
  have h := touch_in (k :: l.erase k) hv k (by simp) w
  rw [head_erase] at h
  exact h
theorem head_drop (l : List Nat) (k : Nat) (hv : Valid (k :: l.erase k)) (w : World) : Calls Try.prog 16 #[.agg (cells (toldL (k :: l.erase k)).at), .int .i64 k] w (Ans (toldL (l.erase k)) 0 w) := by
  have h := drop_in (k :: l.erase k) hv k (by simp) w
  rw [head_erase] at h
  exact h
theorem touch_k (l : List Nat) (hv : Valid l) (k : Nat) (hk : k < 64) (w : World) : Calls Try.prog 14 #[.agg (cells (toldL l).at), .int .i64 k] w (Ans (toldL (k :: l.erase k)) 0 w) := by
  by_cases h : k ∈ l
  · exact touch_in l hv k h w
  · rw [List.erase_of_not_mem h]; exact touch_new l hv k hk h w
/-- those of the first i that are not k -/
def upto (l : List Nat) (k i : Nat) : Nat := ((l.take i).filter (· != k)).length
theorem upto_same (l : List Nat) (k i : Nat) (h : i < l.length) (e : l[i] = k) : upto l k (i + 1) = upto l k i := by
  unfold upto
  rw [List.take_succ_eq_append_getElem h, List.filter_append]
  simp [e]
theorem upto_next (l : List Nat) (k i : Nat) (h : i < l.length) (e : l[i] ≠ k) : upto l k (i + 1) = upto l k i + 1 := by
  unfold upto
  rw [List.take_succ_eq_append_getElem h, List.filter_append]
  simp [e]
theorem upto_at (l : List Nat) (hn : l.Nodup) (k i : Nat) (h : i < l.length) (e : l[i] ≠ k) : (l.erase k)[upto l k i]? = some l[i] := by
  rw [hn.erase_eq_filter]
  have h1 : l.filter (· != k) = (l.take i).filter (· != k) ++ l[i] :: (l.drop (i + 1)).filter (· != k) := by
    have h2 : l = l.take i ++ l[i] :: l.drop (i + 1) := by rw [← List.drop_eq_getElem_cons h, List.take_append_drop]
    conv => lhs; rw [h2]
    rw [List.filter_append, List.filter_cons, if_pos (by simpa using e)]
  rw [h1]
  unfold upto
  rw [List.getElem?_append_right (Nat.le_refl _), Nat.sub_self]
  rfl
theorem upto_all (l : List Nat) (hn : l.Nodup) (k : Nat) : upto l k l.length = (l.erase k).length := by
  rw [hn.erase_eq_filter]
  unfold upto
  rw [List.take_length]
theorem upto_le (l : List Nat) (k i : Nat) : upto l k i ≤ l.length := by
  unfold upto
  exact Nat.le_trans (List.length_filter_le _ _) (by rw [List.length_take]; omega)
theorem order_capc (l : List Nat) (hv : Valid l) (w : World) : Calls Try.prog 12 #[.agg (cells (toldL l).at)] w fun e w' => ∃ A c, e = .returned (.tuple #[.slice A (castL l).length c, .bool true]) ∧ RowI w' A (castL l) ∧ (castL l).length ≤ c ∧ Below w.heap.size w w' := by
  rw [castL_len]; exact order_cap l hv w
theorem add_add (p : Addr) (j : Nat) : (p.add 1).add j = p.add (j + 1) := by
  rcases p with ⟨b, o, s⟩
  by_cases hj : j = 0
  · subst hj; rw [add0]
  · cases s <;> simp [Addr.add, hj] <;> omega
theorem row_tail {w : World} {p : Addr} {a : Int} {l : List Int} (h : RowI w (some p) (a :: l)) : RowI w (some (p.add 1)) l := by
  intro j hj
  obtain ⟨q, hq, hb, hc⟩ := h (j + 1) (by simpa using hj)
  injection hq with hq
  subst hq
  exact ⟨p.add 1, rfl, by rw [add_block]; exact hb, by rw [add_add]; simpa using hc⟩
theorem same_to (A B : Option Addr) (c d : Nat) (l : List Int) (hll : l.length ≤ 1000) (w : World) (hl : RowI w A l) (hm : RowI w B l) : Calls Try.prog 20 #[.slice A l.length c, .slice B l.length d] w fun e w' => e = .returned (.bool true) ∧ Below w.heap.size w w' :=
  (same_any A B c d l l hll w hl hm).mono fun e w' h => ⟨by rw [h.1]; simp, h.2⟩
attribute [local go_sem] zero26
set_option maxRecDepth 100000 in
set_option maxHeartbeats 4000000 in
theorem touchL_none (x : Ls) (hm : NoTell x) (id : Int) (w : World) : Calls Try.prog 7 #[.agg (cells x.at), .int .i64 id] w fun e w' => e = .returned (.bool true) ∧ Below w.heap.size w w' := by
  have HM := Lib.hid hm
  clear hm
  go_enter Try.func7, Try.ntmps7
  go_wp2_with fail
  refine (awake_any _).mono ?_
  rintro e w1 ⟨rfl, hb⟩
  have HX := Lib.hid (Lies.below (g := w.heap.size) (c := x.at) ⟨heap_alloc_last w _⟩ hb)
  have HB := Lib.hid (below_alloc1 hb)
  clear hb
  go_wp2_with (first
    | (refine wpList_load_row rfl 26 (.tmp 2) rfl w.heap.size rfl 26 _ (0, 0) _ HX.out.row Try.underlying26 rfl (size26 _) ?_)
    | fail)
  refine (order_none x HM.out _).mono ?_
  rintro e w2 ⟨rfl, hb⟩
  have HXn := Lib.hid (HX.out.below hb)
  have HBn := Lib.hid (HB.out.trans (hb.mono HB.out.size))
  clear hb HB HX
  have HX := HXn
  clear HXn
  have HB := HBn
  clear HBn
  go_wp2_with (first
    | (refine wpList_load_row rfl 26 (.tmp 2) rfl w.heap.size rfl 26 _ (0, 0) _ HX.out.row Try.underlying26 rfl (size26 _) ?_)
    | fail)
  refine (touch_none x HM.out id _).mono ?_
  rintro e w3 ⟨rfl, hb⟩
  have HXn := Lib.hid (HX.out.below hb)
  have HBn := Lib.hid (HB.out.trans (hb.mono HB.out.size))
  clear hb HB HX
  have HX := HXn
  clear HXn
  have HB := HBn
  clear HBn
  have HXn := Lib.hid (HX.out.below ((Below.refl w3.heap.size w3).alloc (Nat.le_refl _) (.cells (cells x.at) 26)))
  have HBn := Lib.hid (HB.out.alloc HB.out.size (.cells (cells x.at) 26))
  have H8 := Lib.hid (Lies.new w3 x.at)
  clear HB HX
  have HX := HXn
  clear HXn
  have HB := HBn
  clear HBn
  go_wp2_with (first
    | (refine wpList_store_row rfl 26 (.tmp 8) (.tmp 30) rfl w3.heap.size _ rfl rfl 26 _ (heap_alloc_last _ _) (size26 _) (size_same _ _) (Flat.all (Flat.at _)) ?_; rw [World.setRow_alloc_new])
    | (refine wpList_load_row rfl 26 (.tmp 8) rfl w3.heap.size rfl 26 _ (0, 0) _ H8.out.row Try.underlying26 rfl (size26 _) ?_)
    | fail)
  refine (touch_none x HM.out id _).mono ?_
  rintro e w4 ⟨rfl, hb⟩
  have HXn := Lib.hid (HX.out.below hb)
  have H8n := Lib.hid (H8.out.below hb)
  have HBn := Lib.hid (HB.out.trans (hb.mono HB.out.size))
  clear hb HB HX H8
  have HX := HXn
  clear HXn
  have H8 := H8n
  clear H8n
  have HB := HBn
  clear HBn
  have HXn := Lib.hid (HX.out.below ((Below.refl w4.heap.size w4).alloc (Nat.le_refl _) (.cells (cells x.at) 26)))
  have H8n := Lib.hid (H8.out.below ((Below.refl w4.heap.size w4).alloc (Nat.le_refl _) (.cells (cells x.at) 26)))
  have HBn := Lib.hid (HB.out.alloc HB.out.size (.cells (cells x.at) 26))
  have H10 := Lib.hid (Lies.new w4 x.at)
  clear HB HX H8
  have HX := HXn
  clear HXn
  have H8 := H8n
  clear H8n
  have HB := HBn
  clear HBn
  go_wp2_with (first
    | (refine wpList_store_row rfl 26 (.tmp 10) (.tmp 36) rfl w4.heap.size _ rfl rfl 26 _ (heap_alloc_last _ _) (size26 _) (size_same _ _) (Flat.all (Flat.at _)) ?_; rw [World.setRow_alloc_new])
    | (refine wpList_load_row rfl 26 (.tmp 8) rfl w3.heap.size rfl 26 _ (0, 0) _ H8.out.row Try.underlying26 rfl (size26 _) ?_)
    | fail)
  refine (order_none x HM.out _).mono ?_
  rintro e w5 ⟨rfl, hb⟩
  have HXn := Lib.hid (HX.out.below hb)
  have H8n := Lib.hid (H8.out.below hb)
  have H10n := Lib.hid (H10.out.below hb)
  have HBn := Lib.hid (HB.out.trans (hb.mono HB.out.size))
  clear hb HB HX H8 H10
  have HX := HXn
  clear HXn
  have H8 := H8n
  clear H8n
  have H10 := H10n
  clear H10n
  have HB := HBn
  clear HBn
  go_wp2_with (first
    | (refine wpList_load_any (by kernel_rfl) 26 (.tmp 8) rfl w3.heap.size 0 rfl _ H8.out.load ?_)
    | (refine wpList_load_any (by kernel_rfl) 26 (.tmp 2) rfl w.heap.size 0 rfl _ HX.out.load ?_)
    | (refine wpList_eql26 (by kernel_rfl) (.tmp 47) (.tmp 48) rfl x x rfl rfl true (eqB_refl _) ?_)
    | fail)
  go_ret
  exact ⟨rfl, HB.out⟩
set_option maxRecDepth 100000 in
set_option maxHeartbeats 4000000 in
theorem touchL_lo (l : List Nat) (hv : Valid l) (id : Int) (hi : id < 0) (w : World) : Calls Try.prog 7 #[.agg (cells (toldL l).at), .int .i64 id] w fun e w' => e = .returned (.bool true) ∧ Below w.heap.size w w' := by
  have HV := Lib.hid hv
  have HI := Lib.hid hi
  have hd1 : decide (id < 0) = true := by simpa using hi
  clear hv hi
  go_enter Try.func7, Try.ntmps7
  go_wp2_with fail
  refine (awake_any _).mono ?_
  rintro e w1 ⟨rfl, hb⟩
  have HX := Lib.hid (Lies.below (g := w.heap.size) (c := (toldL l).at) ⟨heap_alloc_last w _⟩ hb)
  have HB := Lib.hid (below_alloc1 hb)
  clear hb
  go_wp2_with (first
    | (refine wpList_load_row rfl 26 (.tmp 2) rfl w.heap.size rfl 26 _ (0, 0) _ HX.out.row Try.underlying26 rfl (size26 _) ?_)
    | fail)
  refine (order_cast l HV.out _).mono ?_
  rintro e w2 ⟨A6, c6, rfl, hr, hb⟩
  have HXn := Lib.hid (HX.out.below hb)
  have HBn := Lib.hid (HB.out.trans (hb.mono HB.out.size))
  have R6 := Lib.hid hr
  clear hr
  clear hb HB HX
  have HX := HXn
  clear HXn
  have HB := HBn
  clear HBn
  go_wp2_with (first
    | (refine wpList_load_row rfl 26 (.tmp 2) rfl w.heap.size rfl 26 _ (0, 0) _ HX.out.row Try.underlying26 rfl (size26 _) ?_)
    | fail)
  refine (touch_range l HV.out id (by have := HI.out; omega) _).mono ?_
  rintro e w3 ⟨rfl, hb⟩
  have HXn := Lib.hid (HX.out.below hb)
  have R6n := Lib.hid (R6.out.below hb)
  have HBn := Lib.hid (HB.out.trans (hb.mono HB.out.size))
  clear hb HB HX R6
  have HX := HXn
  clear HXn
  have R6 := R6n
  clear R6n
  have HB := HBn
  clear HBn
  have HXn := Lib.hid (HX.out.below ((Below.refl w3.heap.size w3).alloc (Nat.le_refl _) (.cells (cells (toldL l).at) 26)))
  have R6n := Lib.hid (R6.out.below ((Below.refl w3.heap.size w3).alloc (Nat.le_refl _) (.cells (cells (toldL l).at) 26)))
  have HBn := Lib.hid (HB.out.alloc HB.out.size (.cells (cells (toldL l).at) 26))
  have H8 := Lib.hid (Lies.new w3 (toldL l).at)
  clear HB HX R6
  have HX := HXn
  clear HXn
  have R6 := R6n
  clear R6n
  have HB := HBn
  clear HBn
  go_wp2_with (first
    | (refine wpList_store_row rfl 26 (.tmp 8) (.tmp 30) rfl w3.heap.size _ rfl rfl 26 _ (heap_alloc_last _ _) (size26 _) (size_same _ _) (Flat.all (Flat.at _)) ?_; rw [World.setRow_alloc_new])
    | (refine wpList_load_row rfl 26 (.tmp 8) rfl w3.heap.size rfl 26 _ (0, 0) _ H8.out.row Try.underlying26 rfl (size26 _) ?_)
    | fail)
  refine (touch_range l HV.out id (by have := HI.out; omega) _).mono ?_
  rintro e w4 ⟨rfl, hb⟩
  have HXn := Lib.hid (HX.out.below hb)
  have R6n := Lib.hid (R6.out.below hb)
  have H8n := Lib.hid (H8.out.below hb)
  have HBn := Lib.hid (HB.out.trans (hb.mono HB.out.size))
  clear hb HB HX R6 H8
  have HX := HXn
  clear HXn
  have R6 := R6n
  clear R6n
  have H8 := H8n
  clear H8n
  have HB := HBn
  clear HBn
  have HXn := Lib.hid (HX.out.below ((Below.refl w4.heap.size w4).alloc (Nat.le_refl _) (.cells (cells (toldL l).at) 26)))
  have R6n := Lib.hid (R6.out.below ((Below.refl w4.heap.size w4).alloc (Nat.le_refl _) (.cells (cells (toldL l).at) 26)))
  have H8n := Lib.hid (H8.out.below ((Below.refl w4.heap.size w4).alloc (Nat.le_refl _) (.cells (cells (toldL l).at) 26)))
  have HBn := Lib.hid (HB.out.alloc HB.out.size (.cells (cells (toldL l).at) 26))
  have H10 := Lib.hid (Lies.new w4 (toldL l).at)
  clear HB HX R6 H8
  have HX := HXn
  clear HXn
  have R6 := R6n
  clear R6n
  have H8 := H8n
  clear H8n
  have HB := HBn
  clear HBn
  go_wp2_with (first
    | (refine wpList_store_row rfl 26 (.tmp 10) (.tmp 36) rfl w4.heap.size _ rfl rfl 26 _ (heap_alloc_last _ _) (size26 _) (size_same _ _) (Flat.all (Flat.at _)) ?_; rw [World.setRow_alloc_new])
    | (refine wpList_load_row rfl 26 (.tmp 8) rfl w3.heap.size rfl 26 _ (0, 0) _ H8.out.row Try.underlying26 rfl (size26 _) ?_)
    | fail)
  refine (order_cast l HV.out _).mono ?_
  rintro e w5 ⟨A12, c12, rfl, hr, hb⟩
  have HXn := Lib.hid (HX.out.below hb)
  have R6n := Lib.hid (R6.out.below hb)
  have H8n := Lib.hid (H8.out.below hb)
  have H10n := Lib.hid (H10.out.below hb)
  have HBn := Lib.hid (HB.out.trans (hb.mono HB.out.size))
  have R12 := Lib.hid hr
  clear hr
  clear hb HB HX R6 H8 H10
  have HX := HXn
  clear HXn
  have R6 := R6n
  clear R6n
  have H8 := H8n
  clear H8n
  have H10 := H10n
  clear H10n
  have HB := HBn
  clear HBn
  go_wp2_with (first
    | (refine wpList_load_any (by kernel_rfl) 26 (.tmp 8) rfl w3.heap.size 0 rfl _ H8.out.load ?_)
    | (refine wpList_load_any (by kernel_rfl) 26 (.tmp 2) rfl w.heap.size 0 rfl _ HX.out.load ?_)
    | (refine wpList_eql26 (by kernel_rfl) (.tmp 47) (.tmp 48) rfl (toldL l) (toldL l) rfl rfl true (eqB_refl _) ?_)
    | fail)
  go_ret
  exact ⟨rfl, HB.out⟩
set_option maxRecDepth 100000 in
set_option maxHeartbeats 4000000 in
theorem touchL_hi (l : List Nat) (hv : Valid l) (id : Int) (hi : 63 < id) (w : World) : Calls Try.prog 7 #[.agg (cells (toldL l).at), .int .i64 id] w fun e w' => e = .returned (.bool true) ∧ Below w.heap.size w w' := by
  have HV := Lib.hid hv
  have HI := Lib.hid hi
  have hd1 : decide (id < 0) = false := by simp; omega
  have hd2 : decide (63 < id) = true := by simpa using hi
  clear hv hi
  go_enter Try.func7, Try.ntmps7
  go_wp2_with fail
  refine (awake_any _).mono ?_
  rintro e w1 ⟨rfl, hb⟩
  have HX := Lib.hid (Lies.below (g := w.heap.size) (c := (toldL l).at) ⟨heap_alloc_last w _⟩ hb)
  have HB := Lib.hid (below_alloc1 hb)
  clear hb
  go_wp2_with (first
    | (refine wpList_load_row rfl 26 (.tmp 2) rfl w.heap.size rfl 26 _ (0, 0) _ HX.out.row Try.underlying26 rfl (size26 _) ?_)
    | fail)
  refine (order_cast l HV.out _).mono ?_
  rintro e w2 ⟨A6, c6, rfl, hr, hb⟩
  have HXn := Lib.hid (HX.out.below hb)
  have HBn := Lib.hid (HB.out.trans (hb.mono HB.out.size))
  have R6 := Lib.hid hr
  clear hr
  clear hb HB HX
  have HX := HXn
  clear HXn
  have HB := HBn
  clear HBn
  go_wp2_with (first
    | (refine wpList_load_row rfl 26 (.tmp 2) rfl w.heap.size rfl 26 _ (0, 0) _ HX.out.row Try.underlying26 rfl (size26 _) ?_)
    | fail)
  refine (touch_range l HV.out id (by have := HI.out; omega) _).mono ?_
  rintro e w3 ⟨rfl, hb⟩
  have HXn := Lib.hid (HX.out.below hb)
  have R6n := Lib.hid (R6.out.below hb)
  have HBn := Lib.hid (HB.out.trans (hb.mono HB.out.size))
  clear hb HB HX R6
  have HX := HXn
  clear HXn
  have R6 := R6n
  clear R6n
  have HB := HBn
  clear HBn
  have HXn := Lib.hid (HX.out.below ((Below.refl w3.heap.size w3).alloc (Nat.le_refl _) (.cells (cells (toldL l).at) 26)))
  have R6n := Lib.hid (R6.out.below ((Below.refl w3.heap.size w3).alloc (Nat.le_refl _) (.cells (cells (toldL l).at) 26)))
  have HBn := Lib.hid (HB.out.alloc HB.out.size (.cells (cells (toldL l).at) 26))
  have H8 := Lib.hid (Lies.new w3 (toldL l).at)
  clear HB HX R6
  have HX := HXn
  clear HXn
  have R6 := R6n
  clear R6n
  have HB := HBn
  clear HBn
  go_wp2_with (first
    | (refine wpList_store_row rfl 26 (.tmp 8) (.tmp 30) rfl w3.heap.size _ rfl rfl 26 _ (heap_alloc_last _ _) (size26 _) (size_same _ _) (Flat.all (Flat.at _)) ?_; rw [World.setRow_alloc_new])
    | (refine wpList_load_row rfl 26 (.tmp 8) rfl w3.heap.size rfl 26 _ (0, 0) _ H8.out.row Try.underlying26 rfl (size26 _) ?_)
    | fail)
  refine (touch_range l HV.out id (by have := HI.out; omega) _).mono ?_
  rintro e w4 ⟨rfl, hb⟩
  have HXn := Lib.hid (HX.out.below hb)
  have R6n := Lib.hid (R6.out.below hb)
  have H8n := Lib.hid (H8.out.below hb)
  have HBn := Lib.hid (HB.out.trans (hb.mono HB.out.size))
  clear hb HB HX R6 H8
  have HX := HXn
  clear HXn
  have R6 := R6n
  clear R6n
  have H8 := H8n
  clear H8n
  have HB := HBn
  clear HBn
  have HXn := Lib.hid (HX.out.below ((Below.refl w4.heap.size w4).alloc (Nat.le_refl _) (.cells (cells (toldL l).at) 26)))
  have R6n := Lib.hid (R6.out.below ((Below.refl w4.heap.size w4).alloc (Nat.le_refl _) (.cells (cells (toldL l).at) 26)))
  have H8n := Lib.hid (H8.out.below ((Below.refl w4.heap.size w4).alloc (Nat.le_refl _) (.cells (cells (toldL l).at) 26)))
  have HBn := Lib.hid (HB.out.alloc HB.out.size (.cells (cells (toldL l).at) 26))
  have H10 := Lib.hid (Lies.new w4 (toldL l).at)
  clear HB HX R6 H8
  have HX := HXn
  clear HXn
  have R6 := R6n
  clear R6n
  have H8 := H8n
  clear H8n
  have HB := HBn
  clear HBn
  go_wp2_with (first
    | (refine wpList_store_row rfl 26 (.tmp 10) (.tmp 36) rfl w4.heap.size _ rfl rfl 26 _ (heap_alloc_last _ _) (size26 _) (size_same _ _) (Flat.all (Flat.at _)) ?_; rw [World.setRow_alloc_new])
    | (refine wpList_load_row rfl 26 (.tmp 8) rfl w3.heap.size rfl 26 _ (0, 0) _ H8.out.row Try.underlying26 rfl (size26 _) ?_)
    | fail)
  refine (order_cast l HV.out _).mono ?_
  rintro e w5 ⟨A12, c12, rfl, hr, hb⟩
  have HXn := Lib.hid (HX.out.below hb)
  have R6n := Lib.hid (R6.out.below hb)
  have H8n := Lib.hid (H8.out.below hb)
  have H10n := Lib.hid (H10.out.below hb)
  have HBn := Lib.hid (HB.out.trans (hb.mono HB.out.size))
  have R12 := Lib.hid hr
  clear hr
  clear hb HB HX R6 H8 H10
  have HX := HXn
  clear HXn
  have R6 := R6n
  clear R6n
  have H8 := H8n
  clear H8n
  have H10 := H10n
  clear H10n
  have HB := HBn
  clear HBn
  go_wp2_with (first
    | (refine wpList_load_any (by kernel_rfl) 26 (.tmp 8) rfl w3.heap.size 0 rfl _ H8.out.load ?_)
    | (refine wpList_load_any (by kernel_rfl) 26 (.tmp 2) rfl w.heap.size 0 rfl _ HX.out.load ?_)
    | (refine wpList_eql26 (by kernel_rfl) (.tmp 47) (.tmp 48) rfl (toldL l) (toldL l) rfl rfl true (eqB_refl _) ?_)
    | fail)
  go_ret
  exact ⟨rfl, HB.out⟩
set_option maxRecDepth 100000 in
set_option maxHeartbeats 4000000 in
theorem touchL_ok (l : List Nat) (hv : Valid l) (k : Nat) (hk : k < 64) (w : World) : Calls Try.prog 7 #[.agg (cells (toldL l).at), .int .i64 k] w fun e w' => e = .returned (.bool true) ∧ Below w.heap.size w w' := by
  have hl64 := hv.len
  have HV := Lib.hid hv
  have HVK := Lib.hid ((hv.erase k).cons hk (hv.not_mem_erase k))
  have HVE := Lib.hid (hv.erase k)
  clear hv
  go_enter Try.func7, Try.ntmps7
  go_wp2_with fail
  refine (awake_any _).mono ?_
  rintro e w1 ⟨rfl, hb⟩
  have HX := Lib.hid (Lies.below (g := w.heap.size) (c := (toldL l).at) ⟨heap_alloc_last w _⟩ hb)
  have HB := Lib.hid (below_alloc1 hb)
  clear hb
  go_wp2_with (first
    | (refine wpList_load_row rfl 26 (.tmp 2) rfl w.heap.size rfl 26 _ (0, 0) _ HX.out.row Try.underlying26 rfl (size26 _) ?_)
    | fail)
  refine (order_cast l HV.out _).mono ?_
  rintro e w2 ⟨A6, c6, rfl, hr, hb⟩
  have HXn := Lib.hid (HX.out.below hb)
  have HBn := Lib.hid (HB.out.trans (hb.mono HB.out.size))
  have R6 := Lib.hid hr
  clear hr
  clear hb HB HX
  have HX := HXn
  clear HXn
  have HB := HBn
  clear HBn
  go_wp2_with (first
    | (refine wpList_load_row rfl 26 (.tmp 2) rfl w.heap.size rfl 26 _ (0, 0) _ HX.out.row Try.underlying26 rfl (size26 _) ?_)
    | fail)
  refine (touch_k l HV.out k hk _).mono ?_
  rintro e w3 ⟨rfl, hb⟩
  have HXn := Lib.hid (HX.out.below hb)
  have R6n := Lib.hid (R6.out.below hb)
  have HBn := Lib.hid (HB.out.trans (hb.mono HB.out.size))
  clear hb HB HX R6
  have HX := HXn
  clear HXn
  have R6 := R6n
  clear R6n
  have HB := HBn
  clear HBn
  have HXn := Lib.hid (HX.out.below ((Below.refl w3.heap.size w3).alloc (Nat.le_refl _) (.cells (cells (toldL (k :: l.erase k)).at) 26)))
  have R6n := Lib.hid (R6.out.below ((Below.refl w3.heap.size w3).alloc (Nat.le_refl _) (.cells (cells (toldL (k :: l.erase k)).at) 26)))
  have HBn := Lib.hid (HB.out.alloc HB.out.size (.cells (cells (toldL (k :: l.erase k)).at) 26))
  have H8 := Lib.hid (Lies.new w3 (toldL (k :: l.erase k)).at)
  clear HB HX R6
  have HX := HXn
  clear HXn
  have R6 := R6n
  clear R6n
  have HB := HBn
  clear HBn
  go_wp2_with (first
    | (refine wpList_store_row rfl 26 (.tmp 8) (.tmp 30) rfl w3.heap.size _ rfl rfl 26 _ (heap_alloc_last _ _) (size26 _) (size_same _ _) (Flat.all (Flat.at _)) ?_; rw [World.setRow_alloc_new])
    | (refine wpList_load_row rfl 26 (.tmp 8) rfl w3.heap.size rfl 26 _ (0, 0) _ H8.out.row Try.underlying26 rfl (size26 _) ?_)
    | fail)
  refine (head_touch l k HVK.out _).mono ?_
  rintro e w4 ⟨rfl, hb⟩
  have HXn := Lib.hid (HX.out.below hb)
  have R6n := Lib.hid (R6.out.below hb)
  have H8n := Lib.hid (H8.out.below hb)
  have HBn := Lib.hid (HB.out.trans (hb.mono HB.out.size))
  clear hb HB HX R6 H8
  have HX := HXn
  clear HXn
  have R6 := R6n
  clear R6n
  have H8 := H8n
  clear H8n
  have HB := HBn
  clear HBn
  have HXn := Lib.hid (HX.out.below ((Below.refl w4.heap.size w4).alloc (Nat.le_refl _) (.cells (cells (toldL (k :: l.erase k)).at) 26)))
  have R6n := Lib.hid (R6.out.below ((Below.refl w4.heap.size w4).alloc (Nat.le_refl _) (.cells (cells (toldL (k :: l.erase k)).at) 26)))
  have H8n := Lib.hid (H8.out.below ((Below.refl w4.heap.size w4).alloc (Nat.le_refl _) (.cells (cells (toldL (k :: l.erase k)).at) 26)))
  have HBn := Lib.hid (HB.out.alloc HB.out.size (.cells (cells (toldL (k :: l.erase k)).at) 26))
  have H10 := Lib.hid (Lies.new w4 (toldL (k :: l.erase k)).at)
  clear HB HX R6 H8
  have HX := HXn
  clear HXn
  have R6 := R6n
  clear R6n
  have H8 := H8n
  clear H8n
  have HB := HBn
  clear HBn
  go_wp2_with (first
    | (refine wpList_store_row rfl 26 (.tmp 10) (.tmp 36) rfl w4.heap.size _ rfl rfl 26 _ (heap_alloc_last _ _) (size26 _) (size_same _ _) (Flat.all (Flat.at _)) ?_; rw [World.setRow_alloc_new])
    | (refine wpList_load_row rfl 26 (.tmp 8) rfl w3.heap.size rfl 26 _ (0, 0) _ H8.out.row Try.underlying26 rfl (size26 _) ?_)
    | fail)
  refine (order_capc (k :: l.erase k) HVK.out _).mono ?_
  rintro e w5 ⟨A12, c12, rfl, hr, hcap, hb⟩
  have HXn := Lib.hid (HX.out.below hb)
  have R6n := Lib.hid (R6.out.below hb)
  have H8n := Lib.hid (H8.out.below hb)
  have H10n := Lib.hid (H10.out.below hb)
  have HBn := Lib.hid (HB.out.trans (hb.mono HB.out.size))
  have R12 := Lib.hid hr
  clear hr
  clear hb HB HX R6 H8 H10
  have HX := HXn
  clear HXn
  have R6 := R6n
  clear R6n
  have H8 := H8n
  clear H8n
  have H10 := H10n
  clear H10n
  have HB := HBn
  clear HBn
  have HCAP := Lib.hid hcap
  clear hcap
  have he12 : (castL (k :: l.erase k)).length = (castL (l.erase k)).length + 1 := by simp [castL]
  rw [he12]
  have HE12 := Lib.hid he12
  clear he12
  have hz12 : (((castL (l.erase k)).length : Int) + 1 == 0) = false := by simp; omega
  go_wp2_with (first
    | (refine wpList_load_row rfl 26 (.tmp 8) rfl w3.heap.size rfl 26 _ (0, 0) _ H8.out.row Try.underlying26 rfl (size26 _) ?_)
    | fail)
  clear hz12
  refine (head_drop l k HVK.out _).mono ?_
  rintro e w6 ⟨rfl, hb⟩
  have HXn := Lib.hid (HX.out.below hb)
  have R6n := Lib.hid (R6.out.below hb)
  have H8n := Lib.hid (H8.out.below hb)
  have H10n := Lib.hid (H10.out.below hb)
  have R12n := Lib.hid (R12.out.below hb)
  have HBn := Lib.hid (HB.out.trans (hb.mono HB.out.size))
  clear hb HB HX R6 H8 H10 R12
  have HX := HXn
  clear HXn
  have R6 := R6n
  clear R6n
  have H8 := H8n
  clear H8n
  have H10 := H10n
  clear H10n
  have R12 := R12n
  clear R12n
  have HB := HBn
  clear HBn
  have HXn := Lib.hid (HX.out.below ((Below.refl w6.heap.size w6).alloc (Nat.le_refl _) (.cells (cells (toldL (l.erase k)).at) 26)))
  have R6n := Lib.hid (R6.out.below ((Below.refl w6.heap.size w6).alloc (Nat.le_refl _) (.cells (cells (toldL (l.erase k)).at) 26)))
  have H8n := Lib.hid (H8.out.below ((Below.refl w6.heap.size w6).alloc (Nat.le_refl _) (.cells (cells (toldL (l.erase k)).at) 26)))
  have H10n := Lib.hid (H10.out.below ((Below.refl w6.heap.size w6).alloc (Nat.le_refl _) (.cells (cells (toldL (l.erase k)).at) 26)))
  have R12n := Lib.hid (R12.out.below ((Below.refl w6.heap.size w6).alloc (Nat.le_refl _) (.cells (cells (toldL (l.erase k)).at) 26)))
  have HBn := Lib.hid (HB.out.alloc HB.out.size (.cells (cells (toldL (l.erase k)).at) 26))
  have H14 := Lib.hid (Lies.new w6 (toldL (l.erase k)).at)
  clear HB HX R6 H8 H10 R12
  have HX := HXn
  clear HXn
  have R6 := R6n
  clear R6n
  have H8 := H8n
  clear H8n
  have H10 := H10n
  clear H10n
  have R12 := R12n
  clear R12n
  have HB := HBn
  clear HBn
  go_wp2_with (first
    | (refine wpList_store_row rfl 26 (.tmp 14) (.tmp 81) rfl w6.heap.size _ rfl rfl 26 _ (heap_alloc_last _ _) (size26 _) (size_same _ _) (Flat.all (Flat.at _)) ?_; rw [World.setRow_alloc_new])
    | (refine wpList_load_row rfl 26 (.tmp 14) rfl w6.heap.size rfl 26 _ (0, 0) _ H14.out.row Try.underlying26 rfl (size26 _) ?_)
    | fail)
  refine (order_cast (l.erase k) HVE.out _).mono ?_
  rintro e w7 ⟨A16, c16, rfl, hr, hb⟩
  have HXn := Lib.hid (HX.out.below hb)
  have R6n := Lib.hid (R6.out.below hb)
  have H8n := Lib.hid (H8.out.below hb)
  have H10n := Lib.hid (H10.out.below hb)
  have R12n := Lib.hid (R12.out.below hb)
  have H14n := Lib.hid (H14.out.below hb)
  have HBn := Lib.hid (HB.out.trans (hb.mono HB.out.size))
  have R16 := Lib.hid hr
  clear hr
  clear hb HB HX R6 H8 H10 R12 H14
  have HX := HXn
  clear HXn
  have R6 := R6n
  clear R6n
  have H8 := H8n
  clear H8n
  have H10 := H10n
  clear H10n
  have R12 := R12n
  clear R12n
  have H14 := H14n
  clear H14n
  have HB := HBn
  clear HBn
  go_wp2_with (first
    | fail)
  have hlc := castL_len l
  have HLC := Lib.hid hlc
  obtain ⟨n, hn⟩ : ∃ n, n = (castL l).length := ⟨_, rfl⟩
  rw [← hn]
  have HN := Lib.hid hn
  have hn64 : n ≤ 64 := by omega
  clear hlc hn
  go_loopw [18, 19] (fun a i wr => ∃ k' : Nat, k' ≤ n ∧ i = .int .i64 k' ∧ a = .int .i64 (upto l k k' : Nat) ∧ Below w7.heap.size w7 wr) (fun _ i _ => n - (intOf i).toNat)
  case atStart => exact ⟨0, by omega, rfl, rfl, Below.refl _ _⟩
  case round =>
    obtain ⟨i, hi, rfl, rfl, hbe⟩ := hrel
    have HE := Lib.hid hbe
    have R6w := Lib.hid (R6.out.below hbe)
    have R16w := Lib.hid (R16.out.below hbe)
    clear hbe
    have hup := upto_le l k i
    have hlc : l.length = n := by rw [HN.out, HLC.out]
    by_cases hlt : i < n
    · have hd : decide ((i : Int) < (n : Int)) = true := by simp; omega
      have hil : i < l.length := by omega
      obtain ⟨hi2, ei⟩ := castL_at l i hil
      obtain ⟨p, rfl, hpb, hp⟩ := R6w.out i hi2
      rw [ei] at hp
      by_cases he : l[i] = k
      · have hs := upto_same l k i hil he
        have hcmp : ((l[i] : Int) == (k : Int)) = true := by simp [he]
        obtain ⟨b, hb⟩ : ∃ b, b = l[i] := ⟨_, rfl⟩
        rw [← hb] at hp hcmp
        have HS := Lib.hid hs
        clear hs he hb ei hlc
        go_wp2_with fail
        go_roundw
        case rel => exact ⟨i + 1, by omega, by go_num, by rw [HS.out], HE.out⟩
        case measure => simp [intOf]; omega
      · have hs := upto_next l k i hil he
        have hat := upto_at l HV.out.2 k i hil he
        have hcmp : ((l[i] : Int) == (k : Int)) = false := by simp; omega
        obtain ⟨b, hb⟩ : ∃ b, b = l[i] := ⟨_, rfl⟩
        rw [← hb] at hp hcmp hat
        obtain ⟨j, hj⟩ : ∃ j, j = upto l k i := ⟨_, rfl⟩
        rw [← hj] at hs hat hup ⊢
        have hjl : j < (l.erase k).length := by
          rcases Nat.lt_or_ge j (l.erase k).length with q | q
          · exact q
          · rw [List.getElem?_eq_none q] at hat; cases hat
        obtain ⟨hj2, ej⟩ := castL_at (l.erase k) j hjl
        obtain ⟨p2, rfl, hpb2, hp2⟩ := R16w.out j hj2
        have hbb : (l.erase k)[j] = b := by rw [List.getElem?_eq_getElem hjl] at hat; injection hat
        rw [ej, hbb] at hp2
        have hge : decide (((castL (l.erase k)).length : Int) ≤ (j : Int)) = false := by simp; omega
        have hne : ((b : Int) != (b : Int)) = false := by simp
        have hj64 : j ≤ 64 := by omega
        have HS := Lib.hid hs
        have HJ := Lib.hid hj
        clear hs he hb ei ej hat hbb hj hlc
        go_wp2_with fail
        go_quiet (fail)
        go_wp2_with fail
        go_roundw
        case rel => exact ⟨i + 1, by omega, by go_num, by rw [HS.out]; go_num, drewN_below HE.out _⟩
        case measure => simp [intOf]; omega
    · have hd : decide ((i : Int) < (n : Int)) = false := by simp; omega
      obtain rfl : i = n := by omega
      have hua : upto l k i = (castL (l.erase k)).length := by rw [castL_len, ← upto_all l HV.out.2 k, hlc]
      rw [hua]
      have R12w := Lib.hid (R12.out.below HE.out)
      have H8w := Lib.hid (H8.out.below HE.out)
      have H10w := Lib.hid (H10.out.below HE.out)
      have HBw := Lib.hid (HB.out.trans (HE.out.mono HB.out.size))
      obtain ⟨p12, hp12, hpb12, hp0⟩ := R12w.out 0 (by rw [HE12.out]; omega)
      have h0c : 0 < (castL (k :: l.erase k)).length := by rw [HE12.out]; omega
      have hc0 : (castL (k :: l.erase k))[0]'h0c = (k : Int) := rfl
      rw [add0, hc0] at hp0
      subst hp12
      clear hua hlc hup HE R6 R16 R12 H8 H10 H14 HX HB
      have hkk : ((k : Int) == (k : Int)) = true := by simp
      have hc64 : (castL (l.erase k)).length ≤ 64 := by rw [castL_len]; exact HVE.out.len
      have hnn : (((castL (l.erase k)).length : Int) == ((castL (l.erase k)).length : Int)) = true := by simp
      have R12v : Hid (RowI wr (some p12) ((k : Int) :: castL (l.erase k))) := R12w
      by_cases hc1 : c12 = 1
      · subst hc1
        have h0 : castL (l.erase k) = [] := by
          have h1 := HCAP.out
          rw [HE12.out] at h1
          exact List.eq_nil_of_length_eq_zero (by omega)
        have HNIL : Hid (RowI wr (some p12) (castL (l.erase k))) := Lib.hid (by rw [h0]; intro j hj; simp at hj)
        clear h0
        go_wp2_with (first
    | (refine wpList_load_any (by kernel_rfl) 26 (.tmp 10) rfl w4.heap.size 0 rfl _ H10w.out.load ?_)
    | (refine wpList_load_any (by kernel_rfl) 26 (.tmp 8) rfl w3.heap.size 0 rfl _ H8w.out.load ?_)
    | (refine wpList_eql26 (by kernel_rfl) (.tmp 129) (.tmp 130) rfl (toldL (k :: l.erase k)) (toldL (k :: l.erase k)) rfl rfl true (eqB_refl _) ?_)
    | fail)
        refine (same_to _ _ _ _ (castL (l.erase k)) (by omega) _ HNIL.out R16w.out).mono ?_
        rintro e w20 ⟨rfl, hb⟩
        have HB20 := Lib.hid (HBw.out.trans (hb.mono HBw.out.size))
        clear hb
        go_wp2_with fail
        go_ret
        exact ⟨rfl, HB20.out⟩
      · go_wp2_with (first
    | (refine wpList_load_any (by kernel_rfl) 26 (.tmp 10) rfl w4.heap.size 0 rfl _ H10w.out.load ?_)
    | (refine wpList_load_any (by kernel_rfl) 26 (.tmp 8) rfl w3.heap.size 0 rfl _ H8w.out.load ?_)
    | (refine wpList_eql26 (by kernel_rfl) (.tmp 129) (.tmp 130) rfl (toldL (k :: l.erase k)) (toldL (k :: l.erase k)) rfl rfl true (eqB_refl _) ?_)
    | fail)
        refine (same_to _ _ _ _ (castL (l.erase k)) (by omega) _ (row_tail R12v.out) R16w.out).mono ?_
        rintro e w20 ⟨rfl, hb⟩
        have HB20 := Lib.hid (HBw.out.trans (hb.mono HBw.out.size))
        clear hb
        go_wp2_with fail
        go_ret
        exact ⟨rfl, HB20.out⟩
theorem listTouch_walk (x : Ls) (id : Int) (w : World) : Calls Try.prog 7 #[.agg (cells x.at), .int .i64 id] w fun e w' => e = .returned (.bool true) ∧ Below w.heap.size w w' := by
  rcases told_or x with ⟨l, hl, e⟩ | h
  · rw [e]
    by_cases h0 : id < 0
    · exact touchL_lo l hl id h0 w
    · by_cases h1 : 63 < id
      · exact touchL_hi l hl id h1 w
      · obtain ⟨k, rfl⟩ := Int.eq_ofNat_of_zero_le (show 0 ≤ id by omega)
        exact touchL_ok l hl k (by omega) w
  · exact touchL_none x h id w
end Go.Proofs.Ytgbhfagmbkoobaa
