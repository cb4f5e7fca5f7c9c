/-
  THE WALKS OF linhayref15.Of, Touch, Drop and Last.
-/
import Derived.Test.YtgbhfagmbkoobaaActs
namespace Go.Proofs.Ytgbhfagmbkoobaa
open Go.RowKit
theorem told_of_may {xs : List Int} (h : MayP xs) : ∃ l, Valid l ∧ xs = castL l := may_valid h
attribute [local go_sem] zero26 cells_get cells_set upd_at at_hd at_tl
theorem refTold_nil (w : World) : Calls Try.prog 22 #[.slice none 0 0] w fun e w' => e = .returned (.agg (cells newL.at)) ∧ Below w.heap.size w w' :=
  refTold_any none 0 [] ⟨by simp, by simp⟩ (by simp) w (fun j hj => absurd hj (by simp [castL]))
set_option maxRecDepth 100000 in
set_option maxHeartbeats 800000 in
theorem refOf_any (A : Option Addr) (c : Nat) (xs : List Int) (hn : xs.length ≤ 1000) (w : World) (hr : RowI w A xs) : Calls Try.prog 11 #[.slice A xs.length c] w (OfSays xs w) := by
  have HR := Lib.hid hr
  clear hr
  go_enter Try.func11, Try.ntmps11
  go_wp2_with fail
  refine (may_any A c xs hn _ (HR.out.below ((Below.refl _ _).alloc (Nat.le_refl _) _))).mono ?_
  rintro e w1 ⟨b, rfl, hb, hb1⟩
  have HZ := Lib.hid (Lies.below (g := w.heap.size) (c := z0.at) ⟨heap_alloc_last w _⟩ hb1)
  have HB := Lib.hid (below_alloc1 hb1)
  have HM := Lib.hid hb
  clear hb1 hb
  cases b
  · have HNO : Hid (∀ l, Valid l → xs ≠ castL l) := Lib.hid fun l hl e => by
      subst e
      have := HM.out.mpr (valid_may hl)
      cases this
    go_wp2_with fail
    refine (refTold_nil _).mono ?_
    rintro e w2 ⟨rfl, hb2⟩
    have HZ2 := Lib.hid (HZ.out.below hb2)
    have HB2 := Lib.hid (HB.out.trans (hb2.mono HB.out.size))
    clear hb2
    go_wp2_with (first
      | (refine wpList_store_row rfl 26 (.tmp 2) (.tmp 9) rfl w.heap.size _ rfl rfl 26 _ HZ2.out.row (size26 _) (size_same _ _) (Flat.all (Flat.at _)) ?_)
      | fail)
    refine bodyPost_ret (v := .tuple #[.agg (cells newL.at), .int .i64 110]) ?_ rfl ⟨_, _, rfl, below_setRow HB2.out (Nat.le_refl _), Or.inr ⟨HNO.out, rfl, rfl⟩⟩
    exact results_row_tmp rfl _ _ w.heap.size 26 _ (0, 0) _ _ rfl (HZ2.out.setRow _).row Try.underlying26 rfl (size26 _) rfl
  · obtain ⟨l, hl, rfl⟩ := may_valid (HM.out.mp rfl)
    have HL := Lib.hid hl
    clear hl
    go_wp2_with fail
    refine (refTold_cast A c l HL.out _ (HR.out.below HB.out)).mono ?_
    rintro e w2 ⟨rfl, hb2⟩
    have HZ2 := Lib.hid (HZ.out.below hb2)
    have HB2 := Lib.hid (HB.out.trans (hb2.mono HB.out.size))
    clear hb2
    go_wp2_with (first
      | (refine wpList_store_row rfl 26 (.tmp 2) (.tmp 11) rfl w.heap.size _ rfl rfl 26 _ HZ2.out.row (size26 _) (size_same _ _) (Flat.all (Flat.at _)) ?_)
      | fail)
    refine bodyPost_ret (v := .tuple #[.agg (cells (toldL l).at), .int .i64 0]) ?_ rfl ⟨_, _, rfl, below_setRow HB2.out (Nat.le_refl _), Or.inl ⟨l, HL.out, rfl, rfl, rfl⟩⟩
    exact results_row_tmp rfl _ _ w.heap.size 26 _ (0, 0) _ _ rfl (HZ2.out.setRow _).row Try.underlying26 rfl (size26 _) rfl
theorem woL_erase {l : List Nat} (hn : l.Nodup) (k : Nat) : woL (castL l) (k : Int) = castL (l.erase k) := by
  rw [hn.erase_eq_filter]
  unfold woL castL
  rw [List.filter_map]
  congr 1
  apply List.filter_congr
  intro a _
  show ((a : Int) != (k : Int)) = (a != k)
  rw [Bool.eq_iff_iff, bne_iff_ne, bne_iff_ne]
  omega
theorem woL_out {l : List Nat} (hv : Valid l) {id : Int} (h : ¬ (0 ≤ id ∧ id < 64)) : woL (castL l) id = castL l := by
  unfold woL
  rw [List.filter_eq_self]
  intro a ha
  simp [castL] at ha
  obtain ⟨b, hb, rfl⟩ := ha
  have := hv.1 b hb
  simp
  omega
theorem own_below {w w1 : World} {base n : Nat} {v : Value} {xs : List Value} (h : w.ownsRow base 3 1 v n xs) (hb : Below w.heap.size w w1) : w1.ownsRow base 3 1 v n xs := by
  refine ⟨h.1, ?_⟩
  rcases h.2 with hn | ⟨g, cap, cur, rfl, hbg, hg, rest⟩
  · exact .inl hn
  · exact .inr ⟨g, cap, cur, rfl, hbg, by rw [hb.block g (Array.getElem?_eq_some_iff.1 hg).1]; exact hg, rest⟩
theorem refOrder_cast (l : List Nat) (hv : Valid l) (w : World) : Calls Try.prog 13 #[.agg (cells (toldL l).at)] w fun e w' => ∃ A c, e = .returned (.tuple #[.slice A (castL l).length c, .bool true]) ∧ RowI w' A (castL l) ∧ Below w.heap.size w w' := by
  rw [castL_len]; exact refOrder_told l hv w
set_option maxRecDepth 100000 in
set_option maxHeartbeats 800000 in
theorem refTouch_none (x : Ls) (hx : NoTell x) (id : Int) (w : World) : Calls Try.prog 15 #[.agg (cells x.at), .int .i64 id] w (Ans x 120 w) := by
  have HXN := Lib.hid hx
  clear hx
  go_enter Try.func15, Try.ntmps15
  go_wp2_with (first
    | (refine wpList_load_row rfl 26 (.tmp 2) rfl w.heap.size rfl 26 _ (0, 0) _ (heap_prev _ _ _) Try.underlying26 rfl (size26 _) ?_)
    | fail)
  refine (refOrder_none x HXN.out _).mono ?_
  rintro e w1 ⟨rfl, hb1⟩
  have HX := Lib.hid (Lies.below (g := w.heap.size) (c := x.at) ⟨heap_prev w _ _⟩ hb1)
  have HZ := Lib.hid (Lies.below (g := w.heap.size + 1) (c := z0.at) ⟨heap_last2 w _ _⟩ hb1)
  have HB := Lib.hid (below_alloc2 hb1)
  clear hb1
  go_wp2_with (first
    | (refine wpList_load_row rfl 26 (.tmp 2) rfl w.heap.size rfl 26 _ (0, 0) _ HX.out.row Try.underlying26 rfl (size26 _) ?_)
    | (refine wpList_store_row rfl 26 (.tmp 4) (.tmp 15) rfl (w.heap.size + 1) _ rfl rfl 26 _ HZ.out.row (size26 _) (size_same _ _) (Flat.all (Flat.at _)) ?_)
    | fail)
  refine bodyPost_ret (v := .tuple #[.agg (cells x.at), .int .i64 120]) ?_ rfl ⟨rfl, below_setRow HB.out (by omega)⟩
  exact results_row_tmp rfl _ _ (w.heap.size + 1) 26 _ (0, 0) _ _ rfl (HZ.out.setRow _).row Try.underlying26 rfl (size26 _) rfl
set_option maxRecDepth 100000 in
set_option maxHeartbeats 800000 in
theorem refTouch_lo (l : List Nat) (hv : Valid l) (id : Int) (hi : id < 0) (w : World) : Calls Try.prog 15 #[.agg (cells (toldL l).at), .int .i64 id] w (Ans (toldL l) 110 w) := by
  have HV := Lib.hid hv
  have hd1 : decide (id < 0) = true := by simpa using hi
  clear hv hi
  go_enter Try.func15, Try.ntmps15
  go_wp2_with (first
    | (refine wpList_load_row rfl 26 (.tmp 2) rfl w.heap.size rfl 26 _ (0, 0) _ (heap_prev _ _ _) Try.underlying26 rfl (size26 _) ?_)
    | fail)
  refine (refOrder_cast l HV.out _).mono ?_
  rintro e w1 ⟨A, c, rfl, hrow, hb1⟩
  have HX := Lib.hid (Lies.below (g := w.heap.size) (c := (toldL l).at) ⟨heap_prev w _ _⟩ hb1)
  have HZ := Lib.hid (Lies.below (g := w.heap.size + 1) (c := z0.at) ⟨heap_last2 w _ _⟩ hb1)
  have HB := Lib.hid (below_alloc2 hb1)
  have HR := Lib.hid hrow
  clear hb1 hrow
  go_wp2_with (first
    | (refine wpList_load_row rfl 26 (.tmp 2) rfl w.heap.size rfl 26 _ (0, 0) _ HX.out.row Try.underlying26 rfl (size26 _) ?_)
    | (refine wpList_store_row rfl 26 (.tmp 4) (.tmp 22) rfl (w.heap.size + 1) _ rfl rfl 26 _ HZ.out.row (size26 _) (size_same _ _) (Flat.all (Flat.at _)) ?_)
    | fail)
  refine bodyPost_ret (v := .tuple #[.agg (cells (toldL l).at), .int .i64 110]) ?_ rfl ⟨rfl, below_setRow HB.out (by omega)⟩
  exact results_row_tmp rfl _ _ (w.heap.size + 1) 26 _ (0, 0) _ _ rfl (HZ.out.setRow _).row Try.underlying26 rfl (size26 _) rfl
set_option maxRecDepth 100000 in
set_option maxHeartbeats 800000 in
theorem refTouch_hi (l : List Nat) (hv : Valid l) (id : Int) (hi : 63 < id) (w : World) : Calls Try.prog 15 #[.agg (cells (toldL l).at), .int .i64 id] w (Ans (toldL l) 110 w) := by
  have HV := Lib.hid hv
  have hd1 : decide (id < 0) = false := by simp; omega
  have hd2 : decide (63 < id) = true := by simpa using hi
  clear hv hi
  go_enter Try.func15, Try.ntmps15
  go_wp2_with (first
    | (refine wpList_load_row rfl 26 (.tmp 2) rfl w.heap.size rfl 26 _ (0, 0) _ (heap_prev _ _ _) Try.underlying26 rfl (size26 _) ?_)
    | fail)
  refine (refOrder_cast l HV.out _).mono ?_
  rintro e w1 ⟨A, c, rfl, hrow, hb1⟩
  have HX := Lib.hid (Lies.below (g := w.heap.size) (c := (toldL l).at) ⟨heap_prev w _ _⟩ hb1)
  have HZ := Lib.hid (Lies.below (g := w.heap.size + 1) (c := z0.at) ⟨heap_last2 w _ _⟩ hb1)
  have HB := Lib.hid (below_alloc2 hb1)
  have HR := Lib.hid hrow
  clear hb1 hrow
  go_wp2_with (first
    | (refine wpList_load_row rfl 26 (.tmp 2) rfl w.heap.size rfl 26 _ (0, 0) _ HX.out.row Try.underlying26 rfl (size26 _) ?_)
    | (refine wpList_store_row rfl 26 (.tmp 4) (.tmp 22) rfl (w.heap.size + 1) _ rfl rfl 26 _ HZ.out.row (size26 _) (size_same _ _) (Flat.all (Flat.at _)) ?_)
    | fail)
  refine bodyPost_ret (v := .tuple #[.agg (cells (toldL l).at), .int .i64 110]) ?_ rfl ⟨rfl, below_setRow HB.out (by omega)⟩
  exact results_row_tmp rfl _ _ (w.heap.size + 1) 26 _ (0, 0) _ _ rfl (HZ.out.setRow _).row Try.underlying26 rfl (size26 _) rfl
set_option maxRecDepth 100000 in
set_option maxHeartbeats 800000 in
theorem refTouch_ok (l : List Nat) (hv : Valid l) (k : Nat) (hk64 : k < 64) (w : World) : Calls Try.prog 15 #[.agg (cells (toldL l).at), .int .i64 k] w (Ans (toldL (k :: l.erase k)) 0 w) := by
  have hd1 : decide ((k : Int) < 0) = false := by simp
  have hd2 : decide (63 < (k : Int)) = false := by simp; omega
  have hl64 := hv.len
  have HV := Lib.hid hv
  clear hv
  go_enter Try.func15, Try.ntmps15
  go_wp2_with (first
    | (refine wpList_load_row rfl 26 (.tmp 2) rfl w.heap.size rfl 26 _ (0, 0) _ (heap_prev _ _ _) Try.underlying26 rfl (size26 _) ?_)
    | fail)
  refine (refOrder_cast l HV.out _).mono ?_
  rintro e w1 ⟨A, c, rfl, hrow, hb1⟩
  have HX := Lib.hid (Lies.below (g := w.heap.size) (c := (toldL l).at) ⟨heap_prev w _ _⟩ hb1)
  have HZ := Lib.hid (Lies.below (g := w.heap.size + 1) (c := z0.at) ⟨heap_last2 w _ _⟩ hb1)
  have HB := Lib.hid (below_alloc2 hb1)
  have HR := Lib.hid hrow
  clear hb1 hrow
  go_wp2_with fail
  refine (without_any A c (castL l) (by rw [castL_len]; omega) k _ (HR.out.below ((Below.refl _ _).alloc (Nat.le_refl _) _))).mono ?_
  rintro e w2 ⟨A2, c2, rfl, hnil, hr2, hb2⟩
  rw [woL_erase HV.out.2] at hr2 ⊢
  have HNIL := Lib.hid hnil
  have HR2 := Lib.hid hr2
  have HO := Lib.hid (own_below (own_one w1 w1.heap.size (Nat.le_refl _) k) hb2)
  have HB2 := Lib.hid (below_alloc1 hb2)
  have HLE : (l.erase k).length ≤ 64 := (HV.out.erase k).len
  have HS2 := Lib.hid (HB2.out.size)
  clear hnil hr2 hb2
  go_wp2_with (first
    | (at_builtin; refine wpList_append_row rfl (.tmp 24) (.tmp 27) rfl w1.heap.size _ 1 _ rfl HO.out A2 c2 (castL (l.erase k)) rfl HNIL.out HR2.out (by rw [castL_len]; omega) HS2.out ?_)
    | fail)
  intro v7 w7 hown7 hgrow7
  have HB7 := Lib.hid (Below.grown HB2.out hgrow7 HS2.out (fun k hk => (HO.out.lt k hk).1))
  obtain ⟨A7, c7, rfl⟩ := own_slice hown7
  obtain ⟨hn7, hnil7, hr7⟩ := RowI.of_own (l := castL (k :: l.erase k)) hown7
  have HR7 := Lib.hid hr7
  have HN7 := Lib.hid hn7
  have HZ7 := Lib.hid (HZ.out.below HB7.out)
  have HB8 := Lib.hid (HB.out.trans (HB7.out.mono HB.out.size))
  clear hown7 hgrow7 hnil7 hn7 hr7 HB7 HB2 HO HR2 HNIL HS2
  go_wp2_with fail
  rw [HN7.out]
  refine (refTold_cast A7 c7 (k :: l.erase k) ((HV.out.erase k).cons hk64 (HV.out.not_mem_erase k)) _ HR7.out).mono ?_
  rintro e w9 ⟨rfl, hb9⟩
  have HZ9 := Lib.hid (HZ7.out.below hb9)
  have HB9 := Lib.hid (HB8.out.trans (hb9.mono HB8.out.size))
  clear hb9
  go_wp2_with (first
    | (refine wpList_store_row rfl 26 (.tmp 4) (.tmp 29) rfl (w.heap.size + 1) _ rfl rfl 26 _ HZ9.out.row (size26 _) (size_same _ _) (Flat.all (Flat.at _)) ?_)
    | fail)
  refine bodyPost_ret (v := .tuple #[.agg (cells (toldL (k :: l.erase k)).at), .int .i64 0]) ?_ rfl ⟨rfl, below_setRow HB9.out (by omega)⟩
  exact results_row_tmp rfl _ _ (w.heap.size + 1) 26 _ (0, 0) _ _ rfl (HZ9.out.setRow _).row Try.underlying26 rfl (size26 _) rfl
set_option maxRecDepth 100000 in
set_option maxHeartbeats 800000 in
theorem refDrop_none (x : Ls) (hx : NoTell x) (id : Int) (w : World) : Calls Try.prog 17 #[.agg (cells x.at), .int .i64 id] w (Ans x 120 w) := by
  have HXN := Lib.hid hx
  clear hx
  go_enter Try.func17, Try.ntmps17
  go_wp2_with (first
    | (refine wpList_load_row rfl 26 (.tmp 2) rfl w.heap.size rfl 26 _ (0, 0) _ (heap_prev _ _ _) Try.underlying26 rfl (size26 _) ?_)
    | fail)
  refine (refOrder_none x HXN.out _).mono ?_
  rintro e w1 ⟨rfl, hb1⟩
  have HX := Lib.hid (Lies.below (g := w.heap.size) (c := x.at) ⟨heap_prev w _ _⟩ hb1)
  have HZ := Lib.hid (Lies.below (g := w.heap.size + 1) (c := z0.at) ⟨heap_last2 w _ _⟩ hb1)
  have HB := Lib.hid (below_alloc2 hb1)
  clear hb1
  go_wp2_with fail
  refine (without_any none 0 [] (by simp) id _ (fun j hj => absurd hj (by simp))).mono ?_
  rintro e w2 ⟨A2, c2, rfl, hnil, hr2, hb2⟩
  have HX2 := Lib.hid (HX.out.below hb2)
  have HZ2 := Lib.hid (HZ.out.below hb2)
  have HB2 := Lib.hid (HB.out.trans (hb2.mono HB.out.size))
  clear hnil hr2 hb2
  go_wp2_with (first
    | (refine wpList_load_row rfl 26 (.tmp 2) rfl w.heap.size rfl 26 _ (0, 0) _ HX2.out.row Try.underlying26 rfl (size26 _) ?_)
    | (refine wpList_store_row rfl 26 (.tmp 4) (.tmp 26) rfl (w.heap.size + 1) _ rfl rfl 26 _ HZ2.out.row (size26 _) (size_same _ _) (Flat.all (Flat.at _)) ?_)
    | fail)
  refine bodyPost_ret (v := .tuple #[.agg (cells x.at), .int .i64 120]) ?_ rfl ⟨rfl, below_setRow HB2.out (by omega)⟩
  exact results_row_tmp rfl _ _ (w.heap.size + 1) 26 _ (0, 0) _ _ rfl (HZ2.out.setRow _).row Try.underlying26 rfl (size26 _) rfl
set_option maxRecDepth 100000 in
set_option maxHeartbeats 800000 in
theorem refDrop_range (l : List Nat) (hv : Valid l) (id : Int) (hi : ¬ (0 ≤ id ∧ id < 64)) (w : World) : Calls Try.prog 17 #[.agg (cells (toldL l).at), .int .i64 id] w (Ans (toldL l) 120 w) := by
  have hl64 := hv.len
  have HV := Lib.hid hv
  have HWO := Lib.hid (woL_out hv hi)
  clear hv
  go_enter Try.func17, Try.ntmps17
  go_wp2_with (first
    | (refine wpList_load_row rfl 26 (.tmp 2) rfl w.heap.size rfl 26 _ (0, 0) _ (heap_prev _ _ _) Try.underlying26 rfl (size26 _) ?_)
    | fail)
  refine (refOrder_cast l HV.out _).mono ?_
  rintro e w1 ⟨A, c, rfl, hrow, hb1⟩
  have HX := Lib.hid (Lies.below (g := w.heap.size) (c := (toldL l).at) ⟨heap_prev w _ _⟩ hb1)
  have HZ := Lib.hid (Lies.below (g := w.heap.size + 1) (c := z0.at) ⟨heap_last2 w _ _⟩ hb1)
  have HB := Lib.hid (below_alloc2 hb1)
  have HR := Lib.hid hrow
  clear hb1 hrow
  go_wp2_with fail
  refine (without_any A c (castL l) (by rw [castL_len]; omega) id _ HR.out).mono ?_
  rintro e w2 ⟨A2, c2, rfl, hnil, hr2, hb2⟩
  rw [HWO.out] at hr2 ⊢
  have HX2 := Lib.hid (HX.out.below hb2)
  have HZ2 := Lib.hid (HZ.out.below hb2)
  have HB2 := Lib.hid (HB.out.trans (hb2.mono HB.out.size))
  have HR2 := Lib.hid hr2
  clear hnil hr2 hb2
  have he0 : (((castL l).length : Int) == ((castL l).length : Int)) = true := by simp
  go_wp2_with (first
    | (refine wpList_load_row rfl 26 (.tmp 2) rfl w.heap.size rfl 26 _ (0, 0) _ HX2.out.row Try.underlying26 rfl (size26 _) ?_)
    | (refine wpList_store_row rfl 26 (.tmp 4) (.tmp 26) rfl (w.heap.size + 1) _ rfl rfl 26 _ HZ2.out.row (size26 _) (size_same _ _) (Flat.all (Flat.at _)) ?_)
    | fail)
  refine bodyPost_ret (v := .tuple #[.agg (cells (toldL l).at), .int .i64 120]) ?_ rfl ⟨rfl, below_setRow HB2.out (by omega)⟩
  exact results_row_tmp rfl _ _ (w.heap.size + 1) 26 _ (0, 0) _ _ rfl (HZ2.out.setRow _).row Try.underlying26 rfl (size26 _) rfl
set_option maxRecDepth 100000 in
set_option maxHeartbeats 800000 in
theorem refDrop_new (l : List Nat) (hv : Valid l) (k : Nat) (hk : k ∉ l) (w : World) : Calls Try.prog 17 #[.agg (cells (toldL l).at), .int .i64 k] w (Ans (toldL l) 120 w) := by
  have hl64 := hv.len
  have HV := Lib.hid hv
  have HWO := Lib.hid (show woL (castL l) (k : Int) = castL l by rw [woL_erase hv.2, List.erase_of_not_mem hk])
  clear hv
  go_enter Try.func17, Try.ntmps17
  go_wp2_with (first
    | (refine wpList_load_row rfl 26 (.tmp 2) rfl w.heap.size rfl 26 _ (0, 0) _ (heap_prev _ _ _) Try.underlying26 rfl (size26 _) ?_)
    | fail)
  refine (refOrder_cast l HV.out _).mono ?_
  rintro e w1 ⟨A, c, rfl, hrow, hb1⟩
  have HX := Lib.hid (Lies.below (g := w.heap.size) (c := (toldL l).at) ⟨heap_prev w _ _⟩ hb1)
  have HZ := Lib.hid (Lies.below (g := w.heap.size + 1) (c := z0.at) ⟨heap_last2 w _ _⟩ hb1)
  have HB := Lib.hid (below_alloc2 hb1)
  have HR := Lib.hid hrow
  clear hb1 hrow
  go_wp2_with fail
  refine (without_any A c (castL l) (by rw [castL_len]; omega) k _ HR.out).mono ?_
  rintro e w2 ⟨A2, c2, rfl, hnil, hr2, hb2⟩
  rw [HWO.out] at hr2 ⊢
  have HX2 := Lib.hid (HX.out.below hb2)
  have HZ2 := Lib.hid (HZ.out.below hb2)
  have HB2 := Lib.hid (HB.out.trans (hb2.mono HB.out.size))
  have HR2 := Lib.hid hr2
  clear hnil hr2 hb2
  have he0 : (((castL l).length : Int) == ((castL l).length : Int)) = true := by simp
  go_wp2_with (first
    | (refine wpList_load_row rfl 26 (.tmp 2) rfl w.heap.size rfl 26 _ (0, 0) _ HX2.out.row Try.underlying26 rfl (size26 _) ?_)
    | (refine wpList_store_row rfl 26 (.tmp 4) (.tmp 26) rfl (w.heap.size + 1) _ rfl rfl 26 _ HZ2.out.row (size26 _) (size_same _ _) (Flat.all (Flat.at _)) ?_)
    | fail)
  refine bodyPost_ret (v := .tuple #[.agg (cells (toldL l).at), .int .i64 120]) ?_ rfl ⟨rfl, below_setRow HB2.out (by omega)⟩
  exact results_row_tmp rfl _ _ (w.heap.size + 1) 26 _ (0, 0) _ _ rfl (HZ2.out.setRow _).row Try.underlying26 rfl (size26 _) rfl
set_option maxRecDepth 100000 in
set_option maxHeartbeats 800000 in
theorem refDrop_in (l : List Nat) (hv : Valid l) (k : Nat) (hk : k ∈ l) (w : World) : Calls Try.prog 17 #[.agg (cells (toldL l).at), .int .i64 k] w (Ans (toldL (l.erase k)) 0 w) := by
  have hl64 := hv.len
  have HV := Lib.hid hv
  have HWO := Lib.hid (woL_erase hv.2 k)
  clear hv
  go_enter Try.func17, Try.ntmps17
  go_wp2_with (first
    | (refine wpList_load_row rfl 26 (.tmp 2) rfl w.heap.size rfl 26 _ (0, 0) _ (heap_prev _ _ _) Try.underlying26 rfl (size26 _) ?_)
    | fail)
  refine (refOrder_cast l HV.out _).mono ?_
  rintro e w1 ⟨A, c, rfl, hrow, hb1⟩
  have HX := Lib.hid (Lies.below (g := w.heap.size) (c := (toldL l).at) ⟨heap_prev w _ _⟩ hb1)
  have HZ := Lib.hid (Lies.below (g := w.heap.size + 1) (c := z0.at) ⟨heap_last2 w _ _⟩ hb1)
  have HB := Lib.hid (below_alloc2 hb1)
  have HR := Lib.hid hrow
  clear hb1 hrow
  go_wp2_with fail
  refine (without_any A c (castL l) (by rw [castL_len]; omega) k _ HR.out).mono ?_
  rintro e w2 ⟨A2, c2, rfl, hnil, hr2, hb2⟩
  rw [HWO.out] at hr2 ⊢
  have HX2 := Lib.hid (HX.out.below hb2)
  have HZ2 := Lib.hid (HZ.out.below hb2)
  have HB2 := Lib.hid (HB.out.trans (hb2.mono HB.out.size))
  have HR2 := Lib.hid hr2
  clear hnil hr2 hb2
  have he0 : (((castL (l.erase k)).length : Int) == ((castL l).length : Int)) = false := by
    rw [castL_len, castL_len, List.length_erase_of_mem hk]
    have := List.length_pos_of_mem hk
    simp; omega
  clear hk
  go_wp2_with fail
  refine (refTold_cast A2 c2 (l.erase k) (HV.out.erase k) _ HR2.out).mono ?_
  rintro e w9 ⟨rfl, hb9⟩
  have HZ9 := Lib.hid (HZ2.out.below hb9)
  have HB9 := Lib.hid (HB2.out.trans (hb9.mono HB2.out.size))
  clear hb9
  go_wp2_with (first
    | (refine wpList_store_row rfl 26 (.tmp 4) (.tmp 28) rfl (w.heap.size + 1) _ rfl rfl 26 _ HZ9.out.row (size26 _) (size_same _ _) (Flat.all (Flat.at _)) ?_)
    | fail)
  refine bodyPost_ret (v := .tuple #[.agg (cells (toldL (l.erase k)).at), .int .i64 0]) ?_ rfl ⟨rfl, below_setRow HB9.out (by omega)⟩
  exact results_row_tmp rfl _ _ (w.heap.size + 1) 26 _ (0, 0) _ _ rfl (HZ9.out.setRow _).row Try.underlying26 rfl (size26 _) rfl
set_option maxRecDepth 100000 in
set_option maxHeartbeats 800000 in
theorem refLast_none (x : Ls) (hx : NoTell x) (w : World) : Calls Try.prog 19 #[.agg (cells x.at)] w (AnsN 0 false w) := by
  have HXN := Lib.hid hx
  clear hx
  go_enter Try.func19, Try.ntmps19
  go_wp2_with (first
    | (refine wpList_load_row rfl 26 (.tmp 1) rfl w.heap.size rfl 26 _ (0, 0) _ (heap_alloc_last _ _) Try.underlying26 rfl (size26 _) ?_)
    | fail)
  refine (refOrder_none x HXN.out _).mono ?_
  rintro e w1 ⟨rfl, hb1⟩
  have HB := Lib.hid (below_alloc1 hb1)
  clear hb1
  go_wp2_with fail
  go_ret2
  exact ⟨rfl, HB.out⟩
set_option maxRecDepth 100000 in
set_option maxHeartbeats 800000 in
theorem refLast_nil (w : World) : Calls Try.prog 19 #[.agg (cells (toldL []).at)] w (AnsN 0 false w) := by
  go_enter Try.func19, Try.ntmps19
  go_wp2_with (first
    | (refine wpList_load_row rfl 26 (.tmp 1) rfl w.heap.size rfl 26 _ (0, 0) _ (heap_alloc_last _ _) Try.underlying26 rfl (size26 _) ?_)
    | fail)
  refine (refOrder_cast [] ⟨by simp, by simp⟩ _).mono ?_
  rintro e w1 ⟨A, c, rfl, hrow, hb1⟩
  have HB := Lib.hid (below_alloc1 hb1)
  rw [show (castL []).length = 0 from rfl]
  clear hb1 hrow
  go_wp2_with fail
  go_ret2
  exact ⟨rfl, HB.out⟩
set_option maxRecDepth 100000 in
set_option maxHeartbeats 800000 in
theorem refLast_some (m : List Nat) (b : Nat) (hv : Valid (m ++ [b])) (w : World) : Calls Try.prog 19 #[.agg (cells (toldL (m ++ [b])).at)] w (AnsN b true w) := by
  have hl64 := hv.len
  rw [List.length_append] at hl64
  have HV := Lib.hid hv
  clear hv
  have hn : (castL (m ++ [b])).length = m.length + 1 := by rw [castL_len]; simp
  have HN := Lib.hid hn
  clear hn
  go_enter Try.func19, Try.ntmps19
  go_wp2_with (first
    | (refine wpList_load_row rfl 26 (.tmp 1) rfl w.heap.size rfl 26 _ (0, 0) _ (heap_alloc_last _ _) Try.underlying26 rfl (size26 _) ?_)
    | fail)
  refine (refOrder_cast (m ++ [b]) HV.out _).mono ?_
  rintro e w1 ⟨A, c, rfl, hrow, hb1⟩
  have HB := Lib.hid (below_alloc1 hb1)
  rw [HN.out]
  obtain ⟨p, rfl, hpb, hp0⟩ := hrow m.length (by rw [HN.out]; omega)
  have hp : w1.cell? (p.add m.length) = some (.int .i64 b) := by rw [hp0]; simp [castL]
  have he0 : (((m.length + 1 : Nat) : Int) == 0) = false := by simp; omega
  have he1 : IntKind.i64.wrap (((m.length + 1 : Nat) : Int) - 1) = (m.length : Int) := by rw [List.length_singleton] at hl64; rw [IntKind.wrap_i64]; omega
  have he2 : ((m.length + 1 : Nat) : Int) = (m.length : Int) + 1 := by omega
  rw [he2] at he0 he1
  clear he2
  clear hb1 hrow hp0
  go_wp2_with fail
  go_ret2
  exact ⟨rfl, HB.out⟩
end Go.Proofs.Ytgbhfagmbkoobaa
