/-
  THE WALK OF ListBack.
-/
import Derived.Test.YtgbhfagmbkoobaaSpec
namespace Go.Proofs.Ytgbhfagmbkoobaa
open Go.RowKit
theorem same_back (A B : Option Addr) (c d : Nat) (l : List Int) (hll : l.length ≤ 1000) (w : World) (hl : RowI w A l) (hm : RowI w B l) : Calls Try.prog 20 #[.slice A l.length c, .slice B l.length d] w fun e w' => e = .returned (.bool true) ∧ Below w.heap.size w w' :=
  (same_any A B c d l l hll w hl hm).mono fun e w' h => ⟨by rw [h.1]; simp, h.2⟩
theorem of_bad (A : Option Addr) (c : Nat) (xs : List Int) (hn : xs.length ≤ 1000) (hv : ∀ l, Valid l → xs ≠ castL l) (w : World) (hr : RowI w A xs) : Calls Try.prog 10 #[.slice A xs.length c] w (Ans (toldL []) 110 w) :=
  (of_any A c xs hn w hr).mono fun e w' h => by
    obtain ⟨s, n, he, hb, ⟨l, hl, hx, _⟩ | ⟨_, rfl, rfl⟩⟩ := h
    · exact absurd hx (hv l hl)
    · exact ⟨he, hb⟩
theorem of_nil (w : World) : Calls Try.prog 10 #[.slice none 0 0] w (Ans (toldL []) 0 w) :=
  (of_told none 0 [] ⟨by simp, by simp⟩ w (fun j hj => absurd hj (by simp [castL]))).mono fun _ _ h => h
theorem order_nil (w : World) : Calls Try.prog 12 #[.agg (cells (toldL []).at)] w fun e w' => ∃ A c, e = .returned (.tuple #[.slice A 0 c, .bool true]) ∧ RowI w' A [] ∧ Below w.heap.size w w' := order_told [] ⟨by simp, by simp⟩ w
attribute [local go_sem] zero26
set_option maxRecDepth 100000 in
set_option maxHeartbeats 2000000 in
theorem back_yy (A : Option Addr) (c : Nat) (l : List Nat) (hl : Valid l) (m : List Nat) (hm : Valid m) (w : World) (hr : RowI w A (castL l)) : Calls Try.prog 5 #[.slice A (castL l).length c, .agg (cells (toldL m).at)] w fun e w' => e = .returned (.bool true) ∧ Below w.heap.size w w' := by
  have hn : (castL l).length ≤ 64 := by rw [castL_len]; exact hl.len
  have hd : decide (100 < ((castL l).length : Int)) = false := by simp; omega
  have HL := Lib.hid hl
  have HM := Lib.hid hm
  have RA0 := Lib.hid hr
  clear hr hl hm
  go_enter Try.func5, Try.ntmps5
  go_wp2_with fail
  refine (awake_any _).mono ?_
  rintro e w1 ⟨rfl, hb⟩
  have RA := Lib.hid ((RA0.out.below ((Below.refl _ _).alloc (Nat.le_refl _) (.cells (cells (toldL m).at) 26))).below hb)
  have HX := Lib.hid (Lies.below (g := w.heap.size) (c := (toldL m).at) ⟨heap_alloc_last w _⟩ hb)
  have HB := Lib.hid (below_alloc1 hb)
  clear hb RA0
  go_wp2_with fail
  refine (of_told A c l HL.out _ RA.out).mono ?_
  rintro e w2 ⟨rfl, hb⟩
  have RAn := Lib.hid (RA.out.below hb)
  have HXn := Lib.hid (HX.out.below hb)
  have HBn := Lib.hid (HB.out.trans (hb.mono HB.out.size))
  clear hb HB RA HX
  have RA := RAn
  clear RAn
  have HX := HXn
  clear HXn
  have HB := HBn
  clear HBn
  have RAn := Lib.hid (RA.out.below ((Below.refl w2.heap.size w2).alloc (Nat.le_refl _) (.cells (cells (toldL l).at) 26)))
  have HXn := Lib.hid (HX.out.below ((Below.refl w2.heap.size w2).alloc (Nat.le_refl _) (.cells (cells (toldL l).at) 26)))
  have HBn := Lib.hid (HB.out.alloc HB.out.size (.cells (cells (toldL l).at) 26))
  have H6 := Lib.hid (Lies.new w2 (toldL l).at)
  clear HB RA HX
  have RA := RAn
  clear RAn
  have HX := HXn
  clear HXn
  have HB := HBn
  clear HBn
  go_wp2_with (first
    | (refine wpList_store_row rfl 26 (.tmp 6) (.tmp 22) rfl w2.heap.size _ rfl rfl 26 _ (heap_alloc_last _ _) (size26 _) (size_same _ _) (Flat.all (Flat.at _)) ?_; rw [World.setRow_alloc_new])
    | (refine wpList_load_row rfl 26 (.tmp 6) rfl w2.heap.size rfl 26 _ (0, 0) _ H6.out.row Try.underlying26 rfl (size26 _) ?_)
    | fail)
  refine (order_cast l HL.out _).mono ?_
  rintro e w3 ⟨A8, c8, rfl, hr, hb⟩
  have RAn := Lib.hid (RA.out.below hb)
  have HXn := Lib.hid (HX.out.below hb)
  have H6n := Lib.hid (H6.out.below hb)
  have HBn := Lib.hid (HB.out.trans (hb.mono HB.out.size))
  have R8 := Lib.hid hr
  clear hr
  clear hb HB RA HX H6
  have RA := RAn
  clear RAn
  have HX := HXn
  clear HXn
  have H6 := H6n
  clear H6n
  have HB := HBn
  clear HBn
  go_wp2_with (first
    | (refine wpList_load_row rfl 26 (.tmp 3) rfl w.heap.size rfl 26 _ (0, 0) _ HX.out.row Try.underlying26 rfl (size26 _) ?_)
    | fail)
  refine (order_cast m HM.out _).mono ?_
  rintro e w4 ⟨A10, c10, rfl, hr, hb⟩
  have RAn := Lib.hid (RA.out.below hb)
  have HXn := Lib.hid (HX.out.below hb)
  have H6n := Lib.hid (H6.out.below hb)
  have R8n := Lib.hid (R8.out.below hb)
  have HBn := Lib.hid (HB.out.trans (hb.mono HB.out.size))
  have R10 := Lib.hid hr
  clear hr
  clear hb HB RA HX H6 R8
  have RA := RAn
  clear RAn
  have HX := HXn
  clear HXn
  have H6 := H6n
  clear H6n
  have R8 := R8n
  clear R8n
  have HB := HBn
  clear HBn
  go_wp2_with (first
    | fail)
  refine (of_told A10 c10 m HM.out _ R10.out).mono ?_
  rintro e w5 ⟨rfl, hb⟩
  have RAn := Lib.hid (RA.out.below hb)
  have HXn := Lib.hid (HX.out.below hb)
  have H6n := Lib.hid (H6.out.below hb)
  have R8n := Lib.hid (R8.out.below hb)
  have R10n := Lib.hid (R10.out.below hb)
  have HBn := Lib.hid (HB.out.trans (hb.mono HB.out.size))
  clear hb HB RA HX H6 R8 R10
  have RA := RAn
  clear RAn
  have HX := HXn
  clear HXn
  have H6 := H6n
  clear H6n
  have R8 := R8n
  clear R8n
  have R10 := R10n
  clear R10n
  have HB := HBn
  clear HBn
  have RAn := Lib.hid (RA.out.below ((Below.refl w5.heap.size w5).alloc (Nat.le_refl _) (.cells (cells (toldL m).at) 26)))
  have HXn := Lib.hid (HX.out.below ((Below.refl w5.heap.size w5).alloc (Nat.le_refl _) (.cells (cells (toldL m).at) 26)))
  have H6n := Lib.hid (H6.out.below ((Below.refl w5.heap.size w5).alloc (Nat.le_refl _) (.cells (cells (toldL m).at) 26)))
  have R8n := Lib.hid (R8.out.below ((Below.refl w5.heap.size w5).alloc (Nat.le_refl _) (.cells (cells (toldL m).at) 26)))
  have R10n := Lib.hid (R10.out.below ((Below.refl w5.heap.size w5).alloc (Nat.le_refl _) (.cells (cells (toldL m).at) 26)))
  have HBn := Lib.hid (HB.out.alloc HB.out.size (.cells (cells (toldL m).at) 26))
  have H12 := Lib.hid (Lies.new w5 (toldL m).at)
  clear HB RA HX H6 R8 R10
  have RA := RAn
  clear RAn
  have HX := HXn
  clear HXn
  have H6 := H6n
  clear H6n
  have R8 := R8n
  clear R8n
  have R10 := R10n
  clear R10n
  have HB := HBn
  clear HBn
  go_wp2_with (first
    | (refine wpList_store_row rfl 26 (.tmp 12) (.tmp 37) rfl w5.heap.size _ rfl rfl 26 _ (heap_alloc_last _ _) (size26 _) (size_same _ _) (Flat.all (Flat.at _)) ?_; rw [World.setRow_alloc_new])
    | fail)
  refine (same_back _ _ _ _ (castL l) (by omega) _ R8.out RA.out).mono ?_
  rintro e w6 ⟨rfl, hb⟩
  have RAn := Lib.hid (RA.out.below hb)
  have HXn := Lib.hid (HX.out.below hb)
  have H6n := Lib.hid (H6.out.below hb)
  have R8n := Lib.hid (R8.out.below hb)
  have R10n := Lib.hid (R10.out.below hb)
  have H12n := Lib.hid (H12.out.below hb)
  have HBn := Lib.hid (HB.out.trans (hb.mono HB.out.size))
  clear hb HB RA HX H6 R8 R10 H12
  have RA := RAn
  clear RAn
  have HX := HXn
  clear HXn
  have H6 := H6n
  clear H6n
  have R8 := R8n
  clear R8n
  have R10 := R10n
  clear R10n
  have H12 := H12n
  clear H12n
  have HB := HBn
  clear HBn
  go_wp2_with (first
    | (refine wpList_load_any (by kernel_rfl) 26 (.tmp 12) rfl w5.heap.size 0 rfl _ H12.out.load ?_)
    | (refine wpList_load_any (by kernel_rfl) 26 (.tmp 3) rfl w.heap.size 0 rfl _ HX.out.load ?_)
    | (refine wpList_eql26 (by kernel_rfl) (.tmp 68) (.tmp 69) rfl (toldL m) (toldL m) rfl rfl true (eqB_refl _) ?_)
    | fail)
  go_ret
  exact ⟨rfl, HB.out⟩
set_option maxRecDepth 100000 in
set_option maxHeartbeats 2000000 in
theorem back_yn (A : Option Addr) (c : Nat) (l : List Nat) (hl : Valid l) (x : Ls) (hm : NoTell x) (w : World) (hr : RowI w A (castL l)) : Calls Try.prog 5 #[.slice A (castL l).length c, .agg (cells x.at)] w fun e w' => e = .returned (.bool true) ∧ Below w.heap.size w w' := by
  have hn : (castL l).length ≤ 64 := by rw [castL_len]; exact hl.len
  have hd : decide (100 < ((castL l).length : Int)) = false := by simp; omega
  have HL := Lib.hid hl
  have HM := Lib.hid hm
  have RA0 := Lib.hid hr
  clear hr hl hm
  go_enter Try.func5, Try.ntmps5
  go_wp2_with fail
  refine (awake_any _).mono ?_
  rintro e w1 ⟨rfl, hb⟩
  have RA := Lib.hid ((RA0.out.below ((Below.refl _ _).alloc (Nat.le_refl _) (.cells (cells x.at) 26))).below hb)
  have HX := Lib.hid (Lies.below (g := w.heap.size) (c := x.at) ⟨heap_alloc_last w _⟩ hb)
  have HB := Lib.hid (below_alloc1 hb)
  clear hb RA0
  go_wp2_with fail
  refine (of_told A c l HL.out _ RA.out).mono ?_
  rintro e w2 ⟨rfl, hb⟩
  have RAn := Lib.hid (RA.out.below hb)
  have HXn := Lib.hid (HX.out.below hb)
  have HBn := Lib.hid (HB.out.trans (hb.mono HB.out.size))
  clear hb HB RA HX
  have RA := RAn
  clear RAn
  have HX := HXn
  clear HXn
  have HB := HBn
  clear HBn
  have RAn := Lib.hid (RA.out.below ((Below.refl w2.heap.size w2).alloc (Nat.le_refl _) (.cells (cells (toldL l).at) 26)))
  have HXn := Lib.hid (HX.out.below ((Below.refl w2.heap.size w2).alloc (Nat.le_refl _) (.cells (cells (toldL l).at) 26)))
  have HBn := Lib.hid (HB.out.alloc HB.out.size (.cells (cells (toldL l).at) 26))
  have H6 := Lib.hid (Lies.new w2 (toldL l).at)
  clear HB RA HX
  have RA := RAn
  clear RAn
  have HX := HXn
  clear HXn
  have HB := HBn
  clear HBn
  go_wp2_with (first
    | (refine wpList_store_row rfl 26 (.tmp 6) (.tmp 22) rfl w2.heap.size _ rfl rfl 26 _ (heap_alloc_last _ _) (size26 _) (size_same _ _) (Flat.all (Flat.at _)) ?_; rw [World.setRow_alloc_new])
    | (refine wpList_load_row rfl 26 (.tmp 6) rfl w2.heap.size rfl 26 _ (0, 0) _ H6.out.row Try.underlying26 rfl (size26 _) ?_)
    | fail)
  refine (order_cast l HL.out _).mono ?_
  rintro e w3 ⟨A8, c8, rfl, hr, hb⟩
  have RAn := Lib.hid (RA.out.below hb)
  have HXn := Lib.hid (HX.out.below hb)
  have H6n := Lib.hid (H6.out.below hb)
  have HBn := Lib.hid (HB.out.trans (hb.mono HB.out.size))
  have R8 := Lib.hid hr
  clear hr
  clear hb HB RA HX H6
  have RA := RAn
  clear RAn
  have HX := HXn
  clear HXn
  have H6 := H6n
  clear H6n
  have HB := HBn
  clear HBn
  go_wp2_with (first
    | (refine wpList_load_row rfl 26 (.tmp 3) rfl w.heap.size rfl 26 _ (0, 0) _ HX.out.row Try.underlying26 rfl (size26 _) ?_)
    | fail)
  refine (order_none x HM.out _).mono ?_
  rintro e w4 ⟨rfl, hb⟩
  have RAn := Lib.hid (RA.out.below hb)
  have HXn := Lib.hid (HX.out.below hb)
  have H6n := Lib.hid (H6.out.below hb)
  have R8n := Lib.hid (R8.out.below hb)
  have HBn := Lib.hid (HB.out.trans (hb.mono HB.out.size))
  clear hb HB RA HX H6 R8
  have RA := RAn
  clear RAn
  have HX := HXn
  clear HXn
  have H6 := H6n
  clear H6n
  have R8 := R8n
  clear R8n
  have HB := HBn
  clear HBn
  go_wp2_with (first
    | fail)
  refine (of_nil _).mono ?_
  rintro e w5 ⟨rfl, hb⟩
  have RAn := Lib.hid (RA.out.below hb)
  have HXn := Lib.hid (HX.out.below hb)
  have H6n := Lib.hid (H6.out.below hb)
  have R8n := Lib.hid (R8.out.below hb)
  have HBn := Lib.hid (HB.out.trans (hb.mono HB.out.size))
  clear hb HB RA HX H6 R8
  have RA := RAn
  clear RAn
  have HX := HXn
  clear HXn
  have H6 := H6n
  clear H6n
  have R8 := R8n
  clear R8n
  have HB := HBn
  clear HBn
  have RAn := Lib.hid (RA.out.below ((Below.refl w5.heap.size w5).alloc (Nat.le_refl _) (.cells (cells (toldL []).at) 26)))
  have HXn := Lib.hid (HX.out.below ((Below.refl w5.heap.size w5).alloc (Nat.le_refl _) (.cells (cells (toldL []).at) 26)))
  have H6n := Lib.hid (H6.out.below ((Below.refl w5.heap.size w5).alloc (Nat.le_refl _) (.cells (cells (toldL []).at) 26)))
  have R8n := Lib.hid (R8.out.below ((Below.refl w5.heap.size w5).alloc (Nat.le_refl _) (.cells (cells (toldL []).at) 26)))
  have HBn := Lib.hid (HB.out.alloc HB.out.size (.cells (cells (toldL []).at) 26))
  have H12 := Lib.hid (Lies.new w5 (toldL []).at)
  clear HB RA HX H6 R8
  have RA := RAn
  clear RAn
  have HX := HXn
  clear HXn
  have H6 := H6n
  clear H6n
  have R8 := R8n
  clear R8n
  have HB := HBn
  clear HBn
  go_wp2_with (first
    | (refine wpList_store_row rfl 26 (.tmp 12) (.tmp 37) rfl w5.heap.size _ rfl rfl 26 _ (heap_alloc_last _ _) (size26 _) (size_same _ _) (Flat.all (Flat.at _)) ?_; rw [World.setRow_alloc_new])
    | fail)
  refine (same_back _ _ _ _ (castL l) (by omega) _ R8.out RA.out).mono ?_
  rintro e w6 ⟨rfl, hb⟩
  have RAn := Lib.hid (RA.out.below hb)
  have HXn := Lib.hid (HX.out.below hb)
  have H6n := Lib.hid (H6.out.below hb)
  have R8n := Lib.hid (R8.out.below hb)
  have H12n := Lib.hid (H12.out.below hb)
  have HBn := Lib.hid (HB.out.trans (hb.mono HB.out.size))
  clear hb HB RA HX H6 R8 H12
  have RA := RAn
  clear RAn
  have HX := HXn
  clear HXn
  have H6 := H6n
  clear H6n
  have R8 := R8n
  clear R8n
  have H12 := H12n
  clear H12n
  have HB := HBn
  clear HBn
  go_wp2_with (first
    | fail)
  go_ret
  exact ⟨rfl, HB.out⟩
set_option maxRecDepth 100000 in
set_option maxHeartbeats 2000000 in
theorem back_ny (A : Option Addr) (c : Nat) (xs : List Int) (hn : xs.length ≤ 100) (hl : ∀ l, Valid l → xs ≠ castL l) (m : List Nat) (hm : Valid m) (w : World) (hr : RowI w A xs) : Calls Try.prog 5 #[.slice A xs.length c, .agg (cells (toldL m).at)] w fun e w' => e = .returned (.bool true) ∧ Below w.heap.size w w' := by
  have hd : decide (100 < (xs.length : Int)) = false := by simp; omega
  have HL := Lib.hid hl
  have HM := Lib.hid hm
  have RA0 := Lib.hid hr
  clear hr hl hm
  go_enter Try.func5, Try.ntmps5
  go_wp2_with fail
  refine (awake_any _).mono ?_
  rintro e w1 ⟨rfl, hb⟩
  have RA := Lib.hid ((RA0.out.below ((Below.refl _ _).alloc (Nat.le_refl _) (.cells (cells (toldL m).at) 26))).below hb)
  have HX := Lib.hid (Lies.below (g := w.heap.size) (c := (toldL m).at) ⟨heap_alloc_last w _⟩ hb)
  have HB := Lib.hid (below_alloc1 hb)
  clear hb RA0
  go_wp2_with fail
  refine (of_bad A c xs (by omega) HL.out _ RA.out).mono ?_
  rintro e w2 ⟨rfl, hb⟩
  have RAn := Lib.hid (RA.out.below hb)
  have HXn := Lib.hid (HX.out.below hb)
  have HBn := Lib.hid (HB.out.trans (hb.mono HB.out.size))
  clear hb HB RA HX
  have RA := RAn
  clear RAn
  have HX := HXn
  clear HXn
  have HB := HBn
  clear HBn
  have RAn := Lib.hid (RA.out.below ((Below.refl w2.heap.size w2).alloc (Nat.le_refl _) (.cells (cells (toldL []).at) 26)))
  have HXn := Lib.hid (HX.out.below ((Below.refl w2.heap.size w2).alloc (Nat.le_refl _) (.cells (cells (toldL []).at) 26)))
  have HBn := Lib.hid (HB.out.alloc HB.out.size (.cells (cells (toldL []).at) 26))
  have H6 := Lib.hid (Lies.new w2 (toldL []).at)
  clear HB RA HX
  have RA := RAn
  clear RAn
  have HX := HXn
  clear HXn
  have HB := HBn
  clear HBn
  go_wp2_with (first
    | (refine wpList_store_row rfl 26 (.tmp 6) (.tmp 22) rfl w2.heap.size _ rfl rfl 26 _ (heap_alloc_last _ _) (size26 _) (size_same _ _) (Flat.all (Flat.at _)) ?_; rw [World.setRow_alloc_new])
    | (refine wpList_load_row rfl 26 (.tmp 6) rfl w2.heap.size rfl 26 _ (0, 0) _ H6.out.row Try.underlying26 rfl (size26 _) ?_)
    | fail)
  refine (order_nil _).mono ?_
  rintro e w3 ⟨A8, c8, rfl, hr, hb⟩
  have RAn := Lib.hid (RA.out.below hb)
  have HXn := Lib.hid (HX.out.below hb)
  have H6n := Lib.hid (H6.out.below hb)
  have HBn := Lib.hid (HB.out.trans (hb.mono HB.out.size))
  have R8 := Lib.hid hr
  clear hr
  clear hb HB RA HX H6
  have RA := RAn
  clear RAn
  have HX := HXn
  clear HXn
  have H6 := H6n
  clear H6n
  have HB := HBn
  clear HBn
  go_wp2_with (first
    | (refine wpList_load_row rfl 26 (.tmp 3) rfl w.heap.size rfl 26 _ (0, 0) _ HX.out.row Try.underlying26 rfl (size26 _) ?_)
    | fail)
  refine (order_cast m HM.out _).mono ?_
  rintro e w4 ⟨A10, c10, rfl, hr, hb⟩
  have RAn := Lib.hid (RA.out.below hb)
  have HXn := Lib.hid (HX.out.below hb)
  have H6n := Lib.hid (H6.out.below hb)
  have R8n := Lib.hid (R8.out.below hb)
  have HBn := Lib.hid (HB.out.trans (hb.mono HB.out.size))
  have R10 := Lib.hid hr
  clear hr
  clear hb HB RA HX H6 R8
  have RA := RAn
  clear RAn
  have HX := HXn
  clear HXn
  have H6 := H6n
  clear H6n
  have R8 := R8n
  clear R8n
  have HB := HBn
  clear HBn
  go_wp2_with (first
    | fail)
  refine (of_told A10 c10 m HM.out _ R10.out).mono ?_
  rintro e w5 ⟨rfl, hb⟩
  have RAn := Lib.hid (RA.out.below hb)
  have HXn := Lib.hid (HX.out.below hb)
  have H6n := Lib.hid (H6.out.below hb)
  have R8n := Lib.hid (R8.out.below hb)
  have R10n := Lib.hid (R10.out.below hb)
  have HBn := Lib.hid (HB.out.trans (hb.mono HB.out.size))
  clear hb HB RA HX H6 R8 R10
  have RA := RAn
  clear RAn
  have HX := HXn
  clear HXn
  have H6 := H6n
  clear H6n
  have R8 := R8n
  clear R8n
  have R10 := R10n
  clear R10n
  have HB := HBn
  clear HBn
  have RAn := Lib.hid (RA.out.below ((Below.refl w5.heap.size w5).alloc (Nat.le_refl _) (.cells (cells (toldL m).at) 26)))
  have HXn := Lib.hid (HX.out.below ((Below.refl w5.heap.size w5).alloc (Nat.le_refl _) (.cells (cells (toldL m).at) 26)))
  have H6n := Lib.hid (H6.out.below ((Below.refl w5.heap.size w5).alloc (Nat.le_refl _) (.cells (cells (toldL m).at) 26)))
  have R8n := Lib.hid (R8.out.below ((Below.refl w5.heap.size w5).alloc (Nat.le_refl _) (.cells (cells (toldL m).at) 26)))
  have R10n := Lib.hid (R10.out.below ((Below.refl w5.heap.size w5).alloc (Nat.le_refl _) (.cells (cells (toldL m).at) 26)))
  have HBn := Lib.hid (HB.out.alloc HB.out.size (.cells (cells (toldL m).at) 26))
  have H12 := Lib.hid (Lies.new w5 (toldL m).at)
  clear HB RA HX H6 R8 R10
  have RA := RAn
  clear RAn
  have HX := HXn
  clear HXn
  have H6 := H6n
  clear H6n
  have R8 := R8n
  clear R8n
  have R10 := R10n
  clear R10n
  have HB := HBn
  clear HBn
  go_wp2_with (first
    | (refine wpList_store_row rfl 26 (.tmp 12) (.tmp 37) rfl w5.heap.size _ rfl rfl 26 _ (heap_alloc_last _ _) (size26 _) (size_same _ _) (Flat.all (Flat.at _)) ?_; rw [World.setRow_alloc_new])
    | (refine wpList_load_any (by kernel_rfl) 26 (.tmp 12) rfl w5.heap.size 0 rfl _ H12.out.load ?_)
    | (refine wpList_load_any (by kernel_rfl) 26 (.tmp 3) rfl w.heap.size 0 rfl _ HX.out.load ?_)
    | (refine wpList_eql26 (by kernel_rfl) (.tmp 68) (.tmp 69) rfl (toldL m) (toldL m) rfl rfl true (eqB_refl _) ?_)
    | fail)
  go_ret
  exact ⟨rfl, HB.out⟩
set_option maxRecDepth 100000 in
set_option maxHeartbeats 2000000 in
theorem back_nn (A : Option Addr) (c : Nat) (xs : List Int) (hn : xs.length ≤ 100) (hl : ∀ l, Valid l → xs ≠ castL l) (x : Ls) (hm : NoTell x) (w : World) (hr : RowI w A xs) : Calls Try.prog 5 #[.slice A xs.length c, .agg (cells x.at)] w fun e w' => e = .returned (.bool true) ∧ Below w.heap.size w w' := by
  have hd : decide (100 < (xs.length : Int)) = false := by simp; omega
  have HL := Lib.hid hl
  have HM := Lib.hid hm
  have RA0 := Lib.hid hr
  clear hr hl hm
  go_enter Try.func5, Try.ntmps5
  go_wp2_with fail
  refine (awake_any _).mono ?_
  rintro e w1 ⟨rfl, hb⟩
  have RA := Lib.hid ((RA0.out.below ((Below.refl _ _).alloc (Nat.le_refl _) (.cells (cells x.at) 26))).below hb)
  have HX := Lib.hid (Lies.below (g := w.heap.size) (c := x.at) ⟨heap_alloc_last w _⟩ hb)
  have HB := Lib.hid (below_alloc1 hb)
  clear hb RA0
  go_wp2_with fail
  refine (of_bad A c xs (by omega) HL.out _ RA.out).mono ?_
  rintro e w2 ⟨rfl, hb⟩
  have RAn := Lib.hid (RA.out.below hb)
  have HXn := Lib.hid (HX.out.below hb)
  have HBn := Lib.hid (HB.out.trans (hb.mono HB.out.size))
  clear hb HB RA HX
  have RA := RAn
  clear RAn
  have HX := HXn
  clear HXn
  have HB := HBn
  clear HBn
  have RAn := Lib.hid (RA.out.below ((Below.refl w2.heap.size w2).alloc (Nat.le_refl _) (.cells (cells (toldL []).at) 26)))
  have HXn := Lib.hid (HX.out.below ((Below.refl w2.heap.size w2).alloc (Nat.le_refl _) (.cells (cells (toldL []).at) 26)))
  have HBn := Lib.hid (HB.out.alloc HB.out.size (.cells (cells (toldL []).at) 26))
  have H6 := Lib.hid (Lies.new w2 (toldL []).at)
  clear HB RA HX
  have RA := RAn
  clear RAn
  have HX := HXn
  clear HXn
  have HB := HBn
  clear HBn
  go_wp2_with (first
    | (refine wpList_store_row rfl 26 (.tmp 6) (.tmp 22) rfl w2.heap.size _ rfl rfl 26 _ (heap_alloc_last _ _) (size26 _) (size_same _ _) (Flat.all (Flat.at _)) ?_; rw [World.setRow_alloc_new])
    | (refine wpList_load_row rfl 26 (.tmp 6) rfl w2.heap.size rfl 26 _ (0, 0) _ H6.out.row Try.underlying26 rfl (size26 _) ?_)
    | fail)
  refine (order_nil _).mono ?_
  rintro e w3 ⟨A8, c8, rfl, hr, hb⟩
  have RAn := Lib.hid (RA.out.below hb)
  have HXn := Lib.hid (HX.out.below hb)
  have H6n := Lib.hid (H6.out.below hb)
  have HBn := Lib.hid (HB.out.trans (hb.mono HB.out.size))
  have R8 := Lib.hid hr
  clear hr
  clear hb HB RA HX H6
  have RA := RAn
  clear RAn
  have HX := HXn
  clear HXn
  have H6 := H6n
  clear H6n
  have HB := HBn
  clear HBn
  go_wp2_with (first
    | (refine wpList_load_row rfl 26 (.tmp 3) rfl w.heap.size rfl 26 _ (0, 0) _ HX.out.row Try.underlying26 rfl (size26 _) ?_)
    | fail)
  refine (order_none x HM.out _).mono ?_
  rintro e w4 ⟨rfl, hb⟩
  have RAn := Lib.hid (RA.out.below hb)
  have HXn := Lib.hid (HX.out.below hb)
  have H6n := Lib.hid (H6.out.below hb)
  have R8n := Lib.hid (R8.out.below hb)
  have HBn := Lib.hid (HB.out.trans (hb.mono HB.out.size))
  clear hb HB RA HX H6 R8
  have RA := RAn
  clear RAn
  have HX := HXn
  clear HXn
  have H6 := H6n
  clear H6n
  have R8 := R8n
  clear R8n
  have HB := HBn
  clear HBn
  go_wp2_with (first
    | fail)
  refine (of_nil _).mono ?_
  rintro e w5 ⟨rfl, hb⟩
  have RAn := Lib.hid (RA.out.below hb)
  have HXn := Lib.hid (HX.out.below hb)
  have H6n := Lib.hid (H6.out.below hb)
  have R8n := Lib.hid (R8.out.below hb)
  have HBn := Lib.hid (HB.out.trans (hb.mono HB.out.size))
  clear hb HB RA HX H6 R8
  have RA := RAn
  clear RAn
  have HX := HXn
  clear HXn
  have H6 := H6n
  clear H6n
  have R8 := R8n
  clear R8n
  have HB := HBn
  clear HBn
  have RAn := Lib.hid (RA.out.below ((Below.refl w5.heap.size w5).alloc (Nat.le_refl _) (.cells (cells (toldL []).at) 26)))
  have HXn := Lib.hid (HX.out.below ((Below.refl w5.heap.size w5).alloc (Nat.le_refl _) (.cells (cells (toldL []).at) 26)))
  have H6n := Lib.hid (H6.out.below ((Below.refl w5.heap.size w5).alloc (Nat.le_refl _) (.cells (cells (toldL []).at) 26)))
  have R8n := Lib.hid (R8.out.below ((Below.refl w5.heap.size w5).alloc (Nat.le_refl _) (.cells (cells (toldL []).at) 26)))
  have HBn := Lib.hid (HB.out.alloc HB.out.size (.cells (cells (toldL []).at) 26))
  have H12 := Lib.hid (Lies.new w5 (toldL []).at)
  clear HB RA HX H6 R8
  have RA := RAn
  clear RAn
  have HX := HXn
  clear HXn
  have H6 := H6n
  clear H6n
  have R8 := R8n
  clear R8n
  have HB := HBn
  clear HBn
  go_wp2_with (first
    | (refine wpList_store_row rfl 26 (.tmp 12) (.tmp 37) rfl w5.heap.size _ rfl rfl 26 _ (heap_alloc_last _ _) (size26 _) (size_same _ _) (Flat.all (Flat.at _)) ?_; rw [World.setRow_alloc_new])
    | fail)
  go_ret
  exact ⟨rfl, HB.out⟩
set_option maxRecDepth 100000 in
set_option maxHeartbeats 800000 in
theorem back_long (A : Option Addr) (c : Nat) (xs : List Int) (hn : ¬ xs.length ≤ 100) (x : Ls) (w : World) : Calls Try.prog 5 #[.slice A xs.length c, .agg (cells x.at)] w fun e w' => e = .returned (.bool true) ∧ Below w.heap.size w w' := by
  have hd : decide (100 < (xs.length : Int)) = true := by simp; omega
  clear hn
  go_enter Try.func5, Try.ntmps5
  go_wp2_with fail
  refine (awake_any _).mono ?_
  rintro e w1 ⟨rfl, hb⟩
  have HB := Lib.hid (below_alloc1 hb)
  clear hb
  go_wp2_with fail
  go_ret
  exact ⟨rfl, HB.out⟩
theorem listBack_walk (A : Option Addr) (c : Nat) (xs : List Int) (_ : xs.length ≤ 9223372036854775807) {w : World} (hr : RowI w A xs) (x : Ls) (_ : World) : Calls Try.prog 5 #[.slice A xs.length c, .agg (cells x.at)] w fun e w' => e = .returned (.bool true) ∧ Below w.heap.size w w' := by
  by_cases hn : xs.length ≤ 100
  · by_cases hl : ∃ l, Valid l ∧ xs = castL l
    · obtain ⟨l, hl, rfl⟩ := hl
      rcases told_or x with ⟨m, hm, e⟩ | hm
      · rw [e]; exact back_yy A c l hl m hm w hr
      · exact back_yn A c l hl x hm w hr
    · have hl' : ∀ l, Valid l → xs ≠ castL l := fun l h e => hl ⟨l, h, e⟩
      rcases told_or x with ⟨m, hm, e⟩ | hm
      · rw [e]; exact back_ny A c xs hn hl' m hm w hr
      · exact back_nn A c xs hn hl' x hm w hr
  · exact back_long A c xs hn x w
end Go.Proofs.Ytgbhfagmbkoobaa
