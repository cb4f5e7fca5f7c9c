/-
  THE WALK OF ListTells.
-/
import Derived.Test.YtgbhfagmbkoobaaSpec
namespace Go.Proofs.Ytgbhfagmbkoobaa
open Go.RowKit
theorem same_refl (A B : Option Addr) (c d : Nat) (l : List Int) (hll : l.length ≤ 1000) (w : World) (hl : RowI w A l) (hm : RowI w B l) : Calls Try.prog 20 #[.slice A l.length c, .slice B l.length d] w fun e w' => e = .returned (.bool true) ∧ Below w.heap.size w w' :=
  (same_any A B c d l l hll w hl hm).mono fun e w' h => ⟨by rw [h.1]; simp, h.2⟩
attribute [local go_sem] zero26
set_option maxRecDepth 100000 in
set_option maxHeartbeats 4000000 in
theorem tells_ok (A : Option Addr) (c : Nat) (xs : List Int) (hn : xs.length ≤ 100) (x : Ls) (id : Int) (w : World) (hr : RowI w A xs) : Calls Try.prog 3 #[.slice A xs.length c, .agg (cells x.at), .int .i64 id] w fun e w' => e = .returned (.bool true) ∧ Below w.heap.size w w' := by
  have hd : decide (100 < (xs.length : Int)) = false := by simp; omega
  have RA0 := Lib.hid hr
  clear hr
  go_enter Try.func3, Try.ntmps3
  go_wp2_with fail
  refine (awake_any _).mono ?_
  rintro e w1 ⟨rfl, hb⟩
  have RA := Lib.hid ((RA0.out.below ((Below.refl _ _).alloc (Nat.le_refl _) (.cells (cells x.at) 26))).below hb)
  have HX := Lib.hid (Lies.below (g := w.heap.size) (c := x.at) ⟨heap_alloc_last w _⟩ hb)
  have HB := Lib.hid (below_alloc1 hb)
  clear hb RA0
  go_wp2_with fail
  refine (ofS_any A c xs (by omega) _ RA.out).mono ?_
  rintro e w2 ⟨rfl, hb⟩
  have RAn := Lib.hid (RA.out.below hb)
  have HXn := Lib.hid (HX.out.below hb)
  have HBn := Lib.hid (HB.out.trans (hb.mono HB.out.size))
  clear hb HB RA HX
  have RA := RAn
  clear RAn
  have HX := HXn
  clear HXn
  have HB := HBn
  clear HBn
  have RAn := Lib.hid (RA.out.below ((Below.refl w2.heap.size w2).alloc (Nat.le_refl _) (.cells (cells (ofS xs).1.at) 26)))
  have HXn := Lib.hid (HX.out.below ((Below.refl w2.heap.size w2).alloc (Nat.le_refl _) (.cells (cells (ofS xs).1.at) 26)))
  have HBn := Lib.hid (HB.out.alloc HB.out.size (.cells (cells (ofS xs).1.at) 26))
  have H8 := Lib.hid (Lies.new w2 (ofS xs).1.at)
  clear HB RA HX
  have RA := RAn
  clear RAn
  have HX := HXn
  clear HXn
  have HB := HBn
  clear HBn
  go_wp2_with (first
    | (refine wpList_store_row rfl 26 (.tmp 8) (.tmp 36) rfl w2.heap.size _ rfl rfl 26 _ (heap_alloc_last _ _) (size26 _) (size_same _ _) (Flat.all (Flat.at _)) ?_; rw [World.setRow_alloc_new])
    | fail)
  refine (refOfS_any A c xs (by omega) _ RA.out).mono ?_
  rintro e w3 ⟨rfl, hb⟩
  have RAn := Lib.hid (RA.out.below hb)
  have HXn := Lib.hid (HX.out.below hb)
  have H8n := Lib.hid (H8.out.below hb)
  have HBn := Lib.hid (HB.out.trans (hb.mono HB.out.size))
  clear hb HB RA HX H8
  have RA := RAn
  clear RAn
  have HX := HXn
  clear HXn
  have H8 := H8n
  clear H8n
  have HB := HBn
  clear HBn
  have RAn := Lib.hid (RA.out.below ((Below.refl w3.heap.size w3).alloc (Nat.le_refl _) (.cells (cells (ofS xs).1.at) 26)))
  have HXn := Lib.hid (HX.out.below ((Below.refl w3.heap.size w3).alloc (Nat.le_refl _) (.cells (cells (ofS xs).1.at) 26)))
  have H8n := Lib.hid (H8.out.below ((Below.refl w3.heap.size w3).alloc (Nat.le_refl _) (.cells (cells (ofS xs).1.at) 26)))
  have HBn := Lib.hid (HB.out.alloc HB.out.size (.cells (cells (ofS xs).1.at) 26))
  have H10 := Lib.hid (Lies.new w3 (ofS xs).1.at)
  clear HB RA HX H8
  have RA := RAn
  clear RAn
  have HX := HXn
  clear HXn
  have H8 := H8n
  clear H8n
  have HB := HBn
  clear HBn
  go_wp2_with (first
    | (refine wpList_store_row rfl 26 (.tmp 10) (.tmp 41) rfl w3.heap.size _ rfl rfl 26 _ (heap_alloc_last _ _) (size26 _) (size_same _ _) (Flat.all (Flat.at _)) ?_; rw [World.setRow_alloc_new])
    | (refine wpList_load_row rfl 26 (.tmp 4) rfl w.heap.size rfl 26 _ (0, 0) _ HX.out.row Try.underlying26 rfl (size26 _) ?_)
    | fail)
  refine (orderS_any x _).mono ?_
  rintro e w4 ⟨A12, c12, rfl, hr, hb⟩
  have RAn := Lib.hid (RA.out.below hb)
  have HXn := Lib.hid (HX.out.below hb)
  have H8n := Lib.hid (H8.out.below hb)
  have H10n := Lib.hid (H10.out.below hb)
  have HBn := Lib.hid (HB.out.trans (hb.mono HB.out.size))
  have R12 := Lib.hid hr
  clear hr
  clear hb HB RA HX H8 H10
  have RA := RAn
  clear RAn
  have HX := HXn
  clear HXn
  have H8 := H8n
  clear H8n
  have H10 := H10n
  clear H10n
  have HB := HBn
  clear HBn
  go_wp2_with (first
    | (refine wpList_load_row rfl 26 (.tmp 4) rfl w.heap.size rfl 26 _ (0, 0) _ HX.out.row Try.underlying26 rfl (size26 _) ?_)
    | fail)
  refine (refOrderS_any x _).mono ?_
  rintro e w5 ⟨A14, c14, rfl, hr, hb⟩
  have RAn := Lib.hid (RA.out.below hb)
  have HXn := Lib.hid (HX.out.below hb)
  have H8n := Lib.hid (H8.out.below hb)
  have H10n := Lib.hid (H10.out.below hb)
  have R12n := Lib.hid (R12.out.below hb)
  have HBn := Lib.hid (HB.out.trans (hb.mono HB.out.size))
  have R14 := Lib.hid hr
  clear hr
  clear hb HB RA HX H8 H10 R12
  have RA := RAn
  clear RAn
  have HX := HXn
  clear HXn
  have H8 := H8n
  clear H8n
  have H10 := H10n
  clear H10n
  have R12 := R12n
  clear R12n
  have HB := HBn
  clear HBn
  go_wp2_with (first
    | (refine wpList_load_row rfl 26 (.tmp 4) rfl w.heap.size rfl 26 _ (0, 0) _ HX.out.row Try.underlying26 rfl (size26 _) ?_)
    | fail)
  refine (touchS_any x id _).mono ?_
  rintro e w6 ⟨rfl, hb⟩
  have RAn := Lib.hid (RA.out.below hb)
  have HXn := Lib.hid (HX.out.below hb)
  have H8n := Lib.hid (H8.out.below hb)
  have H10n := Lib.hid (H10.out.below hb)
  have R12n := Lib.hid (R12.out.below hb)
  have R14n := Lib.hid (R14.out.below hb)
  have HBn := Lib.hid (HB.out.trans (hb.mono HB.out.size))
  clear hb HB RA HX H8 H10 R12 R14
  have RA := RAn
  clear RAn
  have HX := HXn
  clear HXn
  have H8 := H8n
  clear H8n
  have H10 := H10n
  clear H10n
  have R12 := R12n
  clear R12n
  have R14 := R14n
  clear R14n
  have HB := HBn
  clear HBn
  have RAn := Lib.hid (RA.out.below ((Below.refl w6.heap.size w6).alloc (Nat.le_refl _) (.cells (cells (touchS x id).1.at) 26)))
  have HXn := Lib.hid (HX.out.below ((Below.refl w6.heap.size w6).alloc (Nat.le_refl _) (.cells (cells (touchS x id).1.at) 26)))
  have H8n := Lib.hid (H8.out.below ((Below.refl w6.heap.size w6).alloc (Nat.le_refl _) (.cells (cells (touchS x id).1.at) 26)))
  have H10n := Lib.hid (H10.out.below ((Below.refl w6.heap.size w6).alloc (Nat.le_refl _) (.cells (cells (touchS x id).1.at) 26)))
  have R12n := Lib.hid (R12.out.below ((Below.refl w6.heap.size w6).alloc (Nat.le_refl _) (.cells (cells (touchS x id).1.at) 26)))
  have R14n := Lib.hid (R14.out.below ((Below.refl w6.heap.size w6).alloc (Nat.le_refl _) (.cells (cells (touchS x id).1.at) 26)))
  have HBn := Lib.hid (HB.out.alloc HB.out.size (.cells (cells (touchS x id).1.at) 26))
  have H16 := Lib.hid (Lies.new w6 (touchS x id).1.at)
  clear HB RA HX H8 H10 R12 R14
  have RA := RAn
  clear RAn
  have HX := HXn
  clear HXn
  have H8 := H8n
  clear H8n
  have H10 := H10n
  clear H10n
  have R12 := R12n
  clear R12n
  have R14 := R14n
  clear R14n
  have HB := HBn
  clear HBn
  go_wp2_with (first
    | (refine wpList_store_row rfl 26 (.tmp 16) (.tmp 57) rfl w6.heap.size _ rfl rfl 26 _ (heap_alloc_last _ _) (size26 _) (size_same _ _) (Flat.all (Flat.at _)) ?_; rw [World.setRow_alloc_new])
    | (refine wpList_load_row rfl 26 (.tmp 4) rfl w.heap.size rfl 26 _ (0, 0) _ HX.out.row Try.underlying26 rfl (size26 _) ?_)
    | fail)
  refine (refTouchS_any x id _).mono ?_
  rintro e w7 ⟨rfl, hb⟩
  have RAn := Lib.hid (RA.out.below hb)
  have HXn := Lib.hid (HX.out.below hb)
  have H8n := Lib.hid (H8.out.below hb)
  have H10n := Lib.hid (H10.out.below hb)
  have R12n := Lib.hid (R12.out.below hb)
  have R14n := Lib.hid (R14.out.below hb)
  have H16n := Lib.hid (H16.out.below hb)
  have HBn := Lib.hid (HB.out.trans (hb.mono HB.out.size))
  clear hb HB RA HX H8 H10 R12 R14 H16
  have RA := RAn
  clear RAn
  have HX := HXn
  clear HXn
  have H8 := H8n
  clear H8n
  have H10 := H10n
  clear H10n
  have R12 := R12n
  clear R12n
  have R14 := R14n
  clear R14n
  have H16 := H16n
  clear H16n
  have HB := HBn
  clear HBn
  have RAn := Lib.hid (RA.out.below ((Below.refl w7.heap.size w7).alloc (Nat.le_refl _) (.cells (cells (touchS x id).1.at) 26)))
  have HXn := Lib.hid (HX.out.below ((Below.refl w7.heap.size w7).alloc (Nat.le_refl _) (.cells (cells (touchS x id).1.at) 26)))
  have H8n := Lib.hid (H8.out.below ((Below.refl w7.heap.size w7).alloc (Nat.le_refl _) (.cells (cells (touchS x id).1.at) 26)))
  have H10n := Lib.hid (H10.out.below ((Below.refl w7.heap.size w7).alloc (Nat.le_refl _) (.cells (cells (touchS x id).1.at) 26)))
  have R12n := Lib.hid (R12.out.below ((Below.refl w7.heap.size w7).alloc (Nat.le_refl _) (.cells (cells (touchS x id).1.at) 26)))
  have R14n := Lib.hid (R14.out.below ((Below.refl w7.heap.size w7).alloc (Nat.le_refl _) (.cells (cells (touchS x id).1.at) 26)))
  have H16n := Lib.hid (H16.out.below ((Below.refl w7.heap.size w7).alloc (Nat.le_refl _) (.cells (cells (touchS x id).1.at) 26)))
  have HBn := Lib.hid (HB.out.alloc HB.out.size (.cells (cells (touchS x id).1.at) 26))
  have H18 := Lib.hid (Lies.new w7 (touchS x id).1.at)
  clear HB RA HX H8 H10 R12 R14 H16
  have RA := RAn
  clear RAn
  have HX := HXn
  clear HXn
  have H8 := H8n
  clear H8n
  have H10 := H10n
  clear H10n
  have R12 := R12n
  clear R12n
  have R14 := R14n
  clear R14n
  have H16 := H16n
  clear H16n
  have HB := HBn
  clear HBn
  go_wp2_with (first
    | (refine wpList_store_row rfl 26 (.tmp 18) (.tmp 63) rfl w7.heap.size _ rfl rfl 26 _ (heap_alloc_last _ _) (size26 _) (size_same _ _) (Flat.all (Flat.at _)) ?_; rw [World.setRow_alloc_new])
    | (refine wpList_load_row rfl 26 (.tmp 4) rfl w.heap.size rfl 26 _ (0, 0) _ HX.out.row Try.underlying26 rfl (size26 _) ?_)
    | fail)
  refine (dropS_any x id _).mono ?_
  rintro e w8 ⟨rfl, hb⟩
  have RAn := Lib.hid (RA.out.below hb)
  have HXn := Lib.hid (HX.out.below hb)
  have H8n := Lib.hid (H8.out.below hb)
  have H10n := Lib.hid (H10.out.below hb)
  have R12n := Lib.hid (R12.out.below hb)
  have R14n := Lib.hid (R14.out.below hb)
  have H16n := Lib.hid (H16.out.below hb)
  have H18n := Lib.hid (H18.out.below hb)
  have HBn := Lib.hid (HB.out.trans (hb.mono HB.out.size))
  clear hb HB RA HX H8 H10 R12 R14 H16 H18
  have RA := RAn
  clear RAn
  have HX := HXn
  clear HXn
  have H8 := H8n
  clear H8n
  have H10 := H10n
  clear H10n
  have R12 := R12n
  clear R12n
  have R14 := R14n
  clear R14n
  have H16 := H16n
  clear H16n
  have H18 := H18n
  clear H18n
  have HB := HBn
  clear HBn
  have RAn := Lib.hid (RA.out.below ((Below.refl w8.heap.size w8).alloc (Nat.le_refl _) (.cells (cells (dropS x id).1.at) 26)))
  have HXn := Lib.hid (HX.out.below ((Below.refl w8.heap.size w8).alloc (Nat.le_refl _) (.cells (cells (dropS x id).1.at) 26)))
  have H8n := Lib.hid (H8.out.below ((Below.refl w8.heap.size w8).alloc (Nat.le_refl _) (.cells (cells (dropS x id).1.at) 26)))
  have H10n := Lib.hid (H10.out.below ((Below.refl w8.heap.size w8).alloc (Nat.le_refl _) (.cells (cells (dropS x id).1.at) 26)))
  have R12n := Lib.hid (R12.out.below ((Below.refl w8.heap.size w8).alloc (Nat.le_refl _) (.cells (cells (dropS x id).1.at) 26)))
  have R14n := Lib.hid (R14.out.below ((Below.refl w8.heap.size w8).alloc (Nat.le_refl _) (.cells (cells (dropS x id).1.at) 26)))
  have H16n := Lib.hid (H16.out.below ((Below.refl w8.heap.size w8).alloc (Nat.le_refl _) (.cells (cells (dropS x id).1.at) 26)))
  have H18n := Lib.hid (H18.out.below ((Below.refl w8.heap.size w8).alloc (Nat.le_refl _) (.cells (cells (dropS x id).1.at) 26)))
  have HBn := Lib.hid (HB.out.alloc HB.out.size (.cells (cells (dropS x id).1.at) 26))
  have H20 := Lib.hid (Lies.new w8 (dropS x id).1.at)
  clear HB RA HX H8 H10 R12 R14 H16 H18
  have RA := RAn
  clear RAn
  have HX := HXn
  clear HXn
  have H8 := H8n
  clear H8n
  have H10 := H10n
  clear H10n
  have R12 := R12n
  clear R12n
  have R14 := R14n
  clear R14n
  have H16 := H16n
  clear H16n
  have H18 := H18n
  clear H18n
  have HB := HBn
  clear HBn
  go_wp2_with (first
    | (refine wpList_store_row rfl 26 (.tmp 20) (.tmp 69) rfl w8.heap.size _ rfl rfl 26 _ (heap_alloc_last _ _) (size26 _) (size_same _ _) (Flat.all (Flat.at _)) ?_; rw [World.setRow_alloc_new])
    | (refine wpList_load_row rfl 26 (.tmp 4) rfl w.heap.size rfl 26 _ (0, 0) _ HX.out.row Try.underlying26 rfl (size26 _) ?_)
    | fail)
  refine (refDropS_any x id _).mono ?_
  rintro e w9 ⟨rfl, hb⟩
  have RAn := Lib.hid (RA.out.below hb)
  have HXn := Lib.hid (HX.out.below hb)
  have H8n := Lib.hid (H8.out.below hb)
  have H10n := Lib.hid (H10.out.below hb)
  have R12n := Lib.hid (R12.out.below hb)
  have R14n := Lib.hid (R14.out.below hb)
  have H16n := Lib.hid (H16.out.below hb)
  have H18n := Lib.hid (H18.out.below hb)
  have H20n := Lib.hid (H20.out.below hb)
  have HBn := Lib.hid (HB.out.trans (hb.mono HB.out.size))
  clear hb HB RA HX H8 H10 R12 R14 H16 H18 H20
  have RA := RAn
  clear RAn
  have HX := HXn
  clear HXn
  have H8 := H8n
  clear H8n
  have H10 := H10n
  clear H10n
  have R12 := R12n
  clear R12n
  have R14 := R14n
  clear R14n
  have H16 := H16n
  clear H16n
  have H18 := H18n
  clear H18n
  have H20 := H20n
  clear H20n
  have HB := HBn
  clear HBn
  have RAn := Lib.hid (RA.out.below ((Below.refl w9.heap.size w9).alloc (Nat.le_refl _) (.cells (cells (dropS x id).1.at) 26)))
  have HXn := Lib.hid (HX.out.below ((Below.refl w9.heap.size w9).alloc (Nat.le_refl _) (.cells (cells (dropS x id).1.at) 26)))
  have H8n := Lib.hid (H8.out.below ((Below.refl w9.heap.size w9).alloc (Nat.le_refl _) (.cells (cells (dropS x id).1.at) 26)))
  have H10n := Lib.hid (H10.out.below ((Below.refl w9.heap.size w9).alloc (Nat.le_refl _) (.cells (cells (dropS x id).1.at) 26)))
  have R12n := Lib.hid (R12.out.below ((Below.refl w9.heap.size w9).alloc (Nat.le_refl _) (.cells (cells (dropS x id).1.at) 26)))
  have R14n := Lib.hid (R14.out.below ((Below.refl w9.heap.size w9).alloc (Nat.le_refl _) (.cells (cells (dropS x id).1.at) 26)))
  have H16n := Lib.hid (H16.out.below ((Below.refl w9.heap.size w9).alloc (Nat.le_refl _) (.cells (cells (dropS x id).1.at) 26)))
  have H18n := Lib.hid (H18.out.below ((Below.refl w9.heap.size w9).alloc (Nat.le_refl _) (.cells (cells (dropS x id).1.at) 26)))
  have H20n := Lib.hid (H20.out.below ((Below.refl w9.heap.size w9).alloc (Nat.le_refl _) (.cells (cells (dropS x id).1.at) 26)))
  have HBn := Lib.hid (HB.out.alloc HB.out.size (.cells (cells (dropS x id).1.at) 26))
  have H22 := Lib.hid (Lies.new w9 (dropS x id).1.at)
  clear HB RA HX H8 H10 R12 R14 H16 H18 H20
  have RA := RAn
  clear RAn
  have HX := HXn
  clear HXn
  have H8 := H8n
  clear H8n
  have H10 := H10n
  clear H10n
  have R12 := R12n
  clear R12n
  have R14 := R14n
  clear R14n
  have H16 := H16n
  clear H16n
  have H18 := H18n
  clear H18n
  have H20 := H20n
  clear H20n
  have HB := HBn
  clear HBn
  go_wp2_with (first
    | (refine wpList_store_row rfl 26 (.tmp 22) (.tmp 75) rfl w9.heap.size _ rfl rfl 26 _ (heap_alloc_last _ _) (size26 _) (size_same _ _) (Flat.all (Flat.at _)) ?_; rw [World.setRow_alloc_new])
    | (refine wpList_load_row rfl 26 (.tmp 4) rfl w.heap.size rfl 26 _ (0, 0) _ HX.out.row Try.underlying26 rfl (size26 _) ?_)
    | fail)
  refine (lastS_any x _).mono ?_
  rintro e w10 ⟨rfl, hb⟩
  have RAn := Lib.hid (RA.out.below hb)
  have HXn := Lib.hid (HX.out.below hb)
  have H8n := Lib.hid (H8.out.below hb)
  have H10n := Lib.hid (H10.out.below hb)
  have R12n := Lib.hid (R12.out.below hb)
  have R14n := Lib.hid (R14.out.below hb)
  have H16n := Lib.hid (H16.out.below hb)
  have H18n := Lib.hid (H18.out.below hb)
  have H20n := Lib.hid (H20.out.below hb)
  have H22n := Lib.hid (H22.out.below hb)
  have HBn := Lib.hid (HB.out.trans (hb.mono HB.out.size))
  clear hb HB RA HX H8 H10 R12 R14 H16 H18 H20 H22
  have RA := RAn
  clear RAn
  have HX := HXn
  clear HXn
  have H8 := H8n
  clear H8n
  have H10 := H10n
  clear H10n
  have R12 := R12n
  clear R12n
  have R14 := R14n
  clear R14n
  have H16 := H16n
  clear H16n
  have H18 := H18n
  clear H18n
  have H20 := H20n
  clear H20n
  have H22 := H22n
  clear H22n
  have HB := HBn
  clear HBn
  go_wp2_with (first
    | (refine wpList_load_row rfl 26 (.tmp 4) rfl w.heap.size rfl 26 _ (0, 0) _ HX.out.row Try.underlying26 rfl (size26 _) ?_)
    | fail)
  refine (refLastS_any x _).mono ?_
  rintro e w11 ⟨rfl, hb⟩
  have RAn := Lib.hid (RA.out.below hb)
  have HXn := Lib.hid (HX.out.below hb)
  have H8n := Lib.hid (H8.out.below hb)
  have H10n := Lib.hid (H10.out.below hb)
  have R12n := Lib.hid (R12.out.below hb)
  have R14n := Lib.hid (R14.out.below hb)
  have H16n := Lib.hid (H16.out.below hb)
  have H18n := Lib.hid (H18.out.below hb)
  have H20n := Lib.hid (H20.out.below hb)
  have H22n := Lib.hid (H22.out.below hb)
  have HBn := Lib.hid (HB.out.trans (hb.mono HB.out.size))
  clear hb HB RA HX H8 H10 R12 R14 H16 H18 H20 H22
  have RA := RAn
  clear RAn
  have HX := HXn
  clear HXn
  have H8 := H8n
  clear H8n
  have H10 := H10n
  clear H10n
  have R12 := R12n
  clear R12n
  have R14 := R14n
  clear R14n
  have H16 := H16n
  clear H16n
  have H18 := H18n
  clear H18n
  have H20 := H20n
  clear H20n
  have H22 := H22n
  clear H22n
  have HB := HBn
  clear HBn
  have he9 : ((ofS xs).2 == (ofS xs).2) = true := by simp
  have he16 : ((touchS x id).2 == (touchS x id).2) = true := by simp
  have he20 : ((dropS x id).2 == (dropS x id).2) = true := by simp
  have he24 : ((lastS x).1 == (lastS x).1) = true := by simp
  have he25 : ((lastS x).2 == (lastS x).2) = true := by simp
  have he13 : ((orderS x).2 == (orderS x).2) = true := by simp
  go_wp2_with (first
    | (refine wpList_load_any (by kernel_rfl) 26 (.tmp 8) rfl w2.heap.size 0 rfl _ H8.out.load ?_)
    | (refine wpList_load_any (by kernel_rfl) 26 (.tmp 10) rfl w3.heap.size 0 rfl _ H10.out.load ?_)
    | (refine wpList_eql26 (by kernel_rfl) (.tmp 89) (.tmp 90) rfl (ofS xs).1 (ofS xs).1 rfl rfl true (eqB_refl _) ?_)
    | fail)
  refine (same_refl _ _ _ _ _ (by have := orderS_len x; omega) _ R12.out R14.out).mono ?_
  rintro e w12 ⟨rfl, hb⟩
  have RAn := Lib.hid (RA.out.below hb)
  have HXn := Lib.hid (HX.out.below hb)
  have H8n := Lib.hid (H8.out.below hb)
  have H10n := Lib.hid (H10.out.below hb)
  have R12n := Lib.hid (R12.out.below hb)
  have R14n := Lib.hid (R14.out.below hb)
  have H16n := Lib.hid (H16.out.below hb)
  have H18n := Lib.hid (H18.out.below hb)
  have H20n := Lib.hid (H20.out.below hb)
  have H22n := Lib.hid (H22.out.below hb)
  have HBn := Lib.hid (HB.out.trans (hb.mono HB.out.size))
  clear hb HB RA HX H8 H10 R12 R14 H16 H18 H20 H22
  have RA := RAn
  clear RAn
  have HX := HXn
  clear HXn
  have H8 := H8n
  clear H8n
  have H10 := H10n
  clear H10n
  have R12 := R12n
  clear R12n
  have R14 := R14n
  clear R14n
  have H16 := H16n
  clear H16n
  have H18 := H18n
  clear H18n
  have H20 := H20n
  clear H20n
  have H22 := H22n
  clear H22n
  have HB := HBn
  clear HBn
  go_wp2_with (first
    | (refine wpList_load_any (by kernel_rfl) 26 (.tmp 16) rfl w6.heap.size 0 rfl _ H16.out.load ?_)
    | (refine wpList_load_any (by kernel_rfl) 26 (.tmp 18) rfl w7.heap.size 0 rfl _ H18.out.load ?_)
    | (refine wpList_eql26 (by kernel_rfl) (.tmp 109) (.tmp 110) rfl (touchS x id).1 (touchS x id).1 rfl rfl true (eqB_refl _) ?_)
    | (refine wpList_load_any (by kernel_rfl) 26 (.tmp 20) rfl w8.heap.size 0 rfl _ H20.out.load ?_)
    | (refine wpList_load_any (by kernel_rfl) 26 (.tmp 22) rfl w9.heap.size 0 rfl _ H22.out.load ?_)
    | (refine wpList_eql26 (by kernel_rfl) (.tmp 119) (.tmp 120) rfl (dropS x id).1 (dropS x id).1 rfl rfl true (eqB_refl _) ?_)
    | fail)
  refine (new_any _).mono ?_
  rintro e w13 ⟨rfl, hb⟩
  have RAn := Lib.hid (RA.out.below hb)
  have HXn := Lib.hid (HX.out.below hb)
  have H8n := Lib.hid (H8.out.below hb)
  have H10n := Lib.hid (H10.out.below hb)
  have R12n := Lib.hid (R12.out.below hb)
  have R14n := Lib.hid (R14.out.below hb)
  have H16n := Lib.hid (H16.out.below hb)
  have H18n := Lib.hid (H18.out.below hb)
  have H20n := Lib.hid (H20.out.below hb)
  have H22n := Lib.hid (H22.out.below hb)
  have HBn := Lib.hid (HB.out.trans (hb.mono HB.out.size))
  clear hb HB RA HX H8 H10 R12 R14 H16 H18 H20 H22
  have RA := RAn
  clear RAn
  have HX := HXn
  clear HXn
  have H8 := H8n
  clear H8n
  have H10 := H10n
  clear H10n
  have R12 := R12n
  clear R12n
  have R14 := R14n
  clear R14n
  have H16 := H16n
  clear H16n
  have H18 := H18n
  clear H18n
  have H20 := H20n
  clear H20n
  have H22 := H22n
  clear H22n
  have HB := HBn
  clear HBn
  go_wp2_with (first
    | fail)
  refine (refTold_nil _).mono ?_
  rintro e w14 ⟨rfl, hb⟩
  have RAn := Lib.hid (RA.out.below hb)
  have HXn := Lib.hid (HX.out.below hb)
  have H8n := Lib.hid (H8.out.below hb)
  have H10n := Lib.hid (H10.out.below hb)
  have R12n := Lib.hid (R12.out.below hb)
  have R14n := Lib.hid (R14.out.below hb)
  have H16n := Lib.hid (H16.out.below hb)
  have H18n := Lib.hid (H18.out.below hb)
  have H20n := Lib.hid (H20.out.below hb)
  have H22n := Lib.hid (H22.out.below hb)
  have HBn := Lib.hid (HB.out.trans (hb.mono HB.out.size))
  clear hb HB RA HX H8 H10 R12 R14 H16 H18 H20 H22
  have RA := RAn
  clear RAn
  have HX := HXn
  clear HXn
  have H8 := H8n
  clear H8n
  have H10 := H10n
  clear H10n
  have R12 := R12n
  clear R12n
  have R14 := R14n
  clear R14n
  have H16 := H16n
  clear H16n
  have H18 := H18n
  clear H18n
  have H20 := H20n
  clear H20n
  have H22 := H22n
  clear H22n
  have HB := HBn
  clear HBn
  go_wp2_with (first
    | (refine wpList_eql26 (by kernel_rfl) (.tmp 139) (.tmp 140) rfl newL newL rfl rfl true (eqB_refl _) ?_)
    | fail)
  go_ret
  exact ⟨rfl, HB.out⟩
set_option maxRecDepth 100000 in
set_option maxHeartbeats 800000 in
theorem tells_long (A : Option Addr) (c : Nat) (xs : List Int) (hn : ¬ xs.length ≤ 100) (x : Ls) (id : Int) (w : World) : Calls Try.prog 3 #[.slice A xs.length c, .agg (cells x.at), .int .i64 id] w fun e w' => e = .returned (.bool true) ∧ Below w.heap.size w w' := by
  have hd : decide (100 < (xs.length : Int)) = true := by simp; omega
  clear hn
  go_enter Try.func3, Try.ntmps3
  go_wp2_with fail
  refine (awake_any _).mono ?_
  rintro e w1 ⟨rfl, hb⟩
  have HB := Lib.hid (below_alloc1 hb)
  clear hb
  go_wp2_with fail
  go_ret
  exact ⟨rfl, HB.out⟩
theorem listTells_walk (A : Option Addr) (c : Nat) (xs : List Int) (_ : xs.length ≤ 9223372036854775807) {w : World} (hr : RowI w A xs) (x : Ls) (id : Int) (_ : World) : Calls Try.prog 3 #[.slice A xs.length c, .agg (cells x.at), .int .i64 id] w fun e w' => e = .returned (.bool true) ∧ Below w.heap.size w w' := by
  by_cases hn : xs.length ≤ 100
  · exact tells_ok A c xs hn x id w hr
  · exact tells_long A c xs hn x id w
end Go.Proofs.Ytgbhfagmbkoobaa
