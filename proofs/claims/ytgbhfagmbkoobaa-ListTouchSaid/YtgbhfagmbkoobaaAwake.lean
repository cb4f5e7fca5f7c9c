/-
  THE WALK OF the law's own awake.
-/
import Derived.Test.YtgbhfagmbkoobaaDo
namespace Go.Proofs.Ytgbhfagmbkoobaa
open Go.RowKit
theorem z0_none : NoTell z0 := by
  intro l hl hs
  cases l with
  | nil => have := hs.hd; simp [z0, toldL, newL] at this
  | cons a l =>
    have h1 := hs.hd
    rw [hd_told] at h1
    simp [z0, hdI] at h1
    have h2 := hs.inn 0 (by omega)
    rw [told_inn] at h2
    simp [z0] at h2
    omega
theorem aw_t1 (w : World) : Calls Try.prog 14 #[.agg (cells newL.at), .int .i64 1] w (Ans (toldL [1]) 0 w) := touch_new [] ⟨by simp, by simp⟩ 1 (by omega) (by simp) w
theorem aw_t2 (w : World) : Calls Try.prog 14 #[.agg (cells (toldL [1]).at), .int .i64 2] w (Ans (toldL [2, 1]) 0 w) := touch_new [1] ⟨by simp, by simp⟩ 2 (by omega) (by simp) w
theorem aw_t3 (w : World) : Calls Try.prog 14 #[.agg (cells (toldL [2, 1]).at), .int .i64 3] w (Ans (toldL [3, 2, 1]) 0 w) := touch_new [2, 1] ⟨by simp, by simp⟩ 3 (by omega) (by simp) w
theorem aw_t4 (w : World) : Calls Try.prog 14 #[.agg (cells (toldL [3, 2, 1]).at), .int .i64 1] w (Ans (toldL [1, 3, 2]) 0 w) := touch_in [3, 2, 1] ⟨by simp, by simp⟩ 1 (by simp) w
theorem v132 : Valid [1, 3, 2] := ⟨by simp, by simp⟩
theorem v12 : Valid [1, 2] := ⟨by simp, by simp⟩
theorem aw_o (w : World) : Calls Try.prog 12 #[.agg (cells (toldL [1, 3, 2]).at)] w fun e w' => ∃ A c, e = .returned (.tuple #[.slice A 3 c, .bool true]) ∧ RowI w' A [1, 3, 2] ∧ Below w.heap.size w w' := order_told [1, 3, 2] v132 w
theorem aw_o2 (w : World) : Calls Try.prog 12 #[.agg (cells (toldL [1, 2]).at)] w fun e w' => ∃ A c, e = .returned (.tuple #[.slice A 2 c, .bool true]) ∧ RowI w' A [1, 2] ∧ Below w.heap.size w w' := order_told [1, 2] v12 w
theorem aw_last (w : World) : Calls Try.prog 18 #[.agg (cells (toldL [1, 3, 2]).at)] w (AnsN 2 true w) := last_some [1, 3] 2 v132 w
theorem aw_d (w : World) : Calls Try.prog 16 #[.agg (cells (toldL [1, 3, 2]).at), .int .i64 3] w (Ans (toldL [1, 2]) 0 w) := drop_in [1, 3, 2] v132 3 (by simp) w
theorem aw_d2 (w : World) : Calls Try.prog 16 #[.agg (cells (toldL [1, 2]).at), .int .i64 3] w (Ans (toldL [1, 2]) 120 w) := drop_new [1, 2] v12 3 (by omega) (by simp) w
theorem aw_t64 (w : World) : Calls Try.prog 14 #[.agg (cells (toldL [1, 2]).at), .int .i64 64] w (Ans (toldL [1, 2]) 110 w) := touch_range [1, 2] v12 64 (by omega) w
theorem aw_tz (w : World) : Calls Try.prog 14 #[.agg (cells z0.at), .int .i64 1] w (Ans z0 120 w) := touch_none z0 z0_none 1 w
theorem aw_oz (w : World) : Calls Try.prog 12 #[.agg (cells z0.at)] w fun e w' => e = .returned (.tuple #[.slice none 0 0, .bool false]) ∧ Below w.heap.size w w' := order_none z0 z0_none w
theorem rowI_cells (w : World) (g : Nat) (l : List Int) (t : TypeId) (h : w.heap[g]? = some (.cells (ivL l).toArray t (0, 0))) : RowI w (some ⟨g, 0, none⟩) l := by
  intro j hj
  have hg : g < w.heap.size := (Array.getElem?_eq_some_iff.1 h).1
  refine ⟨⟨g, 0, none⟩, rfl, hg, ?_⟩
  have hadd : (⟨g, 0, none⟩ : Addr).add j = ⟨g, j, none⟩ := by unfold Addr.add; split <;> simp_all
  rw [hadd, cell_of_row w g j _ t (0, 0) h]
  simp [ivL, hj]
theorem aw_of (A : Option Addr) (c : Nat) (w : World) (hr : RowI w A [1, 1]) : Calls Try.prog 10 #[.slice A 2 c] w fun e w' => e = .returned (.tuple #[.agg (cells newL.at), .int .i64 110]) ∧ Below w.heap.size w w' :=
  (of_any A c [1, 1] (by simp) w hr).mono fun e w' h => by
    obtain ⟨s, n, rfl, hb, ⟨l, hl, e, _⟩ | ⟨_, rfl, rfl⟩⟩ := h
    · have h2 := valid_may hl
      rw [← e] at h2
      have := h2.2
      simp at this
    · exact ⟨rfl, hb⟩
theorem aw_s3 (A B : Option Addr) (c d : Nat) (w : World) (hl : RowI w A [1, 3, 2]) (hm : RowI w B [1, 3, 2]) : Calls Try.prog 20 #[.slice A 3 c, .slice B 3 d] w fun e w' => e = .returned (.bool true) ∧ Below w.heap.size w w' :=
  (same_any A B c d [1, 3, 2] [1, 3, 2] (by simp) w hl hm).mono fun e w' h => ⟨by rw [h.1]; simp, h.2⟩
theorem aw_s2 (A B : Option Addr) (c d : Nat) (w : World) (hl : RowI w A [1, 2]) (hm : RowI w B [1, 2]) : Calls Try.prog 20 #[.slice A 2 c, .slice B 2 d] w fun e w' => e = .returned (.bool true) ∧ Below w.heap.size w w' :=
  (same_any A B c d [1, 2] [1, 2] (by simp) w hl hm).mono fun e w' h => ⟨by rw [h.1]; simp, h.2⟩
attribute [local go_sem] zero26
set_option maxRecDepth 100000 in
set_option maxHeartbeats 4000000 in
theorem awake_any (w : World) : Calls Try.prog 9 #[] w fun e w' => e = .returned (.bool true) ∧ Below w.heap.size w w' := by
  go_enter Try.func9, Try.ntmps9
  go_wp2_with fail
  refine (new_any _).mono ?_
  rintro e w1 ⟨rfl, hb1⟩
  have HB := Lib.hid hb1
  clear hb1
  go_wp2_with fail
  refine (aw_t1 _).mono ?_
  rintro e w2 ⟨rfl, hb⟩
  have HBn := Lib.hid (HB.out.trans (hb.mono HB.out.size))
  clear hb HB 
  have HB := HBn
  clear HBn
  have HG1 : Hid (w.heap.size ≤ w2.heap.size) := Lib.hid HB.out.size
  have HBn := Lib.hid (HB.out.alloc HB.out.size (.cells (cells (toldL [1]).at) 26))
  have H1 := Lib.hid (Lies.new w2 (toldL [1]).at)
  clear HB 
  have HB := HBn
  clear HBn
  go_wp2_with (first
    | (refine wpList_store_row rfl 26 (.tmp 1) (.tmp 24) rfl w2.heap.size _ rfl rfl 26 _ (heap_alloc_last _ _) (size26 _) (size_same _ _) (Flat.all (Flat.at _)) ?_; rw [World.setRow_alloc_new])
    | (refine wpList_load_row rfl 26 (.tmp 1) rfl w2.heap.size rfl 26 _ (0, 0) _ H1.out.row Try.underlying26 rfl (size26 _) ?_)
    | fail)
  refine (aw_t2 _).mono ?_
  rintro e w3 ⟨rfl, hb⟩
  have H1n := Lib.hid (H1.out.below hb)
  have HBn := Lib.hid (HB.out.trans (hb.mono HB.out.size))
  clear hb HB H1
  have H1 := H1n
  clear H1n
  have HB := HBn
  clear HBn
  have HBn := Lib.hid (below_setRow (cs := cells (toldL [2, 1]).at) HB.out HG1.out)
  have H1n := Lib.hid (H1.out.setRow (toldL [2, 1]).at)
  go_wp2_with (first
    | (refine wpList_store_row rfl 26 (.tmp 1) (.tmp 29) rfl w2.heap.size _ rfl rfl 26 _ H1.out.row (size26 _) (size_same _ _) (Flat.all (Flat.at _)) ?_)
    | (refine wpList_load_row rfl 26 (.tmp 1) rfl w2.heap.size rfl 26 _ (0, 0) _ H1n.out.row Try.underlying26 rfl (size26 _) ?_)
    | fail)
  clear HB H1
  have H1 := H1n
  clear H1n
  have HB := HBn
  clear HBn
  refine (aw_t3 _).mono ?_
  rintro e w4 ⟨rfl, hb⟩
  have H1n := Lib.hid (H1.out.below hb)
  have HBn := Lib.hid (HB.out.trans (hb.mono HB.out.size))
  clear hb HB H1
  have H1 := H1n
  clear H1n
  have HB := HBn
  clear HBn
  have HBn := Lib.hid (below_setRow (cs := cells (toldL [3, 2, 1]).at) HB.out HG1.out)
  have H1n := Lib.hid (H1.out.setRow (toldL [3, 2, 1]).at)
  go_wp2_with (first
    | (refine wpList_store_row rfl 26 (.tmp 1) (.tmp 34) rfl w2.heap.size _ rfl rfl 26 _ H1.out.row (size26 _) (size_same _ _) (Flat.all (Flat.at _)) ?_)
    | (refine wpList_load_row rfl 26 (.tmp 1) rfl w2.heap.size rfl 26 _ (0, 0) _ H1n.out.row Try.underlying26 rfl (size26 _) ?_)
    | fail)
  clear HB H1
  have H1 := H1n
  clear H1n
  have HB := HBn
  clear HBn
  refine (aw_t4 _).mono ?_
  rintro e w5 ⟨rfl, hb⟩
  have H1n := Lib.hid (H1.out.below hb)
  have HBn := Lib.hid (HB.out.trans (hb.mono HB.out.size))
  clear hb HB H1
  have H1 := H1n
  clear H1n
  have HB := HBn
  clear HBn
  have HBn := Lib.hid (below_setRow (cs := cells (toldL [1, 3, 2]).at) HB.out HG1.out)
  have H1n := Lib.hid (H1.out.setRow (toldL [1, 3, 2]).at)
  go_wp2_with (first
    | (refine wpList_store_row rfl 26 (.tmp 1) (.tmp 39) rfl w2.heap.size _ rfl rfl 26 _ H1.out.row (size26 _) (size_same _ _) (Flat.all (Flat.at _)) ?_)
    | (refine wpList_load_row rfl 26 (.tmp 1) rfl w2.heap.size rfl 26 _ (0, 0) _ H1n.out.row Try.underlying26 rfl (size26 _) ?_)
    | fail)
  clear HB H1
  have H1 := H1n
  clear H1n
  have HB := HBn
  clear HBn
  refine (aw_o _).mono ?_
  rintro e w6 ⟨A3, c3, rfl, hr, hb⟩
  have H1n := Lib.hid (H1.out.below hb)
  have HBn := Lib.hid (HB.out.trans (hb.mono HB.out.size))
  have R3 := Lib.hid hr
  clear hr
  clear hb HB H1
  have H1 := H1n
  clear H1n
  have HB := HBn
  clear HBn
  go_wp2_with (first
    | (refine wpList_load_row rfl 26 (.tmp 1) rfl w2.heap.size rfl 26 _ (0, 0) _ H1.out.row Try.underlying26 rfl (size26 _) ?_)
    | fail)
  refine (aw_last _).mono ?_
  rintro e w7 ⟨rfl, hb⟩
  have H1n := Lib.hid (H1.out.below hb)
  have R3n := Lib.hid (R3.out.below hb)
  have HBn := Lib.hid (HB.out.trans (hb.mono HB.out.size))
  clear hb HB H1 R3
  have H1 := H1n
  clear H1n
  have R3 := R3n
  clear R3n
  have HB := HBn
  clear HBn
  go_wp2_with (first
    | (refine wpList_load_row rfl 26 (.tmp 1) rfl w2.heap.size rfl 26 _ (0, 0) _ H1.out.row Try.underlying26 rfl (size26 _) ?_)
    | fail)
  refine (aw_d _).mono ?_
  rintro e w8 ⟨rfl, hb⟩
  have H1n := Lib.hid (H1.out.below hb)
  have R3n := Lib.hid (R3.out.below hb)
  have HBn := Lib.hid (HB.out.trans (hb.mono HB.out.size))
  clear hb HB H1 R3
  have H1 := H1n
  clear H1n
  have R3 := R3n
  clear R3n
  have HB := HBn
  clear HBn
  have H1n := Lib.hid (H1.out.below ((Below.refl w8.heap.size w8).alloc (Nat.le_refl _) (.cells (cells (toldL [1, 2]).at) 26)))
  have R3n := Lib.hid (R3.out.below ((Below.refl w8.heap.size w8).alloc (Nat.le_refl _) (.cells (cells (toldL [1, 2]).at) 26)))
  have HBn := Lib.hid (HB.out.alloc HB.out.size (.cells (cells (toldL [1, 2]).at) 26))
  have H7 := Lib.hid (Lies.new w8 (toldL [1, 2]).at)
  clear HB H1 R3
  have H1 := H1n
  clear H1n
  have R3 := R3n
  clear R3n
  have HB := HBn
  clear HBn
  go_wp2_with (first
    | (refine wpList_store_row rfl 26 (.tmp 7) (.tmp 54) rfl w8.heap.size _ rfl rfl 26 _ (heap_alloc_last _ _) (size26 _) (size_same _ _) (Flat.all (Flat.at _)) ?_; rw [World.setRow_alloc_new])
    | (refine wpList_load_row rfl 26 (.tmp 7) rfl w8.heap.size rfl 26 _ (0, 0) _ H7.out.row Try.underlying26 rfl (size26 _) ?_)
    | fail)
  refine (aw_o2 _).mono ?_
  rintro e w9 ⟨A9, c9, rfl, hr, hb⟩
  have H1n := Lib.hid (H1.out.below hb)
  have R3n := Lib.hid (R3.out.below hb)
  have H7n := Lib.hid (H7.out.below hb)
  have HBn := Lib.hid (HB.out.trans (hb.mono HB.out.size))
  have R9 := Lib.hid hr
  clear hr
  clear hb HB H1 R3 H7
  have H1 := H1n
  clear H1n
  have R3 := R3n
  clear R3n
  have H7 := H7n
  clear H7n
  have HB := HBn
  clear HBn
  go_wp2_with (first
    | (refine wpList_load_row rfl 26 (.tmp 7) rfl w8.heap.size rfl 26 _ (0, 0) _ H7.out.row Try.underlying26 rfl (size26 _) ?_)
    | fail)
  refine (aw_d2 _).mono ?_
  rintro e w10 ⟨rfl, hb⟩
  have H1n := Lib.hid (H1.out.below hb)
  have R3n := Lib.hid (R3.out.below hb)
  have H7n := Lib.hid (H7.out.below hb)
  have R9n := Lib.hid (R9.out.below hb)
  have HBn := Lib.hid (HB.out.trans (hb.mono HB.out.size))
  clear hb HB H1 R3 H7 R9
  have H1 := H1n
  clear H1n
  have R3 := R3n
  clear R3n
  have H7 := H7n
  clear H7n
  have R9 := R9n
  clear R9n
  have HB := HBn
  clear HBn
  have H1n := Lib.hid (H1.out.below ((Below.refl w10.heap.size w10).alloc (Nat.le_refl _) (.cells (cells (toldL [1, 2]).at) 26)))
  have R3n := Lib.hid (R3.out.below ((Below.refl w10.heap.size w10).alloc (Nat.le_refl _) (.cells (cells (toldL [1, 2]).at) 26)))
  have H7n := Lib.hid (H7.out.below ((Below.refl w10.heap.size w10).alloc (Nat.le_refl _) (.cells (cells (toldL [1, 2]).at) 26)))
  have R9n := Lib.hid (R9.out.below ((Below.refl w10.heap.size w10).alloc (Nat.le_refl _) (.cells (cells (toldL [1, 2]).at) 26)))
  have HBn := Lib.hid (HB.out.alloc HB.out.size (.cells (cells (toldL [1, 2]).at) 26))
  have H11 := Lib.hid (Lies.new w10 (toldL [1, 2]).at)
  clear HB H1 R3 H7 R9
  have H1 := H1n
  clear H1n
  have R3 := R3n
  clear R3n
  have H7 := H7n
  clear H7n
  have R9 := R9n
  clear R9n
  have HB := HBn
  clear HBn
  go_wp2_with (first
    | (refine wpList_store_row rfl 26 (.tmp 11) (.tmp 64) rfl w10.heap.size _ rfl rfl 26 _ (heap_alloc_last _ _) (size26 _) (size_same _ _) (Flat.all (Flat.at _)) ?_; rw [World.setRow_alloc_new])
    | (refine wpList_load_row rfl 26 (.tmp 7) rfl w8.heap.size rfl 26 _ (0, 0) _ H7.out.row Try.underlying26 rfl (size26 _) ?_)
    | fail)
  refine (aw_t64 _).mono ?_
  rintro e w11 ⟨rfl, hb⟩
  have H1n := Lib.hid (H1.out.below hb)
  have R3n := Lib.hid (R3.out.below hb)
  have H7n := Lib.hid (H7.out.below hb)
  have R9n := Lib.hid (R9.out.below hb)
  have H11n := Lib.hid (H11.out.below hb)
  have HBn := Lib.hid (HB.out.trans (hb.mono HB.out.size))
  clear hb HB H1 R3 H7 R9 H11
  have H1 := H1n
  clear H1n
  have R3 := R3n
  clear R3n
  have H7 := H7n
  clear H7n
  have R9 := R9n
  clear R9n
  have H11 := H11n
  clear H11n
  have HB := HBn
  clear HBn
  have H1n := Lib.hid (H1.out.below ((Below.refl w11.heap.size w11).alloc (Nat.le_refl _) (.cells (cells (toldL [1, 2]).at) 26)))
  have R3n := Lib.hid (R3.out.below ((Below.refl w11.heap.size w11).alloc (Nat.le_refl _) (.cells (cells (toldL [1, 2]).at) 26)))
  have H7n := Lib.hid (H7.out.below ((Below.refl w11.heap.size w11).alloc (Nat.le_refl _) (.cells (cells (toldL [1, 2]).at) 26)))
  have R9n := Lib.hid (R9.out.below ((Below.refl w11.heap.size w11).alloc (Nat.le_refl _) (.cells (cells (toldL [1, 2]).at) 26)))
  have H11n := Lib.hid (H11.out.below ((Below.refl w11.heap.size w11).alloc (Nat.le_refl _) (.cells (cells (toldL [1, 2]).at) 26)))
  have HBn := Lib.hid (HB.out.alloc HB.out.size (.cells (cells (toldL [1, 2]).at) 26))
  have H13 := Lib.hid (Lies.new w11 (toldL [1, 2]).at)
  clear HB H1 R3 H7 R9 H11
  have H1 := H1n
  clear H1n
  have R3 := R3n
  clear R3n
  have H7 := H7n
  clear H7n
  have R9 := R9n
  clear R9n
  have H11 := H11n
  clear H11n
  have HB := HBn
  clear HBn
  go_wp2_with (first
    | (refine wpList_store_row rfl 26 (.tmp 13) (.tmp 69) rfl w11.heap.size _ rfl rfl 26 _ (heap_alloc_last _ _) (size26 _) (size_same _ _) (Flat.all (Flat.at _)) ?_; rw [World.setRow_alloc_new])
    | (refine wpList_buildTo rfl 26 _ rfl (some 72) rfl (cells z0.at) (by kernel_rfl) ?_)
    | fail)
  refine (aw_tz _).mono ?_
  rintro e w12 ⟨rfl, hb⟩
  have H1n := Lib.hid (H1.out.below hb)
  have R3n := Lib.hid (R3.out.below hb)
  have H7n := Lib.hid (H7.out.below hb)
  have R9n := Lib.hid (R9.out.below hb)
  have H11n := Lib.hid (H11.out.below hb)
  have H13n := Lib.hid (H13.out.below hb)
  have HBn := Lib.hid (HB.out.trans (hb.mono HB.out.size))
  clear hb HB H1 R3 H7 R9 H11 H13
  have H1 := H1n
  clear H1n
  have R3 := R3n
  clear R3n
  have H7 := H7n
  clear H7n
  have R9 := R9n
  clear R9n
  have H11 := H11n
  clear H11n
  have H13 := H13n
  clear H13n
  have HB := HBn
  clear HBn
  have H1n := Lib.hid (H1.out.below ((Below.refl w12.heap.size w12).alloc (Nat.le_refl _) (.cells (cells z0.at) 26)))
  have R3n := Lib.hid (R3.out.below ((Below.refl w12.heap.size w12).alloc (Nat.le_refl _) (.cells (cells z0.at) 26)))
  have H7n := Lib.hid (H7.out.below ((Below.refl w12.heap.size w12).alloc (Nat.le_refl _) (.cells (cells z0.at) 26)))
  have R9n := Lib.hid (R9.out.below ((Below.refl w12.heap.size w12).alloc (Nat.le_refl _) (.cells (cells z0.at) 26)))
  have H11n := Lib.hid (H11.out.below ((Below.refl w12.heap.size w12).alloc (Nat.le_refl _) (.cells (cells z0.at) 26)))
  have H13n := Lib.hid (H13.out.below ((Below.refl w12.heap.size w12).alloc (Nat.le_refl _) (.cells (cells z0.at) 26)))
  have HBn := Lib.hid (HB.out.alloc HB.out.size (.cells (cells z0.at) 26))
  have H15 := Lib.hid (Lies.new w12 z0.at)
  clear HB H1 R3 H7 R9 H11 H13
  have H1 := H1n
  clear H1n
  have R3 := R3n
  clear R3n
  have H7 := H7n
  clear H7n
  have R9 := R9n
  clear R9n
  have H11 := H11n
  clear H11n
  have H13 := H13n
  clear H13n
  have HB := HBn
  clear HBn
  go_wp2_with (first
    | (refine wpList_store_row rfl 26 (.tmp 15) (.tmp 74) rfl w12.heap.size _ rfl rfl 26 _ (heap_alloc_last _ _) (size26 _) (size_same _ _) (Flat.all (Flat.at _)) ?_; rw [World.setRow_alloc_new])
    | (refine wpList_buildTo rfl 26 _ rfl (some 77) rfl (cells z0.at) (by kernel_rfl) ?_)
    | fail)
  refine (aw_oz _).mono ?_
  rintro e w13 ⟨rfl, hb⟩
  have H1n := Lib.hid (H1.out.below hb)
  have R3n := Lib.hid (R3.out.below hb)
  have H7n := Lib.hid (H7.out.below hb)
  have R9n := Lib.hid (R9.out.below hb)
  have H11n := Lib.hid (H11.out.below hb)
  have H13n := Lib.hid (H13.out.below hb)
  have H15n := Lib.hid (H15.out.below hb)
  have HBn := Lib.hid (HB.out.trans (hb.mono HB.out.size))
  clear hb HB H1 R3 H7 R9 H11 H13 H15
  have H1 := H1n
  clear H1n
  have R3 := R3n
  clear R3n
  have H7 := H7n
  clear H7n
  have R9 := R9n
  clear R9n
  have H11 := H11n
  clear H11n
  have H13 := H13n
  clear H13n
  have H15 := H15n
  clear H15n
  have HB := HBn
  clear HBn
  go_wp2_with (first
    | fail)
  clear H1 H7 H11 H13 H15
  have R3n := Lib.hid (R3.out.below ((Below.refl w13.heap.size w13).alloc (Nat.le_refl _) (.cells #[.int .i64 1, .int .i64 1] 3)))
  have R9n := Lib.hid (R9.out.below ((Below.refl w13.heap.size w13).alloc (Nat.le_refl _) (.cells #[.int .i64 1, .int .i64 1] 3)))
  have HBn := Lib.hid (HB.out.alloc HB.out.size (.cells #[.int .i64 1, .int .i64 1] 3))
  clear HB R3 R9
  have R3 := R3n
  clear R3n
  have R9 := R9n
  clear R9n
  have HB := HBn
  clear HBn
  refine (aw_of _ _ _ (rowI_cells _ _ [1, 1] 3 (heap_alloc_last _ _))).mono ?_
  rintro e w14 ⟨rfl, hb⟩
  have R3n := Lib.hid (R3.out.below hb)
  have R9n := Lib.hid (R9.out.below hb)
  have HBn := Lib.hid (HB.out.trans (hb.mono HB.out.size))
  clear hb HB R3 R9
  have R3 := R3n
  clear R3n
  have R9 := R9n
  clear R9n
  have HB := HBn
  clear HBn
  have R3n := Lib.hid (R3.out.below ((Below.refl w14.heap.size w14).alloc (Nat.le_refl _) (.cells (cells newL.at) 26)))
  have R9n := Lib.hid (R9.out.below ((Below.refl w14.heap.size w14).alloc (Nat.le_refl _) (.cells (cells newL.at) 26)))
  have HBn := Lib.hid (HB.out.alloc HB.out.size (.cells (cells newL.at) 26))
  have H19 := Lib.hid (Lies.new w14 newL.at)
  clear HB R3 R9
  have R3 := R3n
  clear R3n
  have R9 := R9n
  clear R9n
  have HB := HBn
  clear HBn
  go_wp2_with (first
    | (refine wpList_store_row rfl 26 (.tmp 19) (.tmp 84) rfl w14.heap.size _ rfl rfl 26 _ (heap_alloc_last _ _) (size26 _) (size_same _ _) (Flat.all (Flat.at _)) ?_; rw [World.setRow_alloc_new])
    | fail)
  clear H19
  have R3n := Lib.hid (R3.out.below ((Below.refl (w14.alloc (.cells (cells newL.at) 26)).heap.size (w14.alloc (.cells (cells newL.at) 26))).alloc (Nat.le_refl _) (.cells #[.int .i64 1, .int .i64 3, .int .i64 2] 3)))
  have R9n := Lib.hid (R9.out.below ((Below.refl (w14.alloc (.cells (cells newL.at) 26)).heap.size (w14.alloc (.cells (cells newL.at) 26))).alloc (Nat.le_refl _) (.cells #[.int .i64 1, .int .i64 3, .int .i64 2] 3)))
  have HBn := Lib.hid (HB.out.alloc HB.out.size (.cells #[.int .i64 1, .int .i64 3, .int .i64 2] 3))
  clear HB R3 R9
  have R3 := R3n
  clear R3n
  have R9 := R9n
  clear R9n
  have HB := HBn
  clear HBn
  refine (aw_s3 _ _ _ _ _ R3.out (rowI_cells _ _ [1, 3, 2] 3 (heap_last2 _ _ _))).mono ?_
  rintro e w15 ⟨rfl, hb⟩
  have R3n := Lib.hid (R3.out.below hb)
  have R9n := Lib.hid (R9.out.below hb)
  have HBn := Lib.hid (HB.out.trans (hb.mono HB.out.size))
  clear hb HB R3 R9
  have R3 := R3n
  clear R3n
  have R9 := R9n
  clear R9n
  have HB := HBn
  clear HBn
  go_wp2_with (first
    | fail)
  have R3n := Lib.hid (R3.out.below ((Below.refl w15.heap.size w15).alloc (Nat.le_refl _) (.cells #[.int .i64 1, .int .i64 2] 3)))
  have R9n := Lib.hid (R9.out.below ((Below.refl w15.heap.size w15).alloc (Nat.le_refl _) (.cells #[.int .i64 1, .int .i64 2] 3)))
  have HBn := Lib.hid (HB.out.alloc HB.out.size (.cells #[.int .i64 1, .int .i64 2] 3))
  clear HB R3 R9
  have R3 := R3n
  clear R3n
  have R9 := R9n
  clear R9n
  have HB := HBn
  clear HBn
  refine (aw_s2 _ _ _ _ _ R9.out (rowI_cells _ _ [1, 2] 3 (heap_alloc_last _ _))).mono ?_
  rintro e w16 ⟨rfl, hb⟩
  have R3n := Lib.hid (R3.out.below hb)
  have R9n := Lib.hid (R9.out.below hb)
  have HBn := Lib.hid (HB.out.trans (hb.mono HB.out.size))
  clear hb HB R3 R9
  have R3 := R3n
  clear R3n
  have R9 := R9n
  clear R9n
  have HB := HBn
  clear HBn
  go_wp2_with (first
    | fail)
  go_ret
  exact ⟨rfl, HB.out⟩
end Go.Proofs.Ytgbhfagmbkoobaa
