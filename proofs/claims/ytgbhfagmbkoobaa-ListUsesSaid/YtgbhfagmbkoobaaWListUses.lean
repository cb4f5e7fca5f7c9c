/-
  THE WALK OF ListUses.
-/
import Derived.Test.YtgbhfagmbkoobaaUses
import Derived.BigQuiet
namespace Go.Proofs.Ytgbhfagmbkoobaa
open Go.RowKit
theorem acts_c0 {w w' : World} {p : Addr} {k : Nat} {v : Value} (hb : Below w.heap.size w w') (hp : p.block < w.heap.size) (h : w.cell? (p.add (k * 2)) = some v) : w'.cell? (p.add (k * 2)) = some v := by
  rw [hb.cell (by rw [add_block]; exact hp)]; exact h
theorem acts_c1 {w w' : World} {p : Addr} {k : Nat} {v : Value} (hb : Below w.heap.size w w') (hp : p.block < w.heap.size) (h : w.cell? ((p.add (k * 2)).add 1) = some v) : w'.cell? ((p.add (k * 2)).add 1) = some v := by
  rw [hb.cell (by rw [add_block, add_block]; exact hp)]; exact h
theorem below_alloc_drew {w w4 : World} {o : Obj} (h : Below (w.alloc o).drew.heap.size (w.alloc o).drew w4) : Below w.heap.size w w4 :=
  (((Below.refl w.heap.size w).alloc (Nat.le_refl _) o).drew).trans (h.mono (by show w.heap.size ≤ (w.heap.push o).size; simp))
theorem lies_alloc_drew {w w4 : World} {c : Nat → Value} (h : Below (w.alloc (.cells (cells c) 26)).drew.heap.size (w.alloc (.cells (cells c) 26)).drew w4) : Lies w4 w.heap.size c :=
  Lies.below (w := (w.alloc (.cells (cells c) 26)).drew) ⟨heap_alloc_last w _⟩ h
theorem late_step {s : List (Bool × Int)} {j kk : Nat} {y : Int} {lt : Bool} (hk : kk < s.length) (hj : j < kk) (h : lt = true ↔ ∃ q, ∃ h : q < s.length, j < q ∧ q < kk ∧ (s[q]'h).2 = y) : (lt || (s[kk].2 == y)) = true ↔ ∃ q, ∃ h : q < s.length, j < q ∧ q < kk + 1 ∧ (s[q]'h).2 = y := by
  rw [Bool.or_eq_true, h, beq_iff_eq]
  constructor
  · rintro (⟨q, hq, h1, h2, h3⟩ | h1)
    · exact ⟨q, hq, h1, by omega, h3⟩
    · exact ⟨kk, hk, hj, by omega, h1⟩
  · rintro ⟨q, hq, h1, h2, h3⟩
    rcases Nat.lt_succ_iff_lt_or_eq.mp h2 with h4 | rfl
    · exact Or.inl ⟨q, hq, h1, h4, h3⟩
    · exact Or.inr h3
theorem late_end {s : List (Bool × Int)} {j : Nat} {y : Int} {lt : Bool} {n : Nat} (hn : n = s.length) (h : lt = true ↔ ∃ q, ∃ h : q < s.length, j < q ∧ q < n ∧ (s[q]'h).2 = y) : lateB (s.drop (j + 1)) y = lt := by
  rw [Bool.eq_iff_iff, h, late_iff]
  constructor
  · rintro ⟨q, hq, h1, h2⟩; exact ⟨q, hq, h1, by omega, h2⟩
  · rintro ⟨q, hq, h1, _, h2⟩; exact ⟨q, hq, h1, h2⟩
theorem act_at {w : World} {p : Addr} {s : List (Bool × Int)} (h : RowA w (some p) s) (j : Nat) (hj : j < s.length) : w.cell? (p.add (j * 2)) = some (.bool s[j].1) ∧ w.cell? ⟨(p.add (j * 2)).block, (p.add (j * 2)).off + 1, none⟩ = some (.int .i64 s[j].2) := by
  obtain ⟨q, hq, _, h1, h2⟩ := h j hj
  injection hq with hq
  subst hq
  exact ⟨h1, h2⟩
theorem want_skip {s : List (Bool × Int)} {j : Nat} (hj : j < s.length) (h : keepB (s.drop (j + 1)) s[j] = false) : wantR (s.drop j) = wantR (s.drop (j + 1)) := by
  rw [want_drop s j hj, h]; simp
theorem want_take {s : List (Bool × Int)} {j : Nat} (hj : j < s.length) (h : keepB (s.drop (j + 1)) s[j] = true) : wantR (s.drop j) = wantR (s.drop (j + 1)) ++ [s[j].2] := by
  rw [want_drop s j hj, h]; simp
attribute [local go_sem] zero26
set_option maxRecDepth 100000 in
set_option maxHeartbeats 4000000 in
theorem uses_ok (A : Option Addr) (c : Nat) (s : List (Bool × Int)) (hn : s.length ≤ 100) (w : World) (hr : RowA w A s) : Calls Try.prog 4 #[.slice A s.length c] w fun e w' => e = .returned (.bool true) ∧ Below w.heap.size w w' := by
  have hd : decide (100 < (s.length : Int)) = false := by simp; omega
  have RA := Lib.hid hr
  clear hr
  go_enter Try.func4, Try.ntmps4
  go_wp2_with fail
  refine (awake_any _).mono ?_
  rintro e w1 ⟨rfl, hb⟩
  have HB := Lib.hid hb
  clear hb
  go_wp2_with fail
  refine (new_any _).mono ?_
  rintro e w2 ⟨rfl, hb⟩
  have HBn := Lib.hid (HB.out.trans (hb.mono HB.out.size))
  clear hb HB 
  have HB := HBn
  clear HBn
  have HG4 : Hid (w.heap.size ≤ w2.heap.size) := Lib.hid HB.out.size
  have HBn := Lib.hid (HB.out.alloc HB.out.size (.cells (cells (toldL []).at) 26))
  have H4 := Lib.hid (Lies.new w2 (toldL []).at)
  clear HB 
  have HB := HBn
  clear HBn
  go_wp2_with (first
    | (refine wpList_store_row rfl 26 (.tmp 4) (.tmp 19) rfl w2.heap.size _ rfl rfl 26 _ (heap_alloc_last _ _) (size26 _) (size_same _ _) (Flat.all (Flat.at _)) ?_; rw [World.setRow_alloc_new])
    | fail)
  obtain ⟨n, hnn⟩ : ∃ n, n = s.length := ⟨_, rfl⟩
  rw [← hnn]
  have HN := Lib.hid hnn
  have hn100 : n ≤ 100 := by omega
  clear hnn hd
  go_loopw [5] (fun i wr => ∃ k : Nat, k ≤ n ∧ i = .int .i64 k ∧ Lies wr w2.heap.size (toldL (runA (s.take k) [])).at ∧ Below w.heap.size w wr) (fun i _ => n - (intOf i).toNat)
  case atStart => exact ⟨0, by omega, rfl, H4.out, HB.out⟩
  case round =>
    clear H4 HB
    obtain ⟨k, hk, rfl, hl, hbe⟩ := hrel
    have H4 := Lib.hid hl
    have HB := Lib.hid hbe
    clear hl hbe
    by_cases hlt : k < n
    · have hd : decide ((k : Int) < (n : Int)) = true := by simp; omega
      have hks : k < s.length := by rw [← HN.out]; exact hlt
      obtain ⟨p, rfl, hpb, hp0, hp1⟩ := RA.out.below HB.out k hks
      have hst := runA_take s k hks
      have hvt := runA_valid (s.take k) [] ⟨by simp, by simp⟩
      obtain ⟨b, z, hbz⟩ : ∃ b z, s[k] = (b, z) := ⟨_, _, rfl⟩
      rw [hbz] at hp0 hp1 hst
      have HST := Lib.hid hst
      have HVT := Lib.hid hvt
      clear hst hvt hbz
      go_wp2_with fail
      have HP0 := Lib.hid hp0
      have HP1 := Lib.hid hp1
      have hkw : ((k : Int)).toNat = k := by simp
      refine wp_region_held_drew (S := (fun w' => Below wr.heap.size wr w')) (by kernel_rfl) ((Below.refl _ _).drew) (fun hHeld => ?_)
      refine wpAnyH_take (i := 0) (v := .agg (cells (toldL (runA (s.take k) [])).at)) rfl (by kernel_rfl) (by kernel_rfl) (by kernel_rfl) (fun _ _ _ h => h) (Or.inl ⟨by kernel_rfl, fun w' hSw => run_load_op w' _ _ 26 (.tmp 4) rfl w2.heap.size 0 rfl _ (H4.out.below hSw).load⟩) (by assumption) ?_
      simp only [Act.put, List.getElem_toArray, List.getElem_cons_zero, List.setIfInBounds_toArray, List.set_cons_zero, List.set_cons_succ]
      refine wpAnyH_take (i := 1) (v := (.slice (some p) n c)) rfl (by kernel_rfl) (by kernel_rfl) (by kernel_rfl) (fun _ _ _ h => h) (Or.inl ⟨by kernel_rfl, fun w' hSw => by go_simp⟩) (by assumption) ?_
      simp only [Act.put, List.getElem_toArray, List.getElem_cons_succ, List.getElem_cons_zero, List.setIfInBounds_toArray, List.set_cons_zero, List.set_cons_succ]
      refine wpAnyH_take (i := 2) (v := (.int .i64 (k : Int))) rfl (by kernel_rfl) (by kernel_rfl) (by kernel_rfl) (fun _ _ _ h => h) (Or.inl ⟨by kernel_rfl, fun w' hSw => by go_simp⟩) (by assumption) ?_
      simp only [Act.put, List.getElem_toArray, List.getElem_cons_succ, List.getElem_cons_zero, List.setIfInBounds_toArray, List.set_cons_zero, List.set_cons_succ]
      refine wpAnyH_take (i := 3) (v := (.pointer (some (p.add (k * 2))))) rfl (by kernel_rfl) (by kernel_rfl) (by kernel_rfl) (fun _ _ _ h => h) (Or.inl ⟨by kernel_rfl, fun w' hSw => by go_simp⟩) (by assumption) ?_
      simp only [Act.put, List.getElem_toArray, List.getElem_cons_succ, List.getElem_cons_zero, List.setIfInBounds_toArray, List.set_cons_zero, List.set_cons_succ]
      refine wpAnyH_take (i := 4) (v := (.agg #[.bool b, .int .i64 z])) rfl (by kernel_rfl) (by kernel_rfl) (by kernel_rfl) (fun _ _ _ h => h) (Or.inl ⟨by kernel_rfl, fun w' hSw => by (have c0 := acts_c0 hSw hpb HP0.out; have c1 : w'.cell? ⟨(p.add (k * 2)).block, (p.add (k * 2)).off + 1, none⟩ = some (.int .i64 z) := acts_c1 hSw hpb HP1.out; clear hSw hHeld hp0 hp1; go_simp)⟩) (by assumption) ?_
      simp only [Act.put, List.getElem_toArray, List.getElem_cons_succ, List.getElem_cons_zero, List.setIfInBounds_toArray, List.set_cons_zero, List.set_cons_succ]
      refine wpAnyH_ready (rs := [5, 9]) (by kernel_rfl) (by simp) ?_
      refine AllReadyH.cons rfl (fun K hK => ?_) (AllReadyH.cons rfl (fun K hK => ?_) AllReadyH.nil)
      · rw [if_pos (by kernel_rfl)]
        go_simp
        refine (do_any (runA (s.take k) []) HVT.out b z _).mono ?_
        rintro e w4 ⟨n', rfl, hb4⟩
        have HN4 := Lib.hid (below_drew3 hb4)
        clear hb4
        go_wp2_with fail
        refine hK.out _ _ HN4.out (fun hHeld => ?_)
        clear hK
        refine wpAnyH_take (i := 6) (v := (.tuple #[.agg (cells (toldL (actL (runA (s.take k) []) b z)).at), .int .i64 n'])) rfl (by kernel_rfl) (by kernel_rfl) (by kernel_rfl) (fun _ _ _ h => h) (Or.inl ⟨by kernel_rfl, fun w' hSw => by go_simp⟩) (by assumption) ?_
        simp only [Act.put, List.getElem_toArray, List.getElem_cons_succ, List.getElem_cons_zero, List.setIfInBounds_toArray, List.set_cons_zero, List.set_cons_succ]
        refine wpAnyH_take (i := 7) (v := (.agg (cells (toldL (actL (runA (s.take k) []) b z)).at))) rfl (by kernel_rfl) (by kernel_rfl) (by kernel_rfl) (fun _ _ _ h => h) (Or.inl ⟨by kernel_rfl, fun w' hSw => by go_simp⟩) (by assumption) ?_
        simp only [Act.put, List.getElem_toArray, List.getElem_cons_succ, List.getElem_cons_zero, List.setIfInBounds_toArray, List.set_cons_zero, List.set_cons_succ]
        refine wpAnyH_take (i := 8) (v := (.int .i64 n')) rfl (by kernel_rfl) (by kernel_rfl) (by kernel_rfl) (fun _ _ _ h => h) (Or.inl ⟨by kernel_rfl, fun w' hSw => by go_simp⟩) (by assumption) ?_
        simp only [Act.put, List.getElem_toArray, List.getElem_cons_succ, List.getElem_cons_zero, List.setIfInBounds_toArray, List.set_cons_zero, List.set_cons_succ]
        refine wpAnyH_ready (rs := [9]) (by kernel_rfl) (by simp) ?_
        refine AllReadyH.cons rfl (fun K hK => ?_) AllReadyH.nil
        rw [if_pos (by kernel_rfl)]
        go_simp
        refine hK.out _ _ (HN4.out.alloc HN4.out.size _) (fun hHeld => ?_)
        clear hK
        refine wpAnyH_ready (rs := [10]) (by kernel_rfl) (by simp) ?_
        refine AllReadyH.cons rfl (fun K hK => ?_) AllReadyH.nil
        rw [if_pos (by kernel_rfl)]
        refine wp_store_row 26 (.tmp 6) (.tmp 33) rfl w4.heap.size _ rfl rfl 26 _ (heap_alloc_last _ _) (size26 _) (size_same _ _) (Flat.all (Flat.at _)) ?_
        rw [World.setRow_alloc_new]
        refine hK.out _ _ (HN4.out.alloc HN4.out.size _) (fun hHeld => ?_)
        clear hK
        refine wpAnyH_take (i := 11) (v := (.int .i64 n')) rfl (by kernel_rfl) (by kernel_rfl) (by kernel_rfl) (fun _ _ _ h => h) (Or.inl ⟨by kernel_rfl, fun w' hSw => by go_simp⟩) (by assumption) ?_
        simp only [Act.put, List.getElem_toArray, List.getElem_cons_succ, List.getElem_cons_zero, List.setIfInBounds_toArray, List.set_cons_zero, List.set_cons_succ]
        refine wpAnyH_done (by kernel_rfl) ?_ _
        have HY := Lib.hid (Lies.new w4 (toldL (actL (runA (s.take k) []) b z)).at)
        have HBF := Lib.hid (HB.out.trans ((HN4.out.alloc HN4.out.size (.cells (cells (toldL (actL (runA (s.take k) []) b z)).at) 26)).mono HB.out.size))
        have H4F := Lib.hid (H4.out.below (HN4.out.alloc HN4.out.size (.cells (cells (toldL (actL (runA (s.take k) []) b z)).at) 26)))
        clear hHeld
        go_wp2_with (first
          | (refine wpList_load_row rfl 26 (.tmp 6) rfl w4.heap.size rfl 26 _ (0, 0) _ HY.out.row Try.underlying26 rfl (size26 _) ?_)
          | (refine wpList_store_row rfl 26 (.tmp 4) (.tmp 35) rfl w2.heap.size _ rfl rfl 26 _ H4F.out.row (size26 _) (size_same _ _) (Flat.all (Flat.at _)) ?_)
          | fail)
        go_roundw
        case rel =>
          refine ⟨k + 1, by omega, by go_num, ?_, below_setRow HBF.out HG4.out⟩
          rw [HST.out]
          exact H4F.out.setRow _
        case measure => simp [intOf]; omega
      · rw [if_pos (by kernel_rfl)]
        go_simp
        have HNA : Hid (Below wr.heap.size wr (wr.drew.alloc (.cells (cells z0.at) 26))) := Lib.hid ((Below.refl _ _).drew.alloc (Nat.le_refl _) _)
        refine hK.out _ _ HNA.out (fun hHeld => ?_)
        clear hK
        refine wpAnyH_ready (rs := [5]) (by kernel_rfl) (by simp) ?_
        refine AllReadyH.cons rfl (fun K hK => ?_) AllReadyH.nil
        rw [if_pos (by kernel_rfl)]
        go_simp
        refine (do_any (runA (s.take k) []) HVT.out b z _).mono ?_
        rintro e w4 ⟨n', rfl, hb4⟩
        have HN4 := Lib.hid (below_alloc_drew hb4)
        have HZ4 := Lib.hid (lies_alloc_drew hb4)
        clear hb4
        go_wp2_with fail
        refine hK.out _ _ HN4.out (fun hHeld => ?_)
        clear hK
        refine wpAnyH_take (i := 6) (v := (.tuple #[.agg (cells (toldL (actL (runA (s.take k) []) b z)).at), .int .i64 n'])) rfl (by kernel_rfl) (by kernel_rfl) (by kernel_rfl) (fun _ _ _ h => h) (Or.inl ⟨by kernel_rfl, fun w' hSw => by go_simp⟩) (by assumption) ?_
        simp only [Act.put, List.getElem_toArray, List.getElem_cons_succ, List.getElem_cons_zero, List.setIfInBounds_toArray, List.set_cons_zero, List.set_cons_succ]
        refine wpAnyH_take (i := 7) (v := (.agg (cells (toldL (actL (runA (s.take k) []) b z)).at))) rfl (by kernel_rfl) (by kernel_rfl) (by kernel_rfl) (fun _ _ _ h => h) (Or.inl ⟨by kernel_rfl, fun w' hSw => by go_simp⟩) (by assumption) ?_
        simp only [Act.put, List.getElem_toArray, List.getElem_cons_succ, List.getElem_cons_zero, List.setIfInBounds_toArray, List.set_cons_zero, List.set_cons_succ]
        refine wpAnyH_take (i := 8) (v := (.int .i64 n')) rfl (by kernel_rfl) (by kernel_rfl) (by kernel_rfl) (fun _ _ _ h => h) (Or.inl ⟨by kernel_rfl, fun w' hSw => by go_simp⟩) (by assumption) ?_
        simp only [Act.put, List.getElem_toArray, List.getElem_cons_succ, List.getElem_cons_zero, List.setIfInBounds_toArray, List.set_cons_zero, List.set_cons_succ]
        refine wpAnyH_ready (rs := [10]) (by kernel_rfl) (by simp) ?_
        refine AllReadyH.cons rfl (fun K hK => ?_) AllReadyH.nil
        rw [if_pos (by kernel_rfl)]
        refine wp_store_row 26 (.tmp 6) (.tmp 33) rfl wr.heap.size _ rfl rfl 26 _ HZ4.out.row (size26 _) (size_same _ _) (Flat.all (Flat.at _)) ?_
        refine hK.out _ _ (below_setRow HN4.out (Nat.le_refl _)) (fun hHeld => ?_)
        clear hK
        refine wpAnyH_take (i := 11) (v := (.int .i64 n')) rfl (by kernel_rfl) (by kernel_rfl) (by kernel_rfl) (fun _ _ _ h => h) (Or.inl ⟨by kernel_rfl, fun w' hSw => by go_simp⟩) (by assumption) ?_
        simp only [Act.put, List.getElem_toArray, List.getElem_cons_succ, List.getElem_cons_zero, List.setIfInBounds_toArray, List.set_cons_zero, List.set_cons_succ]
        refine wpAnyH_done (by kernel_rfl) ?_ _
        have HY := Lib.hid (HZ4.out.setRow (toldL (actL (runA (s.take k) []) b z)).at)
        have HBF := Lib.hid (HB.out.trans ((below_setRow (cs := cells (toldL (actL (runA (s.take k) []) b z)).at) HN4.out (Nat.le_refl _)).mono HB.out.size))
        have H4F := Lib.hid (H4.out.below (below_setRow (cs := cells (toldL (actL (runA (s.take k) []) b z)).at) HN4.out (Nat.le_refl _)))
        clear hHeld
        go_wp2_with (first
          | (refine wpList_load_row rfl 26 (.tmp 6) rfl wr.heap.size rfl 26 _ (0, 0) _ HY.out.row Try.underlying26 rfl (size26 _) ?_)
          | (refine wpList_store_row rfl 26 (.tmp 4) (.tmp 35) rfl w2.heap.size _ rfl rfl 26 _ H4F.out.row (size26 _) (size_same _ _) (Flat.all (Flat.at _)) ?_)
          | fail)
        go_roundw
        case rel =>
          refine ⟨k + 1, by omega, by go_num, ?_, below_setRow HBF.out HG4.out⟩
          rw [HST.out]
          exact H4F.out.setRow _
        case measure => simp [intOf]; omega
    · have hd : decide ((k : Int) < (n : Int)) = false := by simp; omega
      obtain rfl : k = n := by omega
      have hvn := runA_valid s [] ⟨by simp, by simp⟩
      have hst : s.take k = s := by rw [List.take_of_length_le]; rw [← HN.out]; omega
      rw [hst] at H4
      have HVN := Lib.hid hvn
      have hw1 : IntKind.i64.wrap ((k : Int) - 1) = (k : Int) - 1 := by rw [IntKind.wrap_i64]; omega
      obtain ⟨i0, hi, hz0, hz1, hz2⟩ := info_parts info3
      have HI := Lib.hid hi
      have HZ0 := Lib.hid hz0
      have HZ1 := Lib.hid hz1
      have HZ2 := Lib.hid hz2
      clear hi hz0 hz1 hz2 hvn hst
      have R0 := Lib.hid (RA.out.below HB.out)
      go_wp2_with fail
      obtain ⟨wo, hwo⟩ : ∃ wo : World, wo = wr := ⟨_, rfl⟩
      subst hwo
      have hkn : Hid (k = s.length) := HN
      clear hd hw1
      go_loopw [8, 9] (fun v i wr => ∃ (q : Nat) (z : Int) (m : Nat), q ≤ k ∧ i = .int .i64 z ∧ Hid (z = (q : Int) - 1) ∧ wr.ownsRow wo.heap.size 3 1 v m (ivL (wantR (s.drop q))) ∧ Below wo.heap.size wo wr) (fun _ i _ => (intOf i + 1).toNat)
      case atStart =>
        refine ⟨k, (k : Int) - 1, 0, Nat.le_refl _, rfl, Lib.hid rfl, ?_, Below.refl _ _⟩
        rw [List.drop_of_length_le (by rw [hkn.out]; omega)]
        exact World.ownsRow_nil _ _ _ _
      case round =>
        rename_i v8 v9
        obtain ⟨q, z, m, hq, rfl, HZ, ho, hbe⟩ := hrel
        have HO := Lib.hid ho
        have HE := Lib.hid hbe
        have hm100 : m ≤ 100 := by
          have h1 := ho.1
          have h2 := want_le (s.drop q)
          have h3 := hkn.out
          rw [List.length_drop] at h2
          simp [ivL] at h1
          omega
        clear ho hbe
        rcases Nat.eq_zero_or_pos q with rfl | hqp
        · obtain rfl : z = -1 := by have := HZ.out; omega
          have hd : decide ((0 : Int) ≤ -1) = false := by simp
          have H4w := Lib.hid (H4.out.below HE.out)
          have HBw := Lib.hid (HB.out.trans (HE.out.mono HB.out.size))
          obtain ⟨A8, c8, rfl⟩ := own_slice HO.out
          rw [List.drop_zero] at HO
          obtain ⟨hm8, _, hr8⟩ := RowI.of_own HO.out
          have hwa := want_all s
          rw [← hwa] at hm8 hr8
          have HR8 := Lib.hid hr8
          have HM8 := Lib.hid hm8
          clear hm8 hr8 hwa
          go_wp2_with (first
            | (refine wpList_load_row rfl 26 (.tmp 4) rfl w2.heap.size rfl 26 _ (0, 0) _ H4w.out.row Try.underlying26 rfl (size26 _) ?_)
            | fail)
          refine (order_cast (runA s []) HVN.out _).mono ?_
          rintro e w20 ⟨A12, c12, rfl, hr12, hb20⟩
          have HR12 := Lib.hid hr12
          have HR8w := Lib.hid (HR8.out.below hb20)
          have HB20 := Lib.hid (HBw.out.trans (hb20.mono HBw.out.size))
          have hle : (castL (runA s [])).length ≤ 64 := by rw [castL_len]; exact HVN.out.len
          clear hr12 hb20
          go_wp2_with fail
          rw [HM8.out]
          refine (same_any A12 A8 c12 c8 (castL (runA s [])) (castL (runA s [])) (by omega) _ HR12.out HR8w.out).mono ?_
          rintro e w21 ⟨rfl, hb21⟩
          rw [show decide (castL (runA s []) = castL (runA s [])) = true by simp]
          have HB21 := Lib.hid (HB20.out.trans (hb21.mono HB20.out.size))
          clear hb21
          go_wp2_with fail
          go_ret
          exact ⟨rfl, HB21.out⟩
        · obtain ⟨j, rfl⟩ : ∃ j, q = j + 1 := ⟨q - 1, by omega⟩
          obtain rfl : z = (j : Int) := by have := HZ.out; omega
          have hd : decide ((0 : Int) ≤ (j : Int)) = true := by simp
          have hjs : j < s.length := by rw [← hkn.out]; omega
          have hw1 : IntKind.i64.wrap ((j : Int) + 1) = (j : Int) + 1 := by rw [IntKind.wrap_i64]; omega
          have hcast : ((j : Int) + 1) = ((j + 1 : Nat) : Int) := by omega
          rw [hcast] at hw1
          clear hcast
          obtain ⟨p, hpA, _⟩ := R0.out j hjs
          subst hpA
          have R1 := Lib.hid (R0.out.below HE.out)
          go_wp2_with fail
          obtain ⟨w1', hw1'⟩ : ∃ w1' : World, w1' = wr := ⟨_, rfl⟩
          subst hw1'
          clear hd hw1
          go_loopw [10, 11] (fun a i wr => ∃ (kk : Nat) (lt : Bool), kk ≤ k ∧ j < kk ∧ i = .int .i64 kk ∧ a = .bool lt ∧ Hid (lt = true ↔ ∃ q, ∃ h : q < s.length, j < q ∧ q < kk ∧ (s[q]'h).2 = s[j].2) ∧ Below w1'.heap.size w1' wr) (fun _ i _ => k - (intOf i).toNat)
          case atStart => 
            refine ⟨j + 1, false, by omega, by omega, by go_num, rfl, Lib.hid ?_, Below.refl _ _⟩
            constructor
            · intro h; cases h
            · rintro ⟨q, _, h1, h2, _⟩; omega
          case round =>
            obtain ⟨kk, lt, hkk, hjk, rfl, rfl, HLT, hbe⟩ := hrel
            have HE2 := Lib.hid hbe
            have R2 := Lib.hid (R1.out.below hbe)
            clear hbe
            obtain ⟨cj0, cj1⟩ := act_at R2.out j hjs
            obtain ⟨y, hy⟩ : ∃ y, y = s[j].2 := ⟨_, rfl⟩
            obtain ⟨dr, hdr⟩ : ∃ dr, dr = s[j].1 := ⟨_, rfl⟩
            rw [← hy] at cj1 HLT
            rw [← hdr] at cj0
            have HY := Lib.hid hy
            have HDR := Lib.hid hdr
            clear hy hdr
            by_cases hlt : kk < k
            · have hd : decide ((kk : Int) < (k : Int)) = true := by simp; omega
              have hks : kk < s.length := by rw [← hkn.out]; exact hlt
              obtain ⟨ck0, ck1⟩ := act_at R2.out kk hks
              have hls := late_step hks hjk HLT.out
              obtain ⟨x, hx⟩ : ∃ x, x = s[kk].2 := ⟨_, rfl⟩
              rw [← hx] at ck1 hls
              have HLS := Lib.hid hls
              clear hls hx ck0 cj0
              cases lt
              · by_cases hxy : x = y
                · have he : (x == y) = true := by simpa using hxy
                  rw [he] at HLS
                  clear hxy
                  go_wp2_with fail
                  go_quiet (fail)
                  go_wp2_with fail
                  go_roundw
                  case rel => exact ⟨kk + 1, true, by omega, by omega, by go_num, rfl, Lib.hid (by rw [← HY.out]; simpa using HLS.out), drewN_below HE2.out _⟩
                  case measure => simp [intOf]; omega
                · have he : (x == y) = false := by simpa using hxy
                  rw [he] at HLS
                  clear hxy
                  go_wp2_with fail
                  go_quiet (fail)
                  go_wp2_with fail
                  go_roundw
                  case rel => exact ⟨kk + 1, false, by omega, by omega, by go_num, rfl, Lib.hid (by rw [← HY.out]; simpa using HLS.out), drewN_below HE2.out _⟩
                  case measure => simp [intOf]; omega
              · clear ck1 cj1
                go_wp2_with fail
                go_quiet (fail)
                go_wp2_with fail
                go_roundw
                case rel => exact ⟨kk + 1, true, by omega, by omega, by go_num, rfl, Lib.hid (by rw [← HY.out]; simpa using HLS.out), drewN_below HE2.out _⟩
                case measure => simp [intOf]; omega
            · have hd : decide ((kk : Int) < (k : Int)) = false := by simp; omega
              obtain rfl : kk = k := by omega
              have HLE := Lib.hid (late_end hkn.out HLT.out)
              have HB3 := Lib.hid (HE.out.trans (HE2.out.mono HE.out.size))
              have HO3 := Lib.hid (own_below HO.out HE2.out)
              have hwj : IntKind.i64.wrap ((j : Int) - 1) = (j : Int) - 1 := by rw [IntKind.wrap_i64]; omega
              clear HE2 HE HO HLT
              by_cases hkeep : lt = false ∧ dr = false ∧ 0 ≤ y ∧ y < 64
              · obtain ⟨rfl, rfl, h0, h1⟩ := hkeep
                have hd0 : decide (0 ≤ y) = true := by simpa using h0
                have hd1 : decide (y < 64) = true := by simpa using h1
                have hkb : keepB (s.drop (j + 1)) s[j] = true := by unfold keepB; rw [← HY.out, ← HDR.out, HLE.out, hd0, hd1]; rfl
                have hwt := want_take hjs hkb
                rw [← HY.out] at hwt
                have HWT := Lib.hid hwt
                clear hkb hwt h0 h1 hd
                have hlt2 : decide ((kk : Int) < (kk : Int)) = false := by simp
                go_wp2_with (first
                  | (at_builtin; refine wpList_append_own _ rfl (.tmp 91) (.tmp 97) 22 rfl wo.heap.size 3 i0 (.int .i64 0) 1 8 Try.underlying22 HI.out HZ0.out HZ1.out HZ2.out rfl (by decide) _ m _ rfl (HO3.out.alloc _) ⟨wr.heap.size, 0, none⟩ 1 1 [.int .i64 y] rfl rfl ?c1 ?c2 ?c3 ?c4 ?c5 ?_)
                  | fail)
                case c1 => exact one_cell wr y
                case c2 => intro u hu; simp at hu; subst hu; rfl
                case c3 => unfold maxLen; omega
                case c4 => omega
                case c5 => have := HB3.out.size; simp; omega
                intro v7 w7 hown7 hgrow7 _
                have HO7 := Lib.hid hown7
                have HB7 : Hid (Below wo.heap.size wo w7) := Lib.hid (below_grown_alloc HB3.out HO3.out hgrow7)
                clear hown7 hgrow7
                go_wp2_with fail
                go_roundw
                case rel =>
                  refine ⟨j, (j : Int) - 1, m + 1, by omega, rfl, Lib.hid rfl, ?_, HB7.out⟩
                  rw [HWT.out, ivL, List.map_append]
                  exact HO7.out
                case measure => simp [intOf]
              · have hkb : keepB (s.drop (j + 1)) s[j] = false := by
                  unfold keepB
                  rw [← HY.out, ← HDR.out, HLE.out]
                  cases lt <;> cases dr <;> simp at hkeep ⊢
                  exact hkeep
                have HWS := Lib.hid (want_skip hjs hkb)
                clear hkb hd
                have hlt2 : decide ((kk : Int) < (kk : Int)) = false := by simp
                cases lt
                · cases dr
                  · by_cases h0 : 0 ≤ y
                    · have hd0 : decide (0 ≤ y) = true := by simpa using h0
                      have hd1 : decide (y < 64) = false := by simp; exact Int.not_lt.mp (fun h => hkeep ⟨rfl, rfl, h0, h⟩)
                      clear hkeep h0
                      go_wp2_with fail
                      go_roundw
                      case rel => exact ⟨j, (j : Int) - 1, m, by omega, rfl, Lib.hid rfl, by rw [HWS.out]; exact HO3.out, HB3.out⟩
                      case measure => simp [intOf]
                    · have hd0 : decide (0 ≤ y) = false := by simpa using h0
                      clear hkeep h0
                      go_wp2_with fail
                      go_roundw
                      case rel => exact ⟨j, (j : Int) - 1, m, by omega, rfl, Lib.hid rfl, by rw [HWS.out]; exact HO3.out, HB3.out⟩
                      case measure => simp [intOf]
                  · clear hkeep
                    go_wp2_with fail
                    go_roundw
                    case rel => exact ⟨j, (j : Int) - 1, m, by omega, rfl, Lib.hid rfl, by rw [HWS.out]; exact HO3.out, HB3.out⟩
                    case measure => simp [intOf]
                · clear hkeep
                  go_wp2_with fail
                  go_roundw
                  case rel => exact ⟨j, (j : Int) - 1, m, by omega, rfl, Lib.hid rfl, by rw [HWS.out]; exact HO3.out, HB3.out⟩
                  case measure => simp [intOf]
set_option maxRecDepth 100000 in
set_option maxHeartbeats 800000 in
theorem uses_long (A : Option Addr) (c : Nat) (s : List (Bool × Int)) (hn : ¬ s.length ≤ 100) (w : World) : Calls Try.prog 4 #[.slice A s.length c] w fun e w' => e = .returned (.bool true) ∧ Below w.heap.size w w' := by
  have hd : decide (100 < (s.length : Int)) = true := by simp; omega
  clear hn
  go_enter Try.func4, Try.ntmps4
  go_wp2_with fail
  refine (awake_any _).mono ?_
  rintro e w1 ⟨rfl, hb⟩
  have HB := Lib.hid hb
  clear hb
  go_wp2_with fail
  go_ret
  exact ⟨rfl, HB.out⟩
theorem listUses_walk (A : Option Addr) (c : Nat) (s : List (Bool × Int)) (_ : s.length ≤ 9223372036854775807) {w : World} (hr : RowA w A s) (_ : World) : Calls Try.prog 4 #[.slice A s.length c] w fun e w' => e = .returned (.bool true) ∧ Below w.heap.size w w' := by
  by_cases hn : s.length ≤ 100
  · exact uses_ok A c s hn w hr
  · exact uses_long A c s hn w
end Go.Proofs.Ytgbhfagmbkoobaa
