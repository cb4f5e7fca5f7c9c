/-
  THE WALK OF TapePicks: it answers true.
-/
import Derived.Test.YtchpgoipoaoboaaAwake
import Derived.Deep.RegionHeld3
namespace Go.Proofs.Ytchpgoipoaoboaa
open Go.RowKit
open Lean Elab Tactic in
elab "tgt" : tactic => withMainContext do
  let t ← getMainTarget
  let t ← instantiateMVars t
  let s := toString (← Meta.ppExpr t)
  logInfo m!"{s.take 30000}"
theorem word_parts3 (b : ByteArray) (o : Nat) : nv (word b o) = bv (byteAt b o) + 256 * bv (byteAt b (o + 1)) + 65536 * bv (byteAt b (o + 2)) + 16777216 * bv (byteAt b (o + 3)) := by
  rw [← word_sum]
  have h0 := bv_range (byteAt b o)
  have h1 := bv_range (byteAt b (o + 1))
  have h2 := bv_range (byteAt b (o + 2))
  have h3 := bv_range (byteAt b (o + 3))
  omega
theorem byteAt_le (n : BitVec 32) (i : Nat) : byteAt (leS n) i = (le4 n).getD i 0#8 := by
  unfold byteAt leS
  rw [bs_ofBits]
theorem le_word (n : BitVec 32) : word (leS n) 0 = n := by
  apply nv_inj
  rw [word_parts3, byteAt_le, byteAt_le, byteAt_le, byteAt_le]
  have h24 := nv_shr n 24 16777216 rfl
  have h16 := nv_shr n 16 65536 rfl
  have h8 := nv_shr n 8 256 rfl
  have b0 := nv_byte n
  have b1 := nv_byte (n >>> 8)
  have b2 := nv_byte (n >>> 16)
  have b3 := nv_byte (n >>> 24)
  have r := nv_range n
  show bv (n.setWidth 8) + 256 * bv ((n >>> 8).setWidth 8) + 65536 * bv ((n >>> 16).setWidth 8) + 16777216 * bv ((n >>> 24).setWidth 8) = nv n
  omega
theorem size_leS (n : BitVec 32) : (leS n).size = 4 := by unfold leS; rw [size_ofBits]; rfl
theorem le_draw (n : BitVec 32) : drawV (leS n) 0 = n ∧ drawAt (leS n) 0 = 1 := by
  unfold drawV drawAt
  rw [size_leS, if_pos (by omega), if_pos (by omega)]
  exact ⟨le_word n, rfl⟩
/-- a number that fits its kind is a word -/
theorem wf_nv (a : Int) (h : (Lit.int .u32 a).wf = true) : ∃ x, a = nv x := by
  have h1 : IntKind.u32.min = 0 := rfl
  have h2 : IntKind.u32.max = 4294967295 := rfl
  simp only [Lit.wf, Bool.and_eq_true, decide_eq_true_eq] at h
  refine ⟨BitVec.ofNat 32 a.toNat, ?_⟩
  unfold nv
  rw [BitVec.toNat_ofNat, Nat.mod_eq_of_lt (by omega)]
  omega
theorem of_kept {W0 wk : World} {p : Prop} (n : BitVec 32) (h : Below W0.heap.size W0 wk ∧ p) :
    Calls Try.prog 19 #[.int .u32 (nv n)] wk fun e w' => e = .returned (tp (leS n) 0) ∧ Below W0.heap.size W0 w' := by
  refine (of_any n wk).mono ?_
  rintro e w' ⟨rfl, hb⟩
  exact ⟨rfl, below_two h.1 hb⟩
set_option maxRecDepth 100000 in
set_option maxHeartbeats 400000 in
theorem tapePicks_in00 (x y lo hi : BitVec 32) (n p q ua : Int) (hn : I64 n) (hmin : min (nv x) (nv y) = nv lo) (hmax : max (nv x) (nv y) = nv hi) (HP : Hid (pickN (leS lo) 0 n = p)) (HQ : Hid (pickN (leS hi) 0 n = q)) (HQA : Hid (pickAt (leS hi) 0 n = ua)) (HZ : Hid (pickN (leS x) 0 1 = 0)) (HZA : Hid (pickAt (leS x) 0 1 = 1)) (hd1 : decide (n < 1) = false) (hd2 : decide (2147483647 < n) = false) (h1 : decide (0 ≤ p) = true) (h2 : decide (p ≤ q) = true) (h3 : decide (q < n) = true) (h4 : (ua == 1) = true) (h5 : decide (0 < nv lo) = false) (h6 : (p == 0) = true) (h7 : decide (nv hi < 4294967295) = false) (hI : IntKind.i64.wrap (n - 1) = n - 1) (h8 : (q == n - 1) = true) (w : World) :
    Calls Try.prog 5 #[.int .u32 (nv x), .int .u32 (nv y), .int .i64 n] w fun e w' => e = .returned (.bool true) ∧ Below w.heap.size w w' := by
  go_enter Try.func5, Try.ntmps5
  go_wp2_with fail
  refine (awake_any _).mono ?_
  rintro e w1_ ⟨rfl, hb_⟩
  have HB := Lib.hid hb_
  clear hb_
  go_wp2_with fail
  refine (of_any lo _).mono ?_
  rintro e w2_ ⟨rfl, hb_⟩
  replace HB := Lib.hid (below_two HB.out hb_)
  clear hb_
  go_wp2_with fail
  refine (pick_any (leS lo) 0 n (by rw [size_leS]; omega) (by unfold I64; omega) hn _).mono ?_
  rintro e w3_ ⟨rfl, hb_⟩
  rw [HP.out]
  replace HB := Lib.hid (below_two HB.out hb_)
  clear hb_
  go_wp2_with fail
  refine (of_any hi _).mono ?_
  rintro e w4_ ⟨rfl, hb_⟩
  replace HB := Lib.hid (below_two HB.out (below_box hb_))
  have Bj := Lib.hid ((Box.new w3_ (leS lo) (pickAt (leS lo) 0 n)).below hb_)
  clear hb_
  clear Bj
  go_wp2_with fail
  refine (pick_any (leS hi) 0 n (by rw [size_leS]; omega) (by unfold I64; omega) hn _).mono ?_
  rintro e w5_ ⟨rfl, hb_⟩
  rw [HQ.out, HQA.out]
  replace HB := Lib.hid (below_two HB.out hb_)
  clear hb_
  go_wp2_with fail
  refine (of_any x _).mono ?_
  rintro e w6_ ⟨rfl, hb_⟩
  replace HB := Lib.hid (below_two HB.out (below_box hb_))
  have Bu := Lib.hid ((Box.new w5_ (leS hi) (ua)).below hb_)
  clear hb_
  go_wp2_with fail
  refine (pick_any (leS x) 0 1 (by rw [size_leS]; omega) (by unfold I64; omega) (by unfold I64; omega) _).mono ?_
  rintro e w7_ ⟨rfl, hb_⟩
  rw [HZ.out, HZA.out]
  replace HB := Lib.hid (below_two HB.out hb_)
  replace Bu := Lib.hid (Bu.out.below hb_)
  clear hb_
  obtain ⟨u0, u1, u2⟩ := Bu.out
  go_wp2_with fail
  go_ret
  exact ⟨rfl, (below_two HB.out (Below.refl _ _ |>.alloc (Nat.le_refl _) _))⟩
set_option maxRecDepth 100000 in
set_option maxHeartbeats 400000 in
theorem tapePicks_in01 (x y lo hi : BitVec 32) (n p q ua : Int) (hn : I64 n) (hmin : min (nv x) (nv y) = nv lo) (hmax : max (nv x) (nv y) = nv hi) (HP : Hid (pickN (leS lo) 0 n = p)) (HQ : Hid (pickN (leS hi) 0 n = q)) (HQA : Hid (pickAt (leS hi) 0 n = ua)) (HZ : Hid (pickN (leS x) 0 1 = 0)) (HZA : Hid (pickAt (leS x) 0 1 = 1)) (hd1 : decide (n < 1) = false) (hd2 : decide (2147483647 < n) = false) (h1 : decide (0 ≤ p) = true) (h2 : decide (p ≤ q) = true) (h3 : decide (q < n) = true) (h4 : (ua == 1) = true) (h5 : decide (0 < nv lo) = false) (h6 : (p == 0) = true) (h7 : decide (nv hi < 4294967295) = true) (w : World) :
    Calls Try.prog 5 #[.int .u32 (nv x), .int .u32 (nv y), .int .i64 n] w fun e w' => e = .returned (.bool true) ∧ Below w.heap.size w w' := by
  go_enter Try.func5, Try.ntmps5
  go_wp2_with fail
  refine (awake_any _).mono ?_
  rintro e w1_ ⟨rfl, hb_⟩
  have HB := Lib.hid hb_
  clear hb_
  go_wp2_with fail
  refine (of_any lo _).mono ?_
  rintro e w2_ ⟨rfl, hb_⟩
  replace HB := Lib.hid (below_two HB.out hb_)
  clear hb_
  go_wp2_with fail
  refine (pick_any (leS lo) 0 n (by rw [size_leS]; omega) (by unfold I64; omega) hn _).mono ?_
  rintro e w3_ ⟨rfl, hb_⟩
  rw [HP.out]
  replace HB := Lib.hid (below_two HB.out hb_)
  clear hb_
  go_wp2_with fail
  refine (of_any hi _).mono ?_
  rintro e w4_ ⟨rfl, hb_⟩
  replace HB := Lib.hid (below_two HB.out (below_box hb_))
  have Bj := Lib.hid ((Box.new w3_ (leS lo) (pickAt (leS lo) 0 n)).below hb_)
  clear hb_
  clear Bj
  go_wp2_with fail
  refine (pick_any (leS hi) 0 n (by rw [size_leS]; omega) (by unfold I64; omega) hn _).mono ?_
  rintro e w5_ ⟨rfl, hb_⟩
  rw [HQ.out, HQA.out]
  replace HB := Lib.hid (below_two HB.out hb_)
  clear hb_
  go_wp2_with fail
  refine (of_any x _).mono ?_
  rintro e w6_ ⟨rfl, hb_⟩
  replace HB := Lib.hid (below_two HB.out (below_box hb_))
  have Bu := Lib.hid ((Box.new w5_ (leS hi) (ua)).below hb_)
  clear hb_
  go_wp2_with fail
  refine (pick_any (leS x) 0 1 (by rw [size_leS]; omega) (by unfold I64; omega) (by unfold I64; omega) _).mono ?_
  rintro e w7_ ⟨rfl, hb_⟩
  rw [HZ.out, HZA.out]
  replace HB := Lib.hid (below_two HB.out hb_)
  replace Bu := Lib.hid (Bu.out.below hb_)
  clear hb_
  obtain ⟨u0, u1, u2⟩ := Bu.out
  go_wp2_with fail
  go_ret
  exact ⟨rfl, (below_two HB.out (Below.refl _ _ |>.alloc (Nat.le_refl _) _))⟩
set_option maxRecDepth 100000 in
set_option maxHeartbeats 400000 in
theorem tapePicks_in10 (x y lo hi : BitVec 32) (n p q ua : Int) (hn : I64 n) (hmin : min (nv x) (nv y) = nv lo) (hmax : max (nv x) (nv y) = nv hi) (HP : Hid (pickN (leS lo) 0 n = p)) (HQ : Hid (pickN (leS hi) 0 n = q)) (HQA : Hid (pickAt (leS hi) 0 n = ua)) (HZ : Hid (pickN (leS x) 0 1 = 0)) (HZA : Hid (pickAt (leS x) 0 1 = 1)) (hd1 : decide (n < 1) = false) (hd2 : decide (2147483647 < n) = false) (h1 : decide (0 ≤ p) = true) (h2 : decide (p ≤ q) = true) (h3 : decide (q < n) = true) (h4 : (ua == 1) = true) (h5 : decide (0 < nv lo) = true) (h7 : decide (nv hi < 4294967295) = false) (hI : IntKind.i64.wrap (n - 1) = n - 1) (h8 : (q == n - 1) = true) (w : World) :
    Calls Try.prog 5 #[.int .u32 (nv x), .int .u32 (nv y), .int .i64 n] w fun e w' => e = .returned (.bool true) ∧ Below w.heap.size w w' := by
  go_enter Try.func5, Try.ntmps5
  go_wp2_with fail
  refine (awake_any _).mono ?_
  rintro e w1_ ⟨rfl, hb_⟩
  have HB := Lib.hid hb_
  clear hb_
  go_wp2_with fail
  refine (of_any lo _).mono ?_
  rintro e w2_ ⟨rfl, hb_⟩
  replace HB := Lib.hid (below_two HB.out hb_)
  clear hb_
  go_wp2_with fail
  refine (pick_any (leS lo) 0 n (by rw [size_leS]; omega) (by unfold I64; omega) hn _).mono ?_
  rintro e w3_ ⟨rfl, hb_⟩
  rw [HP.out]
  replace HB := Lib.hid (below_two HB.out hb_)
  clear hb_
  go_wp2_with fail
  refine (of_any hi _).mono ?_
  rintro e w4_ ⟨rfl, hb_⟩
  replace HB := Lib.hid (below_two HB.out (below_box hb_))
  have Bj := Lib.hid ((Box.new w3_ (leS lo) (pickAt (leS lo) 0 n)).below hb_)
  clear hb_
  clear Bj
  go_wp2_with fail
  refine (pick_any (leS hi) 0 n (by rw [size_leS]; omega) (by unfold I64; omega) hn _).mono ?_
  rintro e w5_ ⟨rfl, hb_⟩
  rw [HQ.out, HQA.out]
  replace HB := Lib.hid (below_two HB.out hb_)
  clear hb_
  go_wp2_with fail
  refine (of_any x _).mono ?_
  rintro e w6_ ⟨rfl, hb_⟩
  replace HB := Lib.hid (below_two HB.out (below_box hb_))
  have Bu := Lib.hid ((Box.new w5_ (leS hi) (ua)).below hb_)
  clear hb_
  go_wp2_with fail
  refine (pick_any (leS x) 0 1 (by rw [size_leS]; omega) (by unfold I64; omega) (by unfold I64; omega) _).mono ?_
  rintro e w7_ ⟨rfl, hb_⟩
  rw [HZ.out, HZA.out]
  replace HB := Lib.hid (below_two HB.out hb_)
  replace Bu := Lib.hid (Bu.out.below hb_)
  clear hb_
  obtain ⟨u0, u1, u2⟩ := Bu.out
  go_wp2_with fail
  go_ret
  exact ⟨rfl, (below_two HB.out (Below.refl _ _ |>.alloc (Nat.le_refl _) _))⟩
set_option maxRecDepth 100000 in
set_option maxHeartbeats 400000 in
theorem tapePicks_in11 (x y lo hi : BitVec 32) (n p q ua : Int) (hn : I64 n) (hmin : min (nv x) (nv y) = nv lo) (hmax : max (nv x) (nv y) = nv hi) (HP : Hid (pickN (leS lo) 0 n = p)) (HQ : Hid (pickN (leS hi) 0 n = q)) (HQA : Hid (pickAt (leS hi) 0 n = ua)) (HZ : Hid (pickN (leS x) 0 1 = 0)) (HZA : Hid (pickAt (leS x) 0 1 = 1)) (hd1 : decide (n < 1) = false) (hd2 : decide (2147483647 < n) = false) (h1 : decide (0 ≤ p) = true) (h2 : decide (p ≤ q) = true) (h3 : decide (q < n) = true) (h4 : (ua == 1) = true) (h5 : decide (0 < nv lo) = true) (h7 : decide (nv hi < 4294967295) = true) (w : World) :
    Calls Try.prog 5 #[.int .u32 (nv x), .int .u32 (nv y), .int .i64 n] w fun e w' => e = .returned (.bool true) ∧ Below w.heap.size w w' := by
  go_enter Try.func5, Try.ntmps5
  go_wp2_with fail
  refine (awake_any _).mono ?_
  rintro e w1_ ⟨rfl, hb_⟩
  have HB := Lib.hid hb_
  clear hb_
  go_wp2_with fail
  refine (of_any lo _).mono ?_
  rintro e w2_ ⟨rfl, hb_⟩
  replace HB := Lib.hid (below_two HB.out hb_)
  clear hb_
  go_wp2_with fail
  refine (pick_any (leS lo) 0 n (by rw [size_leS]; omega) (by unfold I64; omega) hn _).mono ?_
  rintro e w3_ ⟨rfl, hb_⟩
  rw [HP.out]
  replace HB := Lib.hid (below_two HB.out hb_)
  clear hb_
  go_wp2_with fail
  refine (of_any hi _).mono ?_
  rintro e w4_ ⟨rfl, hb_⟩
  replace HB := Lib.hid (below_two HB.out (below_box hb_))
  have Bj := Lib.hid ((Box.new w3_ (leS lo) (pickAt (leS lo) 0 n)).below hb_)
  clear hb_
  clear Bj
  go_wp2_with fail
  refine (pick_any (leS hi) 0 n (by rw [size_leS]; omega) (by unfold I64; omega) hn _).mono ?_
  rintro e w5_ ⟨rfl, hb_⟩
  rw [HQ.out, HQA.out]
  replace HB := Lib.hid (below_two HB.out hb_)
  clear hb_
  go_wp2_with fail
  refine (of_any x _).mono ?_
  rintro e w6_ ⟨rfl, hb_⟩
  replace HB := Lib.hid (below_two HB.out (below_box hb_))
  have Bu := Lib.hid ((Box.new w5_ (leS hi) (ua)).below hb_)
  clear hb_
  go_wp2_with fail
  refine (pick_any (leS x) 0 1 (by rw [size_leS]; omega) (by unfold I64; omega) (by unfold I64; omega) _).mono ?_
  rintro e w7_ ⟨rfl, hb_⟩
  rw [HZ.out, HZA.out]
  replace HB := Lib.hid (below_two HB.out hb_)
  replace Bu := Lib.hid (Bu.out.below hb_)
  clear hb_
  obtain ⟨u0, u1, u2⟩ := Bu.out
  go_wp2_with fail
  go_ret
  exact ⟨rfl, (below_two HB.out (Below.refl _ _ |>.alloc (Nat.le_refl _) _))⟩
set_option maxRecDepth 100000 in
set_option maxHeartbeats 400000 in
theorem tapePicks_out_a (x y lo hi : BitVec 32) (n : Int) (hn : I64 n) (hmin : min (nv x) (nv y) = nv lo) (hmax : max (nv x) (nv y) = nv hi) (HP : Hid (pickN (leS lo) 0 n = 0)) (HQ : Hid (pickN (leS hi) 0 n = 0)) (HQA : Hid (pickAt (leS hi) 0 n = 0)) (HZ : Hid (pickN (leS x) 0 1 = 0)) (HZA : Hid (pickAt (leS x) 0 1 = 1)) (hd1 : decide (n < 1) = true) (w : World) :
    Calls Try.prog 5 #[.int .u32 (nv x), .int .u32 (nv y), .int .i64 n] w fun e w' => e = .returned (.bool true) ∧ Below w.heap.size w w' := by
  go_enter Try.func5, Try.ntmps5
  go_wp2_with fail
  refine (awake_any _).mono ?_
  rintro e w1_ ⟨rfl, hb_⟩
  have HB := Lib.hid hb_
  clear hb_
  go_wp2_with fail
  refine (of_any lo _).mono ?_
  rintro e w2_ ⟨rfl, hb_⟩
  replace HB := Lib.hid (below_two HB.out hb_)
  clear hb_
  go_wp2_with fail
  refine (pick_any (leS lo) 0 n (by rw [size_leS]; omega) (by unfold I64; omega) hn _).mono ?_
  rintro e w3_ ⟨rfl, hb_⟩
  rw [HP.out]
  replace HB := Lib.hid (below_two HB.out hb_)
  clear hb_
  go_wp2_with fail
  refine (of_any hi _).mono ?_
  rintro e w4_ ⟨rfl, hb_⟩
  replace HB := Lib.hid (below_two HB.out (below_box hb_))
  have Bj := Lib.hid ((Box.new w3_ (leS lo) (pickAt (leS lo) 0 n)).below hb_)
  clear hb_
  clear Bj
  go_wp2_with fail
  refine (pick_any (leS hi) 0 n (by rw [size_leS]; omega) (by unfold I64; omega) hn _).mono ?_
  rintro e w5_ ⟨rfl, hb_⟩
  rw [HQ.out, HQA.out]
  replace HB := Lib.hid (below_two HB.out hb_)
  clear hb_
  go_wp2_with fail
  refine (of_any x _).mono ?_
  rintro e w6_ ⟨rfl, hb_⟩
  replace HB := Lib.hid (below_two HB.out (below_box hb_))
  have Bu := Lib.hid ((Box.new w5_ (leS hi) (0)).below hb_)
  clear hb_
  go_wp2_with fail
  refine (pick_any (leS x) 0 1 (by rw [size_leS]; omega) (by unfold I64; omega) (by unfold I64; omega) _).mono ?_
  rintro e w7_ ⟨rfl, hb_⟩
  rw [HZ.out, HZA.out]
  replace HB := Lib.hid (below_two HB.out hb_)
  replace Bu := Lib.hid (Bu.out.below hb_)
  clear hb_
  obtain ⟨u0, u1, u2⟩ := Bu.out
  go_wp2_with fail
  replace Bu := Lib.hid (Bu.out.alloc (.cells #[.string (leS x), .int .i64 1] 23))
  replace HB := Lib.hid (below_two HB.out ((Below.refl _ _).alloc (Nat.le_refl _) (.cells #[.string (leS x), .int .i64 1] 23)))
  clear u0 u1 u2
  generalize w7_.alloc (.cells #[.string (leS x), .int .i64 1] 23) = W0 at *
  have HS : Hid (∀ w', Below W0.heap.size W0 w' → Below W0.heap.size W0 w' ∧ w'.cell? ⟨w5_.heap.size, 0, none⟩ = some (.string (leS hi)) ∧ w'.cell? ⟨w5_.heap.size, 1, none⟩ = some (.int .i64 0)) := fun w' h => ⟨h, (Bu.out.below h).2.1, (Bu.out.below h).2.2⟩
  go_region_held3 (fun w' => Below W0.heap.size W0 w' ∧ w'.cell? ⟨w5_.heap.size, 0, none⟩ = some (.string (leS hi)) ∧ w'.cell? ⟨w5_.heap.size, 1, none⟩ = some (.int .i64 0)) (first | exact HS.out _ HN.out | exact HS.out _ (Below.refl _ _).drew) (first | (go_at_call 19; refine (of_kept _ (by assumption)).mono ?_; rintro e w' ⟨rfl, hb⟩; have HN := Lib.hid hb; clear hb))
  all_goals
    go_wp2
    go_ret
    exact ⟨rfl, below_two HB.out HN.out⟩
set_option maxRecDepth 100000 in
set_option maxHeartbeats 400000 in
theorem tapePicks_out_b (x y lo hi : BitVec 32) (n : Int) (hn : I64 n) (hmin : min (nv x) (nv y) = nv lo) (hmax : max (nv x) (nv y) = nv hi) (HP : Hid (pickN (leS lo) 0 n = 0)) (HQ : Hid (pickN (leS hi) 0 n = 0)) (HQA : Hid (pickAt (leS hi) 0 n = 0)) (HZ : Hid (pickN (leS x) 0 1 = 0)) (HZA : Hid (pickAt (leS x) 0 1 = 1)) (hd1 : decide (n < 1) = false) (hd2 : decide (2147483647 < n) = true) (w : World) :
    Calls Try.prog 5 #[.int .u32 (nv x), .int .u32 (nv y), .int .i64 n] w fun e w' => e = .returned (.bool true) ∧ Below w.heap.size w w' := by
  go_enter Try.func5, Try.ntmps5
  go_wp2_with fail
  refine (awake_any _).mono ?_
  rintro e w1_ ⟨rfl, hb_⟩
  have HB := Lib.hid hb_
  clear hb_
  go_wp2_with fail
  refine (of_any lo _).mono ?_
  rintro e w2_ ⟨rfl, hb_⟩
  replace HB := Lib.hid (below_two HB.out hb_)
  clear hb_
  go_wp2_with fail
  refine (pick_any (leS lo) 0 n (by rw [size_leS]; omega) (by unfold I64; omega) hn _).mono ?_
  rintro e w3_ ⟨rfl, hb_⟩
  rw [HP.out]
  replace HB := Lib.hid (below_two HB.out hb_)
  clear hb_
  go_wp2_with fail
  refine (of_any hi _).mono ?_
  rintro e w4_ ⟨rfl, hb_⟩
  replace HB := Lib.hid (below_two HB.out (below_box hb_))
  have Bj := Lib.hid ((Box.new w3_ (leS lo) (pickAt (leS lo) 0 n)).below hb_)
  clear hb_
  clear Bj
  go_wp2_with fail
  refine (pick_any (leS hi) 0 n (by rw [size_leS]; omega) (by unfold I64; omega) hn _).mono ?_
  rintro e w5_ ⟨rfl, hb_⟩
  rw [HQ.out, HQA.out]
  replace HB := Lib.hid (below_two HB.out hb_)
  clear hb_
  go_wp2_with fail
  refine (of_any x _).mono ?_
  rintro e w6_ ⟨rfl, hb_⟩
  replace HB := Lib.hid (below_two HB.out (below_box hb_))
  have Bu := Lib.hid ((Box.new w5_ (leS hi) (0)).below hb_)
  clear hb_
  go_wp2_with fail
  refine (pick_any (leS x) 0 1 (by rw [size_leS]; omega) (by unfold I64; omega) (by unfold I64; omega) _).mono ?_
  rintro e w7_ ⟨rfl, hb_⟩
  rw [HZ.out, HZA.out]
  replace HB := Lib.hid (below_two HB.out hb_)
  replace Bu := Lib.hid (Bu.out.below hb_)
  clear hb_
  obtain ⟨u0, u1, u2⟩ := Bu.out
  go_wp2_with fail
  replace Bu := Lib.hid (Bu.out.alloc (.cells #[.string (leS x), .int .i64 1] 23))
  replace HB := Lib.hid (below_two HB.out ((Below.refl _ _).alloc (Nat.le_refl _) (.cells #[.string (leS x), .int .i64 1] 23)))
  clear u0 u1 u2
  generalize w7_.alloc (.cells #[.string (leS x), .int .i64 1] 23) = W0 at *
  have HS : Hid (∀ w', Below W0.heap.size W0 w' → Below W0.heap.size W0 w' ∧ w'.cell? ⟨w5_.heap.size, 0, none⟩ = some (.string (leS hi)) ∧ w'.cell? ⟨w5_.heap.size, 1, none⟩ = some (.int .i64 0)) := fun w' h => ⟨h, (Bu.out.below h).2.1, (Bu.out.below h).2.2⟩
  go_region_held3 (fun w' => Below W0.heap.size W0 w' ∧ w'.cell? ⟨w5_.heap.size, 0, none⟩ = some (.string (leS hi)) ∧ w'.cell? ⟨w5_.heap.size, 1, none⟩ = some (.int .i64 0)) (first | exact HS.out _ HN.out | exact HS.out _ (Below.refl _ _).drew) (first | (go_at_call 19; refine (of_kept _ (by assumption)).mono ?_; rintro e w' ⟨rfl, hb⟩; have HN := Lib.hid hb; clear hb))
  all_goals
    go_wp2
    go_ret
    exact ⟨rfl, below_two HB.out HN.out⟩
theorem pick_le (n : BitVec 32) (k : Int) : pickN (leS n) 0 k = (if inPick k then nv n * k / 4294967296 else 0) ∧ pickAt (leS n) 0 k = (if inPick k then 1 else 0) := by
  unfold pickN pickAt pickV
  rw [(le_draw n).1, (le_draw n).2]
  exact ⟨rfl, rfl⟩
theorem tapePicks_lohi (x y lo hi : BitVec 32) (n : Int) (hn : I64 n) (hmin : min (nv x) (nv y) = nv lo) (hmax : max (nv x) (nv y) = nv hi) (w : World) :
    Calls Try.prog 5 #[.int .u32 (nv x), .int .u32 (nv y), .int .i64 n] w fun e w' => e = .returned (.bool true) ∧ Below w.heap.size w w' := by
  have hz : pickN (leS x) 0 1 = 0 ∧ pickAt (leS x) 0 1 = 1 := by
    obtain ⟨h1, h2⟩ := pick_le x 1
    have r := nv_range x
    rw [h1, h2, if_pos ⟨by omega, by omega⟩, if_pos ⟨by omega, by omega⟩]
    omega
  obtain ⟨l1, l2⟩ := pick_le lo n
  obtain ⟨k1, k2⟩ := pick_le hi n
  have rl := nv_range lo
  have rh := nv_range hi
  unfold I64 at hn
  by_cases hin : inPick n
  · rw [if_pos hin] at l1 l2 k1 k2
    have hin2 := hin
    obtain ⟨hn1, hn2⟩ := hin2
    have hle : nv lo ≤ nv hi := by omega
    have m0 : 0 ≤ nv lo * n := Int.mul_nonneg rl.1 (by omega)
    have m1 : nv lo * n ≤ nv hi * n := Int.mul_le_mul_of_nonneg_right hle (by omega)
    have m2 : nv hi * n ≤ 4294967295 * n := Int.mul_le_mul_of_nonneg_right rh.2 (by omega)
    have q1 : 0 ≤ nv lo * n / 4294967296 := by omega
    have q2 : nv lo * n / 4294967296 ≤ nv hi * n / 4294967296 := by omega
    have q3 : nv hi * n / 4294967296 < n := by omega
    have d1 : decide (n < 1) = false := by simp; omega
    have d2 : decide (2147483647 < n) = false := by simp; omega
    by_cases c1 : 0 < nv lo
    · by_cases c2 : nv hi < 4294967295
      · exact tapePicks_in11 x y lo hi n _ _ _ (by unfold I64; omega) hmin hmax l1 k1 k2 hz.1 hz.2 d1 d2 (by simpa using q1) (by simpa using q2) (by simpa using q3) rfl (by simpa using c1) (by simpa using c2) w
      · have e : nv hi = 4294967295 := by omega
        have q4 : nv hi * n / 4294967296 = n - 1 := by rw [e]; omega
        exact tapePicks_in10 x y lo hi n _ _ _ (by unfold I64; omega) hmin hmax l1 k1 k2 hz.1 hz.2 d1 d2 (by simpa using q1) (by simpa using q2) (by simpa using q3) rfl (by simpa using c1) (by simpa using c2) (by rw [IntKind.wrap_i64]; omega) (by simpa using q4) w
    · have e0 : nv lo = 0 := by omega
      have q5 : nv lo * n / 4294967296 = 0 := by rw [e0, Int.zero_mul]; rfl
      by_cases c2 : nv hi < 4294967295
      · exact tapePicks_in01 x y lo hi n _ _ _ (by unfold I64; omega) hmin hmax l1 k1 k2 hz.1 hz.2 d1 d2 (by simpa using q1) (by simpa using q2) (by simpa using q3) rfl (by simpa using c1) (by rw [q5]; rfl) (by simpa using c2) w
      · have e : nv hi = 4294967295 := by omega
        have q4 : nv hi * n / 4294967296 = n - 1 := by rw [e]; omega
        exact tapePicks_in00 x y lo hi n _ _ _ (by unfold I64; omega) hmin hmax l1 k1 k2 hz.1 hz.2 d1 d2 (by simpa using q1) (by simpa using q2) (by simpa using q3) rfl (by simpa using c1) (by rw [q5]; rfl) (by simpa using c2) (by rw [IntKind.wrap_i64]; omega) (by simpa using q4) w
  · rw [if_neg hin] at l1 l2 k1 k2
    by_cases c : n < 1
    · exact tapePicks_out_a x y lo hi n (by unfold I64; omega) hmin hmax l1 k1 k2 hz.1 hz.2 (by simpa using c) w
    · have c2 : 2147483647 < n := by
        rcases Int.lt_or_le 2147483647 n with h | h
        · exact h
        · exact absurd ⟨by omega, h⟩ hin
      exact tapePicks_out_b x y lo hi n (by unfold I64; omega) hmin hmax l1 k1 k2 hz.1 hz.2 (by simpa using c) (by simpa using c2) w
theorem wf_i64_3 {t : Int} (h : (Lit.int .i64 t).wf = true) : I64 t := by
  have h1 : IntKind.i64.min = -9223372036854775808 := rfl
  have h2 : IntKind.i64.max = 9223372036854775807 := rfl
  simp only [Lit.wf, Bool.and_eq_true, decide_eq_true_eq] at h
  unfold I64
  omega
theorem tapePicks_walk (a b n : Int) (wa : (Lit.int .u32 a).wf = true) (wb : (Lit.int .u32 b).wf = true) (wn : (Lit.int .i64 n).wf = true) (w : World) :
    Calls Try.prog 5 #[.int .u32 a, .int .u32 b, .int .i64 n] w fun e w' => e = .returned (.bool true) ∧ Below w.heap.size w w' := by
  obtain ⟨x, rfl⟩ := wf_nv a wa
  obtain ⟨y, rfl⟩ := wf_nv b wb
  rcases Int.le_total (nv x) (nv y) with h | h
  · exact tapePicks_lohi x y x y n (wf_i64_3 wn) (Int.min_eq_left h) (Int.max_eq_right h) w
  · exact tapePicks_lohi x y y x n (wf_i64_3 wn) (Int.min_eq_right h) (Int.max_eq_left h) w
end Go.Proofs.Ytchpgoipoaoboaa
