/-
  THE WALK OF TapeBytes: it answers true.
-/
import Derived.Test.YtchpgoipoaoboaaWTapePicks
namespace Go.Proofs.Ytchpgoipoaoboaa
open Go.RowKit
open Lean Elab Tactic in
elab "tgt" : tactic => withMainContext do
  let t ← getMainTarget
  let t ← instantiateMVars t
  let s := toString (← Meta.ppExpr t)
  logInfo m!"{s.take 30000}"
def joined (a : ByteArray) (n : BitVec 32) (z : ByteArray) : ByteArray := a.extract 0 (4 * (a.size / 4)) ++ leS n ++ z
theorem size_joined (a : ByteArray) (n : BitVec 32) (z : ByteArray) : (joined a n z).size = 4 * (a.size / 4) + 4 + z.size := by
  unfold joined
  rw [ByteArray.size_append, ByteArray.size_append, size_leS, ByteArray.size_extract]
  omega
theorem bs_joined (a : ByteArray) (n : BitVec 32) (z : ByteArray) : bs (joined a n z) = (bs a).take (4 * (a.size / 4)) ++ (le4 n ++ bs z) := by
  unfold joined
  rw [bs_append, bs_append, bs_extract, List.drop_zero, List.append_assoc]
  unfold leS
  rw [bs_ofBits]
theorem byteAt_joined (a : ByteArray) (n : BitVec 32) (z : ByteArray) (i : Nat) (h : i < 4) : byteAt (joined a n z) (4 * (a.size / 4) + i) = byteAt (leS n) i := by
  rw [byteAt_le]
  unfold byteAt
  rw [bs_joined]
  have hl : ((bs a).take (4 * (a.size / 4))).length = 4 * (a.size / 4) := by rw [List.length_take, bs_length]; omega
  rw [List.getD_eq_getElem?_getD, List.getElem?_append_right (by omega), hl, Nat.add_sub_cancel_left, List.getElem?_append_left (by show i < 4; exact h), ← List.getD_eq_getElem?_getD]
theorem word_joined (a : ByteArray) (n : BitVec 32) (z : ByteArray) : word (joined a n z) (4 * (a.size / 4)) = n := by
  have h0 := byteAt_joined a n z 0 (by omega)
  rw [Nat.add_zero] at h0
  have e : word (joined a n z) (4 * (a.size / 4)) = word (leS n) 0 := by
    unfold word
    rw [h0, byteAt_joined a n z 1 (by omega), byteAt_joined a n z 2 (by omega), byteAt_joined a n z 3 (by omega)]
  rw [e, le_word]
theorem draw_joined (a : ByteArray) (n : BitVec 32) (z : ByteArray) : drawV (joined a n z) ((a.size / 4 : Nat) : Int) = n ∧ drawAt (joined a n z) ((a.size / 4 : Nat) : Int) = ((a.size / 4 + 1 : Nat) : Int) ∧ leftOf (joined a n z) ((a.size / 4 + 1 : Nat) : Int) = (z.size / 4 : Nat) := by
  have hs := size_joined a n z
  have hc : 0 ≤ ((a.size / 4 : Nat) : Int) ∧ ((a.size / 4 : Nat) : Int) < ((joined a n z).size : Int) / 4 := by rw [hs]; omega
  refine ⟨?_, ?_, ?_⟩
  · rw [drawV, if_pos hc, Int.toNat_natCast, word_joined]
  · rw [drawAt, if_pos hc]; omega
  · unfold leftOf
    rw [hs]
    split
    · omega
    · split <;> omega
theorem field_bytes (s : ByteArray) (t : Int) (w : World) : (Instr.field 23 (.agg #[.string s, .int .i64 t]) 0).run Try.prog w = .ok (.string s) w := by kernel_rfl
attribute [local go_sem] field_bytes
theorem of_agg {W0 wk : World} {p : Prop} (n : BitVec 32) (h : Below W0.heap.size W0 wk ∧ p) :
    Calls Try.prog 19 #[.int .u32 (nv n)] wk fun e w' => e = .returned (.agg #[.string (leS n), .int .i64 0]) ∧ Below W0.heap.size W0 w' := of_kept n h
set_option maxRecDepth 100000 in
set_option maxHeartbeats 400000 in
theorem tapeBytes_yes (a : ByteArray) (n : BitVec 32) (z b : ByteArray) (k r : Nat) (h1 : a.size ≤ 300) (h2 : z.size ≤ 300) (hk : k = a.size / 4) (hr : r = z.size / 4) (HB0 : Hid (a.extract 0 (4 * k) ++ leS n ++ z = b)) (hv : Hid (drawV b k = n)) (ha : Hid (drawAt b k = ((k + 1 : Nat) : Int))) (hl : Hid (leftOf b ((k + 1 : Nat) : Int) = (r : Nat))) (hbs : b.size ≤ 10000) (w : World) :
    Calls Try.prog 8 #[.string a, .int .u32 (nv n), .string z] w fun e w' => e = .returned (.bool true) ∧ Below w.heap.size w w' := by
  have hd1 : decide (300 < (a.size : Int)) = false := by simp; omega
  have hd2 : decide (300 < (z.size : Int)) = false := by simp; omega
  obtain ⟨m, hm⟩ : ∃ m, m = 4 * k := ⟨_, rfl⟩
  have hdiv : (a.size : Int) / 4 = (k : Int) := by omega
  have hw4 : IntKind.i64.wrap (4 * (k : Int)) = (m : Int) := by rw [IntWalk.i64_in _ (by omega)]; omega
  have hms : m ≤ a.size := by omega
  have hms2 : (m : Int) ≤ (a.size : Int) := by omega
  have hdz : (z.size : Int) / 4 = (r : Int) := by omega
  have HMK := Lib.hid hm
  have HK := Lib.hid hk
  have HR := Lib.hid hr
  clear hm hk hr
  have hs1 : (a.extract 0 m).size = m := by rw [ByteArray.size_extract]; omega
  have hs2 : (leS n).size = 4 := size_leS n
  have hs3 : (a.extract 0 m ++ leS n).size = m + 4 := by rw [ByteArray.size_append, hs1, hs2]
  have hq1 : ¬ (9223372036854775807 < m + 4) := by omega
  have hq2 : ¬ (9223372036854775807 < m + 4 + z.size) := by omega
  have HBJ : Hid (a.extract 0 m ++ leS n ++ z = b) := Lib.hid (by rw [HMK.out]; exact HB0.out)
  go_enter Try.func8, Try.ntmps8
  go_wp2_with fail
  refine (awake_any _).mono ?_
  rintro e w1 ⟨rfl, hb1⟩
  have HB := Lib.hid hb1
  clear hb1
  go_wp2_with fail
  go_region_held3 (fun w' => Below w1.heap.size w1 w' ∧ True) (first | exact ⟨HN.out, True.intro⟩ | exact ⟨(Below.refl _ _).drew, True.intro⟩) (first | (go_at_call 19; refine (of_agg _ (by assumption)).mono ?_; rintro e w' ⟨rfl, hb⟩; have HN := Lib.hid hb; clear hb))
  all_goals
    replace HB := Lib.hid (below_two HB.out HN.out)
    clear HN
    go_wp2_with fail
    rw [HBJ.out]
    refine (draw_any b k hbs (by unfold I64; omega) _).mono ?_
    rintro e w2 ⟨rfl, hb2⟩
    rw [hv.out, ha.out]
    replace HB := Lib.hid (below_two HB.out hb2)
    clear hb2
    have hk1 : ((k : Int) + 1 == ((k + 1 : Nat) : Int)) = true := by simp
    have hk2 : IntKind.i64.wrap ((k : Int) + 1) = ((k + 1 : Nat) : Int) := by rw [IntKind.wrap_i64]; omega
    go_wp2_with fail
    refine (left_any b ((k : Int) + 1) hbs (by unfold I64; omega) _).mono ?_
    rintro e w3 ⟨rfl, hb3⟩
    rw [show (k : Int) + 1 = ((k + 1 : Nat) : Int) by omega, hl.out]
    replace HB := Lib.hid (below_two HB.out (below_box hb3))
    clear hb3
    go_wp2_with fail
    go_ret
    exact ⟨rfl, HB.out⟩
set_option maxRecDepth 100000 in
set_option maxHeartbeats 400000 in
theorem tapeBytes_no1 (a : ByteArray) (n : Int) (z : ByteArray) (h : decide (300 < (a.size : Int)) = true) (w : World) :
    Calls Try.prog 8 #[.string a, .int .u32 n, .string z] w fun e w' => e = .returned (.bool true) ∧ Below w.heap.size w w' := by
  go_enter Try.func8, Try.ntmps8
  go_wp2_with fail
  refine (awake_any _).mono ?_
  rintro e w1 ⟨rfl, hb1⟩
  go_wp2_with fail
  go_ret
  exact ⟨rfl, hb1⟩
set_option maxRecDepth 100000 in
set_option maxHeartbeats 400000 in
theorem tapeBytes_no2 (a : ByteArray) (n : Int) (z : ByteArray) (h : decide (300 < (a.size : Int)) = false) (h2 : decide (300 < (z.size : Int)) = true) (w : World) :
    Calls Try.prog 8 #[.string a, .int .u32 n, .string z] w fun e w' => e = .returned (.bool true) ∧ Below w.heap.size w w' := by
  go_enter Try.func8, Try.ntmps8
  go_wp2_with fail
  refine (awake_any _).mono ?_
  rintro e w1 ⟨rfl, hb1⟩
  go_wp2_with fail
  go_ret
  exact ⟨rfl, hb1⟩
theorem tapeBytes_walk (a : ByteArray) (n : Int) (z : ByteArray) (_wa : a.size ≤ maxLen) (wn : (Lit.int .u32 n).wf = true) (_wz : z.size ≤ maxLen) (w : World) :
    Calls Try.prog 8 #[.string a, .int .u32 n, .string z] w fun e w' => e = .returned (.bool true) ∧ Below w.heap.size w w' := by
  by_cases h1 : a.size ≤ 300
  · by_cases h2 : z.size ≤ 300
    · obtain ⟨x, rfl⟩ := wf_nv n wn
      have h := draw_joined a x z
      exact tapeBytes_yes a x z (joined a x z) (a.size / 4) (z.size / 4) h1 h2 rfl rfl rfl h.1 h.2.1 h.2.2 (by rw [size_joined]; omega) w
    · exact tapeBytes_no2 a n z (by simp; omega) (by simp; omega) w
  · exact tapeBytes_no1 a n z (by simp; omega) w
end Go.Proofs.Ytchpgoipoaoboaa
