/-
  THE WALK OF SumParts: it answers true.
-/
import Derived.Test.YtinpogjdaehmmaaPlain
import Derived.Test.YtinpogjdaehmmaaAwake
import Derived.WalkSpells
import Derived.WalkLawsBesides
namespace Go.Proofs.Ytinpogjdaehmmaa
open Go.RowKit
set_option maxRecDepth 100000 in
set_option maxHeartbeats 400000 in
theorem sumParts_a (a b c : ByteArray) (h : ¬ a.size ≤ 300) (w : World) :
    Calls Try.prog 4 #[.string a, .string b, .string c] w fun e w' => e = .returned (.bool true) ∧ Below w.heap.size w w' := by
  have hd : decide ((300 : Int) < (a.size : Int)) = true := by simp; omega
  go_enter Try.func4, Try.ntmps4
  go_wp2_with fail
  refine (awake_any _).mono ?_
  rintro e w1 ⟨rfl, hb1⟩
  have HB1 := Lib.hid hb1
  clear hb1
  go_wp2_with fail
  go_ret
  exact ⟨rfl, HB1.out⟩
set_option maxRecDepth 100000 in
set_option maxHeartbeats 400000 in
theorem sumParts_b (a b c : ByteArray) (ha : a.size ≤ 300) (h : ¬ b.size ≤ 300) (w : World) :
    Calls Try.prog 4 #[.string a, .string b, .string c] w fun e w' => e = .returned (.bool true) ∧ Below w.heap.size w w' := by
  have hd0 : decide ((300 : Int) < (a.size : Int)) = false := by simp; omega
  have hd : decide ((300 : Int) < (b.size : Int)) = true := by simp; omega
  go_enter Try.func4, Try.ntmps4
  go_wp2_with fail
  refine (awake_any _).mono ?_
  rintro e w1 ⟨rfl, hb1⟩
  have HB1 := Lib.hid hb1
  clear hb1
  go_wp2_with fail
  go_ret
  exact ⟨rfl, HB1.out⟩
set_option maxRecDepth 100000 in
set_option maxHeartbeats 400000 in
theorem sumParts_c (a b c : ByteArray) (ha : a.size ≤ 300) (hb : b.size ≤ 300) (h : ¬ c.size ≤ 300) (w : World) :
    Calls Try.prog 4 #[.string a, .string b, .string c] w fun e w' => e = .returned (.bool true) ∧ Below w.heap.size w w' := by
  have hd0 : decide ((300 : Int) < (a.size : Int)) = false := by simp; omega
  have hd1 : decide ((300 : Int) < (b.size : Int)) = false := by simp; omega
  have hd : decide ((300 : Int) < (c.size : Int)) = true := by simp; omega
  go_enter Try.func4, Try.ntmps4
  go_wp2_with fail
  refine (awake_any _).mono ?_
  rintro e w1 ⟨rfl, hb1⟩
  have HB1 := Lib.hid hb1
  clear hb1
  go_wp2_with fail
  go_ret
  exact ⟨rfl, HB1.out⟩
theorem parts3 (a b c : ByteArray) : sumOf [a, b, c] = sumOf [a ++ b ++ c] := by unfold sumOf; simp [bs_append]
theorem parts2 (a b c : ByteArray) : sumOf [a ++ b, c] = sumOf [a, b ++ c] := by unfold sumOf; simp [bs_append]
set_option maxRecDepth 100000 in
set_option maxHeartbeats 400000 in
theorem sumParts_d (a b c : ByteArray) (ha : a.size ≤ 300) (hb : b.size ≤ 300) (hc : c.size ≤ 300) (w : World) :
    Calls Try.prog 4 #[.string a, .string b, .string c] w fun e w' => e = .returned (.bool true) ∧ Below w.heap.size w w' := by
  have hd0 : decide ((300 : Int) < (a.size : Int)) = false := by simp; omega
  have hd1 : decide ((300 : Int) < (b.size : Int)) = false := by simp; omega
  have hd : decide ((300 : Int) < (c.size : Int)) = false := by simp; omega
  have hself2 : ∀ s : Int, (s == s) = true := by simp
  go_enter Try.func4, Try.ntmps4
  go_wp2_with fail
  refine (awake_any _).mono ?_
  rintro e w1 ⟨rfl, hb1⟩
  have HB1 := Lib.hid hb1
  clear hb1
  go_wp2_with fail
  refine (of_three _ _ _ _ (by omega) (by omega) (by omega)).mono ?_
  rintro e w2 ⟨rfl, hb2⟩
  have HB2 := Lib.hid (below_two HB1.out hb2)
  clear hb2 HB1
  go_wp2_with fail
  refine (of_one _ _ (by rw [ByteArray.size_append, ByteArray.size_append]; omega)).mono ?_
  rintro e w3 ⟨rfl, hb3⟩
  have HB3 := Lib.hid (below_two HB2.out hb3)
  clear hb3 HB2
  rw [parts3]
  go_wp2_with fail
  refine (of_two _ _ _ (by rw [ByteArray.size_append]; omega) (by omega)).mono ?_
  rintro e w4 ⟨rfl, hb4⟩
  have HB4 := Lib.hid (below_two HB3.out hb4)
  clear hb4 HB3
  go_wp2_with fail
  refine (of_two _ _ _ (by omega) (by rw [ByteArray.size_append]; omega)).mono ?_
  rintro e w5 ⟨rfl, hb5⟩
  have HB5 := Lib.hid (below_two HB4.out hb5)
  clear hb5 HB4
  rw [parts2]
  go_wp2_with fail
  go_ret
  exact ⟨rfl, HB5.out⟩
theorem sumParts_walk (a b c : ByteArray) (_w0 : a.size ≤ maxLen) (_w1 : b.size ≤ maxLen) (_w2 : c.size ≤ maxLen) (w : World) :
    Calls Try.prog 4 #[.string a, .string b, .string c] w fun e w' => e = .returned (.bool true) ∧ Below w.heap.size w w' := by
  by_cases ha : a.size ≤ 300
  · by_cases hb : b.size ≤ 300
    · by_cases hc : c.size ≤ 300
      · exact sumParts_d a b c ha hb hc w
      · exact sumParts_c a b c ha hb hc w
    · exact sumParts_b a b c ha hb w
  · exact sumParts_a a b c ha w
end Go.Proofs.Ytinpogjdaehmmaa
