/-
  THE WALK OF SumBack: it answers true.
-/
import Derived.Test.YtinpogjdaehmmaaPlain
import Derived.Test.YtinpogjdaehmmaaAwake
import Derived.WalkSpells
import Derived.WalkLawsBesides
namespace Go.Proofs.Ytinpogjdaehmmaa
open Go.RowKit
set_option maxRecDepth 100000 in
set_option maxHeartbeats 400000 in
theorem sumBack_long (a0 : ByteArray) (h : ¬ a0.size ≤ 1000) (w : World) :
    Calls Try.prog 5 #[.string a0] w fun e w' => e = .returned (.bool true) ∧ Below w.heap.size w w' := by
  have hd : decide ((1000 : Int) < (a0.size : Int)) = true := by simp; omega
  go_enter Try.func5, Try.ntmps5
  go_wp2_with fail
  refine (awake_any _).mono ?_
  rintro e w1 ⟨rfl, hb1⟩
  have HB1 := Lib.hid hb1
  clear hb1
  go_wp2_with fail
  go_ret
  exact ⟨rfl, HB1.out⟩
set_option maxRecDepth 100000 in
set_option maxHeartbeats 400000 in
theorem sumBack_short (a0 : ByteArray) (h : a0.size ≤ 1000) (w : World) :
    Calls Try.prog 5 #[.string a0] w fun e w' => e = .returned (.bool true) ∧ Below w.heap.size w w' := by
  have hd : decide ((1000 : Int) < (a0.size : Int)) = false := by simp; omega
  have hd2 : decide ((1000) < (a0.size)) = false := by simp; omega
  have hself : (a0.toList == a0.toList) = true := by simp
  go_enter Try.func5, Try.ntmps5
  go_wp2_with fail
  refine (awake_any _).mono ?_
  rintro e w1 ⟨rfl, hb1⟩
  have HB1 := Lib.hid hb1
  clear hb1
  go_wp2_with fail
  refine (seal_any _ _ (by omega)).mono ?_
  rintro e w2 ⟨rfl, hb2⟩
  have HB2 := Lib.hid (below_two HB1.out hb2)
  clear hb2 HB1
  go_wp2_with fail
  refine (open_any _ _ (by rw [size_sealS]; omega)).mono ?_
  rintro e w3 ⟨rfl, hb3⟩
  have HB3 := Lib.hid (below_two HB2.out hb3)
  clear hb3 HB2
  rw [opens_seal, open_seal]
  go_wp2_with fail
  refine (open_any _ _ (by omega)).mono ?_
  rintro e w4 ⟨rfl, hb4⟩
  have HB4 := Lib.hid (below_two HB3.out hb4)
  clear hb4 HB3
  have hsz := size_sealS a0
  have HS := Lib.hid hsz
  clear hsz
  cases ho : opensB a0 with
  | true =>
    have hso := Lib.hid (seal_open a0 ho)
    clear ho
    go_wp2_with fail
    refine (seal_any _ _ (by omega)).mono ?_
    rintro e w5 ⟨rfl, hb5⟩
    have HB5 := Lib.hid (below_two HB4.out hb5)
    clear hb5 HB4
    have hsz := HS.out
    go_wp2_with fail
    refine (seal_any _ _ (by have := size_openS a0; omega)).mono ?_
    rintro e w6 ⟨rfl, hb6⟩
    have HB6 := Lib.hid (below_two HB5.out hb6)
    clear hb6 HB5
    rw [hso.out]
    go_wp2_with fail
    go_ret
    exact ⟨rfl, HB6.out⟩
  | false =>
    rw [openS_none _ ho]
    clear ho
    go_wp2_with fail
    refine (seal_any _ _ (by omega)).mono ?_
    rintro e w5 ⟨rfl, hb5⟩
    have HB5 := Lib.hid (below_two HB4.out hb5)
    clear hb5 HB4
    have hsz := HS.out
    go_wp2_with fail
    go_ret
    exact ⟨rfl, HB5.out⟩
theorem sumBack_walk (a0 : ByteArray) (_w0 : a0.size ≤ maxLen) (w : World) :
    Calls Try.prog 5 #[.string a0] w fun e w' => e = .returned (.bool true) ∧ Below w.heap.size w w' := by
  by_cases h : a0.size ≤ 1000
  · exact sumBack_short a0 h w
  · exact sumBack_long a0 h w
end Go.Proofs.Ytinpogjdaehmmaa
