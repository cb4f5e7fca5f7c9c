/-
  THE WALK OF the reference's Open.
-/
import Derived.Test.YtinpogjdaehmmaaOpen
import Derived.WalkSpells
import Derived.WalkLawsBesides
namespace Go.Proofs.Ytinpogjdaehmmaa
open Go.RowKit
set_option maxRecDepth 100000 in
set_option maxHeartbeats 400000 in
theorem refOpen_short (s : ByteArray) (w : World) (hs : s.size < 8) :
    Calls Try.prog 11 #[.string s] w fun e w' => e = .returned (.tuple #[.string ⟨#[]⟩, .bool false]) ∧ Below w.heap.size w w' := by
  have hd2 : decide ((s.size : Int) < 8) = true := by simp; omega
  go_enter Try.func11, Try.ntmps11
  go_wp2
  go_ret2
  exact ⟨rfl, Below.refl _ _⟩
set_option maxRecDepth 100000 in
set_option maxHeartbeats 400000 in
theorem refOpen_no (s : ByteArray) (w : World) (hs : ¬ s.size < 8) (hh : s.size ≤ 10000) (hne : ((sealS (s.extract 4 (s.size - 4))).toList == s.toList) = false) :
    Calls Try.prog 11 #[.string s] w fun e w' => e = .returned (.tuple #[.string ⟨#[]⟩, .bool false]) ∧ Below w.heap.size w w' := by
  have hd2 : decide ((s.size : Int) < 8) = false := by simp; omega
  have h4 : (4 : Int) ≤ (s.size : Int) := by omega
  have h5 : (4 : Int) ≤ (s.size : Int) - 4 := by omega
  have hsz : (s.extract 4 (s.size - 4)).size ≤ 100000 := by rw [ByteArray.size_extract]; omega
  go_enter Try.func11, Try.ntmps11
  go_wp2_with (go_at_call 17; refine (refSeal_any _ _ hsz).mono ?_; rintro e w1 ⟨rfl, hb1⟩; have HB1 := Lib.hid hb1; clear hb1)
  go_ret2
  exact ⟨rfl, HB1.out⟩
set_option maxRecDepth 100000 in
set_option maxHeartbeats 400000 in
theorem refOpen_yes (s : ByteArray) (w : World) (hs : ¬ s.size < 8) (hh : s.size ≤ 10000) (hne : ((sealS (s.extract 4 (s.size - 4))).toList == s.toList) = true) :
    Calls Try.prog 11 #[.string s] w fun e w' => e = .returned (.tuple #[.string (s.extract 4 (s.size - 4)), .bool true]) ∧ Below w.heap.size w w' := by
  have hd2 : decide ((s.size : Int) < 8) = false := by simp; omega
  have h4 : (4 : Int) ≤ (s.size : Int) := by omega
  have h5 : (4 : Int) ≤ (s.size : Int) - 4 := by omega
  have hsz : (s.extract 4 (s.size - 4)).size ≤ 100000 := by rw [ByteArray.size_extract]; omega
  go_enter Try.func11, Try.ntmps11
  go_wp2_with (go_at_call 17; refine (refSeal_any _ _ hsz).mono ?_; rintro e w1 ⟨rfl, hb1⟩; have HB1 := Lib.hid hb1; clear hb1)
  go_ret2
  exact ⟨rfl, HB1.out⟩
def refOpensB (s : ByteArray) : Bool := !decide (s.size < 8) && ((sealS (s.extract 4 (s.size - 4))).toList == s.toList)
def refOpenS (s : ByteArray) : ByteArray := if refOpensB s then s.extract 4 (s.size - 4) else ⟨#[]⟩
theorem refOpen_any (s : ByteArray) (w : World) (hh : s.size ≤ 10000) :
    Calls Try.prog 11 #[.string s] w fun e w' => e = .returned (.tuple #[.string (refOpenS s), .bool (refOpensB s)]) ∧ Below w.heap.size w w' := by
  by_cases hs : s.size < 8
  · have e : refOpensB s = false := by simp [refOpensB, hs]
    rw [refOpenS, e]; exact refOpen_short s w hs
  · cases h1 : ((sealS (s.extract 4 (s.size - 4))).toList == s.toList) with
    | false =>
      have e : refOpensB s = false := by rw [refOpensB, h1]; simp
      rw [refOpenS, e]; exact refOpen_no s w hs hh h1
    | true =>
      have e : refOpensB s = true := by rw [refOpensB, h1]; simp [hs]
      rw [refOpenS, e]; exact refOpen_yes s w hs hh h1
end Go.Proofs.Ytinpogjdaehmmaa
