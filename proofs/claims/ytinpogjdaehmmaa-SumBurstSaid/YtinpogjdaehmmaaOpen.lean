/-
  THE WALK OF sum.Open.
-/
import Derived.Test.YtinpogjdaehmmaaSeal
import Derived.Deep.RegionWith
import Derived.Deep.QuietTactic
import Derived.BigQuiet
import Derived.WalkSpells
import Derived.WalkLawsBesides
namespace Go.Proofs.Ytinpogjdaehmmaa
open Go.RowKit
def opens (s : ByteArray) : Prop := 8 ≤ s.size ∧ s.extract 0 4 = bytesS (BitVec.ofNat 32 (s.size - 8)) ∧ sumOf [s] = 0#32
theorem below_drew {w w' : World} (h : Below w.drew.heap.size w.drew w') : Below w.heap.size w w' := ⟨h.os, h.tape, h.output, h.size, h.block⟩
theorem wrap_sub (k : Nat) (h8 : 8 ≤ k) (h : k ≤ 1000000) : IntKind.u32.wrap ((k : Int) - 8) = nv (BitVec.ofNat 32 (k - 8)) := by
  rw [show ((k : Int) - 8) = ((k - 8 : Nat) : Int) by omega]; exact nv_size _
set_option maxRecDepth 100000 in
set_option maxHeartbeats 400000 in
theorem open_short (s : ByteArray) (w : World) (hs : s.size < 8) :
    Calls Try.prog 10 #[.string s] w fun e w' => e = .returned (.tuple #[.string ⟨#[]⟩, .bool false]) ∧ Below w.heap.size w w' := by
  have hd : decide ((s.size : Int) - 8 < 0) = true := by simp; omega
  have hd2 : decide ((s.size : Int) < 8) = true := by simp; omega
  go_enter Try.func10, Try.ntmps10
  go_wp2
  go_quiet (fail)
  go_wp2
  go_ret2
  exact ⟨rfl, ⟨rfl, rfl, rfl, Nat.le_refl _, fun _ _ => rfl⟩⟩
set_option maxRecDepth 100000 in
set_option maxHeartbeats 400000 in
theorem open_head (s : ByteArray) (w : World) (hs : ¬ s.size < 8) (hh : s.size ≤ 1000000) (hne : ((s.extract 0 4).toList == (bytesS (BitVec.ofNat 32 (s.size - 8))).toList) = false) :
    Calls Try.prog 10 #[.string s] w fun e w' => e = .returned (.tuple #[.string ⟨#[]⟩, .bool false]) ∧ Below w.heap.size w w' := by
  have hd : decide ((s.size : Int) - 8 < 0) = false := by simp; omega
  have hd2 : decide ((s.size : Int) < 8) = false := by simp; omega
  have h4 : (4 : Int) ≤ (s.size : Int) := by omega
  have h5 : 4 ≤ s.size := by omega
  have hw := wrap_sub s.size (by omega) hh
  go_enter Try.func10, Try.ntmps10
  go_wp2
  first | (go_region_with (first | (go_at_call 14; refine (bytes_any _ _).mono ?_; rintro e w1 ⟨rfl, hb1⟩; have HB1 := Lib.hid hb1; clear hb1))) | fail
  all_goals go_wp2
  go_ret2
  exact ⟨rfl, below_drew HB1.out⟩
set_option maxRecDepth 100000 in
set_option maxHeartbeats 400000 in
theorem open_sum (s : ByteArray) (w : World) (hs : ¬ s.size < 8) (hh : s.size ≤ 1000000) (hne : ((s.extract 0 4).toList == (bytesS (BitVec.ofNat 32 (s.size - 8))).toList) = true) (hz : (nv (sumOf [s]) == 0) = false) :
    Calls Try.prog 10 #[.string s] w fun e w' => e = .returned (.tuple #[.string ⟨#[]⟩, .bool false]) ∧ Below w.heap.size w w' := by
  have hd : decide ((s.size : Int) - 8 < 0) = false := by simp; omega
  have hd2 : decide ((s.size : Int) < 8) = false := by simp; omega
  have h4 : (4 : Int) ≤ (s.size : Int) := by omega
  have h5 : 4 ≤ s.size := by omega
  have hw := wrap_sub s.size (by omega) hh
  go_enter Try.func10, Try.ntmps10
  go_wp2
  first | (go_region_with (first | (go_at_call 14; refine (bytes_any _ _).mono ?_; rintro e w1 ⟨rfl, hb1⟩; have HB1 := Lib.hid hb1; clear hb1) | (go_at_call 12; refine (of_one _ _ hh).mono ?_; rintro e w2 ⟨rfl, hb2⟩; have HB2 := Lib.hid hb2; clear hb2))) | fail
  all_goals go_wp2
  go_ret2
  exact ⟨rfl, (below_drew HB1.out).trans (HB2.out.mono HB1.out.size)⟩
set_option maxRecDepth 100000 in
set_option maxHeartbeats 400000 in
theorem open_ok (s : ByteArray) (w : World) (hs : ¬ s.size < 8) (hh : s.size ≤ 1000000) (hne : ((s.extract 0 4).toList == (bytesS (BitVec.ofNat 32 (s.size - 8))).toList) = true) (hz : (nv (sumOf [s]) == 0) = true) :
    Calls Try.prog 10 #[.string s] w fun e w' => e = .returned (.tuple #[.string (s.extract 4 (4 + (s.size - 8))), .bool true]) ∧ Below w.heap.size w w' := by
  have hd : decide ((s.size : Int) - 8 < 0) = false := by simp; omega
  have hd2 : decide ((s.size : Int) < 8) = false := by simp; omega
  have h4 : (4 : Int) ≤ (s.size : Int) := by omega
  have h5 : 4 ≤ s.size := by omega
  have hw := wrap_sub s.size (by omega) hh
  go_enter Try.func10, Try.ntmps10
  go_wp2
  first | (go_region_with (first | (go_at_call 14; refine (bytes_any _ _).mono ?_; rintro e w1 ⟨rfl, hb1⟩; have HB1 := Lib.hid hb1; clear hb1) | (go_at_call 12; refine (of_one _ _ hh).mono ?_; rintro e w2 ⟨rfl, hb2⟩; have HB2 := Lib.hid hb2; clear hb2))) | fail
  all_goals go_wp2
  go_ret2
  exact ⟨rfl, (below_drew HB1.out).trans (HB2.out.mono HB1.out.size)⟩
def opensB (s : ByteArray) : Bool := !decide (s.size < 8) && ((s.extract 0 4).toList == (bytesS (BitVec.ofNat 32 (s.size - 8))).toList) && (nv (sumOf [s]) == 0)
def openS (s : ByteArray) : ByteArray := if opensB s then s.extract 4 (4 + (s.size - 8)) else ⟨#[]⟩
theorem open_any (s : ByteArray) (w : World) (hh : s.size ≤ 1000000) :
    Calls Try.prog 10 #[.string s] w fun e w' => e = .returned (.tuple #[.string (openS s), .bool (opensB s)]) ∧ Below w.heap.size w w' := by
  by_cases hs : s.size < 8
  · have e : opensB s = false := by simp [opensB, hs]
    rw [openS, e]; exact open_short s w hs
  · cases h1 : ((s.extract 0 4).toList == (bytesS (BitVec.ofNat 32 (s.size - 8))).toList) with
    | false =>
      have e : opensB s = false := by rw [opensB, h1]; simp
      rw [openS, e]; exact open_head s w hs hh h1
    | true =>
      cases h2 : (nv (sumOf [s]) == 0) with
      | false =>
        have e : opensB s = false := by rw [opensB, h2]; simp
        rw [openS, e]; exact open_sum s w hs hh h1 h2
      | true =>
        have e : opensB s = true := by rw [opensB, h2, h1]; simp [hs]
        rw [openS, e]; exact open_ok s w hs hh h1 h2
end Go.Proofs.Ytinpogjdaehmmaa
