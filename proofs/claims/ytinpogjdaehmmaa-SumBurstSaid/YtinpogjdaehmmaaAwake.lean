/-
  THE WALK OF awake: it answers true.
-/
import Derived.Test.YtinpogjdaehmmaaOpen
namespace Go.Proofs.Ytinpogjdaehmmaa
open Go.RowKit
theorem aw1 : opensB (sealS ⟨#[97, 98]⟩) = true := by decide +kernel
theorem aw2 : openS (sealS ⟨#[97, 98]⟩) = ⟨#[97, 98]⟩ := by decide +kernel
theorem aw3 : opensB ⟨#[97, 98, 99, 100, 101, 102, 103, 104, 105]⟩ = false := by decide +kernel
theorem aw4 : opensB ⟨#[]⟩ = false := by decide +kernel
theorem aw5 : (nv (sumOf [⟨#[49, 50, 51, 52]⟩, ⟨#[]⟩, ⟨#[53, 54, 55, 56, 57]⟩]) == 806403967) = true := by decide +kernel
theorem aw6 : (nv (sumOf []) == 0) = true := by decide +kernel
theorem aw7 : bytesS (BitVec.ofNat 32 16909060) = ⟨#[1, 2, 3, 4]⟩ := by decide +kernel
theorem aw8 : sealS ⟨#[]⟩ = ⟨#[0, 0, 0, 0, 0, 0, 0, 0]⟩ := by decide +kernel
theorem aw9 : (sealS ⟨#[97, 98]⟩).size = 10 := by decide +kernel
theorem below_two {a b c : World} (h : Below a.heap.size a b) (k : Below b.heap.size b c) : Below a.heap.size a c := h.trans (k.mono h.size)
set_option maxRecDepth 100000 in
set_option maxHeartbeats 400000 in
theorem awake_any (w : World) : Calls Try.prog 9 #[] w fun e w' => e = .returned (.bool true) ∧ Below w.heap.size w w' := by
  go_enter Try.func9, Try.ntmps9
  go_wp2_with fail
  refine (seal_any _ _ (by decide)).mono ?_
  rintro e w1 ⟨rfl, hb1⟩
  have HB1 := Lib.hid hb1
  clear hb1
  go_wp2_with fail
  refine (open_any _ _ (by rw [aw9]; decide)).mono ?_
  rintro e w2 ⟨rfl, hb2⟩
  have HB2 := Lib.hid (below_two HB1.out hb2)
  clear hb2 HB1
  rw [aw1, aw2]
  go_wp2_with fail
  refine (open_any _ _ (by decide)).mono ?_
  rintro e w3 ⟨rfl, hb3⟩
  have HB3 := Lib.hid (below_two HB2.out hb3)
  clear hb3 HB2
  rw [aw3]
  go_wp2_with fail
  refine (open_any _ _ (by decide)).mono ?_
  rintro e w4 ⟨rfl, hb4⟩
  have HB4 := Lib.hid (below_two HB3.out hb4)
  clear hb4 HB3
  rw [aw4]
  have a5 := aw5
  have a6 := aw6
  go_wp2_with fail
  refine (of_three _ _ _ _ (by decide) (by decide) (by decide)).mono ?_
  rintro e w5 ⟨rfl, hb5⟩
  have HB5 := Lib.hid (below_two HB4.out hb5)
  clear hb5 HB4
  go_wp2_with fail
  refine (of_none _).mono ?_
  rintro e w6 ⟨rfl, hb6⟩
  have HB6 := Lib.hid (below_two HB5.out hb6)
  clear hb6 HB5
  go_wp2_with fail
  refine (bytes_nat 16909060 _ (by decide)).mono ?_
  rintro e w7 ⟨rfl, hb7⟩
  have HB7 := Lib.hid (below_two HB6.out hb7)
  clear hb7 HB6
  rw [aw7]
  go_wp2_with fail
  refine (seal_any _ _ (by decide)).mono ?_
  rintro e w8 ⟨rfl, hb8⟩
  have HB8 := Lib.hid (below_two HB7.out hb8)
  clear hb8 HB7
  rw [aw8]
  go_wp2_with fail
  go_ret
  exact ⟨rfl, HB8.out⟩
end Go.Proofs.Ytinpogjdaehmmaa
