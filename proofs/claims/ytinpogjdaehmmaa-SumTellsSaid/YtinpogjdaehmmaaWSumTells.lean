/-
  THE WALK OF SumTells: it answers true.
-/
import Derived.Test.YtinpogjdaehmmaaPlain
import Derived.Test.YtinpogjdaehmmaaAwake
import Derived.WalkSpells
import Derived.WalkLawsBesides
namespace Go.Proofs.Ytinpogjdaehmmaa
open Go.RowKit
theorem wf_nv (a : Int) (h : (Lit.int .u32 a).wf = true) : ∃ x, a = nv x := by
  have h1 : IntKind.u32.min = 0 := rfl
  have h2 : IntKind.u32.max = 4294967295 := rfl
  simp only [Lit.wf, Bool.and_eq_true, decide_eq_true_eq] at h
  refine ⟨BitVec.ofNat 32 a.toNat, ?_⟩
  unfold nv
  rw [BitVec.toNat_ofNat, Nat.mod_eq_of_lt (by omega)]
  omega
set_option maxRecDepth 100000 in
set_option maxHeartbeats 400000 in
theorem sumTells_long (a0 : ByteArray) (x : BitVec 32) (h : ¬ a0.size ≤ 1000) (w : World) :
    Calls Try.prog 3 #[.string a0, .int .u32 (nv x)] w fun e w' => e = .returned (.bool true) ∧ Below w.heap.size w w' := by
  have hd : decide ((1000 : Int) < (a0.size : Int)) = true := by simp; omega
  go_enter Try.func3, Try.ntmps3
  go_wp2_with fail
  refine (awake_any _).mono ?_
  rintro e w1 ⟨rfl, hb1⟩
  have HB1 := Lib.hid hb1
  clear hb1
  go_wp2_with fail
  go_ret
  exact ⟨rfl, HB1.out⟩
set_option maxRecDepth 100000 in
set_option maxHeartbeats 400000 in
theorem sumTells_short (a0 : ByteArray) (x : BitVec 32) (h : a0.size ≤ 1000) (w : World) :
    Calls Try.prog 3 #[.string a0, .int .u32 (nv x)] w fun e w' => e = .returned (.bool true) ∧ Below w.heap.size w w' := by
  have hd : decide ((1000 : Int) < (a0.size : Int)) = false := by simp; omega
  have hd2 : decide ((1000) < (a0.size)) = false := by simp; omega
  have hself : ∀ s : ByteArray, (s.toList == s.toList) = true := by simp
  have hself2 : ∀ s : Int, (s == s) = true := by simp
  go_enter Try.func3, Try.ntmps3
  go_wp2_with fail
  refine (awake_any _).mono ?_
  rintro e w1 ⟨rfl, hb1⟩
  have HB1 := Lib.hid hb1
  clear hb1
  go_wp2_with fail
  refine (open_any _ _ (by omega)).mono ?_
  rintro e w2 ⟨rfl, hb2⟩
  have HB2 := Lib.hid (below_two HB1.out hb2)
  clear hb2 HB1
  go_wp2_with fail
  refine (refOpen_any _ _ (by omega)).mono ?_
  rintro e w3 ⟨rfl, hb3⟩
  have HB3 := Lib.hid (below_two HB2.out hb3)
  clear hb3 HB2
  rw [refOpens_eq, refOpen_eq]
  have hb3 : ∀ b : Bool, (b == b) = true := by simp
  go_wp2_with fail
  refine (of_one _ _ (by omega)).mono ?_
  rintro e w4 ⟨rfl, hb4⟩
  have HB4 := Lib.hid (below_two HB3.out hb4)
  clear hb4 HB3
  go_wp2_with fail
  refine (refOf_any _ _ (by omega)).mono ?_
  rintro e w5 ⟨rfl, rfl⟩
  rw [sumOf_one]
  go_wp2_with fail
  refine (bytes_any _ _).mono ?_
  rintro e w6 ⟨rfl, hb6⟩
  have HB6 := Lib.hid (below_two HB4.out hb6)
  clear hb6 HB4
  go_wp2_with fail
  refine (refBytes_any _ _).mono ?_
  rintro e w7 ⟨rfl, hb7⟩
  have HB7 := Lib.hid (below_two HB6.out hb7)
  clear hb7 HB6
  go_wp2_with fail
  refine (seal_any _ _ (by omega)).mono ?_
  rintro e w8 ⟨rfl, hb8⟩
  have HB8 := Lib.hid (below_two HB7.out hb8)
  clear hb8 HB7
  go_wp2_with fail
  refine (refSeal_any _ _ (by omega)).mono ?_
  rintro e w9 ⟨rfl, hb9⟩
  have HB9 := Lib.hid (below_two HB8.out hb9)
  clear hb9 HB8
  go_wp2_with fail
  go_ret
  exact ⟨rfl, HB9.out⟩
theorem sumTells_walk (a0 : ByteArray) (a1 : Int) (_w0 : a0.size ≤ maxLen) (w1 : (Lit.int .u32 a1).wf = true) (w : World) :
    Calls Try.prog 3 #[.string a0, .int .u32 a1] w fun e w' => e = .returned (.bool true) ∧ Below w.heap.size w w' := by
  obtain ⟨x, rfl⟩ := wf_nv a1 w1
  by_cases h : a0.size ≤ 1000
  · exact sumTells_short a0 x h w
  · exact sumTells_long a0 x h w
end Go.Proofs.Ytinpogjdaehmmaa
