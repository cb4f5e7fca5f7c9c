/-
  THE WALKS OF sum.Seal, of the reference's Of and Seal.
-/
import Derived.Test.YtinpogjdaehmmaaBytes
namespace Go.Proofs.Ytinpogjdaehmmaa
open Go.RowKit
theorem Sn_next (k : Nat) (x : BitVec 32) : Crc.S (Crc.Sn k x) = Crc.Sn (k + 1) x := by rw [Crc.Sn_add]; rfl
theorem crc_byteAt (n : BitVec 32) (s : ByteArray) (k : Nat) (h : k < s.size) : Crc.crc n ((bs s).take (k + 1)) = Crc.up (Crc.crc n ((bs s).take k)) (byteAt s k) := by
  have h' : k < (bs s).length := by rw [bs_length]; exact h
  rw [crc_take _ _ _ h']
  unfold byteAt
  rw [List.getD_eq_getElem?_getD, List.getElem?_eq_getElem h', Option.getD_some]
theorem bv_24 (c : BitVec 8) : IntKind.u32.wrap (bv c * 16777216) = nv (c.setWidth 32 <<< 24) := by
  rw [nv_mul24]; have := nv_range (c.setWidth 32 <<< 24); rw [IntKind.wrap_u32]; omega
theorem nv_mod (x : BitVec 32) : nv x % 4294967296 = nv x := by have := nv_range x; omega
attribute [local go_sem] nv_mod
attribute [local go_sem] bv_nonneg bv_lt nv_mul24 bv_24 nv_xor
set_option maxRecDepth 100000 in
set_option maxHeartbeats 400000 in
theorem refOf_any (s : ByteArray) (w : World) (hs : s.size ≤ 1000000) :
    Calls Try.prog 13 #[.string s] w fun e w' => e = .returned (.int .u32 (nv (Crc.crc 0#32 (bs s)))) ∧ w = w' := by
  go_enter Try.func13, Try.ntmps13
  go_wp2
  go_loop [3, 4] (fun n i => ∃ k : Nat, k ≤ s.size ∧ i = .int .i64 k ∧ n = .int .u32 (nv (Crc.crc 0#32 ((bs s).take k)))) (fun _ i => s.size - (intOf i).toNat)
  case atStart => exact ⟨0, Nat.zero_le _, rfl, rfl⟩
  case round =>
    obtain ⟨k, hk, rfl, rfl⟩ := hrel
    by_cases hlt : k < s.size
    · have hd : decide ((k : Int) < (s.size : Int)) = true := by simp; omega
      have hbyte := byte_bv s k hlt
      have hstep := crc_byteAt 0#32 s k hlt
      generalize Crc.crc 0#32 ((bs s).take k) = n0 at *
      have HSTEP := Lib.hid hstep
      clear hstep
      have hr := bv_range (byteAt s k)
      generalize byteAt s k = c at *
      go_wp2
      go_loop [3, 5] (fun n i => ∃ j : Nat, j ≤ 8 ∧ i = .int .i64 j ∧ n = .int .u32 (nv (Crc.Sn j (n0 ^^^ (c.setWidth 32 <<< 24))))) (fun _ i => 8 - (intOf i).toNat)
      case atStart => exact ⟨0, by omega, rfl, rfl⟩
      case round =>
        obtain ⟨j, hj, rfl, rfl⟩ := hrel
        by_cases hjl : j < 8
        · have hd2 : decide ((j : Int) < 8) = true := by simp; omega
          have hnx := Sn_next j (n0 ^^^ (c.setWidth 32 <<< 24))
          have HN := Lib.hid hnx
          clear hnx
          go_wp2_with (go_at_call 19; refine (refStep_any _ _).mono ?_; rintro e w' ⟨rfl, rfl⟩)
          go_round
          case rel => exact ⟨j + 1, by omega, by go_num, by rw [← HN.out]⟩
          case measure => simp [intOf]; omega
        · have hd2 : decide ((j : Int) < 8) = false := by simp; omega
          have hj8 : j = 8 := by omega
          have HJ := Lib.hid hj8
          clear hj8
          go_wp2
          go_round
          case rel => exact ⟨k + 1, by omega, by go_num, by rw [HSTEP.out, HJ.out]; rfl⟩
          case measure => simp [intOf]; omega
    · have hd : decide ((k : Int) < (s.size : Int)) = false := by simp; omega
      have hfull : (bs s).take k = bs s := List.take_of_length_le (by rw [bs_length]; omega)
      have HF := Lib.hid hfull
      clear hfull
      go_wp2
      go_ret
      exact ⟨by show Ending.returned (.int .u32 (nv (Crc.crc 0#32 ((bs s).take k)))) = _; rw [HF.out], rfl⟩
def sealS (s : ByteArray) : ByteArray := bytesS (BitVec.ofNat 32 s.size) ++ s ++ bytesS (sumOf [bytesS (BitVec.ofNat 32 s.size), s])
theorem sumOf_one (s : ByteArray) : sumOf [s] = Crc.crc 0#32 (bs s) := by unfold sumOf; simp
theorem sumOf_two (s t : ByteArray) : sumOf [s, t] = Crc.crc 0#32 (bs (s ++ t)) := by unfold sumOf; rw [bs_append]; simp
theorem nv_size (n : Nat) : IntKind.u32.wrap (n : Int) = nv (BitVec.ofNat 32 n) := by
  rw [IntKind.wrap_u32]; unfold nv; rw [BitVec.toNat_ofNat]; rfl
theorem nv_nat (n : Nat) (h : n ≤ 4294967295) : (n : Int) = nv (BitVec.ofNat 32 n) := by
  rw [← nv_size, IntKind.wrap_u32]; omega
theorem bytes_nat (k : Nat) (w : World) (h : k ≤ 4294967295) :
    Calls Try.prog 14 #[.int .u32 (k : Int)] w fun e w' => e = .returned (.string (bytesS (BitVec.ofNat 32 k))) ∧ Below w.heap.size w w' := by
  rw [nv_nat k h]; exact bytes_any _ w
theorem refBytes_nat (k : Nat) (w : World) (h : k ≤ 4294967295) :
    Calls Try.prog 15 #[.int .u32 (k : Int)] w fun e w' => e = .returned (.string (bytesS (BitVec.ofNat 32 k))) ∧ Below w.heap.size w w' := by
  rw [nv_nat k h]; exact refBytes_any _ w
/-- a new row of two texts -/
theorem of_two (s t : ByteArray) (w : World) (hs : s.size ≤ 1000000) (ht : t.size ≤ 1000000) :
    Calls Try.prog 12 #[.slice (some ⟨w.heap.size, 0, none⟩) 2 2] (w.alloc (.cells #[.string s, .string t] 9)) fun e w' => e = .returned (.int .u32 (nv (sumOf [s, t]))) ∧ Below w.heap.size w w' := by
  refine (of_any (some ⟨w.heap.size, 0, none⟩) 2 [s, t] _ (by simp) (by simp [hs, ht]) ?_).mono ?_
  · intro j hj
    refine ⟨_, rfl, by simp, ?_⟩
    have e : (⟨w.heap.size, 0, none⟩ : Addr).add j = ⟨w.heap.size, j, none⟩ := by unfold Addr.add; split <;> simp_all
    rw [e, World.cell?_alloc_new]
    match j, hj with
    | 0, _ => rfl
    | 1, _ => rfl
  · rintro e w' ⟨rfl, hb⟩
    exact ⟨rfl, ((Below.refl _ _).alloc (Nat.le_refl _) _).trans (hb.mono (by simp))⟩
theorem of_one (s : ByteArray) (w : World) (hs : s.size ≤ 1000000) :
    Calls Try.prog 12 #[.slice (some ⟨w.heap.size, 0, none⟩) 1 1] (w.alloc (.cells #[.string s] 9)) fun e w' => e = .returned (.int .u32 (nv (sumOf [s]))) ∧ Below w.heap.size w w' := by
  refine (of_any (some ⟨w.heap.size, 0, none⟩) 1 [s] _ (by simp) (by simp [hs]) ?_).mono ?_
  · intro j hj
    refine ⟨_, rfl, by simp, ?_⟩
    have e : (⟨w.heap.size, 0, none⟩ : Addr).add j = ⟨w.heap.size, j, none⟩ := by unfold Addr.add; split <;> simp_all
    rw [e, World.cell?_alloc_new]
    match j, hj with
    | 0, _ => rfl
  · rintro e w' ⟨rfl, hb⟩
    exact ⟨rfl, ((Below.refl _ _).alloc (Nat.le_refl _) _).trans (hb.mono (by simp))⟩
theorem of_three (s t u : ByteArray) (w : World) (hs : s.size ≤ 1000000) (ht : t.size ≤ 1000000) (hu : u.size ≤ 1000000) :
    Calls Try.prog 12 #[.slice (some ⟨w.heap.size, 0, none⟩) 3 3] (w.alloc (.cells #[.string s, .string t, .string u] 9)) fun e w' => e = .returned (.int .u32 (nv (sumOf [s, t, u]))) ∧ Below w.heap.size w w' := by
  refine (of_any (some ⟨w.heap.size, 0, none⟩) 3 [s, t, u] _ (by simp) (by simp [hs, ht, hu]) ?_).mono ?_
  · intro j hj
    refine ⟨_, rfl, by simp, ?_⟩
    have e : (⟨w.heap.size, 0, none⟩ : Addr).add j = ⟨w.heap.size, j, none⟩ := by unfold Addr.add; split <;> simp_all
    rw [e, World.cell?_alloc_new]
    match j, hj with
    | 0, _ => rfl
    | 1, _ => rfl
    | 2, _ => rfl
  · rintro e w' ⟨rfl, hb⟩
    exact ⟨rfl, ((Below.refl _ _).alloc (Nat.le_refl _) _).trans (hb.mono (by simp))⟩
theorem of_none (w : World) :
    Calls Try.prog 12 #[.slice none 0 0] w fun e w' => e = .returned (.int .u32 (nv (sumOf []))) ∧ Below w.heap.size w w' :=
  of_any none 0 [] w (by simp) (by simp) (fun j hj => by simp at hj)
set_option maxRecDepth 100000 in
set_option maxHeartbeats 400000 in
theorem seal_any (s : ByteArray) (w : World) (hs : s.size ≤ 100000) :
    Calls Try.prog 16 #[.string s] w fun e w' => e = .returned (.string (sealS s)) ∧ Below w.heap.size w w' := by
  have hsz := size_bytesS (BitVec.ofNat 32 s.size)
  have hsz2 := size_bytesS (sumOf [bytesS (BitVec.ofNat 32 s.size), s])
  go_enter Try.func16, Try.ntmps16
  go_wp2_with fail
  refine (bytes_nat _ _ (by omega)).mono ?_
  rintro e w1 ⟨rfl, hb1⟩
  have HB1 := Lib.hid hb1
  clear hb1
  go_wp2_with fail
  refine (of_two _ _ _ (by omega) (by omega)).mono ?_
  rintro e w2 ⟨rfl, hb2⟩
  have HB2 := Lib.hid hb2
  clear hb2
  go_wp2_with fail
  refine (bytes_any _ _).mono ?_
  rintro e w3 ⟨rfl, hb3⟩
  have HB3 := Lib.hid hb3
  clear hb3
  go_wp2_with fail
  go_ret
  exact ⟨rfl, HB1.out.trans ((HB2.out.mono HB1.out.size).trans (HB3.out.mono (Nat.le_trans HB1.out.size HB2.out.size)))⟩
set_option maxRecDepth 100000 in
set_option maxHeartbeats 400000 in
theorem refSeal_any (s : ByteArray) (w : World) (hs : s.size ≤ 100000) :
    Calls Try.prog 17 #[.string s] w fun e w' => e = .returned (.string (sealS s)) ∧ Below w.heap.size w w' := by
  have hsz := size_bytesS (BitVec.ofNat 32 s.size)
  have hsz2 := size_bytesS (Crc.crc 0#32 (bs (bytesS (BitVec.ofNat 32 s.size) ++ s)))
  go_enter Try.func17, Try.ntmps17
  go_wp2_with fail
  refine (refBytes_nat _ _ (by omega)).mono ?_
  rintro e w1 ⟨rfl, hb1⟩
  have HB1 := Lib.hid hb1
  clear hb1
  go_wp2_with fail
  refine (refOf_any _ _ (by rw [ByteArray.size_append]; omega)).mono ?_
  rintro e w2 ⟨rfl, rfl⟩
  go_wp2_with fail
  refine (refBytes_any _ _).mono ?_
  rintro e w3 ⟨rfl, hb3⟩
  have HB3 := Lib.hid hb3
  clear hb3
  go_wp2_with fail
  go_ret
  exact ⟨by unfold sealS; rw [sumOf_two]; rfl, HB1.out.trans (HB3.out.mono HB1.out.size)⟩
end Go.Proofs.Ytinpogjdaehmmaa
