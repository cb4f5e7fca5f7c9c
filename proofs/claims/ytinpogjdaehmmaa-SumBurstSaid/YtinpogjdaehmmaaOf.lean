/-
  THE WALK OF sum.Of: the sum of the parts' bytes, one behind the other; what was there stays as it was.
-/
import Derived.Test.YtinpogjdaehmmaaSteps
namespace Go.Proofs.Ytinpogjdaehmmaa
open Go.RowKit
/-- a text's bytes -/
def bs (s : ByteArray) : List (BitVec 8) := s.data.toList.map UInt8.toBitVec
theorem bs_length (s : ByteArray) : (bs s).length = s.size := by unfold bs; rw [List.length_map]; rfl
def byteAt (s : ByteArray) (i : Nat) : BitVec 8 := (bs s).getD i 0#8
theorem byte_bv (s : ByteArray) (i : Nat) (h : i < s.size) : ((s[i]).toNat : Int) = bv (byteAt s i) := by
  have h' : i < (bs s).length := by rw [bs_length]; exact h
  unfold byteAt
  rw [List.getD_eq_getElem?_getD, List.getElem?_eq_getElem h', Option.getD_some]
  have e : (bs s)[i] = (s[i]).toBitVec := by
    simp only [bs, List.getElem_map]
    rfl
  rw [e]
  rfl
def sumOf (ss : List ByteArray) : BitVec 32 := Crc.crc 0#32 (ss.flatMap bs)
theorem sumOf_take (ss : List ByteArray) (k : Nat) (h : k < ss.length) : sumOf (ss.take (k + 1)) = Crc.crc (sumOf (ss.take k)) (bs ss[k]) := by
  unfold sumOf
  rw [List.take_succ_eq_append_getElem h, List.flatMap_append, Crc.crc_append]
  simp
theorem crc_take (n : BitVec 32) (l : List (BitVec 8)) (k : Nat) (h : k < l.length) : Crc.crc n (l.take (k + 1)) = Crc.up (Crc.crc n (l.take k)) l[k] := by
  rw [List.take_succ_eq_append_getElem h, Crc.crc_append]
  rfl
theorem T_full (c : BitVec 8) : (T 256)[(bv c).toNat]? = some (.int .u32 (nv (Crc.tab c))) := by
  have h : (bv c).toNat < 256 := by have := bv_range c; omega
  rw [T_at _ _ h, if_pos h]
  have e : BitVec.ofNat 8 (bv c).toNat = c := by
    unfold bv
    rw [Int.toNat_natCast]
    simp
  rw [e]
attribute [local go_sem] zero40
theorem bv_nonneg (c : BitVec 8) : 0 ≤ bv c := (bv_range c).1
theorem bv_lt (c : BitVec 8) : bv c < 256 := by have := (bv_range c).2; omega
attribute [local go_sem] bv_nonneg bv_lt
attribute [local go_sem] nv_shl8 nv_byte nv_xor bv_xor T_full
set_option maxRecDepth 100000 in
set_option maxHeartbeats 400000 in
theorem of_any (A : Option Addr) (c : Nat) (ss : List ByteArray) (w : World) (hl : ss.length ≤ 1000) (hs : ∀ s ∈ ss, s.size ≤ 1000000)
    (hr : ∀ j (h : j < ss.length), ∃ a, A = some a ∧ a.block < w.heap.size ∧ w.cell? (a.add j) = some (.string ss[j])) :
    Calls Try.prog 12 #[.slice A ss.length c] w fun e w' => e = .returned (.int .u32 (nv (sumOf ss))) ∧ Below w.heap.size w w' := by
  have HR := Lib.hid hr
  have HS := Lib.hid hs
  clear hr hs
  have hst := fun (w1 : World) => run_storeAt_new (P := Try.prog) w1 40 zeros (T 256) (size40 256) rfl (one40 256)
  have HST := Lib.hid hst
  clear hst
  go_enter Try.func12, Try.ntmps12
  go_wp2_with (first
    | (go_at_call 18; refine (steps_any _).mono ?_; rintro e w' ⟨rfl, rfl⟩)
    | (refine wpList_store_row rfl 40 (.tmp 3) (.tmp 8) rfl (w.alloc (.cells (T 256) 40)).heap.size (T 256) (by simp [Act.eval]) rfl 40 zeros (heap_alloc_last _ _) (size40 256) rfl (one40 256) ?_; rw [World.setRow_alloc_new]))
  have hb2 : Below w.heap.size w ((w.alloc (Obj.cells (T 256) 40)).alloc (Obj.cells (T 256) 40)) := ((Below.refl _ _).alloc (Nat.le_refl _) _).alloc (by simp) _
  have HB := Lib.hid hb2
  clear hb2
  go_loop [4, 11] (fun n i => ∃ k : Nat, k ≤ ss.length ∧ i = .int .i64 k ∧ n = .int .u32 (nv (sumOf (ss.take k)))) (fun _ i => ss.length - (intOf i).toNat)
  case atStart => exact ⟨0, Nat.zero_le _, rfl, rfl⟩
  case round =>
    obtain ⟨k, hk, rfl, rfl⟩ := hrel
    by_cases hlt : k < ss.length
    · have hd : decide ((k : Int) < (ss.length : Int)) = true := by simp; omega
      obtain ⟨a, rfl, hab, hcell⟩ := HR.out k hlt
      have hsz := HS.out _ (List.getElem_mem hlt)
      have hc2 : ((w.alloc (Obj.cells (T 256) 40)).alloc (Obj.cells (T 256) 40)).cell? (a.add k) = some (.string ss[k]) := by
        rw [HB.out.cell (by rw [Addr.add]; split <;> exact hab)]; exact hcell
      have hstep := sumOf_take ss k hlt
      have HSTEP := Lib.hid hstep
      clear hstep
      generalize ss[k] = s at *
      generalize hN0 : sumOf (ss.take k) = n0 at *
      clear hN0
      have hbyte := byte_bv s
      go_wp2
      go_loop [4, 17] (fun n i => ∃ j : Nat, j ≤ s.size ∧ i = .int .i64 j ∧ n = .int .u32 (nv (Crc.crc n0 ((bs s).take j)))) (fun _ i => s.size - (intOf i).toNat)
      case atStart => exact ⟨0, Nat.zero_le _, rfl, rfl⟩
      case round =>
        obtain ⟨j, hj, rfl, rfl⟩ := hrel
        by_cases hjl : j < s.size
        · have hd2 : decide ((j : Int) < (s.size : Int)) = true := by simp; omega
          have hup := crc_take n0 (bs s) j (by rw [bs_length]; exact hjl)
          generalize Crc.crc n0 ((bs s).take j) = n1 at *
          have HU := Lib.hid hup
          clear hup
          have hsh := nv_shr n1 24 16777216 rfl
          go_wp2
          refine ⟨⟨j + 1, by omega, by go_num, ?_⟩, by simp [intOf]; omega⟩
          rw [HU.out, Crc.up_tab]
          have e : byteAt s j = (bs s)[j]'(by rw [bs_length]; exact hjl) := by
            unfold byteAt
            rw [List.getD_eq_getElem?_getD, List.getElem?_eq_getElem (by rw [bs_length]; exact hjl), Option.getD_some]
          rw [e]
        · have hd2 : decide ((j : Int) < (s.size : Int)) = false := by simp; omega
          have hfull : (bs s).take j = bs s := List.take_of_length_le (by rw [bs_length]; omega)
          have HF := Lib.hid hfull
          clear hfull
          go_wp2
          go_round
          case rel => exact ⟨k + 1, by omega, by go_num, by rw [HF.out, HSTEP.out]⟩
          case measure => simp [intOf]; omega
    · have hd : decide ((k : Int) < (ss.length : Int)) = false := by simp; omega
      have hfull : ss.take k = ss := List.take_of_length_le (by omega)
      have HF := Lib.hid hfull
      clear hfull
      go_wp2
      go_ret
      exact ⟨by show Ending.returned (.int .u32 (nv (sumOf (ss.take k)))) = _; rw [HF.out], HB.out⟩
end Go.Proofs.Ytinpogjdaehmmaa
