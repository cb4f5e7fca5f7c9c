/-
  THE WALKS OF sum.Bytes, of the reference's Bytes and of its step; texts as lists of bytes.
-/
import Derived.Test.YtinpogjdaehmmaaOf
import Derived.Lib.ConvBytes
namespace Go.Proofs.Ytinpogjdaehmmaa
open Go.RowKit
def ofBits (l : List (BitVec 8)) : ByteArray := ⟨(l.map UInt8.ofBitVec).toArray⟩
theorem bs_ofBits (l : List (BitVec 8)) : bs (ofBits l) = l := by
  unfold bs ofBits
  simp [Function.comp_def]
theorem ofBits_bs (s : ByteArray) : ofBits (bs s) = s := by
  unfold bs ofBits
  simp [Function.comp_def]
theorem bs_inj {s t : ByteArray} (h : bs s = bs t) : s = t := by rw [← ofBits_bs s, ← ofBits_bs t, h]
theorem bs_append (s t : ByteArray) : bs (s ++ t) = bs s ++ bs t := by
  unfold bs
  simp [ByteArray.data_append]
theorem size_bs (s : ByteArray) : s.size = (bs s).length := (bs_length s).symm
theorem size_ofBits (l : List (BitVec 8)) : (ofBits l).size = l.length := by rw [size_bs, bs_ofBits]
theorem bs_extract (s : ByteArray) (a b : Nat) : bs (s.extract a b) = ((bs s).take b).drop a := by
  unfold bs
  simp [ByteArray.data_extract, Array.toList_extract, List.extract_eq_take_drop, List.drop_take, List.map_drop, List.map_take]
theorem strOfNums_bv (l : List (BitVec 8)) : strOfNums (l.map bv) = ofBits l := by
  unfold strOfNums ofBits
  congr 2
  rw [List.map_map]
  refine List.map_congr_left fun x _ => ?_
  show UInt8.ofNat (bv x).toNat = _
  unfold bv
  rw [Int.toNat_natCast]
  apply UInt8.toNat_inj.1
  rw [UInt8.toNat_ofNat', Nat.mod_eq_of_lt (by have := x.isLt; omega)]
  rfl
def bytesS (n : BitVec 32) : ByteArray := ofBits (Crc.bytes n)
theorem bs_bytesS (n : BitVec 32) : bs (bytesS n) = Crc.bytes n := bs_ofBits _
theorem size_bytesS (n : BitVec 32) : (bytesS n).size = 4 := by rw [size_bs, bs_bytesS]; rfl
theorem conv4 (w : World) (a b c d : Int) : (convert 34 9 (.slice (some ⟨w.heap.size, 0, none⟩) 4 4)).run Try.prog (w.alloc (.cells #[.int .u8 a, .int .u8 b, .int .u8 c, .int .u8 d] 5)) =
    .ok (.string (strOfNums [a, b, c, d])) (w.alloc (.cells #[.int .u8 a, .int .u8 b, .int .u8 c, .int .u8 d] 5)) := by
  refine run_convert_bytes_arg _ 34 5 Try.underlying34 Try.underlying5 _ 0 4 4 [a, b, c, d] rfl (fun i hi => ?_) 9 Try.underlying9
  rw [World.cell?_alloc_new]
  match i, hi with
  | 0, _ => rfl
  | 1, _ => rfl
  | 2, _ => rfl
  | 3, _ => rfl
theorem nv_hi (n : BitVec 32) : nv (n >>> 24) = bv ((n >>> 24).setWidth 8) := by
  have h := nv_shr n 24 16777216 rfl
  have r := nv_range n
  rw [← nv_byte]; omega
theorem bytes_nums (n : BitVec 32) : strOfNums [nv (n >>> 24), bv ((n >>> 16).setWidth 8), bv ((n >>> 8).setWidth 8), bv (n.setWidth 8)] = bytesS n := by
  rw [nv_hi]; exact strOfNums_bv (Crc.bytes n)
attribute [local go_sem] nv_byte conv4 bytes_nums
set_option maxRecDepth 100000 in
set_option maxHeartbeats 400000 in
theorem bytes_any (n : BitVec 32) (w : World) :
    Calls Try.prog 14 #[.int .u32 (nv n)] w fun e w' => e = .returned (.string (bytesS n)) ∧ Below w.heap.size w w' := by
  have r := nv_range n
  have h24 := nv_shr n 24 16777216 rfl
  have h16 := nv_shr n 16 65536 rfl
  have h8 := nv_shr n 8 256 rfl
  go_enter Try.func14, Try.ntmps14
  go_wp2
  go_ret
  exact ⟨rfl, (Below.refl _ _).alloc (Nat.le_refl _) _⟩
set_option maxRecDepth 100000 in
set_option maxHeartbeats 400000 in
theorem refBytes_any (n : BitVec 32) (w : World) :
    Calls Try.prog 15 #[.int .u32 (nv n)] w fun e w' => e = .returned (.string (bytesS n)) ∧ Below w.heap.size w w' := by
  have r := nv_range n
  have h24 := nv_shr n 24 16777216 rfl
  have h16 := nv_shr n 16 65536 rfl
  have h8 := nv_shr n 8 256 rfl
  go_enter Try.func15, Try.ntmps15
  go_wp2
  go_ret
  exact ⟨rfl, (Below.refl _ _).alloc (Nat.le_refl _) _⟩
theorem nv_msb (n : BitVec 32) : n.msb = decide (2147483648 ≤ nv n) := by
  rw [BitVec.msb_eq_decide]
  unfold nv
  simp
  omega
theorem nv_dbl (n : BitVec 32) : IntKind.u32.wrap (2 * nv n) = nv (n <<< 1) := by rw [Int.mul_comm]; exact nv_shl1 n
set_option maxRecDepth 100000 in
set_option maxHeartbeats 400000 in
theorem refStep_yes (n : BitVec 32) (w : World) (h : n.msb = true) :
    Calls Try.prog 19 #[.int .u32 (nv n)] w fun e w' => e = .returned (.int .u32 (nv (Crc.S n))) ∧ w = w' := by
  rw [Sn_yes n h]
  rw [nv_msb] at h
  have r := nv_range n
  have h1 := nv_dbl n
  have h2 := nv_xor_poly (n <<< 1)
  go_enter Try.func19, Try.ntmps19
  go_wp2
  go_ret
  exact ⟨rfl, rfl⟩
set_option maxRecDepth 100000 in
set_option maxHeartbeats 400000 in
theorem refStep_no (n : BitVec 32) (w : World) (h : n.msb = false) :
    Calls Try.prog 19 #[.int .u32 (nv n)] w fun e w' => e = .returned (.int .u32 (nv (Crc.S n))) ∧ w = w' := by
  rw [Sn_no n h]
  rw [nv_msb] at h
  have r := nv_range n
  have h1 := nv_dbl n
  go_enter Try.func19, Try.ntmps19
  go_wp2
  go_ret
  exact ⟨rfl, rfl⟩
theorem refStep_any (n : BitVec 32) (w : World) :
    Calls Try.prog 19 #[.int .u32 (nv n)] w fun e w' => e = .returned (.int .u32 (nv (Crc.S n))) ∧ w = w' := by
  cases h : n.msb with
  | true => exact refStep_yes n w h
  | false => exact refStep_no n w h
end Go.Proofs.Ytinpogjdaehmmaa
