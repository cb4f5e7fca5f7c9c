/-
  NUMBERS OF 32 AND OF 8 BITS, AS THE WALK SPELLS THEM: 'nv x' and 'bv c' are the integers of a word of 32 bits and of a byte; what Go's shifts, 'and', 'or' and exclusive-or make of them.
-/
import Derived.WalkKit
import Derived.Laws.BytesArg
namespace Go.Proofs.Ytchpgoipoaoboaa
open Go.RowKit
def nv (x : BitVec 32) : Int := (x.toNat : Int)
def bv (c : BitVec 8) : Int := (c.toNat : Int)
theorem nv_range (x : BitVec 32) : 0 ≤ nv x ∧ nv x ≤ 4294967295 := by have := x.isLt; unfold nv; omega
theorem bv_range (c : BitVec 8) : 0 ≤ bv c ∧ bv c ≤ 255 := by have := c.isLt; unfold bv; omega
theorem nv_inj {x y : BitVec 32} (h : nv x = nv y) : x = y := BitVec.eq_of_toNat_eq (by unfold nv at h; omega)
theorem bv_inj {x y : BitVec 8} (h : bv x = bv y) : x = y := BitVec.eq_of_toNat_eq (by unfold bv at h; omega)
theorem ofInt_nv (x : BitVec 32) : BitVec.ofInt 32 (nv x) = x := by unfold nv; rw [BitVec.ofInt_natCast]; exact BitVec.ofNat_toNat .. |>.trans (by simp)
theorem ofInt_bv (x : BitVec 8) : BitVec.ofInt 8 (bv x) = x := by unfold bv; rw [BitVec.ofInt_natCast]; exact BitVec.ofNat_toNat .. |>.trans (by simp)
theorem wrap_nv (x : BitVec 32) : IntKind.u32.wrap (x.toNat : Int) = nv x := by have := x.isLt; rw [IntKind.wrap_u32]; unfold nv; omega
theorem wrap_bv (x : BitVec 8) : IntKind.u8.wrap (x.toNat : Int) = bv x := by have := x.isLt; rw [IntKind.wrap_u8]; unfold bv; omega
theorem nv_xor (x y : BitVec 32) : bits .xor .u32 (nv x) (nv y) = nv (x ^^^ y) := by
  show IntKind.u32.wrap ((BitVec.ofInt 32 (nv x) ^^^ BitVec.ofInt 32 (nv y)).toNat : Int) = _
  rw [ofInt_nv, ofInt_nv, wrap_nv]
theorem nv_or (x y : BitVec 32) : bits .or .u32 (nv x) (nv y) = nv (x ||| y) := by
  show IntKind.u32.wrap ((BitVec.ofInt 32 (nv x) ||| BitVec.ofInt 32 (nv y)).toNat : Int) = _
  rw [ofInt_nv, ofInt_nv, wrap_nv]
theorem bv_xor (x y : BitVec 8) : bits .xor .u8 (bv x) (bv y) = bv (x ^^^ y) := by
  show IntKind.u8.wrap ((BitVec.ofInt 8 (bv x) ^^^ BitVec.ofInt 8 (bv y)).toNat : Int) = _
  rw [ofInt_bv, ofInt_bv, wrap_bv]
theorem nv_top_yes (x : BitVec 32) (h : x.msb = true) : bits .and .u32 (nv x) 2147483648 = 2147483648 := by
  have e : x &&& 0x80000000#32 = 0x80000000#32 := by
    apply BitVec.eq_of_getLsbD_eq
    intro i hi
    have k : ∀ i : Fin 32, (0x80000000#32).getLsbD i.1 = decide (i.1 = 31) := by decide
    rw [BitVec.getLsbD_and, k ⟨i, hi⟩]
    by_cases h31 : i = 31
    · subst h31; rw [BitVec.msb_eq_getLsbD_last] at h; simp at h; simp [h]
    · simp [h31]
  show IntKind.u32.wrap ((BitVec.ofInt 32 (nv x) &&& BitVec.ofInt 32 (nv 0x80000000#32)).toNat : Int) = _
  rw [ofInt_nv, ofInt_nv, e]; rfl
theorem nv_top_no (x : BitVec 32) (h : x.msb = false) : bits .and .u32 (nv x) 2147483648 = 0 := by
  have e : x &&& 0x80000000#32 = 0#32 := by
    apply BitVec.eq_of_getLsbD_eq
    intro i hi
    have k : ∀ i : Fin 32, (0x80000000#32).getLsbD i.1 = decide (i.1 = 31) := by decide
    rw [BitVec.getLsbD_and, k ⟨i, hi⟩]
    by_cases h31 : i = 31
    · subst h31; rw [BitVec.msb_eq_getLsbD_last] at h; simp at h; simp [h]
    · simp [h31]
  show IntKind.u32.wrap ((BitVec.ofInt 32 (nv x) &&& BitVec.ofInt 32 (nv 0x80000000#32)).toNat : Int) = _
  rw [ofInt_nv, ofInt_nv, e]; rfl
theorem nv_shl (x : BitVec 32) (k : Nat) (m : Int) (hm : m = 2 ^ k) : IntKind.u32.wrap (nv x * m) = nv (x <<< k) := by
  subst hm
  rw [IntKind.wrap_u32]
  unfold nv
  rw [BitVec.toNat_shiftLeft, Nat.shiftLeft_eq]
  rw [show ((x.toNat : Int) * 2 ^ k) = ((x.toNat * 2 ^ k : Nat) : Int) by rw [Int.natCast_mul, Int.natCast_pow]; rfl]
  rfl
theorem nv_shl1 (x : BitVec 32) : IntKind.u32.wrap (nv x * 2) = nv (x <<< 1) := nv_shl x 1 2 rfl
theorem nv_shl8 (x : BitVec 32) : IntKind.u32.wrap (nv x * 256) = nv (x <<< 8) := nv_shl x 8 256 rfl
theorem nv_shr (x : BitVec 32) (k : Nat) (m : Int) (hm : m = 2 ^ k) : nv x / m = nv (x >>> k) := by
  subst hm
  unfold nv
  rw [BitVec.toNat_ushiftRight, Nat.shiftRight_eq_div_pow]
  rw [show (2 : Int) ^ k = ((2 ^ k : Nat) : Int) by rw [Int.natCast_pow]; rfl]
  rfl
theorem nv_byte (x : BitVec 32) : nv x % 256 = bv (x.setWidth 8) := by
  unfold nv bv
  rw [BitVec.toNat_setWidth]
  rfl
theorem nv_mul24 (c : BitVec 8) : bv c * (16777216 : Int) = nv (c.setWidth 32 <<< 24) := by
  have h := c.isLt
  unfold bv nv
  rw [BitVec.toNat_shiftLeft, Nat.shiftLeft_eq, BitVec.toNat_setWidth, Nat.mod_eq_of_lt (by omega), Nat.mod_eq_of_lt (by omega)]
  rw [Int.natCast_mul]
  rfl
theorem nv_nat24 (k : Nat) (h : k < 256) : (k : Int) * (16777216 : Int) = nv ((BitVec.ofNat 8 k).setWidth 32 <<< 24) := by
  rw [← nv_mul24]; unfold bv; rw [BitVec.toNat_ofNat, Nat.mod_eq_of_lt (by omega)]
theorem nv_mod (x : BitVec 32) : nv x % 4294967296 = nv x := by have := nv_range x; omega
theorem bv_nonneg (c : BitVec 8) : 0 ≤ bv c := (bv_range c).1
theorem bv_lt (c : BitVec 8) : bv c < 256 := by have := (bv_range c).2; omega
theorem nv_mulk (c : BitVec 8) (k : Nat) (m : Int) (hk : k ≤ 24) (hm : m = 2 ^ k) : bv c * m = nv (c.setWidth 32 <<< k) := by
  subst hm
  have h := c.isLt
  have hp : 2 ^ k ≤ 2 ^ 24 := Nat.pow_le_pow_right (by decide) hk
  have hlt : c.toNat * 2 ^ k < 2 ^ 32 := by
    have h1 : c.toNat * 2 ^ k ≤ 255 * 2 ^ 24 := Nat.mul_le_mul (by omega) hp
    omega
  unfold bv nv
  rw [BitVec.toNat_shiftLeft, Nat.shiftLeft_eq, BitVec.toNat_setWidth, Nat.mod_eq_of_lt (show c.toNat < 2 ^ 32 by omega), Nat.mod_eq_of_lt hlt]
  rw [Int.natCast_mul, Int.natCast_pow]
  rfl
theorem bv_zero_ext (c : BitVec 8) : bv c = nv (c.setWidth 32) := by
  unfold bv nv
  rw [BitVec.toNat_setWidth, Nat.mod_eq_of_lt (by have := c.isLt; omega)]
/-! ### texts as lists of bytes -/
/-- a text's bytes -/
def bs (s : ByteArray) : List (BitVec 8) := s.data.toList.map UInt8.toBitVec
theorem bs_length (s : ByteArray) : (bs s).length = s.size := by unfold bs; rw [List.length_map]; rfl
def byteAt (s : ByteArray) (i : Nat) : BitVec 8 := (bs s).getD i 0#8
theorem byte_bv (s : ByteArray) (i : Nat) (h : i < s.size) : ((s[i]).toNat : Int) = bv (byteAt s i) := by
  have h' : i < (bs s).length := by rw [bs_length]; exact h
  unfold byteAt
  rw [List.getD_eq_getElem?_getD, List.getElem?_eq_getElem h', Option.getD_some]
  have e : (bs s)[i] = (s[i]).toBitVec := by
    simp only [bs, List.getElem_map]
    rfl
  rw [e]
  rfl
def ofBits (l : List (BitVec 8)) : ByteArray := ⟨(l.map UInt8.ofBitVec).toArray⟩
theorem bs_ofBits (l : List (BitVec 8)) : bs (ofBits l) = l := by
  unfold bs ofBits
  simp [Function.comp_def]
theorem ofBits_bs (s : ByteArray) : ofBits (bs s) = s := by
  unfold bs ofBits
  simp [Function.comp_def]
theorem bs_inj {s t : ByteArray} (h : bs s = bs t) : s = t := by rw [← ofBits_bs s, ← ofBits_bs t, h]
theorem bs_append (s t : ByteArray) : bs (s ++ t) = bs s ++ bs t := by
  unfold bs
  simp [ByteArray.data_append]
theorem size_bs (s : ByteArray) : s.size = (bs s).length := (bs_length s).symm
theorem size_ofBits (l : List (BitVec 8)) : (ofBits l).size = l.length := by rw [size_bs, bs_ofBits]
theorem bs_extract (s : ByteArray) (a b : Nat) : bs (s.extract a b) = ((bs s).take b).drop a := by
  unfold bs
  simp [ByteArray.data_extract, Array.toList_extract, List.extract_eq_take_drop, List.drop_take, List.map_drop, List.map_take]
theorem strOfNums_bv (l : List (BitVec 8)) : strOfNums (l.map bv) = ofBits l := by
  unfold strOfNums ofBits
  congr 2
  rw [List.map_map]
  refine List.map_congr_left fun x _ => ?_
  show UInt8.ofNat (bv x).toNat = _
  unfold bv
  rw [Int.toNat_natCast]
  apply UInt8.toNat_inj.1
  rw [UInt8.toNat_ofNat', Nat.mod_eq_of_lt (by have := x.isLt; omega)]
  rfl
theorem toList_beq (s t : ByteArray) : (s.toList == t.toList) = decide (s = t) := by
  have h : s.toList = t.toList ↔ s = t := by
    constructor
    · intro h
      rw [Go.ByteArray.toList_eq, Go.ByteArray.toList_eq] at h
      exact ByteArray.ext (Array.toList_inj.1 h)
    · intro h; rw [h]
  by_cases e : s = t
  · rw [e]; simp
  · have := mt h.1 e
    simp [e, this]
theorem below_two {a b c : World} (h : Below a.heap.size a b) (k : Below b.heap.size b c) : Below a.heap.size a c := h.trans (k.mono h.size)
theorem below_drew {w w' : World} (h : Below w.drew.heap.size w.drew w') : Below w.heap.size w w' := ⟨h.os, h.tape, h.output, h.size, h.block⟩
end Go.Proofs.Ytchpgoipoaoboaa
