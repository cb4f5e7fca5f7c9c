/-
  NUMBERS OF 32 AND OF 8 BITS, AS THE WALK SPELLS THEM: 'nv x' and 'bv c' are the integers of a word of 32 bits and of a byte; what Go's shifts, 'and', 'or' and exclusive-or make of them.
-/
import Derived.Test.YtinpogjdaehmmaaCrc
import Derived.WalkKit
namespace Go.Proofs.Ytinpogjdaehmmaa
open Go.RowKit
def nv (x : BitVec 32) : Int := (x.toNat : Int)
def bv (c : BitVec 8) : Int := (c.toNat : Int)
theorem nv_range (x : BitVec 32) : 0 ≤ nv x ∧ nv x ≤ 4294967295 := by have := x.isLt; unfold nv; omega
theorem bv_range (c : BitVec 8) : 0 ≤ bv c ∧ bv c ≤ 255 := by have := c.isLt; unfold bv; omega
theorem nv_inj {x y : BitVec 32} (h : nv x = nv y) : x = y := BitVec.eq_of_toNat_eq (by unfold nv at h; omega)
theorem bv_inj {x y : BitVec 8} (h : bv x = bv y) : x = y := BitVec.eq_of_toNat_eq (by unfold bv at h; omega)
theorem ofInt_nv (x : BitVec 32) : BitVec.ofInt 32 (nv x) = x := by unfold nv; rw [BitVec.ofInt_natCast]; exact BitVec.ofNat_toNat .. |>.trans (by simp)
theorem ofInt_bv (x : BitVec 8) : BitVec.ofInt 8 (bv x) = x := by unfold bv; rw [BitVec.ofInt_natCast]; exact BitVec.ofNat_toNat .. |>.trans (by simp)
theorem wrap_nv (x : BitVec 32) : IntKind.u32.wrap (x.toNat : Int) = nv x := by have := x.isLt; rw [IntKind.wrap_u32]; unfold nv; omega
theorem wrap_bv (x : BitVec 8) : IntKind.u8.wrap (x.toNat : Int) = bv x := by have := x.isLt; rw [IntKind.wrap_u8]; unfold bv; omega
theorem nv_xor (x y : BitVec 32) : bits .xor .u32 (nv x) (nv y) = nv (x ^^^ y) := by
  show IntKind.u32.wrap ((BitVec.ofInt 32 (nv x) ^^^ BitVec.ofInt 32 (nv y)).toNat : Int) = _
  rw [ofInt_nv, ofInt_nv, wrap_nv]
theorem nv_or (x y : BitVec 32) : bits .or .u32 (nv x) (nv y) = nv (x ||| y) := by
  show IntKind.u32.wrap ((BitVec.ofInt 32 (nv x) ||| BitVec.ofInt 32 (nv y)).toNat : Int) = _
  rw [ofInt_nv, ofInt_nv, wrap_nv]
theorem bv_xor (x y : BitVec 8) : bits .xor .u8 (bv x) (bv y) = bv (x ^^^ y) := by
  show IntKind.u8.wrap ((BitVec.ofInt 8 (bv x) ^^^ BitVec.ofInt 8 (bv y)).toNat : Int) = _
  rw [ofInt_bv, ofInt_bv, wrap_bv]
theorem nv_xor_poly (x : BitVec 32) : bits .xor .u32 (nv x) 2168537515 = nv (x ^^^ Crc.poly) := nv_xor x Crc.poly
theorem nv_top_yes (x : BitVec 32) (h : x.msb = true) : bits .and .u32 (nv x) 2147483648 = 2147483648 := by
  have e : x &&& 0x80000000#32 = 0x80000000#32 := by
    apply BitVec.eq_of_getLsbD_eq
    intro i hi
    have k : ∀ i : Fin 32, (0x80000000#32).getLsbD i.1 = decide (i.1 = 31) := by decide
    rw [BitVec.getLsbD_and, k ⟨i, hi⟩]
    by_cases h31 : i = 31
    · subst h31; rw [BitVec.msb_eq_getLsbD_last] at h; simp at h; simp [h]
    · simp [h31]
  show IntKind.u32.wrap ((BitVec.ofInt 32 (nv x) &&& BitVec.ofInt 32 (nv 0x80000000#32)).toNat : Int) = _
  rw [ofInt_nv, ofInt_nv, e]; rfl
theorem nv_top_no (x : BitVec 32) (h : x.msb = false) : bits .and .u32 (nv x) 2147483648 = 0 := by
  have e : x &&& 0x80000000#32 = 0#32 := by
    apply BitVec.eq_of_getLsbD_eq
    intro i hi
    have k : ∀ i : Fin 32, (0x80000000#32).getLsbD i.1 = decide (i.1 = 31) := by decide
    rw [BitVec.getLsbD_and, k ⟨i, hi⟩]
    by_cases h31 : i = 31
    · subst h31; rw [BitVec.msb_eq_getLsbD_last] at h; simp at h; simp [h]
    · simp [h31]
  show IntKind.u32.wrap ((BitVec.ofInt 32 (nv x) &&& BitVec.ofInt 32 (nv 0x80000000#32)).toNat : Int) = _
  rw [ofInt_nv, ofInt_nv, e]; rfl
theorem nv_shl (x : BitVec 32) (k : Nat) (m : Int) (hm : m = 2 ^ k) : IntKind.u32.wrap (nv x * m) = nv (x <<< k) := by
  subst hm
  rw [IntKind.wrap_u32]
  unfold nv
  rw [BitVec.toNat_shiftLeft, Nat.shiftLeft_eq]
  rw [show ((x.toNat : Int) * 2 ^ k) = ((x.toNat * 2 ^ k : Nat) : Int) by rw [Int.natCast_mul, Int.natCast_pow]; rfl]
  rfl
theorem nv_shl1 (x : BitVec 32) : IntKind.u32.wrap (nv x * 2) = nv (x <<< 1) := nv_shl x 1 2 rfl
theorem nv_shl8 (x : BitVec 32) : IntKind.u32.wrap (nv x * 256) = nv (x <<< 8) := nv_shl x 8 256 rfl
theorem nv_shr (x : BitVec 32) (k : Nat) (m : Int) (hm : m = 2 ^ k) : nv x / m = nv (x >>> k) := by
  subst hm
  unfold nv
  rw [BitVec.toNat_ushiftRight, Nat.shiftRight_eq_div_pow]
  rw [show (2 : Int) ^ k = ((2 ^ k : Nat) : Int) by rw [Int.natCast_pow]; rfl]
  rfl
theorem nv_byte (x : BitVec 32) : nv x % 256 = bv (x.setWidth 8) := by
  unfold nv bv
  rw [BitVec.toNat_setWidth]
  rfl
theorem nv_mul24 (c : BitVec 8) : bv c * (16777216 : Int) = nv (c.setWidth 32 <<< 24) := by
  have h := c.isLt
  unfold bv nv
  rw [BitVec.toNat_shiftLeft, Nat.shiftLeft_eq, BitVec.toNat_setWidth, Nat.mod_eq_of_lt (by omega), Nat.mod_eq_of_lt (by omega)]
  rw [Int.natCast_mul]
  rfl
theorem nv_nat24 (k : Nat) (h : k < 256) : (k : Int) * (16777216 : Int) = nv ((BitVec.ofNat 8 k).setWidth 32 <<< 24) := by
  rw [← nv_mul24]; unfold bv; rw [BitVec.toNat_ofNat, Nat.mod_eq_of_lt (by omega)]
theorem Sn_yes (x : BitVec 32) (h : x.msb = true) : Crc.S x = (x <<< 1) ^^^ Crc.poly := by unfold Crc.S; rw [h]; rfl
theorem Sn_no (x : BitVec 32) (h : x.msb = false) : Crc.S x = x <<< 1 := by unfold Crc.S; rw [h]; rfl
end Go.Proofs.Ytinpogjdaehmmaa
