/-
  THE WALK OF the reference's Draw.
-/
import Derived.Test.YtchpgoipoaoboaaDraw
import Derived.Deep.QuietTactic
import Derived.BigQuiet
namespace Go.Proofs.Ytchpgoipoaoboaa
open Go.RowKit
theorem or_add (x y k : Nat) (hx : x < 2 ^ k) : x ||| y * 2 ^ k = x + y * 2 ^ k := by
  rw [← Nat.shiftLeft_eq, Nat.or_comm, ← Nat.shiftLeft_add_eq_or_of_lt hx, Nat.add_comm]
theorem word_nat (c0 c1 c2 c3 : BitVec 8) : (c0.setWidth 32 ||| c1.setWidth 32 <<< 8 ||| c2.setWidth 32 <<< 16 ||| c3.setWidth 32 <<< 24).toNat = c0.toNat + c1.toNat * 2 ^ 8 + c2.toNat * 2 ^ 16 + c3.toNat * 2 ^ 24 := by
  have h0 := c0.isLt
  have h1 := c1.isLt
  have h2 := c2.isLt
  have h3 := c3.isLt
  have sh : ∀ (c : BitVec 8) (k : Nat), k ≤ 24 → (c.setWidth 32 <<< k).toNat = c.toNat * 2 ^ k := by
    intro c k hk
    have h := c.isLt
    have hp : 2 ^ k ≤ 2 ^ 24 := Nat.pow_le_pow_right (by decide) hk
    have hlt : c.toNat * 2 ^ k < 2 ^ 32 := by
      have h1 : c.toNat * 2 ^ k ≤ 255 * 2 ^ 24 := Nat.mul_le_mul (by omega) hp
      omega
    rw [BitVec.toNat_shiftLeft, Nat.shiftLeft_eq, BitVec.toNat_setWidth, Nat.mod_eq_of_lt (show c.toNat < 2 ^ 32 by omega), Nat.mod_eq_of_lt hlt]
  rw [BitVec.toNat_or, BitVec.toNat_or, BitVec.toNat_or, sh c1 8 (by omega), sh c2 16 (by omega), sh c3 24 (by omega), BitVec.toNat_setWidth, Nat.mod_eq_of_lt (show c0.toNat < 2 ^ 32 by omega)]
  rw [or_add c0.toNat c1.toNat 8 (by omega), or_add _ c2.toNat 16 (by omega), or_add _ c3.toNat 24 (by omega)]
theorem word_sum (b : ByteArray) (o : Nat) : (bv (byteAt b o) + 256 * bv (byteAt b (o + 1)) + 65536 * bv (byteAt b (o + 2)) + 16777216 * bv (byteAt b (o + 3))) % 4294967296 = nv (word b o) := by
  have h0 := bv_range (byteAt b o)
  have h1 := bv_range (byteAt b (o + 1))
  have h2 := bv_range (byteAt b (o + 2))
  have h3 := bv_range (byteAt b (o + 3))
  have e : nv (word b o) = bv (byteAt b o) + bv (byteAt b (o + 1)) * 256 + bv (byteAt b (o + 2)) * 65536 + bv (byteAt b (o + 3)) * 16777216 := by
    unfold word nv bv
    rw [word_nat]
    omega
  omega
attribute [local go_sem] bv_nonneg bv_lt nv_mod bv_mod
set_option maxRecDepth 100000 in
set_option maxHeartbeats 400000 in
theorem refDraw_neg (b : ByteArray) (t : Int) (h : t < 0) (w : World) :
    Calls Try.prog 11 #[tp b t] w fun e w' => e = .returned (.tuple #[.int .u32 0, tp b t]) ∧ Below w.heap.size w w' := by
  have hd : decide (t < 0) = true := by simp; omega
  go_enter Try.func11, Try.ntmps11
  go_wp2
  go_region
  all_goals
    go_wp2
    refine bodyPost_ret (v := .tuple #[.int .u32 0, tp b t]) (by simp [results, Try.results11, go_sem]) rfl ⟨rfl, ?_⟩
    exact ((((Below.refl _ _).alloc (Nat.le_refl _) _).alloc (by simp) _).drew)
set_option maxRecDepth 100000 in
set_option maxHeartbeats 400000 in
theorem refDraw_end (b : ByteArray) (t : Int) (hb : b.size ≤ 10000) (h0 : 0 ≤ t) (h : ¬ t < (b.size : Int) / 4) (w : World) :
    Calls Try.prog 11 #[tp b t] w fun e w' => e = .returned (.tuple #[.int .u32 0, tp b t]) ∧ Below w.heap.size w w' := by
  have hd : decide (t < 0) = false := by simp; omega
  have hd2 : decide ((b.size : Int) / 4 ≤ t) = true := by simp; omega
  go_enter Try.func11, Try.ntmps11
  go_wp2
  go_region
  all_goals
    go_wp2
    refine bodyPost_ret (v := .tuple #[.int .u32 0, tp b t]) (by simp [results, Try.results11, go_sem]) rfl ⟨rfl, ?_⟩
    exact ((((Below.refl _ _).alloc (Nat.le_refl _) _).alloc (by simp) _).drew)
set_option maxRecDepth 100000 in
set_option maxHeartbeats 400000 in
theorem refDraw_yes (b : ByteArray) (n : Nat) (hb : b.size ≤ 10000) (h : n < b.size / 4) (w : World) :
    Calls Try.prog 11 #[tp b n] w fun e w' => e = .returned (.tuple #[.int .u32 (nv (word b (4 * n))), tp b (n + 1)]) ∧ Below w.heap.size w w' := by
  have hd : decide ((n : Int) < 0) = false := by simp
  have hd2 : decide ((b.size : Int) / 4 ≤ (n : Int)) = false := by simp; omega
  have hlow : (4 * (n : Int)) + 4 ≤ (b.size : Int) := by omega
  have hlow2 : 4 * n + 4 ≤ b.size := by omega
  have hlow3 : 4 * (n : Int) ≤ 4 * (n : Int) + 4 := by omega
  have hxs : (b.extract (4 * n) (4 * n + 4)).size = 4 := by rw [ByteArray.size_extract]; omega
  have hxb : ∀ i (h : i < (b.extract (4 * n) (4 * n + 4)).size), (((b.extract (4 * n) (4 * n + 4))[i]'h).toNat : Int) = bv (byteAt b (4 * n + i)) := by
    intro i hi
    rw [byte_bv _ i hi]
    congr 1
    unfold byteAt
    rw [bs_extract, List.getD_eq_getElem?_getD, List.getD_eq_getElem?_getD, List.getElem?_drop, List.getElem?_take, if_pos (by omega)]
  obtain ⟨x, hxe⟩ : ∃ x, x = b.extract (4 * n) (4 * n + 4) := ⟨_, rfl⟩
  rw [← hxe] at hxs
  have hx : b.extract (4 * n) (4 * n + 4) = x := hxe.symm
  have y0 : ∀ h : 0 < x.size, ((x[0]'h).toNat : Int) = bv (byteAt b (4 * n)) := by subst hxe; exact hxb 0
  have y1 : ∀ h : 1 < x.size, ((x[1]'h).toNat : Int) = bv (byteAt b (4 * n + 1)) := by subst hxe; exact hxb 1
  have y2 : ∀ h : 2 < x.size, ((x[2]'h).toNat : Int) = bv (byteAt b (4 * n + 2)) := by subst hxe; exact hxb 2
  have y3 : ∀ h : 3 < x.size, ((x[3]'h).toNat : Int) = bv (byteAt b (4 * n + 3)) := by subst hxe; exact hxb 3
  clear hxb hxe
  go_enter Try.func11, Try.ntmps11
  go_wp2
  go_quiet (fail)
  go_wp2
  go_region
  all_goals
    go_wp2
    refine bodyPost_ret (v := .tuple #[.int .u32 (nv (word b (4 * n))), tp b ((n : Int) + 1)]) (by simp [results, Try.results11, go_sem]; exact word_sum b (4 * n)) rfl ⟨rfl, ?_⟩
    exact ((below_drewN ((((Below.refl w.heap.size w).alloc (Nat.le_refl _) _).alloc (by simp) _)) _).setCell (by simp) _).setCell (by simp) _
theorem refDraw_any (b : ByteArray) (t : Int) (hb : b.size ≤ 10000) (w : World) :
    Calls Try.prog 11 #[tp b t] w fun e w' => e = .returned (.tuple #[.int .u32 (nv (drawV b t)), tp b (drawAt b t)]) ∧ Below w.heap.size w w' := by
  by_cases h0 : 0 ≤ t
  · by_cases h1 : t < (b.size : Int) / 4
    · obtain ⟨n, rfl⟩ := Int.eq_ofNat_of_zero_le h0
      rw [drawV, drawAt, if_pos ⟨h0, h1⟩, if_pos ⟨h0, h1⟩]
      exact refDraw_yes b n hb (by omega) w
    · rw [drawV, drawAt, if_neg (fun h => h1 h.2), if_neg (fun h => h1 h.2)]
      exact refDraw_end b t hb h0 h1 w
  · rw [drawV, drawAt, if_neg (fun h => h0 h.1), if_neg (fun h => h0 h.1)]
    exact refDraw_neg b t (by omega) w
end Go.Proofs.Ytchpgoipoaoboaa
