/-
  THE WALK OF tape.Draw.
-/
import Derived.Test.YtchpgoipoaoboaaLeft
import Derived.Test.YtchpgoipoaoboaaCopy
import Derived.WalkSpells
import Derived.WalkLawsBesides
import Derived.Lib.Hide
import Derived.Handy
namespace Go.Proofs.Ytchpgoipoaoboaa
open Go.RowKit
theorem bv_mod (c : BitVec 8) : bv c % 4294967296 = bv c := by have := bv_range c; omega
theorem sh8 (c : BitVec 8) : bv c * (256 : Int) % (4294967296 : Int) = nv (c.setWidth 32 <<< 8) := by rw [nv_mulk c 8 256 (by omega) rfl, nv_mod]
theorem sh16 (c : BitVec 8) : bv c * (65536 : Int) % (4294967296 : Int) = nv (c.setWidth 32 <<< 16) := by rw [nv_mulk c 16 65536 (by omega) rfl, nv_mod]
theorem sh24 (c : BitVec 8) : bv c * (16777216 : Int) % (4294967296 : Int) = nv (c.setWidth 32 <<< 24) := by rw [nv_mulk c 24 16777216 (by omega) rfl, nv_mod]
theorem or_zero (c : BitVec 8) : bits .or .u32 0 (bv c) = nv (c.setWidth 32) := by
  rw [bv_zero_ext, show (0 : Int) = nv 0#32 from rfl, nv_or]
  simp
attribute [local go_sem] bv_nonneg bv_lt nv_or nv_mod bv_mod sh8 sh16 sh24 or_zero
def word (b : ByteArray) (o : Nat) : BitVec 32 := ((byteAt b o).setWidth 32 ||| (byteAt b (o + 1)).setWidth 32 <<< 8 ||| (byteAt b (o + 2)).setWidth 32 <<< 16 ||| (byteAt b (o + 3)).setWidth 32 <<< 24)
set_option maxRecDepth 100000 in
set_option maxHeartbeats 400000 in
theorem draw_yes (b : ByteArray) (n : Nat) (hb : b.size ≤ 10000) (h : n < b.size / 4) (w : World) :
    Calls Try.prog 10 #[tp b n] w fun e w' => e = .returned (.tuple #[.int .u32 (nv (word b (4 * n))), tp b (n + 1)]) ∧ Below w.heap.size w w' := by
  have hd : decide ((n : Int) < 0) = false := by simp
  have hl := left_zero b n (by omega)
  have hd2 : decide ((n : Int) < (b.size : Int) / 4) = true := by simp; omega
  have hdd2 : ((n : Int) < (b.size : Int) / 4) := by omega
  rw [hd2] at hl
  have hi64 : I64 (n : Int) := by unfold I64; omega
  obtain ⟨m, hm⟩ : ∃ m, m = 4 * n := ⟨_, rfl⟩
  have hw4 : IntKind.i64.wrap (4 * (n : Int)) = (m : Int) := by rw [IntWalk.i64_in _ (by omega)]; omega
  have hlow : (m : Int) ≤ (b.size : Int) := by omega
  have hlow2 : m + 4 ≤ b.size := by omega
  rw [← hm]
  have HM := Lib.hid hm
  clear hm
  go_enter Try.func10, Try.ntmps10
  go_wp2_with fail
  refine (left_any b n hb hi64 _).mono ?_
  rintro e w1 ⟨rfl, hb1⟩
  obtain ⟨hc1, hc2, hf1, hf2, hsz⟩ := two_blocks hb1
  have hs1 : w.heap.size < w1.heap.size := by omega
  have hs2 : w.heap.size + 1 < w1.heap.size := by omega
  have HB1 := Lib.hid hb1
  clear hb1
  go_wp2
  go_region_law (refine step_copy4 rfl (.tmp 15) (.tmp 21) rfl w1 b m (by omega) _ rfl rfl rfl ?_)
  all_goals
    go_wp2
  all_goals
    go_rounds 5
    go_region
    all_goals
      go_wp2
      refine bodyPost_ret (v := .tuple #[.int .u32 (nv (word b m)), tp b ((n : Int) + 1)]) (by simp [results, Try.results10, go_sem, hc2, hs2, word]) rfl ⟨rfl, ?_⟩
      have hB := ((((Below.refl w.heap.size w).alloc (Nat.le_refl _) (.cells #[.string b, .int .i64 n] 23)).alloc (by simp) (.cells #[.string ⟨#[]⟩, .int .i64 0] 23)).trans (HB1.out.mono (by simp; omega)))
      exact ((((((hB.setCell (by simp) _).setCell (by simp) _).setCell (by simp) _).alloc (by simp; omega) _).drew).drew)
def drawV (b : ByteArray) (t : Int) : BitVec 32 := if 0 ≤ t ∧ t < (b.size : Int) / 4 then word b (4 * t.toNat) else 0#32
def drawAt (b : ByteArray) (t : Int) : Int := if 0 ≤ t ∧ t < (b.size : Int) / 4 then t + 1 else t
theorem draw_any (b : ByteArray) (t : Int) (hb : b.size ≤ 10000) (ht : I64 t) (w : World) :
    Calls Try.prog 10 #[tp b t] w fun e w' => e = .returned (.tuple #[.int .u32 (nv (drawV b t)), tp b (drawAt b t)]) ∧ Below w.heap.size w w' := by
  by_cases h0 : 0 ≤ t
  · by_cases h1 : t < (b.size : Int) / 4
    · obtain ⟨n, rfl⟩ := Int.eq_ofNat_of_zero_le h0
      rw [drawV, drawAt, if_pos ⟨h0, h1⟩, if_pos ⟨h0, h1⟩]
      exact draw_yes b n hb (by omega) w
    · rw [drawV, drawAt, if_neg (fun h => h1 h.2), if_neg (fun h => h1 h.2)]
      exact draw_end b t hb h0 ht h1 w
  · rw [drawV, drawAt, if_neg (fun h => h0 h.1), if_neg (fun h => h0 h.1)]
    exact draw_neg b t (by omega) w
end Go.Proofs.Ytchpgoipoaoboaa
