/-
  THE WALK OF sum.steps: it hands back the table of 256 words, each of a byte at the top, eight steps on; it makes one block.
-/
import Derived.Test.YtinpogjdaehmmaaProg
import Derived.Test.YtinpogjdaehmmaaNum
import Derived.KernelRfl
import Derived.Lib.Hide
import Derived.Deep.WholeRow
namespace Go.Proofs.Ytinpogjdaehmmaa
open Go.RowKit
def zeros : Array Value := Array.replicate 256 (.int .u32 0)
theorem zero40 (w : World) : (zeroValue 40).run Try.prog w = .ok (.agg zeros) w := by kernel_rfl
/-- the first k places of the table are filled -/
def T (k : Nat) : Array Value := ((List.range 256).map fun i => Value.int .u32 (if i < k then nv (Crc.tab (BitVec.ofNat 8 i)) else 0)).toArray
theorem T_at (k i : Nat) (h : i < 256) : (T k)[i]? = some (.int .u32 (if i < k then nv (Crc.tab (BitVec.ofNat 8 i)) else 0)) := by
  simp [T, h]
theorem T_zero : T 0 = zeros := by
  apply Array.ext_getElem?
  intro i
  by_cases hi : i < 256
  · rw [T_at _ _ hi]; simp [zeros, hi]
  · simp [T, zeros, hi]
theorem T_succ (k : Nat) (h : k < 256) : (T k).setIfInBounds k (.int .u32 (nv (Crc.tab (BitVec.ofNat 8 k)))) = T (k + 1) := by
  apply Array.ext_getElem?
  intro i
  rw [Array.getElem?_setIfInBounds]
  have hs : (T k).size = 256 := by simp [T]
  by_cases hi : i < 256
  · rw [T_at _ _ hi, T_at _ _ hi, hs]
    by_cases hk : k = i
    · subst hk; simp [h]
    · have : (i < k + 1) = (i < k) := by simp; omega
      simp [hk, this]
  · have e1 : (T k)[i]? = none := by simp [T]; omega
    have e2 : (T (k + 1))[i]? = none := by simp [T]; omega
    rw [e1, e2]
    by_cases hk : k = i
    · omega
    · simp [hk]
theorem T_size (k : Nat) : (T k).size = 256 := by simp [T]
theorem info40 : (Try.prog.info? 40).map (·.size) = some 256 := by kernel_rfl
theorem size40 (k : Nat) : (Try.prog.info? 40).map (·.size) = some (T k).size := by rw [T_size]; exact info40
theorem one40 (k : Nat) : (T k).all (·.oneCell') = true := by
  unfold T
  simp [Value.oneCell']
attribute [local go_sem] zero40
attribute [local go_sem] nv_shl1 nv_xor_poly
/-- the state at the label, m of the eight steps done -/
def J (w : World) (k : Nat) (a' : Act) (w' : World) : Prop := w' = w.alloc (.cells (T k) 40) ∧ ∃ (x : BitVec 32) (m : Nat) (v2 v3 v4 v8 v9 v10 v11 v12 v13 v14 v15 v16 v17 v18 v19 v20 v21 v22 u23 u24 u25 u26 : Value), m < 8 ∧ Crc.Sn (8 - m) x = Crc.tab (BitVec.ofNat 8 k) ∧ v2 = .int .u32 (nv x) ∧ v3 = .int .i64 (8 - (m : Int)) ∧ a' = { tmps := #[.pointer (some ⟨w.heap.size, 0, none⟩), .int .i64 k, v2, v3, v4, .int .i64 k, .bool true, .int .i64 k, v8, v9, v10, v11, v12, v13, v14, v15, v16, v17, v18, v19, v20, v21, v22, u23, u24, u25, u26, undef], defers := [] }
set_option maxRecDepth 100000 in
set_option maxHeartbeats 400000 in
theorem steps_any (w : World) :
    Calls Try.prog 18 #[] w fun e w' => e = .returned (.agg (T 256)) ∧ w' = w.alloc (.cells (T 256) 40) := by
  go_enter Try.func18, Try.ntmps18
  go_wp2
  go_loopw [5] (fun i wr => ∃ k : Nat, k ≤ 256 ∧ i = .int .i64 k ∧ wr = w.alloc (.cells (T k) 40)) (fun i _ => 256 - (intOf i).toNat)
  case atStart => exact ⟨0, by omega, rfl, by rw [T_zero]⟩
  case round =>
    obtain ⟨k, hk, rfl, rfl⟩ := hrel
    by_cases hlt : k < 256
    · have hd : decide ((k : Int) < 256) = true := by simp; omega
      have hT := T_at k k hlt
      have e24 := nv_nat24 k hlt
      have x0 : ∃ x, x = (BitVec.ofNat 8 k).setWidth 32 <<< 24 := ⟨_, rfl⟩
      obtain ⟨x, hx⟩ := x0
      rw [← hx] at e24
      have HX := Lib.hid hx
      clear hx
      go_wp2
      refine wp_scope_jumps 0 (J w k) (fun a' _ => (intOf (a'.tmps.getD 3 undef)).toNat) rfl ?_ ?_
      · have r1 := nv_range x
        cases hb : x.msb with
        | true =>
          have hb1 := nv_top_yes x hb
          go_wp2
          go_step3
          go_wp2
          go_step3
          exact ⟨rfl, rfl, _, 1, _, _, _, _, _, _, _, _, _, _, _, _, _, _, _, _, _, _, _, _, _, _, by omega, by rw [← Sn_yes x hb]; rw [HX.out]; rfl, rfl, rfl, rfl⟩
        | false =>
          have hb1 := nv_top_no x hb
          go_wp2
          go_step3
          go_wp2
          go_step3
          exact ⟨rfl, rfl, _, 1, _, _, _, _, _, _, _, _, _, _, _, _, _, _, _, _, _, _, _, _, _, _, by omega, by rw [← Sn_no x hb]; rw [HX.out]; rfl, rfl, rfl, rfl⟩
      · rintro a' w' ⟨rfl, x, m, v2, v3, v4, v8, v9, v10, v11, v12, v13, v14, v15, v16, v17, v18, v19, v20, v21, v22, u23, u24, u25, u26, hm, hx, rfl, rfl, rfl⟩
        have r1 := nv_range x
        have HX := Lib.hid hx
        clear hx
        cases hb : x.msb with
        | true =>
          have hb1 := nv_top_yes x hb
          by_cases h7 : m = 7
          · have HM := Lib.hid h7
            have hdm : decide (1 < 8 - (m : Int)) = false := by simp; omega
            go_wp2
            simp only [Exit.jump, Exit.inBlock]
            go_wp2
            go_roundw
            case rel => exact ⟨k + 1, by omega, by go_num, by rw [← T_succ k hlt, ← HX.out, h7, ← Sn_yes x hb]; rfl⟩
            case measure => simp [intOf]; omega
          · have hdm : decide (1 < 8 - (m : Int)) = true := by simp; omega
            go_wp2
            go_step3
            refine ⟨rfl, ⟨rfl, _, m + 1, _, _, _, _, _, _, _, _, _, _, _, _, _, _, _, _, _, _, _, _, _, _, by omega, ?_, rfl, ?_, rfl⟩, ?_⟩
            · rw [← HX.out, show 8 - m = (8 - (m + 1)) + 1 by omega]; rw [← Sn_yes x hb]; rfl
            · go_num
            · simp [intOf]; omega
        | false =>
          have hb1 := nv_top_no x hb
          by_cases h7 : m = 7
          · have HM := Lib.hid h7
            have hdm : decide (1 < 8 - (m : Int)) = false := by simp; omega
            go_wp2
            simp only [Exit.jump, Exit.inBlock]
            go_wp2
            go_roundw
            case rel => exact ⟨k + 1, by omega, by go_num, by rw [← T_succ k hlt, ← HX.out, h7, ← Sn_no x hb]; rfl⟩
            case measure => simp [intOf]; omega
          · have hdm : decide (1 < 8 - (m : Int)) = true := by simp; omega
            go_wp2
            go_step3
            refine ⟨rfl, ⟨rfl, _, m + 1, _, _, _, _, _, _, _, _, _, _, _, _, _, _, _, _, _, _, _, _, _, _, by omega, ?_, rfl, ?_, rfl⟩, ?_⟩
            · rw [← HX.out, show 8 - m = (8 - (m + 1)) + 1 by omega]; rw [← Sn_no x hb]; rfl
            · go_num
            · simp [intOf]; omega
    · have h256 : k = 256 := by omega
      subst h256
      have hd : decide ((256 : Int) < 256) = false := rfl
      go_wp2_with (first
        | (refine wpList_load_row rfl 40 (.tmp 0) rfl w.heap.size rfl 40 (T 256) (0, 0) _ (heap_alloc_last _ _) Try.underlying40 rfl (size40 256) ?_)
        | (refine wpList_store_row rfl 40 (.tmp 0) (.tmp 27) rfl w.heap.size (T 256) rfl rfl 40 (T 256) (heap_alloc_last _ _) (size40 256) rfl (one40 256) ?_; rw [World.setRow_alloc_new]))
      refine bodyPost_ret (v := .agg (T 256)) ?_ rfl ⟨rfl, rfl⟩
      exact (results_cell_row rfl _ _ w.heap.size 40 (T 256) (0, 0) _ rfl (heap_alloc_last _ _) Try.underlying40 rfl (size40 256))
end Go.Proofs.Ytinpogjdaehmmaa
