/-
  THE WALKS OF tape.Left, of the reference's Left, and of tape.Draw where there is no draw.
-/
import Derived.Test.YtchpgoipoaoboaaProg
import Derived.Test.YtchpgoipoaoboaaNum
import Derived.Deep.RegionLaw
import Derived.Deep.WholeRow
import Derived.Laws.CopyRow
import Derived.KernelRfl
import Derived.WalkKit
import Derived.WalkSpells
import Derived.WalkLawsBesides
import Derived.Lib.Hide
namespace Go.Proofs.Ytchpgoipoaoboaa
open Go.RowKit
/-- a tape, as a value -/
abbrev tp (b : ByteArray) (t : Int) : Value := .agg #[.string b, .int .i64 t]
def I64 (t : Int) : Prop := -9223372036854775808 ≤ t ∧ t ≤ 9223372036854775807
/-- how many draws there are -/
def leftOf (b : ByteArray) (t : Int) : Int := if t ≤ 0 then (b.size : Int) / 4 else if t ≤ (b.size : Int) / 4 then (b.size : Int) / 4 - t else 0
theorem ret_int {k : IntKind} {a b : Int} (h : a = b) : Ending.returned (.int k a) = .returned (.int k b) := by rw [h]
set_option maxRecDepth 100000 in
set_option maxHeartbeats 400000 in
theorem left_any (b : ByteArray) (t : Int) (hb : b.size ≤ 10000) (ht : I64 t) (w : World) :
    Calls Try.prog 17 #[tp b t] w fun e w' => e = .returned (.int .i64 (leftOf b t)) ∧ Below w.heap.size w w' := by
  unfold I64 at ht
  by_cases h0 : t ≤ 0
  · go_enter Try.func17, Try.ntmps17
    go_wp2
    all_goals
      go_ret
      exact ⟨ret_int (by unfold leftOf; (repeat' split) <;> omega), (Below.refl _ _).alloc (Nat.le_refl _) _⟩
  · have h1 : 0 < t := by omega
    go_enter Try.func17, Try.ntmps17
    go_wp2
    all_goals
      go_ret
      exact ⟨ret_int (by unfold leftOf; (repeat' split) <;> omega), (Below.refl _ _).alloc (Nat.le_refl _) _⟩
set_option maxRecDepth 100000 in
set_option maxHeartbeats 400000 in
theorem refLeft_any (b : ByteArray) (t : Int) (hb : b.size ≤ 10000) (ht : I64 t) (w : World) :
    Calls Try.prog 18 #[tp b t] w fun e w' => e = .returned (.int .i64 (leftOf b t)) ∧ Below w.heap.size w w' := by
  unfold I64 at ht
  by_cases h0 : t < 0
  · go_enter Try.func18, Try.ntmps18
    go_wp2
    all_goals
      go_ret
      exact ⟨ret_int (by unfold leftOf; (repeat' split) <;> omega), (Below.refl _ _).alloc (Nat.le_refl _) _⟩
  · by_cases h1 : (b.size : Int) / 4 < t
    · go_enter Try.func18, Try.ntmps18
      go_wp2
      all_goals
        go_ret
        exact ⟨ret_int (by unfold leftOf; (repeat' split) <;> omega), (Below.refl _ _).alloc (Nat.le_refl _) _⟩
    · go_enter Try.func18, Try.ntmps18
      go_wp2
      all_goals
        go_ret
        exact ⟨ret_int (by unfold leftOf; (repeat' split) <;> omega), (Below.refl _ _).alloc (Nat.le_refl _) _⟩
theorem two_blocks {w w1 : World} {c1 c2 : Array Value} {t1 t2 : TypeId} (hb : Below ((w.alloc (.cells c1 t1)).alloc (.cells c2 t2)).heap.size ((w.alloc (.cells c1 t1)).alloc (.cells c2 t2)) w1) :
    (∀ i, w1.cell? ⟨w.heap.size, i, none⟩ = c1[i]?) ∧ (∀ i, w1.cell? ⟨w.heap.size + 1, i, none⟩ = c2[i]?) ∧ (∀ i, w1.frozen? ⟨w.heap.size, i, none⟩ = false) ∧ (∀ i, w1.frozen? ⟨w.heap.size + 1, i, none⟩ = false) ∧ w.heap.size + 2 ≤ w1.heap.size := by
  have hs := hb.size
  simp at hs
  refine ⟨fun i => ?_, fun i => ?_, fun i => ?_, fun i => ?_, by omega⟩
  · rw [hb.cell (by simp; omega)]; simp
  · rw [hb.cell (by simp)]; simp
  · rw [hb.frozen (by simp; omega)]; simp
  · rw [hb.frozen (by simp)]; simp
theorem one_block {w w1 : World} {c1 : Array Value} {t1 : TypeId} (hb : Below (w.alloc (.cells c1 t1)).heap.size (w.alloc (.cells c1 t1)) w1) :
    (∀ i, w1.cell? ⟨w.heap.size, i, none⟩ = c1[i]?) ∧ (∀ i, w1.frozen? ⟨w.heap.size, i, none⟩ = false) ∧ w.heap.size + 1 ≤ w1.heap.size := by
  have hs := hb.size
  simp at hs
  refine ⟨fun i => ?_, fun i => ?_, by omega⟩
  · rw [hb.cell (by simp)]; simp
  · rw [hb.frozen (by simp)]; simp
def hasDraw (b : ByteArray) (t : Int) : Prop := 0 ≤ t ∧ t < (b.size : Int) / 4
theorem left_zero (b : ByteArray) (t : Int) (h0 : 0 ≤ t) : (leftOf b t == 0) = !decide (t < (b.size : Int) / 4) := by
  rw [Bool.eq_iff_iff]
  unfold leftOf
  simp
  (repeat' split) <;> omega
set_option maxRecDepth 100000 in
set_option maxHeartbeats 400000 in
theorem draw_neg (b : ByteArray) (t : Int) (h : t < 0) (w : World) :
    Calls Try.prog 10 #[tp b t] w fun e w' => e = .returned (.tuple #[.int .u32 0, tp b t]) ∧ Below w.heap.size w w' := by
  have hd : decide (t < 0) = true := by simp; omega
  go_enter Try.func10, Try.ntmps10
  go_wp2
  go_region
  all_goals
    go_wp2
    refine bodyPost_ret (v := .tuple #[.int .u32 0, tp b t]) (by simp [results, Try.results10, go_sem]) rfl ⟨rfl, ?_⟩
    exact ((((Below.refl _ _).alloc (Nat.le_refl _) _).alloc (by simp) _).drew)
set_option maxRecDepth 100000 in
set_option maxHeartbeats 400000 in
theorem draw_end (b : ByteArray) (t : Int) (hb : b.size ≤ 10000) (h0 : 0 ≤ t) (ht : I64 t) (h : ¬ t < (b.size : Int) / 4) (w : World) :
    Calls Try.prog 10 #[tp b t] w fun e w' => e = .returned (.tuple #[.int .u32 0, tp b t]) ∧ Below w.heap.size w w' := by
  have hd : decide (t < 0) = false := by simp; omega
  have hl := left_zero b t h0
  have hd2 : decide (t < (b.size : Int) / 4) = false := by simp; omega
  rw [hd2] at hl
  go_enter Try.func10, Try.ntmps10
  go_wp2_with fail
  refine (left_any b t hb ht _).mono ?_
  rintro e w1 ⟨rfl, hb1⟩
  obtain ⟨hc1, hc2, hf1, hf2, hsz⟩ := two_blocks hb1
  have HB1 := Lib.hid hb1
  clear hb1
  go_wp2
  go_region
  all_goals
    go_wp2
    refine bodyPost_ret (v := .tuple #[.int .u32 0, tp b t]) (by simp [results, Try.results10, go_sem, hc2]) rfl ⟨rfl, ?_⟩
    exact (((((Below.refl _ _).alloc (Nat.le_refl _) _).alloc (by simp) _).trans (HB1.out.mono (by simp; omega))).drew.setCell (by simp) _).setCell (by simp) _
end Go.Proofs.Ytchpgoipoaoboaa
