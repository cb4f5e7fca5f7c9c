/-
  Rows of 64 cells; the walks of list.is and list.nowhere.
-/
import Derived.Test.YtgbhfagmbkoobaaRep
namespace Go.Proofs.Ytgbhfagmbkoobaa
open Go.RowKit
set_option maxRecDepth 100000 in
set_option maxHeartbeats 400000 in
theorem is_any (id : Int) (w : World) : Calls Try.prog 24 #[.int .i64 id] w fun e w' => e = .returned (.bool (decide (0 ≤ id ∧ id < 64))) ∧ w = w' := by
  by_cases h1 : 0 ≤ id
  · have hd : decide (0 ≤ id) = true := by simpa using h1
    by_cases h2 : id < 64
    · have hd2 : decide (id < 64) = true := by simpa using h2
      have hd3 : decide (0 ≤ id ∧ id < 64) = true := by simp [h1, h2]
      rw [hd3]
      go_enter Try.func24, Try.ntmps24
      go_wp2
      go_ret
      exact ⟨rfl, rfl⟩
    · have hd2 : decide (id < 64) = false := by simpa using h2
      have hd3 : decide (0 ≤ id ∧ id < 64) = false := by simp; omega
      rw [hd3]
      go_enter Try.func24, Try.ntmps24
      go_wp2
      go_ret
      exact ⟨rfl, rfl⟩
  · have hd : decide (0 ≤ id) = false := by simpa using h1
    have hd3 : decide (0 ≤ id ∧ id < 64) = false := by simp; omega
    rw [hd3]
    go_enter Try.func24, Try.ntmps24
    go_wp2
    go_ret
    exact ⟨rfl, rfl⟩
/-- 64 cells, one behind the other -/
def row64 (c : Nat → Value) : Array Value := ((List.range 64).map c).toArray
theorem row64_size (c : Nat → Value) : (row64 c).size = 64 := by unfold row64; simp
theorem row64_get (c : Nat → Value) (i : Nat) (h : i < 64) : (row64 c)[i]? = some (c i) := by unfold row64; simp [h]
theorem row64_set (c : Nat → Value) (i : Nat) (v : Value) : (row64 c).setIfInBounds i v = row64 (upd c i v) := by
  apply Array.ext_getElem?
  intro j
  rw [Array.getElem?_setIfInBounds]
  by_cases hj : j < 64
  · rw [row64_get _ _ hj]
    by_cases e : i = j
    · subst e
      rw [if_pos rfl, if_pos (by rw [row64_size]; exact hj), row64_get _ _ hj, upd_same]
    · rw [if_neg e, row64_get _ _ hj, upd_ne _ _ _ _ (fun h => e h.symm)]
  · have h1 : ∀ d, (row64 d)[j]? = none := fun d => by rw [Array.getElem?_eq_none]; rw [row64_size]; omega
    rw [h1, h1]
    split
    · simp [row64_size]; omega
    · rfl
theorem row64_congr (c d : Nat → Value) (h : ∀ i, i < 64 → c i = d i) : row64 c = row64 d := by
  unfold row64
  congr 1
  apply List.map_congr_left
  intro i hi
  exact h i (by simpa using hi)
theorem info23 : (Try.prog.info? 23).map (·.size) = some 64 := by kernel_rfl
theorem size23 (c : Nat → Value) : (Try.prog.info? 23).map (·.size) = some (row64 c).size := by rw [row64_size]; exact info23
def noneTo (k : Nat) : Nat → Value := fun j => if j < k then .int .i64 (-1) else .int .i64 0
theorem zero23 (w : World) : (zeroValue 23).run Try.prog w = .ok (.agg (row64 (noneTo 0))) w := by kernel_rfl
theorem noneTo_succ (k : Nat) : upd (noneTo k) k (.int .i64 (-1)) = noneTo (k + 1) := by
  funext j
  unfold upd noneTo
  by_cases h : j = k
  · subst h
    rw [if_pos rfl, if_pos (by omega)]
  · rw [if_neg h]
    by_cases h2 : j < k
    · rw [if_pos h2, if_pos (by omega)]
    · rw [if_neg h2, if_neg (by omega)]
theorem row64_none : (row64 (noneTo 64)).all (·.oneCell') = true := by kernel_rfl
attribute [local go_sem] zero23 row64_get row64_set
set_option maxRecDepth 100000 in
set_option maxHeartbeats 400000 in
theorem nowhere_any (w : World) : Calls Try.prog 30 #[] w fun e w' => e = .returned (.agg (row64 fun _ => .int .i64 (-1))) ∧ Below w.heap.size w w' := by
  go_enter Try.func30, Try.ntmps30
  go_wp2_with fail
  go_loopw [2] (fun i wr => ∃ k : Nat, k ≤ 64 ∧ i = .int .i64 k ∧ wr = w.alloc (.cells (row64 (noneTo k)) 23)) (fun i _ => 64 - (intOf i).toNat)
  case atStart => exact ⟨0, by omega, rfl, rfl⟩
  case round =>
    obtain ⟨k, hk, rfl, rfl⟩ := hrel
    by_cases hlt : k < 64
    · have hd : decide ((k : Int) < 64) = true := by simp; omega
      have hk1 : (0 : Int) ≤ (k : Int) := by omega
      have hk2 : (k : Int) < 64 := by omega
      have HS := Lib.hid (noneTo_succ k)
      go_wp2_with fail
      go_roundw
      case rel => exact ⟨k + 1, by omega, by go_num, by rw [HS.out]⟩
      case measure => simp [intOf]; omega
    · have hd : decide ((k : Int) < 64) = false := by simp; omega
      obtain rfl : k = 64 := by omega
      go_wp2_with (first
        | (refine wpList_load_row rfl 23 (.tmp 0) rfl w.heap.size rfl 23 _ (0, 0) _ (heap_alloc_last _ _) Try.underlying23 rfl (size23 _) ?_)
        | (refine wpList_store_row rfl 23 (.tmp 0) (.tmp 8) rfl w.heap.size _ rfl rfl 23 _ (heap_alloc_last _ _) (size23 _) rfl row64_none ?_; rw [World.setRow_alloc_new])
        | fail)
      refine bodyPost_ret (v := .agg (row64 fun _ => .int .i64 (-1))) ?_ rfl ⟨rfl, (Below.refl _ _).alloc (Nat.le_refl _) _⟩
      rw [← row64_congr (noneTo 64) _ (fun i hi => if_pos hi)]
      exact results_cell_row rfl _ _ w.heap.size 23 _ (0, 0) _ rfl (heap_alloc_last _ _) Try.underlying23 rfl (size23 _)
end Go.Proofs.Ytgbhfagmbkoobaa
