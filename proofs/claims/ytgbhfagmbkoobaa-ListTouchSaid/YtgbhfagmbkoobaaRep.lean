/-
  Lists as cells; the walk of list.push.
-/
import Derived.WalkKit
import Derived.Lib.Hide
import Derived.Below
import Derived.Lib.SmallJoins
import Derived.Deep.WholeRow
import Derived.Test.YtgbhfagmbkoobaaProg
namespace Go.Proofs.Ytgbhfagmbkoobaa
open Go.RowKit
/-- 194 cells, one behind the other -/
def cells (c : Nat → Value) : Array Value := ((List.range 194).map c).toArray
def upd (c : Nat → Value) (i : Nat) (v : Value) : Nat → Value := fun j => if j = i then v else c j
theorem upd_same (c : Nat → Value) (i : Nat) (v : Value) : upd c i v i = v := if_pos rfl
theorem upd_ne (c : Nat → Value) (i : Nat) (v : Value) (j : Nat) (h : j ≠ i) : upd c i v j = c j := if_neg h
theorem cells_size (c : Nat → Value) : (cells c).size = 194 := by unfold cells; simp
theorem cells_get (c : Nat → Value) (i : Nat) (h : i < 194) : (cells c)[i]? = some (c i) := by unfold cells; simp [h]
theorem cells_set (c : Nat → Value) (i : Nat) (v : Value) : (cells c).setIfInBounds i v = cells (upd c i v) := by
  apply Array.ext_getElem?
  intro j
  rw [Array.getElem?_setIfInBounds]
  by_cases hj : j < 194
  · rw [cells_get _ _ hj]
    by_cases e : i = j
    · subst e
      rw [if_pos rfl, if_pos (by rw [cells_size]; exact hj), cells_get _ _ hj, upd_same]
    · rw [if_neg e, cells_get _ _ hj, upd_ne _ _ _ _ (fun h => e h.symm)]
  · have h1 : ∀ d, (cells d)[j]? = none := fun d => by rw [Array.getElem?_eq_none]; rw [cells_size]; omega
    rw [h1, h1]
    split
    · simp [cells_size]; omega
    · rfl
theorem cells_congr (c d : Nat → Value) (h : ∀ i, i < 194 → c i = d i) : cells c = cells d := by
  unfold cells
  congr 1
  apply List.map_congr_left
  intro i hi
  exact h i (by simpa using hi)
structure Ls where
  nx : Nat → Int
  pv : Nat → Int
  inn : Nat → Bool
  hd : Int
  tl : Int
def Ls.at (l : Ls) (i : Nat) : Value :=
  if i < 64 then .int .i64 (l.nx i) else if i < 128 then .int .i64 (l.pv (i - 64)) else if i < 192 then .bool (l.inn (i - 128)) else if i < 193 then .int .i64 l.hd else .int .i64 l.tl
def cl (l : Ls) : Array Value := cells l.at
theorem at_nx (l : Ls) (k : Nat) (h : k < 64) : l.at k = .int .i64 (l.nx k) := if_pos h
theorem at_pv (l : Ls) (k : Nat) (h : k < 64) : l.at (64 + k) = .int .i64 (l.pv k) := by unfold Ls.at; rw [if_neg (by omega), if_pos (by omega), Nat.add_sub_cancel_left]
theorem at_inn (l : Ls) (k : Nat) (h : k < 64) : l.at (128 + k) = .bool (l.inn k) := by unfold Ls.at; rw [if_neg (by omega), if_neg (by omega), if_pos (by omega), Nat.add_sub_cancel_left]
theorem at_hd (l : Ls) : l.at 192 = .int .i64 l.hd := rfl
theorem at_tl (l : Ls) : l.at 193 = .int .i64 l.tl := rfl
def z0 : Ls := ⟨fun _ => 0, fun _ => 0, fun _ => false, 0, 0⟩
theorem zero26 (w : World) : (zeroValue 26).run Try.prog w = .ok (.agg (cells z0.at)) w := by kernel_rfl
/-- the cells c lie in block g, and may be written -/
structure Lies (w : World) (g : Nat) (c : Nat → Value) : Prop where
  row : w.heap[g]? = some (.cells (cells c) 26 (0, 0))
theorem Lies.lt {w : World} {g : Nat} {c : Nat → Value} (h : Lies w g c) : g < w.heap.size := by
  rcases Nat.lt_or_ge g w.heap.size with q | q
  · exact q
  · have := h.row; rw [Array.getElem?_eq_none q] at this; cases this
theorem Lies.cell {w : World} {g : Nat} {c : Nat → Value} (h : Lies w g c) (i : Nat) (hi : i < 194) : w.cell? ⟨g, i, none⟩ = some (c i) := by
  rw [Joins.cell_of_block h.row, cells_get _ _ hi]
theorem Lies.fro {w : World} {g : Nat} {c : Nat → Value} (h : Lies w g c) (i : Nat) : w.frozen? ⟨g, i, none⟩ = false := Joins.unfrozen_of_block h.row i
theorem Lies.below {w w1 : World} {g : Nat} {c : Nat → Value} (h : Lies w g c) (hb : Below w.heap.size w w1) : Lies w1 g c := ⟨by rw [hb.block g h.lt]; exact h.row⟩
theorem Lies.new (w : World) (c : Nat → Value) : Lies (w.alloc (.cells (cells c) 26)) w.heap.size c := ⟨heap_alloc_last _ _⟩
theorem upd_at (c : Nat → Value) (i : Nat) (v : Value) (j : Nat) : upd c i v j = if j = i then v else c j := rfl
theorem isSome_at (c : Nat → Value) (i : Nat) (h : i < 194) : ((cells c)[i]?).isSome = true := by rw [cells_get _ _ h]; rfl
theorem info26 : (Try.prog.info? 26).map (·.size) = some 194 := by kernel_rfl
theorem size26 (c : Nat → Value) : (Try.prog.info? 26).map (·.size) = some (cells c).size := by rw [cells_size]; exact info26
def Flat (c : Nat → Value) : Prop := ∀ i, (c i).oneCell' = true
theorem Flat.all {c : Nat → Value} (h : Flat c) : (cells c).all (·.oneCell') = true := by
  unfold cells
  simp only [List.all_toArray, List.all_map, List.all_eq_true]
  intro i _
  exact h i
theorem Flat.upd {c : Nat → Value} (h : Flat c) (i : Nat) (v : Value) (hv : v.oneCell' = true) : Flat (upd c i v) := by
  intro j
  unfold Ytgbhfagmbkoobaa.upd
  split
  · exact hv
  · exact h j
theorem Flat.at (l : Ls) : Flat l.at := by
  intro i
  unfold Ls.at
  split
  · rfl
  · split
    · rfl
    · split
      · rfl
      · split <;> rfl
theorem heap_prev (w : World) (o p : Obj) : ((w.alloc o).alloc p).heap[w.heap.size]? = some o := by
  show ((w.heap.push o).push p)[w.heap.size]? = some o
  rw [Array.getElem?_push_lt (by simp)]
  simp
theorem heap_last2 (w : World) (o p : Obj) : ((w.alloc o).alloc p).heap[w.heap.size + 1]? = some p := by
  have := heap_alloc_last (w.alloc o) p
  simpa using this
theorem setRow_last2 (w : World) (o : Obj) (c c' : Array Value) (t : TypeId) : ((w.alloc o).alloc (.cells c t)).setRow (w.heap.size + 1) c' = (w.alloc o).alloc (.cells c' t) := by
  have h := World.setRow_alloc_new (w.alloc o) c c' t
  simpa using h
theorem size_same (c d : Nat → Value) : (cells c).size = (cells d).size := by rw [cells_size, cells_size]
def fset {α : Type} (f : Nat → α) (i : Nat) (v : α) : Nat → α := fun j => if j = i then v else f j
/-- one is laid first -/
def pushL (l : Ls) (k : Nat) : Ls :=
  { nx := fset l.nx k l.hd, pv := if l.hd = -1 then fset l.pv k (-1) else fset (fset l.pv k (-1)) l.hd.toNat k, inn := fset l.inn k true, hd := k, tl := if l.hd = -1 then k else l.tl }
theorem push_cells_none (l : Ls) (k : Nat) (hk : k < 64) (hh : (l.hd == -1) = true) :
    cells (upd (upd (upd (upd (upd l.at (128 + k) (.bool true)) k (.int .i64 l.hd)) (64 + k) (.int .i64 (-1))) 193 (.int .i64 k)) 192 (.int .i64 k)) = cells (pushL l k).at := by
  have h : l.hd = -1 := by simpa using hh
  apply cells_congr
  intro i hi
  unfold upd Ls.at pushL fset
  simp only [h, if_true]
  by_cases h1 : i < 64
  · have e1 : ¬ i = 192 := by omega
    have e2 : ¬ i = 193 := by omega
    have e3 : ¬ i = 64 + k := by omega
    have e4 : ¬ i = 128 + k := by omega
    simp only [h1, e1, e2, e3, e4, if_true, if_false]
    split <;> rfl
  · by_cases h2 : i < 128
    · have e1 : ¬ i = 192 := by omega
      have e2 : ¬ i = 193 := by omega
      have e3 : ¬ i = k := by omega
      have e4 : ¬ i = 128 + k := by omega
      have e5 : (i = 64 + k) = (i - 64 = k) := by apply propext; omega
      simp only [h1, h2, e1, e2, e3, e4, e5, if_true, if_false]
      split <;> rfl
    · by_cases h3 : i < 192
      · have e1 : ¬ i = 192 := by omega
        have e2 : ¬ i = 193 := by omega
        have e3 : ¬ i = k := by omega
        have e4 : ¬ i = 64 + k := by omega
        have e5 : (i = 128 + k) = (i - 128 = k) := by apply propext; omega
        simp only [h1, h2, h3, e1, e2, e3, e4, e5, if_true, if_false]
        split <;> rfl
      · by_cases h4 : i = 192
        · subst h4
          simp
        · obtain rfl : i = 193 := by omega
          simp
attribute [local go_sem] zero26 cells_get cells_set upd_at at_hd at_tl
set_option maxRecDepth 100000 in
set_option maxHeartbeats 3000000 in
theorem push_none (l : Ls) (k : Nat) (hk : k < 64) (hh : (l.hd == -1) = true) (w : World) :
    Calls Try.prog 25 #[.agg (cells l.at), .int .i64 k] w fun e w' => e = .returned (.agg (cells (pushL l k).at)) ∧ Below w.heap.size w w' := by
  have hk1 : (0 : Int) ≤ (k : Int) := by omega
  have hk2 : (k : Int) < 64 := by omega
  have hk3 : k < 66 := by omega
  have hk4 : k < 130 := by omega
  have hk5 : k < 194 := by omega
  have hk9 : 128 + k < 194 := by omega
  have hk10 : 64 + k < 194 := by omega
  have hk6 : ¬ (64 = k) := by omega
  have hk7 : ¬ (128 = k) := by omega
  have hk8 : ¬ (192 = k) := by omega
  go_enter Try.func25, Try.ntmps25
  go_wp2_with (first
    | (refine wpList_load_row rfl 26 (.tmp 2) rfl w.heap.size rfl 26 _ (0, 0) _ (heap_prev _ _ _) Try.underlying26 rfl (size26 _) ?_)
    | (refine wpList_store_row rfl 26 (.tmp 4) (.tmp 28) rfl (w.heap.size + 1) _ rfl rfl 26 _ (heap_last2 _ _ _) (size26 _) (size_same _ _) (Flat.all ?hflat) ?_; rotate_left; rw [setRow_last2])
    | fail)
  case hflat => exact ((((Flat.at l).upd _ _ rfl).upd _ _ rfl).upd _ _ rfl |>.upd _ _ rfl).upd _ _ rfl
  refine bodyPost_ret (v := .agg (cells (pushL l k).at)) ?_ rfl ⟨rfl, ?_⟩
  · rw [← push_cells_none l k hk hh]
    exact results_cell_row rfl _ _ (w.heap.size + 1) 26 _ (0, 0) _ rfl (heap_last2 _ _ _) Try.underlying26 rfl (size26 _)
  · exact ((Below.refl _ _).alloc (Nat.le_refl _) _).alloc (by simp) _
theorem push_cells_some (l : Ls) (k h : Nat) (hk : k < 64) (hh : l.hd = (h : Int)) (hlt : h < 64) :
    cells (upd (upd (upd (upd (upd l.at (128 + k) (.bool true)) k (.int .i64 (h : Int))) (64 + k) (.int .i64 (-1))) (64 + h) (.int .i64 k)) 192 (.int .i64 k)) = cells (pushL l k).at := by
  have hn : ¬ ((h : Int) = -1) := by omega
  apply cells_congr
  intro i hi
  unfold upd Ls.at pushL fset
  simp only [hh, hn, if_false, Int.toNat_natCast]
  by_cases h1 : i < 64
  · have e1 : ¬ i = 192 := by omega
    have e2 : ¬ i = 64 + h := by omega
    have e3 : ¬ i = 64 + k := by omega
    have e4 : ¬ i = 128 + k := by omega
    simp only [h1, e1, e2, e3, e4, if_true, if_false]
    split <;> rfl
  · by_cases h2 : i < 128
    · have e1 : ¬ i = 192 := by omega
      have e3 : ¬ i = k := by omega
      have e4 : ¬ i = 128 + k := by omega
      have e5 : (i = 64 + k) = (i - 64 = k) := by apply propext; omega
      have e6 : (i = 64 + h) = (i - 64 = h) := by apply propext; omega
      simp only [h1, h2, e1, e3, e4, e5, e6, if_true, if_false]
      split
      · rfl
      · split <;> rfl
    · by_cases h3 : i < 192
      · have e1 : ¬ i = 192 := by omega
        have e2 : ¬ i = 64 + h := by omega
        have e3 : ¬ i = k := by omega
        have e4 : ¬ i = 64 + k := by omega
        have e5 : (i = 128 + k) = (i - 128 = k) := by apply propext; omega
        simp only [h1, h2, h3, e1, e2, e3, e4, e5, if_true, if_false]
        split <;> rfl
      · by_cases h4 : i = 192
        · subst h4
          simp
        · obtain rfl : i = 193 := by omega
          have e2 : ¬ 193 = 64 + h := by omega
          have e3 : ¬ 193 = k := by omega
          have e4 : ¬ 193 = 64 + k := by omega
          have e5 : ¬ 193 = 128 + k := by omega
          simp [e2, e3, e4, e5]
set_option maxRecDepth 100000 in
set_option maxHeartbeats 3000000 in
theorem push_some (l : Ls) (k h : Nat) (hk : k < 64) (hh : l.hd = (h : Int)) (hlt : h < 64) (w : World) :
    Calls Try.prog 25 #[.agg (cells l.at), .int .i64 k] w fun e w' => e = .returned (.agg (cells (pushL l k).at)) ∧ Below w.heap.size w w' := by
  have PC := Lib.hid (push_cells_some l k h hk hh hlt)
  have hk1 : (0 : Int) ≤ (k : Int) := by omega
  have hk2 : (k : Int) < 64 := by omega
  have hm1 : (0 : Int) ≤ (h : Int) := by omega
  have hm2 : (h : Int) < 64 := by omega
  have hm3 : ((h : Int) == -1) = false := by simp
  have hk5 : k < 194 := by omega
  have hk9 : 128 + k < 194 := by omega
  have hk10 : 64 + k < 194 := by omega
  have hm10 : 64 + h < 194 := by omega
  have hk6 : ¬ (64 = k) := by omega
  have hk7 : ¬ (128 = k) := by omega
  have hk8 : ¬ (192 = k) := by omega
  have hm8 : ¬ (128 = h) := by omega
  go_enter Try.func25, Try.ntmps25
  go_wp2_with (first
    | (refine wpList_load_row rfl 26 (.tmp 2) rfl w.heap.size rfl 26 _ (0, 0) _ (heap_prev _ _ _) Try.underlying26 rfl (size26 _) ?_)
    | (refine wpList_store_row rfl 26 (.tmp 4) (.tmp 28) rfl (w.heap.size + 1) _ rfl rfl 26 _ (heap_last2 _ _ _) (size26 _) (size_same _ _) (Flat.all ?hflat) ?_; rotate_left; rw [setRow_last2])
    | fail)
  case hflat => exact ((((Flat.at l).upd _ _ rfl).upd _ _ rfl).upd _ _ rfl |>.upd _ _ rfl).upd _ _ rfl
  refine bodyPost_ret (v := .agg (cells (pushL l k).at)) ?_ rfl ⟨rfl, ?_⟩
  · rw [← PC.out]
    exact results_cell_row rfl _ _ (w.heap.size + 1) 26 _ (0, 0) _ rfl (heap_last2 _ _ _) Try.underlying26 rfl (size26 _)
  · exact ((Below.refl _ _).alloc (Nat.le_refl _) _).alloc (by simp) _
end Go.Proofs.Ytgbhfagmbkoobaa
