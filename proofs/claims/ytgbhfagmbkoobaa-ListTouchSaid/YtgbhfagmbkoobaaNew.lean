/-
  THE WALK OF list.New.
-/
import Derived.Test.YtgbhfagmbkoobaaNowhere
import Derived.Great.BuildSlice
namespace Go.Proofs.Ytgbhfagmbkoobaa
open Go.RowKit
def newL : Ls := ⟨fun _ => -1, fun _ => -1, fun _ => false, -1, -1⟩
theorem below_two {a b c : World} (h : Below a.heap.size a b) (k : Below b.heap.size b c) : Below a.heap.size a c := h.trans (k.mono h.size)
theorem below_setRow {B g : Nat} {a w : World} {cs : Array Value} (h : Below B a w) (hg : B ≤ g) : Below B a (w.setRow g cs) :=
  ⟨h.os, h.tape, h.output, by rw [setRow_size]; exact h.size, fun k hk => by rw [setRow_other _ _ _ _ (by omega)]; exact h.block k hk⟩
attribute [local go_sem] zero26
set_option maxRecDepth 100000 in
set_option maxHeartbeats 400000 in
theorem new_any (w : World) : Calls Try.prog 21 #[] w fun e w' => e = .returned (.agg (cells newL.at)) ∧ Below w.heap.size w w' := by
  go_enter Try.func21, Try.ntmps21
  go_wp2_with fail
  refine (nowhere_any _).mono ?_
  rintro e w1 ⟨rfl, hb1⟩
  have HB1 := Lib.hid hb1
  clear hb1
  go_wp2_with fail
  refine (nowhere_any _).mono ?_
  rintro e w2 ⟨rfl, hb2⟩
  have HB2 := Lib.hid hb2
  clear hb2
  have hrow : w2.heap[w.heap.size]? = some (.cells (cells z0.at) 26) := by
    have h1 : w.heap.size < w1.heap.size := Nat.lt_of_lt_of_le (by simp) HB1.out.size
    rw [HB2.out.block _ h1, HB1.out.block _ (by simp)]
    exact heap_alloc_last _ _
  go_wp2_with (first
    | (refine wpList_buildTo rfl 26 _ rfl (some 3) rfl (cells newL.at) (by kernel_rfl) ?_)
    | (refine wpList_store_row rfl 26 (.tmp 0) (.tmp 3) rfl w.heap.size _ rfl rfl 26 _ hrow (size26 _) (size_same _ _) (Flat.all (Flat.at _)) ?_)
    | fail)
  refine bodyPost_ret (v := .agg (cells newL.at)) ?_ rfl ⟨rfl, ?_⟩
  · exact results_cell_row rfl _ _ w.heap.size 26 _ (0, 0) _ rfl (setRow_heap _ _ _ _ _ _ hrow) Try.underlying26 rfl (size26 _)
  · refine below_setRow ?_ (Nat.le_refl _)
    exact ((Below.refl w.heap.size w).alloc (Nat.le_refl _) _).trans ((below_two HB1.out HB2.out).mono (by simp))
end Go.Proofs.Ytgbhfagmbkoobaa
