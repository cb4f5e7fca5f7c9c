/-
  THE WALK OF list.pull.
-/
import Derived.Test.YtgbhfagmbkoobaaNew
import Derived.Deep.QuietTactic
namespace Go.Proofs.Ytgbhfagmbkoobaa
open Go.RowKit
/-- one is taken out -/
def pullL (l : Ls) (k : Nat) : Ls :=
  { nx := fset (if l.pv k = -1 then l.nx else fset l.nx (l.pv k).toNat (l.nx k)) k (-1), pv := fset (if l.nx k = -1 then l.pv else fset l.pv (l.nx k).toNat (l.pv k)) k (-1), inn := fset l.inn k false,
    hd := if l.pv k = -1 then l.nx k else l.hd, tl := if l.nx k = -1 then l.pv k else l.tl }
theorem natneg (a : Nat) : ((a : Int) = -1) = False := eq_false (by omega)
attribute [local go_sem] zero26 cells_get cells_set upd_at at_hd at_tl at_nx at_pv
set_option maxHeartbeats 1600000 in
theorem pull_cells00 (l : Ls) (k : Nat) (hk : k < 64) (hn : l.nx k = -1) (hp : l.pv k = -1) : cells (upd (upd (upd (upd (upd (l.at) 192 (.int .i64 (-1))) 193 (.int .i64 (-1))) (128 + k) (.bool false)) k (.int .i64 (-1))) (64 + k) (.int .i64 (-1))) = cells (pullL l k).at := by
  apply cells_congr
  intro i hi
  unfold upd Ls.at pullL fset
  simp only [hn, hp, if_true]
  (repeat' split) <;> first | rfl | (exfalso; omega)
set_option maxRecDepth 100000 in
set_option maxHeartbeats 3000000 in
theorem pull00 (l : Ls) (k : Nat) (hk : k < 64) (hn : l.nx k = -1) (hp : l.pv k = -1) (w : World) :
    Calls Try.prog 28 #[.agg (cells l.at), .int .i64 k] w fun e w' => e = .returned (.agg (cells (pullL l k).at)) ∧ Below w.heap.size w w' := by
  have PC := Lib.hid (pull_cells00 l k hk hn hp)
  have hk1 : (0 : Int) ≤ (k : Int) := by omega
  have hk2 : (k : Int) < 64 := by omega
  have hk5 : k < 194 := by omega
  have hk9 : 128 + k < 194 := by omega
  have hk10 : 64 + k < 194 := by omega
  have hk6 : ¬ (64 = k) := by omega
  have hk7 : ¬ (128 = k) := by omega
  have hk8 : ¬ (192 = k) := by omega
  go_enter Try.func28, Try.ntmps28
  go_wp2_with fail
  go_quiet (fail)
  have hdr : ∀ (a b : Obj), ((w.alloc a).alloc b).drewN nq = ((w.drewN nq).alloc a).alloc b := fun _ _ => rfl
  have hsz : w.heap.size = (w.drewN nq).heap.size := rfl
  have HBEL := Lib.hid (Joins.below_draws w.heap.size w nq)
  rw [hdr, hsz]
  clear hdr hsz
  generalize w.drewN nq = w0 at *
  go_wp2_with (first
    | (refine wpList_load_row rfl 26 (.tmp 2) rfl w0.heap.size rfl 26 _ (0, 0) _ (heap_prev _ _ _) Try.underlying26 rfl (size26 _) ?_)
    | (refine wpList_store_row rfl 26 (.tmp 4) (.tmp 40) rfl (w0.heap.size + 1) _ rfl rfl 26 _ (heap_last2 _ _ _) (size26 _) (size_same _ _) (Flat.all ?hflat) ?_; rotate_left; rw [setRow_last2])
    | fail)
  case hflat => exact ((((Flat.at l).upd _ _ rfl).upd _ _ rfl).upd _ _ rfl |>.upd _ _ rfl).upd _ _ rfl
  have hs0 := HBEL.out.size
  refine bodyPost_ret (v := .agg (cells (pullL l k).at)) ?_ rfl ⟨rfl, ?_⟩
  · rw [← PC.out]
    exact results_cell_row rfl _ _ (w0.heap.size + 1) 26 _ (0, 0) _ rfl (heap_last2 _ _ _) Try.underlying26 rfl (size26 _)
  · exact (HBEL.out.alloc hs0 _).alloc (by simp; omega) _
set_option maxHeartbeats 1600000 in
theorem pull_cells01 (l : Ls) (k : Nat) (hk : k < 64) (hn : l.nx k = -1) (b : Nat) (hp : l.pv k = (b : Int)) (hb : b < 64) : cells (upd (upd (upd (upd (upd (l.at) b (.int .i64 (-1))) 193 (.int .i64 (b : Int))) (128 + k) (.bool false)) k (.int .i64 (-1))) (64 + k) (.int .i64 (-1))) = cells (pullL l k).at := by
  apply cells_congr
  intro i hi
  unfold upd Ls.at pullL fset
  simp only [hn, hp, if_true, if_false, natneg, Int.toNat_natCast]
  (repeat' split) <;> first | rfl | (exfalso; omega)
set_option maxRecDepth 100000 in
set_option maxHeartbeats 3000000 in
theorem pull01 (l : Ls) (k : Nat) (hk : k < 64) (hn : l.nx k = -1) (b : Nat) (hp : l.pv k = (b : Int)) (hb : b < 64) (w : World) :
    Calls Try.prog 28 #[.agg (cells l.at), .int .i64 k] w fun e w' => e = .returned (.agg (cells (pullL l k).at)) ∧ Below w.heap.size w w' := by
  have PC := Lib.hid (pull_cells01 l k hk hn b hp hb)
  have hk1 : (0 : Int) ≤ (k : Int) := by omega
  have hk2 : (k : Int) < 64 := by omega
  have hk5 : k < 194 := by omega
  have hk9 : 128 + k < 194 := by omega
  have hk10 : 64 + k < 194 := by omega
  have hk6 : ¬ (64 = k) := by omega
  have hk7 : ¬ (128 = k) := by omega
  have hk8 : ¬ (192 = k) := by omega
  have hb1 : (0 : Int) ≤ (b : Int) := by omega
  have hb2 : (b : Int) < 64 := by omega
  have hb3 : ((b : Int) == -1) = false := by simp
  have hb5 : b < 194 := by omega
  have hb6 : 64 + b < 194 := by omega
  go_enter Try.func28, Try.ntmps28
  go_wp2_with fail
  go_quiet (fail)
  have hdr : ∀ (a b : Obj), ((w.alloc a).alloc b).drewN nq = ((w.drewN nq).alloc a).alloc b := fun _ _ => rfl
  have hsz : w.heap.size = (w.drewN nq).heap.size := rfl
  have HBEL := Lib.hid (Joins.below_draws w.heap.size w nq)
  rw [hdr, hsz]
  clear hdr hsz
  generalize w.drewN nq = w0 at *
  go_wp2_with (first
    | (refine wpList_load_row rfl 26 (.tmp 2) rfl w0.heap.size rfl 26 _ (0, 0) _ (heap_prev _ _ _) Try.underlying26 rfl (size26 _) ?_)
    | (refine wpList_store_row rfl 26 (.tmp 4) (.tmp 40) rfl (w0.heap.size + 1) _ rfl rfl 26 _ (heap_last2 _ _ _) (size26 _) (size_same _ _) (Flat.all ?hflat) ?_; rotate_left; rw [setRow_last2])
    | fail)
  case hflat => exact ((((Flat.at l).upd _ _ rfl).upd _ _ rfl).upd _ _ rfl |>.upd _ _ rfl).upd _ _ rfl
  have hs0 := HBEL.out.size
  refine bodyPost_ret (v := .agg (cells (pullL l k).at)) ?_ rfl ⟨rfl, ?_⟩
  · rw [← PC.out]
    exact results_cell_row rfl _ _ (w0.heap.size + 1) 26 _ (0, 0) _ rfl (heap_last2 _ _ _) Try.underlying26 rfl (size26 _)
  · exact (HBEL.out.alloc hs0 _).alloc (by simp; omega) _
set_option maxHeartbeats 1600000 in
theorem pull_cells10 (l : Ls) (k : Nat) (hk : k < 64) (a : Nat) (hn : l.nx k = (a : Int)) (ha : a < 64) (hp : l.pv k = -1) : cells (upd (upd (upd (upd (upd (l.at) 192 (.int .i64 (a : Int))) (64 + a) (.int .i64 (-1))) (128 + k) (.bool false)) k (.int .i64 (-1))) (64 + k) (.int .i64 (-1))) = cells (pullL l k).at := by
  apply cells_congr
  intro i hi
  unfold upd Ls.at pullL fset
  simp only [hn, hp, if_true, if_false, natneg, Int.toNat_natCast]
  (repeat' split) <;> first | rfl | (exfalso; omega)
set_option maxRecDepth 100000 in
set_option maxHeartbeats 3000000 in
theorem pull10 (l : Ls) (k : Nat) (hk : k < 64) (a : Nat) (hn : l.nx k = (a : Int)) (ha : a < 64) (hp : l.pv k = -1) (w : World) :
    Calls Try.prog 28 #[.agg (cells l.at), .int .i64 k] w fun e w' => e = .returned (.agg (cells (pullL l k).at)) ∧ Below w.heap.size w w' := by
  have PC := Lib.hid (pull_cells10 l k hk a hn ha hp)
  have hk1 : (0 : Int) ≤ (k : Int) := by omega
  have hk2 : (k : Int) < 64 := by omega
  have hk5 : k < 194 := by omega
  have hk9 : 128 + k < 194 := by omega
  have hk10 : 64 + k < 194 := by omega
  have hk6 : ¬ (64 = k) := by omega
  have hk7 : ¬ (128 = k) := by omega
  have hk8 : ¬ (192 = k) := by omega
  have ha1 : (0 : Int) ≤ (a : Int) := by omega
  have ha2 : (a : Int) < 64 := by omega
  have ha3 : ((a : Int) == -1) = false := by simp
  have ha5 : a < 194 := by omega
  have ha6 : 64 + a < 194 := by omega
  go_enter Try.func28, Try.ntmps28
  go_wp2_with fail
  go_quiet (fail)
  have hdr : ∀ (a b : Obj), ((w.alloc a).alloc b).drewN nq = ((w.drewN nq).alloc a).alloc b := fun _ _ => rfl
  have hsz : w.heap.size = (w.drewN nq).heap.size := rfl
  have HBEL := Lib.hid (Joins.below_draws w.heap.size w nq)
  rw [hdr, hsz]
  clear hdr hsz
  generalize w.drewN nq = w0 at *
  go_wp2_with (first
    | (refine wpList_load_row rfl 26 (.tmp 2) rfl w0.heap.size rfl 26 _ (0, 0) _ (heap_prev _ _ _) Try.underlying26 rfl (size26 _) ?_)
    | (refine wpList_store_row rfl 26 (.tmp 4) (.tmp 40) rfl (w0.heap.size + 1) _ rfl rfl 26 _ (heap_last2 _ _ _) (size26 _) (size_same _ _) (Flat.all ?hflat) ?_; rotate_left; rw [setRow_last2])
    | fail)
  case hflat => exact ((((Flat.at l).upd _ _ rfl).upd _ _ rfl).upd _ _ rfl |>.upd _ _ rfl).upd _ _ rfl
  have hs0 := HBEL.out.size
  refine bodyPost_ret (v := .agg (cells (pullL l k).at)) ?_ rfl ⟨rfl, ?_⟩
  · rw [← PC.out]
    exact results_cell_row rfl _ _ (w0.heap.size + 1) 26 _ (0, 0) _ rfl (heap_last2 _ _ _) Try.underlying26 rfl (size26 _)
  · exact (HBEL.out.alloc hs0 _).alloc (by simp; omega) _
set_option maxHeartbeats 1600000 in
theorem pull_cells11 (l : Ls) (k : Nat) (hk : k < 64) (a : Nat) (hn : l.nx k = (a : Int)) (ha : a < 64) (b : Nat) (hp : l.pv k = (b : Int)) (hb : b < 64) : cells (upd (upd (upd (upd (upd (l.at) b (.int .i64 (a : Int))) (64 + a) (.int .i64 (b : Int))) (128 + k) (.bool false)) k (.int .i64 (-1))) (64 + k) (.int .i64 (-1))) = cells (pullL l k).at := by
  apply cells_congr
  intro i hi
  unfold upd Ls.at pullL fset
  simp only [hn, hp, if_false, natneg, Int.toNat_natCast]
  (repeat' split) <;> first | rfl | (exfalso; omega)
set_option maxRecDepth 100000 in
set_option maxHeartbeats 3000000 in
theorem pull11 (l : Ls) (k : Nat) (hk : k < 64) (a : Nat) (hn : l.nx k = (a : Int)) (ha : a < 64) (b : Nat) (hp : l.pv k = (b : Int)) (hb : b < 64) (w : World) :
    Calls Try.prog 28 #[.agg (cells l.at), .int .i64 k] w fun e w' => e = .returned (.agg (cells (pullL l k).at)) ∧ Below w.heap.size w w' := by
  have PC := Lib.hid (pull_cells11 l k hk a hn ha b hp hb)
  have hk1 : (0 : Int) ≤ (k : Int) := by omega
  have hk2 : (k : Int) < 64 := by omega
  have hk5 : k < 194 := by omega
  have hk9 : 128 + k < 194 := by omega
  have hk10 : 64 + k < 194 := by omega
  have hk6 : ¬ (64 = k) := by omega
  have hk7 : ¬ (128 = k) := by omega
  have hk8 : ¬ (192 = k) := by omega
  have ha1 : (0 : Int) ≤ (a : Int) := by omega
  have ha2 : (a : Int) < 64 := by omega
  have ha3 : ((a : Int) == -1) = false := by simp
  have ha5 : a < 194 := by omega
  have ha6 : 64 + a < 194 := by omega
  have hb1 : (0 : Int) ≤ (b : Int) := by omega
  have hb2 : (b : Int) < 64 := by omega
  have hb3 : ((b : Int) == -1) = false := by simp
  have hb5 : b < 194 := by omega
  have hb6 : 64 + b < 194 := by omega
  go_enter Try.func28, Try.ntmps28
  go_wp2_with fail
  go_quiet (fail)
  have hdr : ∀ (a b : Obj), ((w.alloc a).alloc b).drewN nq = ((w.drewN nq).alloc a).alloc b := fun _ _ => rfl
  have hsz : w.heap.size = (w.drewN nq).heap.size := rfl
  have HBEL := Lib.hid (Joins.below_draws w.heap.size w nq)
  rw [hdr, hsz]
  clear hdr hsz
  generalize w.drewN nq = w0 at *
  go_wp2_with (first
    | (refine wpList_load_row rfl 26 (.tmp 2) rfl w0.heap.size rfl 26 _ (0, 0) _ (heap_prev _ _ _) Try.underlying26 rfl (size26 _) ?_)
    | (refine wpList_store_row rfl 26 (.tmp 4) (.tmp 40) rfl (w0.heap.size + 1) _ rfl rfl 26 _ (heap_last2 _ _ _) (size26 _) (size_same _ _) (Flat.all ?hflat) ?_; rotate_left; rw [setRow_last2])
    | fail)
  case hflat => exact ((((Flat.at l).upd _ _ rfl).upd _ _ rfl).upd _ _ rfl |>.upd _ _ rfl).upd _ _ rfl
  have hs0 := HBEL.out.size
  refine bodyPost_ret (v := .agg (cells (pullL l k).at)) ?_ rfl ⟨rfl, ?_⟩
  · rw [← PC.out]
    exact results_cell_row rfl _ _ (w0.heap.size + 1) 26 _ (0, 0) _ rfl (heap_last2 _ _ _) Try.underlying26 rfl (size26 _)
  · exact (HBEL.out.alloc hs0 _).alloc (by simp; omega) _
end Go.Proofs.Ytgbhfagmbkoobaa
