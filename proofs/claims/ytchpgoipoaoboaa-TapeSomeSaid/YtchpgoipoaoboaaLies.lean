/-
  A row of numbers that may be written, and slices.Delete of one of them.
-/
import Derived.Test.YtchpgoipoaoboaaPick
import Derived.Test.YtchpgoipoaoboaaShelf
import Derived.OwnWalk
import Derived.Laws.IdiomCopy
import Derived.Deep.AppendLies
namespace Go.Proofs.Ytchpgoipoaoboaa
open Go.RowKit
/-- the numbers ls lie in block g, and may be written -/
def LiesI (w : World) (g : Nat) (ls : List Int) : Prop := g < w.heap.size ∧ ∀ j (h : j < ls.length), w.cell? ⟨g, j, none⟩ = some (.int .i64 ls[j]) ∧ w.frozen? ⟨g, j, none⟩ = false
theorem LiesI.store {w : World} {g : Nat} {l : List Int} (h : LiesI w g l) (q : Nat) (hq : q < l.length) (c : Int) : LiesI (w.setCell ⟨g, q, none⟩ (.int .i64 c)) g (l.set q c) := by
  refine ⟨by rw [World.size_setCell]; exact h.1, fun j hj => ?_⟩
  rw [List.length_set] at hj
  obtain ⟨h1, h2⟩ := h.2 j hj
  constructor
  · rw [List.getElem_set]
    by_cases e : q = j
    · subst e
      rw [if_pos rfl]
      exact World.cell?_setCell_same _ _ _ (by rw [(h.2 q hq).1])
    · rw [if_neg e, World.cell?_setCell_other _ _ _ _ (by intro e2; injection e2 with _ e3; exact e e3), h1]
  · rw [World.frozen?_setCell]; exact h2
theorem LiesI.keep {w w1 : World} {g : Nat} {l : List Int} (h : LiesI w g l) (hs : g < w1.heap.size) (hc : ∀ j, w1.cell? ⟨g, j, none⟩ = w.cell? ⟨g, j, none⟩) (hf : ∀ j, w1.frozen? ⟨g, j, none⟩ = w.frozen? ⟨g, j, none⟩) : LiesI w1 g l :=
  ⟨hs, fun j hj => ⟨(hc j).trans (h.2 j hj).1, (hf j).trans (h.2 j hj).2⟩⟩
theorem LiesI.below {w w1 : World} {g : Nat} {l : List Int} (h : LiesI w g l) (hb : Below w.heap.size w w1) : LiesI w1 g l :=
  h.keep (Nat.lt_of_lt_of_le h.1 hb.size) (fun _ => hb.cell h.1) (fun _ => hb.frozen h.1)
theorem LiesI.alloc {w : World} {g : Nat} {l : List Int} (h : LiesI w g l) (o : Obj) : LiesI (w.alloc o) g l :=
  h.below ((Below.refl _ _).alloc (Nat.le_refl _) _)
theorem LiesI.drew {w : World} {g : Nat} {l : List Int} (h : LiesI w g l) : LiesI w.drew g l := h
theorem LiesI.far {w : World} {g : Nat} {l : List Int} (h : LiesI w g l) {p : Addr} (hp : p.block ≠ g) (u : Value) : LiesI (w.setCell p u) g l :=
  h.keep (by rw [World.size_setCell]; exact h.1) (fun j => World.cell?_setCell_other _ _ _ _ (by intro e; subst e; exact hp rfl)) (fun j => by rw [World.frozen?_setCell])
theorem LiesI.grown {w w1 : World} {g : Nat} {l : List Int} {row : Option Nat} (h : LiesI w g l) (hg : w.grownBy w1 row) (hr : some g ≠ row) : LiesI w1 g l :=
  h.keep (Nat.lt_of_lt_of_le h.1 hg.size) (fun _ => hg.cell_far _ h.1 hr) (fun _ => hg.frozen_far _ h.1 hr)
theorem LiesI.own {w : World} {base g n cap : Nat} {l : List Int} (h : w.ownsRow base 3 1 (.slice (some ⟨g, 0, none⟩) n cap) n (l.map (Value.int .i64))) (hlt : g < w.heap.size) : LiesI w g l := by
  have hl : l.length = n := by have := h.1; simpa using this
  refine ⟨hlt, fun j hj => ⟨?_, h.frozenAt j⟩⟩
  rw [h.cellAt j (by omega)]
  simp [hj]
theorem size_setCells (b : Nat) : ∀ (vs : List Value) (o : Nat) (w : World), (w.setCells b o vs).heap.size = w.heap.size
  | [], _, _ => rfl
  | v :: vs, o, w => by rw [World.setCells, size_setCells b vs, World.size_setCell]
theorem below_setCells {B : Nat} (b : Nat) (hb : B ≤ b) : ∀ (vs : List Value) (o : Nat) (a w : World), Below B a w → Below B a (w.setCells b o vs)
  | [], _, _, _, h => h
  | v :: vs, _, a, _, h => below_setCells b hb vs _ a _ (h.setCell hb v)
theorem own_setCells {base : Nat} {e : TypeId} {size : Nat} {v : Value} {n : Nat} {xs : List Value} (b : Nat) (hb : b < base) : ∀ (vs : List Value) (o : Nat) (w : World), w.ownsRow base e size v n xs → (w.setCells b o vs).ownsRow base e size v n xs
  | [], _, _, h => h
  | u :: vs, _, _, h => own_setCells b hb vs _ _ (ownsRow_setCell_below h hb u)
theorem LiesI.cells {w : World} {g : Nat} {l : List Int} (h : LiesI w g l) (m : List Int) (hm : m.length = l.length) : LiesI (w.setCells g 0 (m.map (Value.int .i64))) g m := by
  refine ⟨by rw [size_setCells]; exact h.1, fun j hj => ⟨?_, ?_⟩⟩
  · have := World.cell?_setCells_in g (m.map (Value.int .i64)) 0 w (fun i hi => by
      rw [Nat.zero_add, (h.2 i (by simpa [hm] using hi)).1]; rfl) j (by simpa using hj)
    rw [Nat.zero_add] at this
    rw [this]
    simp
  · rw [World.frozen?_setCells]; exact (h.2 j (by omega)).2
theorem LiesI.front {w : World} {g : Nat} {l m : List Int} (h : LiesI w g (l ++ m)) : LiesI w g l :=
  ⟨h.1, fun j hj => by
    have := h.2 j (by rw [List.length_append]; omega)
    rw [List.getElem_append_left hj] at this
    exact this⟩
/-- one of the numbers is taken out, in place -/
theorem del_any (g cap i : Nat) (ls : List Int) (w : World) (hl : LiesI w g ls) (hi : i < ls.length) (hc : ls.length ≤ cap) (hcap : cap ≤ 1000000) :
    Calls Try.prog 20 #[.slice (some ⟨g, 0, none⟩) ls.length cap, .int .i64 i, .int .i64 (i + 1)] w fun e w' => e = .returned (.slice (some ⟨g, 0, none⟩) (ls.eraseIdx i).length cap) ∧ ∃ q, w' = (w.drewN q).setCells g 0 ((ls.eraseIdx i ++ [0]).map (Value.int .i64)) := by
  have h := Try.slices_Delete_int_cells g 0 ls.length cap i (i + 1) ls w (Nat.le_refl _) hc (by omega) (by omega) hi
    (fun j hj => by rw [Nat.zero_add, (hl.2 j hj).1, List.getD_eq_getElem?_getD, List.getElem?_eq_getElem hj, Option.getD_some]) (fun j hj => by rw [Nat.zero_add]; exact (hl.2 j hj).2)
  have e1 : ls.length - (i + 1 - i) = (ls.eraseIdx i).length := by rw [List.length_eraseIdx_of_lt hi]; omega
  have e2 : (ls.take ls.length).take i ++ (ls.take ls.length).drop (i + 1) ++ List.replicate (i + 1 - i) (0 : Int) = ls.eraseIdx i ++ [0] := by
    rw [List.take_length, show i + 1 - i = 1 by omega, List.eraseIdx_eq_take_drop_succ]
    rfl
  rw [e1, e2] at h
  have e3 : ((i : Int) + 1) = ((i + 1 : Nat) : Int) := by omega
  rw [e3]
  exact h
end Go.Proofs.Ytchpgoipoaoboaa
