/-
  A row of values that may be written; those that are not taken, of a list of marks.
-/
import Derived.Test.YtchpgoipoaoboaaSome
namespace Go.Proofs.Ytchpgoipoaoboaa
open Go.RowKit
/-- the values vs lie in block g, and may be written -/
def LiesV (w : World) (g : Nat) (vs : List Value) : Prop := g < w.heap.size ∧ ∀ j (h : j < vs.length), w.cell? ⟨g, j, none⟩ = some vs[j] ∧ w.frozen? ⟨g, j, none⟩ = false
theorem LiesV.store {w : World} {g : Nat} {l : List Value} (h : LiesV w g l) (q : Nat) (hq : q < l.length) (c : Value) : LiesV (w.setCell ⟨g, q, none⟩ c) g (l.set q c) := by
  refine ⟨by rw [World.size_setCell]; exact h.1, fun j hj => ?_⟩
  rw [List.length_set] at hj
  obtain ⟨h1, h2⟩ := h.2 j hj
  constructor
  · rw [List.getElem_set]
    by_cases e : q = j
    · subst e
      rw [if_pos rfl]
      exact World.cell?_setCell_same _ _ _ (by rw [(h.2 q hq).1])
    · rw [if_neg e, World.cell?_setCell_other _ _ _ _ (by intro e2; injection e2 with _ e3; exact e e3), h1]
  · rw [World.frozen?_setCell]; exact h2
theorem LiesV.keep {w w1 : World} {g : Nat} {l : List Value} (h : LiesV w g l) (hs : g < w1.heap.size) (hc : ∀ j, w1.cell? ⟨g, j, none⟩ = w.cell? ⟨g, j, none⟩) (hf : ∀ j, w1.frozen? ⟨g, j, none⟩ = w.frozen? ⟨g, j, none⟩) : LiesV w1 g l :=
  ⟨hs, fun j hj => ⟨(hc j).trans (h.2 j hj).1, (hf j).trans (h.2 j hj).2⟩⟩
theorem LiesV.below {w w1 : World} {g : Nat} {l : List Value} (h : LiesV w g l) (hb : Below w.heap.size w w1) : LiesV w1 g l :=
  h.keep (Nat.lt_of_lt_of_le h.1 hb.size) (fun _ => hb.cell h.1) (fun _ => hb.frozen h.1)
theorem LiesV.alloc {w : World} {g : Nat} {l : List Value} (h : LiesV w g l) (o : Obj) : LiesV (w.alloc o) g l :=
  h.below ((Below.refl _ _).alloc (Nat.le_refl _) _)
theorem LiesV.far {w : World} {g : Nat} {l : List Value} (h : LiesV w g l) {p : Addr} (hp : p.block ≠ g) (u : Value) : LiesV (w.setCell p u) g l :=
  h.keep (by rw [World.size_setCell]; exact h.1) (fun j => World.cell?_setCell_other _ _ _ _ (by intro e; subst e; exact hp rfl)) (fun j => by rw [World.frozen?_setCell])
theorem LiesV.grown {w w1 : World} {g : Nat} {l : List Value} {row : Option Nat} (h : LiesV w g l) (hg : w.grownBy w1 row) (hr : some g ≠ row) : LiesV w1 g l :=
  h.keep (Nat.lt_of_lt_of_le h.1 hg.size) (fun _ => hg.cell_far _ h.1 hr) (fun _ => hg.frozen_far _ h.1 hr)
theorem LiesV.own {w : World} {base e g n cap : Nat} {l : List Value} (h : w.ownsRow base e 1 (.slice (some ⟨g, 0, none⟩) n cap) n l) (hlt : g < w.heap.size) : LiesV w g l := by
  have hl : l.length = n := by have := h.1; omega
  refine ⟨hlt, fun j hj => ⟨?_, h.frozenAt j⟩⟩
  rw [h.cellAt j (by omega)]
  simp [hj]
/-- those that are not taken, of the first c -/
def freeTo (tk : List Bool) (c : Nat) : List Nat := (List.range c).filter fun i => tk[i]? == some false
theorem freeTo_succ (tk : List Bool) (c : Nat) : freeTo tk (c + 1) = freeTo tk c ++ (if tk[c]? = some false then [c] else []) := by
  unfold freeTo
  rw [List.range_succ, List.filter_append]
  congr 1
  by_cases h : tk[c]? = some false <;> simp [h]
theorem free_split (c n : Nat) (h : c < n) : ∃ r, (∀ i ∈ r, c < i) ∧ List.range n = List.range c ++ c :: r := by
  refine ⟨(List.range (n - c - 1)).map (· + (c + 1)), ?_, ?_⟩
  · intro i hi
    simp at hi
    omega
  · apply List.ext_getElem?
    intro i
    by_cases hi : i < n
    · rw [List.getElem?_range hi]
      by_cases h1 : i < c
      · rw [List.getElem?_append_left (by simpa using h1), List.getElem?_range h1]
      · rw [List.getElem?_append_right (by simpa using h1)]
        simp only [List.length_range]
        by_cases h2 : i = c
        · subst h2; simp
        · obtain ⟨d, hd⟩ : ∃ d, i - c = d + 1 := ⟨i - c - 1, by omega⟩
          rw [hd, List.getElem?_cons_succ, List.getElem?_map, List.getElem?_range (by omega)]
          simp; omega
    · have h3 : (List.range n)[i]? = none := by simp; omega
      have h4 : (List.range c ++ c :: (List.range (n - c - 1)).map (· + (c + 1)))[i]? = none := by
        apply List.getElem?_eq_none
        simp
        omega
      rw [h3, h4]
theorem free_hit (tk : List Bool) (c n : Nat) (h : c < n) (hc : tk[c]? = some false) (hn : tk.length = n) :
    (freeTo tk n)[(freeTo tk c).length]? = some c ∧ freeTo (tk.set c true) n = (freeTo tk n).eraseIdx (freeTo tk c).length := by
  obtain ⟨r, hr, he⟩ := free_split c n h
  have e1 : freeTo tk n = freeTo tk c ++ c :: (r.filter fun i => tk[i]? == some false) := by
    unfold freeTo
    rw [he, List.filter_append, List.filter_cons]
    simp [hc]
  have e2 : freeTo (tk.set c true) n = freeTo tk c ++ (r.filter fun i => tk[i]? == some false) := by
    unfold freeTo
    rw [he, List.filter_append, List.filter_cons]
    have ht : (tk.set c true)[c]? = some true := by rw [List.getElem?_set]; simp; omega
    have h1 : (List.range c).filter (fun i => (tk.set c true)[i]? == some false) = (List.range c).filter (fun i => tk[i]? == some false) := by
      apply List.filter_congr
      intro i hi
      rw [List.getElem?_set_ne]
      simp at hi; omega
    have h2 : r.filter (fun i => (tk.set c true)[i]? == some false) = r.filter (fun i => tk[i]? == some false) := by
      apply List.filter_congr
      intro i hi
      rw [List.getElem?_set_ne]
      have := hr i hi; omega
    rw [h1, h2, ht]
    simp
  constructor
  · rw [e1, List.getElem?_append_right (Nat.le_refl _)]
    simp
  · rw [e1, e2, List.eraseIdx_append_of_length_le (Nat.le_refl _)]
    simp
theorem free_all (n : Nat) : freeTo (List.replicate n false) n = List.range n := by
  unfold freeTo
  apply List.filter_eq_self.2
  intro i hi
  simp at hi
  simp [hi]
end Go.Proofs.Ytchpgoipoaoboaa
