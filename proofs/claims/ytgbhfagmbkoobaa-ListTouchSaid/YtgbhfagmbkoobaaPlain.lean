/-
  The plain law: one taken out of what tells some numbers; what tells some numbers tells them alone.
-/
import Derived.Test.YtgbhfagmbkoobaaRefOrder
namespace Go.Proofs.Ytgbhfagmbkoobaa
open Go.RowKit
theorem told_nx_out : ∀ (l : List Nat) (k : Nat), k ∉ l → (toldL l).nx k = -1
  | [], _, _ => rfl
  | a :: l, k, h => by
    have h1 : k ≠ a := fun e => h (by subst e; simp)
    show fset (toldL l).nx a _ k = _
    simp only [fset]; rw [if_neg h1]
    exact told_nx_out l k (fun e => h (by simp [e]))
theorem ls_ext {a b : Ls} (h1 : a.nx = b.nx) (h2 : a.pv = b.pv) (h3 : a.inn = b.inn) (h4 : a.hd = b.hd) (h5 : a.tl = b.tl) : a = b := by
  cases a; cases b; simp at *; exact ⟨h1, h2, h3, h4, h5⟩
theorem pull_first (k : Nat) (s : List Nat) (hn : (k :: s).Nodup) : pullL (toldL (k :: s)) k = toldL s := by
  have hks : k ∉ s := (List.nodup_cons.mp hn).1
  have e1 : (toldL (k :: s)).pv k = -1 := told_pv_head k s hn
  have e2 : (toldL (k :: s)).nx k = hdI s := told_nx [] k s hn
  have o1 := told_nx_out s k hks
  have o2 := told_pv_out s k hks
  have o3 : (toldL s).inn k = false := by rw [told_inn]; exact decide_eq_false hks
  have h1 : (toldL (k :: s)) = pushL (toldL s) k := rfl
  cases s with
  | nil =>
    refine ls_ext ?_ ?_ ?_ ?_ ?_
    · funext i; simp only [pullL, if_true, pushL, toldL, newL, fset]; split <;> rfl
    · funext i; simp only [pullL, if_true, pushL, toldL, newL, fset]; split <;> rfl
    · funext i; simp only [pullL, pushL, toldL, newL, fset]; split <;> rfl
    · simp only [pullL, e1, e2, hdI, if_true]; rfl
    · simp only [pullL, e1, e2, hdI, if_true]; rfl
  | cons a s =>
    have hd : (toldL (a :: s)).hd = (a : Int) := hd_told _
    have hak : a ≠ k := fun e => hks (by rw [e]; simp)
    have o4 : (toldL (a :: s)).pv a = -1 := told_pv_head a s (List.nodup_cons.mp hn).2
    generalize hT : toldL (a :: s) = T at *
    refine ls_ext ?_ ?_ ?_ ?_ ?_
    · funext i
      simp only [pullL, e1, if_true]
      simp only [h1, pushL, fset]
      by_cases hi : i = k
      · subst hi; simp [o1]
      · simp [hi]
    · funext i
      simp only [pullL, e2, hdI, natneg, if_false, Int.toNat_natCast, e1]
      simp only [h1, pushL, hd, natneg, if_false, Int.toNat_natCast, fset]
      by_cases hi : i = k
      · subst hi; simp [o2]
      · by_cases hia : i = a
        · subst hia; simp [o4, hi]
        · simp [hi, hia]
    · funext i
      simp only [pullL, h1, pushL, fset]
      by_cases hi : i = k
      · subst hi; simp [o3]
      · simp [hi]
    · simp only [pullL, e1, e2, hdI, if_true]; exact hd.symm
    · simp only [pullL, e2, hdI, natneg, if_false]
      simp only [h1, pushL, hd, natneg, if_false]
theorem pull_past (T : Ls) (y k z : Nat) (hyk : y ≠ k) (_hyz : y ≠ z) (hz : T.hd = (z : Int)) (n : Int) (hn : T.nx k = n) (hn1 : n = -1 ∨ ∃ a : Nat, n = (a : Int) ∧ a ≠ y ∧ a ≠ k ∧ a ≠ z)
    (hp : (z = k ∧ T.pv k = -1) ∨ (z ≠ k ∧ ∃ b : Nat, T.pv k = (b : Int) ∧ b ≠ y ∧ b ≠ k)) : pullL (pushL T y) k = pushL (pullL T k) y := by
  have hky : ¬ k = y := fun e => hyk e.symm
  rcases hp with ⟨rfl, hp⟩ | ⟨hzk, b, hp, hby, hbk⟩
  · have e1 : (pushL T y).pv z = (y : Int) := by simp [pushL, hz, natneg, fset]
    have e2 : (pushL T y).nx z = n := by simp [pushL, fset, hky, hn]
    rcases hn1 with rfl | ⟨a, rfl, hay, hak, _⟩
    · refine ls_ext ?_ ?_ ?_ ?_ ?_
      · funext i
        simp only [pullL, e1, e2, hp, hn, natneg, if_true, if_false, Int.toNat_natCast]
        simp only [pushL, hz, natneg, if_true, if_false, Int.toNat_natCast, fset]
        (repeat' split) <;> first | rfl | (exfalso; omega)
      · funext i
        simp only [pullL, e1, e2, hp, hn, natneg, if_true, if_false, Int.toNat_natCast]
        simp only [pushL, hz, natneg, if_true, if_false, Int.toNat_natCast, fset]
        (repeat' split) <;> first | rfl | (exfalso; omega)
      · funext i
        simp only [pullL, pushL, fset]
        (repeat' split) <;> first | rfl | (exfalso; omega)
      · simp only [pullL, e1, hp, hn, natneg, if_true, if_false]
        simp only [pushL]
      · simp only [pullL, e1, e2, hp, hn, natneg, if_true, if_false]
        simp only [pushL, if_true]
    · refine ls_ext ?_ ?_ ?_ ?_ ?_
      · funext i
        simp only [pullL, e1, e2, hp, hn, natneg, if_true, if_false, Int.toNat_natCast]
        simp only [pushL, hz, natneg, if_false, Int.toNat_natCast, fset]
        (repeat' split) <;> first | rfl | (exfalso; omega)
      · funext i
        simp only [pullL, e1, e2, hp, hn, natneg, if_true, if_false, Int.toNat_natCast]
        simp only [pushL, hz, natneg, if_false, Int.toNat_natCast, fset]
        (repeat' split) <;> first | rfl | (exfalso; omega)
      · funext i
        simp only [pullL, pushL, fset]
        (repeat' split) <;> first | rfl | (exfalso; omega)
      · simp only [pullL, e1, hp, hn, natneg, if_true, if_false]
        simp only [pushL]
      · simp only [pullL, e1, e2, hp, hn, natneg, if_true, if_false]
        simp only [pushL, hz, natneg, if_false]
  · have hkz : ¬ k = z := fun e => hzk e.symm
    have e1 : (pushL T y).pv k = (b : Int) := by simp [pushL, hz, natneg, fset, hkz, hky, hp]
    have e2 : (pushL T y).nx k = n := by simp [pushL, fset, hky, hn]
    rcases hn1 with rfl | ⟨a, rfl, hay, hak, haz⟩
    · refine ls_ext ?_ ?_ ?_ ?_ ?_
      · funext i
        simp only [pullL, e1, e2, hp, hn, natneg, if_true, if_false, Int.toNat_natCast]
        simp only [pushL, hz, natneg, if_false, Int.toNat_natCast, fset]
        (repeat' split) <;> first | rfl | (exfalso; omega)
      · funext i
        simp only [pullL, e1, e2, hp, hn, natneg, if_true, if_false, Int.toNat_natCast]
        simp only [pushL, hz, natneg, if_false, Int.toNat_natCast, fset]
        (repeat' split) <;> first | rfl | (exfalso; omega)
      · funext i
        simp only [pullL, pushL, fset]
        (repeat' split) <;> first | rfl | (exfalso; omega)
      · simp only [pullL, e1, hp, hn, natneg, if_true, if_false]
        simp only [pushL]
      · simp only [pullL, e1, e2, hp, hn, natneg, if_true, if_false]
        simp only [pushL, hz, natneg, if_false]
    · refine ls_ext ?_ ?_ ?_ ?_ ?_
      · funext i
        simp only [pullL, e1, e2, hp, hn, natneg, if_false, Int.toNat_natCast]
        simp only [pushL, hz, natneg, if_false, Int.toNat_natCast, fset]
        (repeat' split) <;> first | rfl | (exfalso; omega)
      · funext i
        simp only [pullL, e1, e2, hp, hn, natneg, if_false, Int.toNat_natCast]
        simp only [pushL, hz, natneg, if_false, Int.toNat_natCast, fset]
        (repeat' split) <;> first | rfl | (exfalso; omega)
      · funext i
        simp only [pullL, pushL, fset]
        (repeat' split) <;> first | rfl | (exfalso; omega)
      · simp only [pullL, e1, hp, hn, natneg, if_false]
        simp only [pushL]
      · simp only [pullL, e1, e2, hp, hn, natneg, if_false]
        simp only [pushL, hz, natneg, if_false]
theorem lastI_mem : ∀ (p : List Nat), p ≠ [] → ∃ b : Nat, lastI p = (b : Int) ∧ b ∈ p := by
  intro p hp
  rcases List.eq_nil_or_concat p with rfl | ⟨m, b, rfl⟩
  · exact absurd rfl hp
  · rw [List.concat_eq_append]
    exact ⟨b, lastI_snoc m b, by simp⟩
theorem pull_told : ∀ (p : List Nat) (k : Nat) (s : List Nat), (p ++ k :: s).Nodup → pullL (toldL (p ++ k :: s)) k = toldL (p ++ s)
  | [], k, s, hn => pull_first k s hn
  | y :: p, k, s, hn => by
    have h : y ∉ p ++ k :: s ∧ (p ++ k :: s).Nodup := List.nodup_cons.mp hn
    have ih := pull_told p k s h.2
    show pullL (pushL (toldL (p ++ k :: s)) y) k = pushL (toldL (p ++ s)) y
    rw [← ih]
    have hyk : y ≠ k := fun e => h.1 (by rw [e]; simp)
    have hpv := told_pv p k s h.2
    have hnx := told_nx p k s h.2
    have hns : ∀ a, a ∈ s → a ≠ y ∧ a ≠ k ∧ a ∉ p := fun a ha => by
      refine ⟨fun e => h.1 (by rw [← e]; simp [ha]), fun e => ?_, fun hp => ?_⟩
      · subst e
        have := h.2
        rw [List.nodup_append] at this
        exact (List.nodup_cons.mp this.2.1).1 ha
      · have := h.2
        rw [List.nodup_append] at this
        exact absurd rfl (this.2.2 a hp a (by simp [ha]))
    cases p with
    | nil =>
      refine pull_past _ y k k hyk hyk (hd_told _) _ hnx ?_ (Or.inl ⟨rfl, hpv⟩)
      cases s with
      | nil => exact Or.inl rfl
      | cons a s => exact Or.inr ⟨a, rfl, (hns a (by simp)).1, (hns a (by simp)).2.1, (hns a (by simp)).2.1⟩
    | cons z p =>
      have hyz : y ≠ z := fun e => h.1 (by rw [e]; simp)
      have hzk : z ≠ k := fun e => by
        have := h.2
        rw [e] at this
        simp at this
      refine pull_past _ y k z hyk hyz (hd_told _) _ hnx ?_ (Or.inr ⟨hzk, ?_⟩)
      · cases s with
        | nil => exact Or.inl rfl
        | cons a s => exact Or.inr ⟨a, rfl, (hns a (by simp)).1, (hns a (by simp)).2.1, fun e => (hns a (by simp)).2.2 (by rw [e]; simp)⟩
      · obtain ⟨b, hb, hm⟩ := lastI_mem (z :: p) (by simp)
        refine ⟨b, by rw [hpv, hb], fun e => h.1 (by rw [← e]; simp only [List.mem_append]; exact Or.inl hm), fun e => ?_⟩
        have := h.2
        rw [List.nodup_append] at this
        exact absurd rfl (this.2.2 k (by rw [← e]; exact hm) k (by simp))
theorem told_inj' : ∀ (s t p : List Nat), Valid (p ++ s) → Valid (p ++ t) → SameL (toldL (p ++ s)) (toldL (p ++ t)) → hdI s = hdI t → s = t
  | [], t, p, _, _, _, h => by
    cases t with
    | nil => rfl
    | cons a t => simp [hdI] at h
  | k :: s, t, p, hs, ht, hsame, h => by
    cases t with
    | nil => simp [hdI] at h
    | cons a t =>
      obtain rfl : k = a := by simp [hdI] at h; omega
      have e : hdI s = hdI t := by
        rw [← told_nx p k s hs.2, ← told_nx p k t ht.2]
        exact hsame.nx k (hs.1 k (by simp))
      have := told_inj' s t (p ++ [k]) (by simpa using hs) (by simpa using ht) (by simpa using hsame) e
      rw [this]
theorem told_inj {l m : List Nat} (hl : Valid l) (hm : Valid m) (h : SameL (toldL l) (toldL m)) : l = m :=
  told_inj' l m [] hl hm h (by rw [← hd_told, ← hd_told]; exact h.hd)
end Go.Proofs.Ytgbhfagmbkoobaa
