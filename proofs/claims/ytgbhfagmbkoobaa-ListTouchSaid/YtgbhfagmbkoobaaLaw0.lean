/-
  Two lists compared for being one, as one step; what the laws share.
-/
import Derived.Test.YtgbhfagmbkoobaaAwake
namespace Go.Proofs.Ytgbhfagmbkoobaa
open Go.RowKit
theorem run_op26e (w : World) (o : Oper) (ev : Operand → Value) (x y : Operand) (ho : o.op = .binOp .eql 26 x y 26) (p q : Ls) (hx : ev x = .agg (cells p.at)) (hy : ev y = .agg (cells q.at)) (b : Bool) (hb : eqB p q = b) : (execOp ev o).run Try.prog w = .ok (.value (.bool b)) w := by
  unfold execOp
  simp only [ho, hx, hy, Sem.run_bind, run_eqGuard_agg _ _ _ _ _ _ _ guard26, Result.andThen_ok, eql26, hb, Sem.run_pure]
theorem wpList_eql26 {ops : Array Oper} {rest : List Oper} {o : Oper} {a : Act} {w : World} {Q : Exit → Act → World → Prop} (hw : Region.wanted o (yielded ops a.tmps) = true) (x y : Operand) (ho : o.op = .binOp .eql 26 x y 26) (p q : Ls) (hx : a.eval x = .agg (cells p.at)) (hy : a.eval y = .agg (cells q.at)) (b : Bool) (hb : eqB p q = b)
    (h : wpList Try.prog ops Q rest (a.put o.dst (.bool b)) w) : wpList Try.prog ops Q (o :: rest) a w :=
  wpList_val_any hw _ (run_op26e w o a.eval x y ho p q hx hy b hb) h
theorem eqB_refl (x : Ls) : eqB x x = true := (eqB_iff x x).mpr (SameL.refl x)
theorem last_touch (m : List Nat) (b : Nat) (hv : Valid (m ++ [b])) (w : World) : Calls Try.prog 14 #[.agg (cells (toldL (m ++ [b])).at), .int .i64 b] w (Ans (toldL (b :: m)) 0 w) := by
  have h := touch_in (m ++ [b]) hv b (by simp) w
  rw [erase_mid m b [] hv.2, List.append_nil] at h
  exact h
theorem last_drop (m : List Nat) (b : Nat) (hv : Valid (m ++ [b])) (w : World) : Calls Try.prog 16 #[.agg (cells (toldL (m ++ [b])).at), .int .i64 b] w (Ans (toldL m) 0 w) := by
  have h := drop_in (m ++ [b]) hv b (by simp) w
  rw [erase_mid m b [] hv.2, List.append_nil] at h
  exact h
theorem order_cast (l : List Nat) (hv : Valid l) (w : World) : Calls Try.prog 12 #[.agg (cells (toldL l).at)] w fun e w' => ∃ A c, e = .returned (.tuple #[.slice A (castL l).length c, .bool true]) ∧ RowI w' A (castL l) ∧ Below w.heap.size w w' := by
  rw [castL_len]; exact order_told l hv w
/-- x is told by some numbers, or by none -/
theorem told_or (x : Ls) : (∃ l, Valid l ∧ cells x.at = cells (toldL l).at) ∨ NoTell x := by
  by_cases h : ∃ l, Valid l ∧ SameL x (toldL l)
  · obtain ⟨l, hl, hs⟩ := h
    exact Or.inl ⟨l, hl, hs.cells⟩
  · exact Or.inr fun l hl hs => h ⟨l, hl, hs⟩
end Go.Proofs.Ytgbhfagmbkoobaa
