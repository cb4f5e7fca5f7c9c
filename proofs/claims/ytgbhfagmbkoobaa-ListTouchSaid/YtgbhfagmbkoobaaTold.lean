/-
  What tells some numbers; list.push by it.
-/
import Derived.Test.YtgbhfagmbkoobaaPull
namespace Go.Proofs.Ytgbhfagmbkoobaa
open Go.RowKit
/-- what tells some numbers -/
def toldL : List Nat → Ls
  | [] => newL
  | k :: l => pushL (toldL l) k
theorem told_hd : ∀ l : List Nat, (toldL l).hd = (match l with | [] => -1 | a :: _ => (a : Int))
  | [] => rfl
  | _ :: _ => rfl
theorem told_inn : ∀ (l : List Nat) (k : Nat), (toldL l).inn k = decide (k ∈ l)
  | [], k => by simp [toldL, newL]
  | a :: l, k => by
    show fset (toldL l).inn a true k = _
    unfold fset
    by_cases h : k = a
    · subst h; simp
    · rw [if_neg h, told_inn l k]; simp [h]
theorem push_any (l : List Nat) (k : Nat) (hk : k < 64) (hl : ∀ a ∈ l, a < 64) (w : World) :
    Calls Try.prog 25 #[.agg (cells (toldL l).at), .int .i64 k] w fun e w' => e = .returned (.agg (cells (toldL (k :: l)).at)) ∧ Below w.heap.size w w' := by
  cases l with
  | nil => exact push_none (toldL []) k hk rfl w
  | cons a l => exact push_some (toldL (a :: l)) k a hk rfl (hl a (by simp)) w
end Go.Proofs.Ytgbhfagmbkoobaa
