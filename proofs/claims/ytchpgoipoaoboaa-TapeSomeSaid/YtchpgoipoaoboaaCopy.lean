/-
  copy of a text's four bytes into a new array of four.
-/
import Derived.Test.YtchpgoipoaoboaaProg
import Derived.Test.YtchpgoipoaoboaaNum
import Derived.Deep.RegionLaw
import Derived.Deep.WholeRow
import Derived.Laws.CopyRow
import Derived.KernelRfl
namespace Go.Proofs.Ytchpgoipoaoboaa
open Go.RowKit
def cell4 (x : ByteArray) (o : Nat) : Array Value := #[.int .u8 (bv (byteAt x o)), .int .u8 (bv (byteAt x (o + 1))), .int .u8 (bv (byteAt x (o + 2))), .int .u8 (bv (byteAt x (o + 3)))]
theorem take4 (l : List (BitVec 8)) (o : Nat) (h : o + 4 ≤ l.length) : (l.drop o).take 4 = [l.getD o 0#8, l.getD (o + 1) 0#8, l.getD (o + 2) 0#8, l.getD (o + 3) 0#8] := by
  apply List.ext_getElem?
  intro i
  rw [List.getElem?_take, List.getElem?_drop]
  have hg : ∀ j, j < l.length → l[j]? = some (l.getD j 0#8) := fun j hj => by
    rw [List.getD_eq_getElem?_getD, List.getElem?_eq_getElem hj, Option.getD_some]
  by_cases hi : i < 4
  · rw [if_pos hi, hg _ (by omega)]
    match i, hi with
    | 0, _ => rfl
    | 1, _ => rfl
    | 2, _ => rfl
    | 3, _ => rfl
  · rw [if_neg hi]
    simp; omega
theorem run_copy4 (w : World) (ty : TypeId) (x : ByteArray) (o : Nat) (h : o + 4 ≤ x.size) (z : Array Value) (hz : z.size = 4) :
    (Builtin.copy_ #[44, 9] ty #[.slice (some ⟨w.heap.size, 0, none⟩) 4 4, .string (x.extract o x.size)]).run Try.prog (w.alloc (.cells z 43)).drew = .ok (goInt 4) (w.alloc (.cells (cell4 x o) 43)).drew := by
  have hsz : (x.extract o x.size).size = x.size - o := by rw [ByteArray.size_extract]; omega
  have hmin : Nat.min (x.size - o) 4 = 4 := Nat.min_eq_right (by omega)
  have hst := run_storeCells_at (P := Try.prog) w.heap.size 0 43 (cell4 x o).toList 0 z (w.alloc (.cells z 43)).drew (by show (w.alloc (.cells z 43)).heap[w.heap.size]? = _; exact heap_alloc_last _ _) (by simp [cell4, hz]) (by simp [cell4, Value.oneCell'])
  have hw : (w.alloc (.cells z 43)).drew.setRow w.heap.size (z.toList.take (0 + 0) ++ (cell4 x o).toList ++ z.toList.drop (0 + 0 + (cell4 x o).toList.length)).toArray = (w.alloc (.cells (cell4 x o) 43)).drew := by
    have e : (z.toList.take (0 + 0) ++ (cell4 x o).toList ++ z.toList.drop (0 + 0 + (cell4 x o).toList.length)).toArray = cell4 x o := by
      have h4 : (cell4 x o).toList.length = 4 := rfl
      rw [h4, List.drop_eq_nil_of_le (by simp [hz])]
      simp
    rw [e]
    show ((w.alloc (.cells z 43)).setRow w.heap.size (cell4 x o)).drew = _
    rw [World.setRow_alloc_new]
  rw [hw] at hst
  have hi : (Try.prog.info? 5).map (·.size) = some 1 := by kernel_rfl
  have hs1 : ∀ W : World, (sizeOf 5).run Try.prog W = .ok 1 W := by
    intro W
    cases hq : Try.prog.info? 5 with
    | none => rw [hq] at hi; cases hi
    | some i => rw [hq] at hi; simp at hi; simp [sizeOf, typeInfo, hq, hi]
  unfold Builtin.copy_
  simp [run_underlying Try.underlying44, Builtin.lenOf, hsz, hmin, hs1, Builtin.firstCells]
  have hl : (List.take (min (o + 4) x.size - o) (List.drop o (List.map (fun b => Value.int .u8 (b.toNat : Int)) x.data.toList))) = (cell4 x o).toList := by
    have e1 : min (o + 4) x.size - o = 4 := by omega
    have e2 : List.map (fun b => Value.int .u8 (b.toNat : Int)) x.data.toList = (bs x).map (fun c => Value.int .u8 (bv c)) := by unfold bs; rw [List.map_map]; rfl
    rw [e1, e2, ← List.map_drop, ← List.map_take, take4 (bs x) o (by rw [bs_length]; exact h)]
    rfl
  rw [hl, hst]
  rfl
theorem step_copy4 {ops : Array Oper} {o : Oper} {a : Act} {K : Act → World → Prop} {Q : Exit → Act → World → Prop} {E : Prop} (hgd : o.guard = none) (d s : Operand)
    (ho : o.op = .call { callee := .builtin .copy, args := #[d, s], argTypes := #[44, 9] }) (w : World) (x : ByteArray) (f : Nat) (h : f + 4 ≤ x.size) (z : Array Value) (hz : z.size = 4)
    (hd : a.eval d = .slice (some ⟨w.heap.size, 0, none⟩) 4 4) (hs : a.eval s = .string (x.extract f x.size))
    (hK : K (a.put o.dst (goInt 4)) (w.alloc (.cells #[.int .u8 (bv (byteAt x f)), .int .u8 (bv (byteAt x (f + 1))), .int .u8 (bv (byteAt x (f + 2))), .int .u8 (bv (byteAt x (f + 3)))] 43)).drew) :
    if Region.wanted o (yielded ops a.tmps) = true then Oper.wp Try.prog o a (w.alloc (.cells z 43)).drew K Q else E := by
  have hw : Region.wanted o (yielded ops a.tmps) = true := by simp [Region.wanted, hgd]
  rw [if_pos hw]
  unfold Oper.wp execOp
  simp only [ho, resolve, invoke, builtin, Sem.run_bind, Sem.run_pure, Result.andThen_ok, List.map_toArray, List.map_cons, List.map_nil, hd, hs, run_copy4 w o.type x f h z hz]
  exact hK
end Go.Proofs.Ytchpgoipoaoboaa
