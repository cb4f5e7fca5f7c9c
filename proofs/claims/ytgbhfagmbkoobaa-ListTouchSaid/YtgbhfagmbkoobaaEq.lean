/-
  Two lists compared, and two rows of truths; a row within a list loaded.
-/
import Derived.Test.YtgbhfagmbkoobaaRefTold
import Derived.ChangeKeysEq
import Derived.Laws.StructEq
namespace Go.Proofs.Ytgbhfagmbkoobaa
open Go.RowKit
theorem run_items {P : Program} (w : World) (d : Nat) (e : TypeId) (c : Nat) (xs ys : Array Value) (r : Nat → Bool) : ∀ is : List Nat,
    (∀ i ∈ is, ∃ a b, (part e xs (i * c)).run P w = .ok a w ∧ (part e ys (i * c)).run P w = .ok b w ∧ (Op.equalIn d e a b).run P w = .ok (r i) w) →
    (Op.eqItems d e c xs ys is).run P w = .ok (is.all r) w
  | [], _ => by simp [Op.eqItems]
  | i :: is, h => by
    obtain ⟨a, b, h1, h2, h3⟩ := h i (by simp)
    have ih := run_items w d e c xs ys r is (fun j hj => h j (by simp [hj]))
    simp only [Op.eqItems, Sem.run_bind, h1, h2, h3, Result.andThen_ok, List.all_cons]
    cases r i
    · simp
    · simpa using ih
theorem plain3 : Try.prog.plainKey 3 = true := by kernel_rfl
theorem plain4 : Try.prog.plainKey 4 = true := by kernel_rfl
theorem cells3 : Try.prog.cellsOf 3 = 1 := by kernel_rfl
theorem cells4 : Try.prog.cellsOf 4 = 1 := by kernel_rfl
theorem info3' : ∃ i, Try.prog.info? 3 = some i := by
  obtain ⟨i, h, _⟩ := info_parts info3
  exact ⟨i, h⟩
theorem info4' : ∃ i, Try.prog.info? 4 = some i := by
  have : (Try.prog.info? 4).isSome = true := by kernel_rfl
  exact Option.isSome_iff_exists.mp this
def intR (f : Nat → Int) : Nat → Value := fun i => .int .i64 (f i)
def boolR (f : Nat → Bool) : Nat → Value := fun i => .bool (f i)
def eq64 {α : Type} [BEq α] (f g : Nat → α) : Bool := (List.range 64).all fun i => f i == g i
theorem run_eq23 (w : World) (d : Nat) (f g : Nat → Int) : (Op.equalIn (d + 2) 23 (.agg (row64 (intR f))) (.agg (row64 (intR g)))).run Try.prog w = .ok (eq64 f g) w := by
  obtain ⟨i, hi⟩ := info3'
  rw [run_equalIn_array w (d + 1) _ _ Try.underlying23 hi, cells3]
  refine run_items w (d + 1) 3 1 _ _ _ _ (fun i hi => ?_)
  have hi' : i < 64 := by simpa using hi
  rw [Nat.mul_one]
  exact ⟨_, _, run_part_plain w plain3 (row64_get _ _ hi'), run_part_plain w plain3 (row64_get _ _ hi'), run_equalIn_int w d 3 .i64 .i64 _ _ Try.underlying3⟩
theorem run_eq24 (w : World) (d : Nat) (f g : Nat → Bool) : (Op.equalIn (d + 2) 24 (.agg (row64 (boolR f))) (.agg (row64 (boolR g)))).run Try.prog w = .ok (eq64 f g) w := by
  obtain ⟨i, hi⟩ := info4'
  rw [run_equalIn_array w (d + 1) _ _ Try.underlying24 hi, cells4]
  refine run_items w (d + 1) 4 1 _ _ _ _ (fun i hi => ?_)
  have hi' : i < 64 := by simpa using hi
  rw [Nat.mul_one]
  exact ⟨_, _, run_part_plain w plain4 (row64_get _ _ hi'), run_part_plain w plain4 (row64_get _ _ hi'), run_equalIn_bool w d 4 _ _ Try.underlying4⟩
theorem extract_row (c d : Nat → Value) (o : Nat) (ho : o + 64 ≤ 194) (h : ∀ i, i < 64 → c (o + i) = d i) : (cells c).extract o (o + 64) = row64 d := by
  apply Array.ext_getElem?
  intro j
  rw [Array.getElem?_extract]
  by_cases hj : j < 64
  · rw [if_pos (by rw [cells_size]; omega), cells_get _ _ (by omega), row64_get _ _ hj, h j hj]
  · rw [if_neg (by rw [cells_size]; omega), Array.getElem?_eq_none]
    rw [row64_size]; omega
theorem run_part_agg (w : World) (t : TypeId) (e : TypeId) (hu : Try.prog.underlying t = some (.array 64 e)) (hs : (Try.prog.info? t).map (·.size) = some 64) (xs : Array Value) (o : Nat) : (part t xs o).run Try.prog w = .ok (.agg (xs.extract o (o + 64))) w := by
  obtain ⟨i, hi, hz⟩ := Option.map_eq_some_iff.mp hs
  simp [part, isAgg, run_underlying hu, run_sizeOf w hi, Program.cellsOf, hi, hz]
theorem info24 : (Try.prog.info? 24).map (·.size) = some 64 := by kernel_rfl
def eqB (x y : Ls) : Bool := eq64 x.nx y.nx && (eq64 x.pv y.pv && (eq64 x.inn y.inn && (x.hd == y.hd && x.tl == y.tl)))
theorem part_nx (w : World) (x : Ls) : (part 23 (cells x.at) 0).run Try.prog w = .ok (.agg (row64 (intR x.nx))) w := by
  rw [run_part_agg w 23 3 Try.underlying23 info23, extract_row _ (intR x.nx) 0 (by omega) (fun i hi => by rw [Nat.zero_add, at_nx _ _ hi]; rfl)]
theorem part_pv (w : World) (x : Ls) : (part 23 (cells x.at) 64).run Try.prog w = .ok (.agg (row64 (intR x.pv))) w := by
  rw [run_part_agg w 23 3 Try.underlying23 info23, extract_row _ (intR x.pv) 64 (by omega) (fun i hi => by rw [at_pv _ _ hi]; rfl)]
theorem part_inn (w : World) (x : Ls) : (part 24 (cells x.at) 128).run Try.prog w = .ok (.agg (row64 (boolR x.inn))) w := by
  rw [run_part_agg w 24 4 Try.underlying24 info24, extract_row _ (boolR x.inn) 128 (by omega) (fun i hi => by rw [at_inn _ _ hi]; rfl)]
theorem part_hd (w : World) (x : Ls) : (part 3 (cells x.at) 192).run Try.prog w = .ok (.int .i64 x.hd) w := run_part_plain w plain3 (by rw [cells_get _ _ (by omega), at_hd])
theorem part_tl (w : World) (x : Ls) : (part 3 (cells x.at) 193).run Try.prog w = .ok (.int .i64 x.tl) w := run_part_plain w plain3 (by rw [cells_get _ _ (by omega), at_tl])
theorem fields26 : Try.prog.underlying 26 = some (.struct (Try.prog.fieldsOf 26)) := by kernel_rfl
theorem flds26 : (Try.prog.fieldsOf 26).toList = [{ name := "Next", type := 23, offset := 0, embedded := false, tag := "", pkgPath := "", byteOffset := 0 }, { name := "Prev", type := 23, offset := 64, embedded := false, tag := "", pkgPath := "", byteOffset := 512 },
        { name := "In", type := 24, offset := 128, embedded := false, tag := "", pkgPath := "", byteOffset := 1024 }, { name := "Head", type := 3, offset := 192, embedded := false, tag := "", pkgPath := "", byteOffset := 1088 },
        { name := "Tail", type := 3, offset := 193, embedded := false, tag := "", pkgPath := "", byteOffset := 1096 }] := by kernel_rfl
theorem stood26 : Try.prog.stoodInHeld 26 = false := by kernel_rfl
theorem run_eq26 (w : World) (d : Nat) (x y : Ls) : (Op.equalIn (d + 3) 26 (.agg (cells x.at)) (.agg (cells y.at))).run Try.prog w = .ok (eqB x y) w := by
  rw [run_equalIn_struct w (d + 2) 26 _ _ fields26 stood26, flds26]
  have e1 := run_eq23 w d x.nx y.nx
  have e2 := run_eq23 w d x.pv y.pv
  have e3 := run_eq24 w d x.inn y.inn
  have e4 := run_equalIn_int (P := Try.prog) w (d + 1) 3 .i64 .i64 x.hd y.hd Try.underlying3
  have e5 := run_equalIn_int (P := Try.prog) w (d + 1) 3 .i64 .i64 x.tl y.tl Try.underlying3
  unfold eqB
  cases h1 : eq64 x.nx y.nx <;> cases h2 : eq64 x.pv y.pv <;> cases h3 : eq64 x.inn y.inn <;> cases h4 : (x.hd == y.hd) <;> cases h5 : (x.tl == y.tl) <;>
    simp [Op.eqFields, part_nx, part_pv, part_inn, part_hd, part_tl, e1, e2, e3, e4, e5, h1, h2, h3, h4, h5]
theorem neq26 (w : World) (x y : Ls) : (binOp .neq 26 (.agg (cells x.at)) (.agg (cells y.at))).run Try.prog w = .ok (.bool (!eqB x y)) w := by
  rw [run_neq_struct, run_eq26 w 9997 x y]; rfl
theorem eql26 (w : World) (x y : Ls) : (binOp .eql 26 (.agg (cells x.at)) (.agg (cells y.at))).run Try.prog w = .ok (.bool (eqB x y)) w := by
  rw [run_eql_struct, run_eq26 w 9997 x y]; rfl
theorem neq24 (w : World) (f g : Nat → Bool) : (binOp .neq 24 (.agg (row64 (boolR f))) (.agg (row64 (boolR g)))).run Try.prog w = .ok (.bool (!eq64 f g)) w := by
  rw [run_neq_struct, run_eq24 w 9998 f g]; rfl
theorem guard26 : Try.prog.eqGuardType Try.prog.depth 26 = false := by kernel_rfl
theorem guard24 : Try.prog.eqGuardType Try.prog.depth 24 = false := by kernel_rfl
theorem eq64_iff {α : Type} [BEq α] [LawfulBEq α] (f g : Nat → α) : eq64 f g = true ↔ ∀ i, i < 64 → f i = g i := by
  unfold eq64
  rw [List.all_eq_true]
  constructor
  · intro h i hi
    simpa using h i (by simpa using hi)
  · intro h i hi
    simpa using h i (by simpa using hi)
/-- two lists are one, as far as there are cells -/
structure SameL (x y : Ls) : Prop where
  nx : ∀ i, i < 64 → x.nx i = y.nx i
  pv : ∀ i, i < 64 → x.pv i = y.pv i
  inn : ∀ i, i < 64 → x.inn i = y.inn i
  hd : x.hd = y.hd
  tl : x.tl = y.tl
theorem eqB_iff (x y : Ls) : eqB x y = true ↔ SameL x y := by
  unfold eqB
  simp only [Bool.and_eq_true, eq64_iff, beq_iff_eq]
  exact ⟨fun ⟨a, b, c, d, e⟩ => ⟨a, b, c, d, e⟩, fun ⟨a, b, c, d, e⟩ => ⟨a, b, c, d, e⟩⟩
theorem SameL.cells {x y : Ls} (h : SameL x y) : cells x.at = cells y.at := by
  apply cells_congr
  intro i hi
  unfold Ls.at
  split
  · rw [h.nx i (by omega)]
  · split
    · rw [h.pv _ (by omega)]
    · split
      · rw [h.inn _ (by omega)]
      · split
        · rw [h.hd]
        · rw [h.tl]
theorem SameL.refl (x : Ls) : SameL x x := ⟨fun _ _ => rfl, fun _ _ => rfl, fun _ _ => rfl, rfl, rfl⟩
theorem SameL.symm {x y : Ls} (h : SameL x y) : SameL y x := ⟨fun i hi => (h.nx i hi).symm, fun i hi => (h.pv i hi).symm, fun i hi => (h.inn i hi).symm, h.hd.symm, h.tl.symm⟩
theorem SameL.trans {x y z : Ls} (h : SameL x y) (k : SameL y z) : SameL x z := ⟨fun i hi => (h.nx i hi).trans (k.nx i hi), fun i hi => (h.pv i hi).trans (k.pv i hi), fun i hi => (h.inn i hi).trans (k.inn i hi), h.hd.trans k.hd, h.tl.trans k.tl⟩
theorem cells_eq {x y : Ls} (h : cells x.at = cells y.at) : SameL x y := by
  have g : ∀ i, i < 194 → x.at i = y.at i := fun i hi => by
    have h1 := cells_get x.at i hi
    rw [h, cells_get y.at i hi] at h1
    injection h1 with h1
    exact h1.symm
  refine ⟨fun i hi => ?_, fun i hi => ?_, fun i hi => ?_, ?_, ?_⟩
  · have := g i (by omega); rw [at_nx _ _ hi, at_nx _ _ hi] at this; simpa using this
  · have := g (64 + i) (by omega); rw [at_pv _ _ hi, at_pv _ _ hi] at this; simpa using this
  · have := g (128 + i) (by omega); rw [at_inn _ _ hi, at_inn _ _ hi] at this; simpa using this
  · have := g 192 (by omega); rw [at_hd, at_hd] at this; simpa using this
  · have := g 193 (by omega); rw [at_tl, at_tl] at this; simpa using this
end Go.Proofs.Ytgbhfagmbkoobaa
