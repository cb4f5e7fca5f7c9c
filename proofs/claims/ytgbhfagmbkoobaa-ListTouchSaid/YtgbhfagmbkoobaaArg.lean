/-
  What an argument reads as: a list by value, numbers; and that it reads behind the call as it read ahead of it.
-/
import Derived.Test.YtgbhfagmbkoobaaLaw0
import Derived.OpenShut
import Derived.ChangeReads
import Derived.ChangeOld
import Derived.ReadAgain
namespace Go.Proofs.Ytgbhfagmbkoobaa
open Go.RowKit Go.WideShapes Go.ChangeShapes
theorem trodAll_carry {H : Type} {enc : TypeId × Value → H} {P : Program} {w w' : World} {base : Nat} {spare : Nat → Bool} {held : Bool} : ∀ {ts : List TypeId} {vs : List Value} {ds : List (DataW H)} {ps : List MemPlace},
    DataW.TrodAll enc P w base spare held ts vs ds ps → (∀ p ∈ ps, w.sameAt w' p) → DataW.TrodAll enc P w' base spare held ts vs ds ps
  | [], [], [], _, h, _ => h
  | _ :: _, _ :: _, _ :: _, _, ⟨p, q, ⟨n, h⟩, hs, e⟩, hp => by
    subst e
    exact ⟨p, q, ⟨n, DataW.trod_carry n _ _ _ h (fun x hx => hp x (List.mem_append_left _ hx))⟩, trodAll_carry hs (fun x hx => hp x (List.mem_append_right _ hx)), rfl⟩
theorem trodAll_below {H : Type} {enc : TypeId × Value → H} {P : Program} {w w' : World} {base : Nat} {spare : Nat → Bool} {held : Bool} {ts : List TypeId} {vs : List Value} {ds : List (DataW H)} {ps : List MemPlace}
    (h : DataW.TrodAll enc P w base spare held ts vs ds ps) (hb : Below w.heap.size w w') : DataW.TrodAll enc P w' base spare held ts vs ds ps :=
  trodAll_carry h fun p hp => hb.same (h.lt p hp)
theorem try_kids : Kids Try.prog (· < Try.prog.types.size) := kids_rows (by kernel_rfl) (by kernel_rfl)
theorem try_full : ∀ t e, t < Try.prog.types.size → Try.prog.underlying t = some (.slice e) → 0 < Try.prog.cellsOf e := slices_full_of Try.prog (by kernel_rfl)
theorem trodAll_after {H : Type} {enc : TypeId × Value → H} {w w' : World} {base : Nat} {ts : List TypeId} {vs : List Value} {ds : List (DataW H)} {ps : List MemPlace} (ht : ∀ t ∈ ts, t < Try.prog.types.size)
    (h : DataW.TrodAll enc Try.prog w base (fun _ => true) true ts vs ds ps) (hb : Below w.heap.size w w') : DataW.TrodAll enc Try.prog w' base (fun b => decide (b < w.heap.size)) true ts vs ds ps :=
  DataW.TrodAll.respare try_kids try_full ht (trodAll_below h hb) (fun p hp => decide_eq_true (h.lt p hp))
theorem cells23' : Try.prog.cellsOf 23 = 64 := by kernel_rfl
theorem cells24' : Try.prog.cellsOf 24 = 64 := by kernel_rfl
theorem cells26' : Try.prog.cellsOf 26 = 194 := by kernel_rfl
theorem take_one {L : List Value} {i : Nat} {v : Value} (h : (L.drop i).take 1 = [v]) : L[i]? = some v := by
  have := congrArg (fun l : List Value => l[0]?) h
  simpa [List.getElem?_take, List.getElem?_drop] using this
theorem row_int {H : Type} {enc : TypeId × Value → H} {w : World} {base n : Nat} {spare : Nat → Bool} {held : Bool} {cs : List Value} {y : DataW H × List MemPlace} (h : DataW.trod enc Try.prog w base spare held n 23 cs = some y) : ∀ i, i < 64 → ∃ a, cs[i]? = some (.int .i64 a) := by
  intro i hi
  obtain ⟨xs, m, _, _, _, hl, hx⟩ := DataW.trod_array Try.underlying23 h
  have h1 := hx i hi
  rw [cells3, Nat.mul_one, List.getElem?_eq_getElem (by omega)] at h1
  obtain ⟨a, ha, _, _⟩ := DataW.trod_int Try.underlying3 h1
  exact ⟨a, take_one ha⟩
theorem row_bool {H : Type} {enc : TypeId × Value → H} {w : World} {base n : Nat} {spare : Nat → Bool} {held : Bool} {cs : List Value} {y : DataW H × List MemPlace} (h : DataW.trod enc Try.prog w base spare held n 24 cs = some y) : ∀ i, i < 64 → ∃ a, cs[i]? = some (.bool a) := by
  intro i hi
  obtain ⟨xs, m, _, _, _, hl, hx⟩ := DataW.trod_array Try.underlying24 h
  have h1 := hx i hi
  rw [cells4, Nat.mul_one, List.getElem?_eq_getElem (by omega)] at h1
  obtain ⟨a, ha, _⟩ := DataW.trod_bool Try.underlying4 h1
  exact ⟨a, take_one ha⟩
def bOf : Value → Bool
  | .bool b => b
  | _ => false
theorem open_list {H : Type} {enc : TypeId × Value → H} {w : World} {r : Reach} {b0 base : Nat} {spare : Nat → Bool} {held : Bool} {v : Value} {d : DataW H} {p : List MemPlace} (hv : Value.okWide Try.prog w r b0 26 v) (h : DataW.Trod enc Try.prog w base spare held 26 v d p) : ∃ x : Ls, v = .agg (cells x.at) := by
  obtain ⟨cs, rfl, hsz⟩ := okWide_struct Try.underlying26 hv
  rw [cells26'] at hsz
  obtain ⟨n, hn⟩ := h
  obtain ⟨xs, m, _, _, _, hl, hf⟩ := DataW.trod_struct Try.underlying26 hn
  have hl5 : xs.length = 5 := hl
  have get : ∀ i (f : Field), ((#[{ name := "Next", type := 23, offset := 0, embedded := false, tag := "", pkgPath := "", byteOffset := 0 }, { name := "Prev", type := 23, offset := 64, embedded := false, tag := "", pkgPath := "", byteOffset := 512 },
        { name := "In", type := 24, offset := 128, embedded := false, tag := "", pkgPath := "", byteOffset := 1024 }, { name := "Head", type := 3, offset := 192, embedded := false, tag := "", pkgPath := "", byteOffset := 1088 },
        { name := "Tail", type := 3, offset := 193, embedded := false, tag := "", pkgPath := "", byteOffset := 1096 }] : Array Field))[i]? = some f → i < 5 → ∃ y, DataW.trod enc Try.prog w base spare held m f.type ((cs.toList.drop f.offset).take (Try.prog.cellsOf f.type)) = some y := fun i f hi hlt =>
    ⟨xs[i]'(by omega), (hf i f hi).trans (List.getElem?_eq_getElem (by omega))⟩
  obtain ⟨y0, g0⟩ : ∃ y, DataW.trod enc Try.prog w base spare held m 23 ((cs.toList.drop 0).take (Try.prog.cellsOf 23)) = some y := get 0 _ rfl (by omega)
  obtain ⟨y1, g1⟩ : ∃ y, DataW.trod enc Try.prog w base spare held m 23 ((cs.toList.drop 64).take (Try.prog.cellsOf 23)) = some y := get 1 _ rfl (by omega)
  obtain ⟨y2, g2⟩ : ∃ y, DataW.trod enc Try.prog w base spare held m 24 ((cs.toList.drop 128).take (Try.prog.cellsOf 24)) = some y := get 2 _ rfl (by omega)
  obtain ⟨y3, g3⟩ : ∃ y, DataW.trod enc Try.prog w base spare held m 3 ((cs.toList.drop 192).take (Try.prog.cellsOf 3)) = some y := get 3 _ rfl (by omega)
  obtain ⟨y4, g4⟩ : ∃ y, DataW.trod enc Try.prog w base spare held m 3 ((cs.toList.drop 193).take (Try.prog.cellsOf 3)) = some y := get 4 _ rfl (by omega)
  have r0 : ∀ i, i < 64 → ∃ a, ((cs.toList.drop 0).take 64)[i]? = some (.int .i64 a) := by have := row_int g0; rwa [cells23'] at this
  have r1 : ∀ i, i < 64 → ∃ a, ((cs.toList.drop 64).take 64)[i]? = some (.int .i64 a) := by have := row_int g1; rwa [cells23'] at this
  have r2 : ∀ i, i < 64 → ∃ a, ((cs.toList.drop 128).take 64)[i]? = some (.bool a) := by have := row_bool g2; rwa [cells24'] at this
  rw [cells3] at g3 g4
  obtain ⟨hd, e3, _, _⟩ := DataW.trod_int Try.underlying3 g3
  obtain ⟨tl, e4, _, _⟩ := DataW.trod_int Try.underlying3 g4
  have e3 := take_one e3
  have e4 := take_one e4
  have e3' : cs[192]? = some (.int .i64 hd) := by rw [← Array.getElem?_toList]; exact e3
  have e4' : cs[193]? = some (.int .i64 tl) := by rw [← Array.getElem?_toList]; exact e4
  have at0 : ∀ o i, i < 64 → ((cs.toList.drop o).take 64)[i]? = cs[o + i]? := fun o i hi => by
    rw [List.getElem?_take, if_pos hi, List.getElem?_drop, Array.getElem?_toList]
  refine ⟨⟨fun i => intOf (cs.getD i undef), fun i => intOf (cs.getD (64 + i) undef), fun i => bOf (cs.getD (128 + i) undef), hd, tl⟩, ?_⟩
  congr 1
  apply Array.ext_getElem?
  intro j
  have getD : ∀ i (u : Value), cs[i]? = some u → cs.getD i undef = u := fun i u hu => by simp [hu]
  by_cases hj : j < 194
  · rw [cells_get _ _ hj]
    unfold Ls.at
    by_cases h1 : j < 64
    · obtain ⟨a, ha⟩ := r0 j h1
      rw [at0 0 j h1, Nat.zero_add] at ha
      rw [if_pos h1, ha]
      show _ = some (Value.int .i64 (intOf (cs.getD j undef)))
      rw [getD j _ ha]; rfl
    · rw [if_neg h1]
      by_cases h2 : j < 128
      · obtain ⟨a, ha⟩ := r1 (j - 64) (by omega)
        rw [at0 64 (j - 64) (by omega)] at ha
        rw [if_pos h2]
        show _ = some (Value.int .i64 (intOf (cs.getD (64 + (j - 64)) undef)))
        rw [getD _ _ ha]
        show _ = some (Value.int .i64 a)
        rw [← ha, show 64 + (j - 64) = j by omega]
      · rw [if_neg h2]
        by_cases h3 : j < 192
        · obtain ⟨a, ha⟩ := r2 (j - 128) (by omega)
          rw [at0 128 (j - 128) (by omega)] at ha
          rw [if_pos h3]
          show _ = some (Value.bool (bOf (cs.getD (128 + (j - 128)) undef)))
          rw [getD _ _ ha]
          show _ = some (Value.bool a)
          rw [← ha, show 128 + (j - 128) = j by omega]
        · rw [if_neg h3]
          by_cases h4 : j < 193
          · obtain rfl : j = 192 := by omega
            rw [if_pos h4, e3']
          · obtain rfl : j = 193 := by omega
            rw [if_neg h4, e4']
  · rw [Array.getElem?_eq_none (by omega), Array.getElem?_eq_none (by rw [cells_size]; omega)]
theorem okWide_slice_one {w : World} {r : Reach} {b : Nat} {t e : TypeId} {v : Value} (ht : Try.prog.underlying t = some (.slice e)) (h : Value.okWide Try.prog w r b t v) : v.cells = #[v] := by
  obtain ⟨a, len, cap, rfl⟩ := okWide_slice ht h
  rfl
theorem open_row {H : Type} {enc : TypeId × Value → H} {w : World} {r : Reach} {b0 base : Nat} {spare : Nat → Bool} {held : Bool} {v : Value} {d : DataW H} {p : List MemPlace} (hv : Value.okWide Try.prog w r b0 22 v) (h : DataW.Trod enc Try.prog w base spare held 22 v d p) :
    ∃ A c l, v = .slice A l.length c ∧ l.length ≤ 9223372036854775807 ∧ RowI w A l := by
  obtain ⟨n, hn⟩ := h
  rw [okWide_slice_one Try.underlying22 hv] at hn
  rcases open_ints Try.underlying22 Try.underlying3 cells3 hn with ⟨e, _⟩ | ⟨a, len, cap, zs, e, _, hlc, hm, hz, _, hc, _⟩
  · simp at e
    subst e
    exact ⟨none, 0, [], rfl, by simp, fun j hj => absurd hj (by simp)⟩
  · simp at e
    subst e
    have hlz : len ≤ zs.length := by rw [hz]; split <;> omega
    have hle : (zs.take len).length = len := by rw [List.length_take]; omega
    refine ⟨some a, cap, zs.take len, by rw [hle], by rw [hle]; unfold maxLen at hm; omega, fun j hj => ?_⟩
    rw [hle] at hj
    have h1 := hc j (by omega)
    refine ⟨a, rfl, ?_, ?_⟩
    · have := block_lt_of_cell h1
      rwa [add_block] at this
    · rw [h1, List.getElem_take]
      simp [List.getD, List.getElem?_eq_getElem (show j < zs.length by omega)]
end Go.Proofs.Ytgbhfagmbkoobaa
