/-
  What some acts read as; the numbers that acts leave, and those that the law asks for.
-/
import Derived.Test.YtgbhfagmbkoobaaArg
namespace Go.Proofs.Ytgbhfagmbkoobaa
open Go.RowKit Go.WideShapes Go.ChangeShapes
/-- the acts l are what the slice holds -/
def RowA (w : World) (A : Option Addr) (l : List (Bool × Int)) : Prop := ∀ j (h : j < l.length), ∃ a, A = some a ∧ a.block < w.heap.size ∧ w.cell? (a.add (j * 2)) = some (.bool l[j].1) ∧ w.cell? ((a.add (j * 2)).add 1) = some (.int .i64 l[j].2)
theorem RowA.below {w w1 : World} {A : Option Addr} {l : List (Bool × Int)} (h : RowA w A l) (hb : Below w.heap.size w w1) : RowA w1 A l := by
  intro j hj
  obtain ⟨a, ha, hlt, hc, hd⟩ := h j hj
  exact ⟨a, ha, Nat.lt_of_lt_of_le hlt hb.size, by rw [hb.cell (by rw [add_block]; exact hlt)]; exact hc, by rw [hb.cell (by rw [add_block, add_block]; exact hlt)]; exact hd⟩
theorem cells43 : Try.prog.cellsOf 43 = 2 := by kernel_rfl
theorem open_acts {H : Type} {enc : TypeId × Value → H} {w : World} {r : Reach} {b0 base : Nat} {spare : Nat → Bool} {held : Bool} {v : Value} {d : DataW H} {p : List MemPlace} (hv : Value.okWide Try.prog w r b0 40 v) (h : DataW.Trod enc Try.prog w base spare held 40 v d p) :
    ∃ A c l, v = .slice A l.length c ∧ l.length ≤ 9223372036854775807 ∧ RowA w A l := by
  obtain ⟨n, hn⟩ := h
  rw [okWide_slice_one Try.underlying40 hv] at hn
  rcases DataW.trod_slice Try.underlying40 hn with ⟨e, _⟩ | ⟨a, len, cap, elems, rest, m, _, e, _, _, hlc, hm, hel, hx, _⟩
  · simp at e
    subst e
    exact ⟨none, 0, [], rfl, by simp, fun j hj => absurd hj (by simp)⟩
  · simp at e
    subst e
    let l : List (Bool × Int) := (List.range len).map fun i => (bOf ((w.cell? (a.add (i * 2))).getD undef), intOf ((w.cell? ((a.add (i * 2)).add 1)).getD undef))
    have hl : l.length = len := by simp [l]
    refine ⟨some a, cap, l, by rw [hl], by rw [hl]; unfold maxLen at hm; omega, fun j hj => ?_⟩
    rw [hl] at hj
    have h1 := hx j hj
    rw [cells43, List.getElem?_eq_getElem (by omega), Option.bind_eq_some_iff] at h1
    obtain ⟨cs, hcs, ht⟩ := h1
    obtain ⟨xs, k, _, _, _, hxl, hf⟩ := DataW.trod_struct Try.underlying43 ht
    obtain ⟨hb, hlen, hc⟩ := World.cells?_some hcs
    have g0 : ∃ y, DataW.trod enc Try.prog w base spare held k 4 ((cs.drop 0).take (Try.prog.cellsOf 4)) = some y := ⟨xs[0]'(by have : xs.length = 2 := hxl; omega), (hf 0 _ rfl).trans (List.getElem?_eq_getElem (by have : xs.length = 2 := hxl; omega))⟩
    have g1 : ∃ y, DataW.trod enc Try.prog w base spare held k 3 ((cs.drop 1).take (Try.prog.cellsOf 3)) = some y := ⟨xs[1]'(by have : xs.length = 2 := hxl; omega), (hf 1 _ rfl).trans (List.getElem?_eq_getElem (by have : xs.length = 2 := hxl; omega))⟩
    obtain ⟨y0, g0⟩ := g0
    obtain ⟨y1, g1⟩ := g1
    rw [cells4] at g0
    rw [cells3] at g1
    obtain ⟨b, e0, _⟩ := DataW.trod_bool Try.underlying4 g0
    obtain ⟨z, e1, _, _⟩ := DataW.trod_int Try.underlying3 g1
    have e0 := take_one e0
    have e1 := take_one e1
    have c0 := hc 0 (by omega)
    have c1 := hc 1 (by omega)
    rw [add0, e0] at c0
    rw [e1] at c1
    have hlj : l[j] = (b, z) := by simp [l, c0, c1, bOf, intOf]
    refine ⟨a, rfl, ?_, by rw [hlj]; exact c0, by rw [hlj]; exact c1⟩
    have := block_lt_of_cell c0
    rwa [add_block] at this
/-- the numbers that acts leave -/
def runA (s : List (Bool × Int)) (l : List Nat) : List Nat := s.foldl (fun l a => actL l a.1 a.2) l
def lateB (s : List (Bool × Int)) (id : Int) : Bool := s.any fun b => b.2 == id
def keepB (s : List (Bool × Int)) (a : Bool × Int) : Bool := !lateB s a.2 && (!a.1 && (decide (0 ≤ a.2) && decide (a.2 < 64)))
/-- those that the law asks for -/
def wantR : List (Bool × Int) → List Int
  | [] => []
  | a :: s => wantR s ++ if keepB s a then [a.2] else []
theorem runA_valid : ∀ (s : List (Bool × Int)) (l : List Nat), Valid l → Valid (runA s l)
  | [], _, h => h
  | a :: s, _, h => runA_valid s _ (actL_valid h a.1 a.2)
theorem run_want : ∀ (s : List (Bool × Int)) (l : List Nat), Valid l → castL (runA s l) = wantR s ++ castL (l.filter fun k : Nat => !lateB s (k : Int))
  | [], l, _ => by
    have : l.filter (fun k : Nat => !lateB [] (k : Int)) = l := by rw [List.filter_eq_self]; intro a _; rfl
    rw [this]; rfl
  | a :: s, l, hv => by
    have ih := run_want s (actL l a.1 a.2) (actL_valid hv a.1 a.2)
    show castL (runA s (actL l a.1 a.2)) = (wantR s ++ if keepB s a then [a.2] else []) ++ _
    rw [ih, List.append_assoc]
    congr 1
    have hl : ∀ k : Nat, lateB (a :: s) (k : Int) = (a.2 == (k : Int) || lateB s (k : Int)) := fun k => rfl
    by_cases h : 0 ≤ a.2 ∧ a.2 < 64
    · obtain ⟨k, hk⟩ := Int.eq_ofNat_of_zero_le h.1
      have hd0 : decide (0 ≤ a.2) = true := by simpa using h.1
      have hd1 : decide (a.2 < 64) = true := by simpa using h.2
      have he : (l.filter fun j : Nat => !lateB (a :: s) (j : Int)) = (l.erase k).filter fun j : Nat => !lateB s (j : Int) := by
        rw [hv.2.erase_eq_filter, List.filter_filter]
        apply List.filter_congr
        intro j _
        rw [hl, hk]
        have : ((k : Int) == (j : Int)) = (j == k) := by rw [Bool.eq_iff_iff, beq_iff_eq, beq_iff_eq]; omega
        rw [this]
        cases hj : j == k <;> cases lateB s (j : Int) <;> simp_all
      have hact : ∀ b, actL l b a.2 = if b then l.erase k else k :: l.erase k := fun b => by
        unfold actL; rw [if_pos h, hk, Int.toNat_natCast]
      rw [he, hact]
      unfold keepB
      rw [hd0, hd1, hk]
      cases a.1 <;> cases hls : lateB s (k : Int) <;> simp [castL, hls]
    · have hk0 : keepB s a = false := by
        unfold keepB
        cases lateB s a.2 <;> cases a.1 <;> simp <;> omega
      have hact : actL l a.1 a.2 = l := by unfold actL; rw [if_neg h]
      rw [hk0, hact]
      congr 1
      apply List.filter_congr
      intro j hj
      rw [hl]
      have h1 := hv.1 j hj
      have : (a.2 == (j : Int)) = false := by rw [beq_eq_false_iff_ne]; omega
      rw [this]; rfl
theorem want_all (s : List (Bool × Int)) : castL (runA s []) = wantR s := by
  rw [run_want s [] ⟨by simp, by simp⟩]; simp [castL]
theorem want_le : ∀ s : List (Bool × Int), (wantR s).length ≤ s.length
  | [] => by simp [wantR]
  | a :: s => by
    have := want_le s
    show (wantR s ++ if keepB s a then [a.2] else []).length ≤ _
    split <;> simp <;> omega
theorem runA_take (s : List (Bool × Int)) (i : Nat) (h : i < s.length) : runA (s.take (i + 1)) [] = actL (runA (s.take i) []) s[i].1 s[i].2 := by
  unfold runA
  rw [List.take_succ_eq_append_getElem h, List.foldl_append]; rfl
theorem want_drop (s : List (Bool × Int)) (i : Nat) (h : i < s.length) : wantR (s.drop i) = wantR (s.drop (i + 1)) ++ if keepB (s.drop (i + 1)) s[i] then [s[i].2] else [] := by
  rw [List.drop_eq_getElem_cons h]; rfl
theorem late_iff (s : List (Bool × Int)) (i : Nat) (id : Int) : lateB (s.drop (i + 1)) id = true ↔ ∃ q, ∃ h : q < s.length, i < q ∧ (s[q]'h).2 = id := by
  unfold lateB
  rw [List.any_eq_true]
  constructor
  · rintro ⟨b, hb, he⟩
    obtain ⟨j, hj, rfl⟩ := List.mem_iff_getElem.mp hb
    rw [List.length_drop] at hj
    refine ⟨i + 1 + j, by omega, by omega, ?_⟩
    rw [List.getElem_drop] at he
    simpa using he
  · rintro ⟨q, hq, hi, he⟩
    refine ⟨s[q], ?_, by simpa using he⟩
    rw [List.mem_iff_getElem]
    exact ⟨q - (i + 1), by rw [List.length_drop]; omega, by rw [List.getElem_drop]; congr 1; omega⟩
end Go.Proofs.Ytgbhfagmbkoobaa
