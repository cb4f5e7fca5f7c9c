/-
  THE WALK OF linhayref15.Without; slices of numbers that a call makes.
-/
import Derived.Test.YtgbhfagmbkoobaaOf
import Derived.Deep.QuietTactic
import Derived.Deep.AppendLies
namespace Go.Proofs.Ytgbhfagmbkoobaa
open Go.RowKit
def ivL (l : List Int) : List Value := l.map (Value.int .i64)
/-- the call answers a slice that holds ys -/
def RetRow (ys : List Int) (w : World) (e : Ending) (w' : World) : Prop := ∃ A c, e = .returned (.slice A ys.length c) ∧ (A = none → c = 0) ∧ RowI w' A ys ∧ Below w.heap.size w w'
theorem own_nil {w : World} {base e size : Nat} {A : Option Addr} {m c : Nat} {n : Nat} {xs : List Value} (h : w.ownsRow base e size (.slice A m c) n xs) : A = none → c = 0 := by
  rintro rfl
  rcases h.2 with ⟨h, _⟩ | ⟨g, cap, cur, h, _⟩
  · injection h
  · injection h with h1; cases h1
theorem own_slice {w : World} {base e size : Nat} {v : Value} {n : Nat} {xs : List Value} (h : w.ownsRow base e size v n xs) : ∃ A c, v = .slice A n c := by
  rcases h.2 with ⟨rfl, rfl⟩ | ⟨g, cap, cur, rfl, _⟩
  · exact ⟨none, 0, rfl⟩
  · exact ⟨_, _, rfl⟩
theorem own_cellAt {w : World} {base e : Nat} {g n c : Nat} {xs : List Value} (h : w.ownsRow base e 1 (.slice (some ⟨g, 0, none⟩) n c) n xs) (j : Nat) (u : Value) (hj : xs[j]? = some u) : w.cell? ((⟨g, 0, none⟩ : Addr).add j) = some u :=
  h.cells (g := g) rfl j u hj
theorem RowI.own {w : World} {base n : Nat} {v : Value} {l : List Int} (h : w.ownsRow base 3 1 v n (ivL l)) : n = l.length ∧ ∃ A c, v = .slice A n c ∧ RowI w A l := by
  have hn : n = l.length := by have := h.1; simp [ivL] at this; omega
  obtain ⟨A, c, rfl⟩ := own_slice h
  refine ⟨hn, A, c, rfl, fun j hj => ?_⟩
  rcases h.2 with h2 | ⟨g, cap, cur, hv, hg, hh, r⟩
  · obtain ⟨h2, h3⟩ := h2
    omega
  · injection hv with hA _ hc
    subst hA
    subst hc
    exact ⟨⟨g, 0, none⟩, rfl, (h.lt g rfl).2, own_cellAt h j _ (by simp [ivL, hj])⟩
theorem info3 : (Try.prog.info? 3).map (fun i => (i.zero, i.size, i.bytes)) = some (some (.int .i64 0), 1, 8) := by kernel_rfl
theorem drewN_below {B : Nat} {a w : World} (h : Below B a w) (n : Nat) : Below B a (w.drewN n) := ⟨h.os, h.tape, h.output, h.size, h.block⟩
def woL (l : List Int) (id : Int) : List Int := l.filter fun a => a != id
theorem woL_succ (l : List Int) (id : Int) (k : Nat) (h : k < l.length) : woL (l.take (k + 1)) id = woL (l.take k) id ++ if l[k] != id then [l[k]] else [] := by
  unfold woL
  rw [List.take_succ_eq_append_getElem h, List.filter_append, List.filter_cons]
  split <;> simp
theorem woL_le (l : List Int) (id : Int) : (woL l id).length ≤ l.length := List.length_filter_le _ _
theorem one_cell (w : World) (x : Int) : ∀ (j : Nat) (u : Value), [Value.int .i64 x][j]? = some u → (w.alloc (.cells #[.int .i64 x] 3)).cell? ((⟨w.heap.size, 0, none⟩ : Addr).add j) = some u := by
  intro j u hj
  match j, hj with
  | 0, hj => (simp at hj; subst hj; rw [show (⟨w.heap.size, 0, none⟩ : Addr).add 0 = ⟨w.heap.size, 0, none⟩ from rfl, World.cell?_alloc_at _ _ _ _ (by simp)]; rfl)
theorem below_grown_alloc {a w w7 : World} {v : Value} {n : Nat} {xs : List Value} {o : Obj} (h : Below a.heap.size a w) (ho : w.ownsRow a.heap.size 3 1 v n xs) (hg : (w.alloc o).grownBy w7 v.ownBlock) : Below a.heap.size a w7 :=
  Below.grown (h.alloc h.size _) hg (by have := h.size; simp; omega) (fun k hk => (ho.lt k hk).1)
set_option maxRecDepth 100000 in
set_option maxHeartbeats 800000 in
theorem without_any (A : Option Addr) (c : Nat) (xs : List Int) (hn : xs.length ≤ 1000) (id : Int) (w : World) (hr : RowI w A xs) : Calls Try.prog 29 #[.slice A xs.length c, .int .i64 id] w (RetRow (woL xs id) w) := by
  have HR := Lib.hid hr
  clear hr
  obtain ⟨i0, hi, hz0, hz1, hz2⟩ := info_parts info3
  have HI := Lib.hid hi
  have HZ0 := Lib.hid hz0
  have HZ1 := Lib.hid hz1
  have HZ2 := Lib.hid hz2
  clear hi hz0 hz1 hz2
  go_enter Try.func29, Try.ntmps29
  go_wp2_with fail
  go_loopw [5, 6] (fun v i wr => ∃ (k n : Nat), k ≤ xs.length ∧ i = .int .i64 k ∧ wr.ownsRow w.heap.size 3 1 v n (ivL (woL (xs.take k) id)) ∧ Below w.heap.size w wr) (fun _ i _ => xs.length - (intOf i).toNat)
  case atStart => exact ⟨0, 0, by omega, rfl, World.ownsRow_nil _ _ _ _, Below.refl _ _⟩
  case round =>
    rename_i v5 v6
    obtain ⟨k, n, hk, rfl, ho, hbe⟩ := hrel
    have HO := Lib.hid ho
    have HE := Lib.hid hbe
    clear ho hbe
    by_cases hlt : k < xs.length
    · have hd : decide ((k : Int) < (xs.length : Int)) = true := by simp; omega
      obtain ⟨p, rfl, hpb, hp⟩ := (HR.out.below HE.out) k hlt
      have hs := woL_succ xs id k hlt
      have hn2 : n = (woL (xs.take k) id).length := by have := HO.out.1; simp [ivL] at this; omega
      have hn3 : n ≤ 1000 := by have := woL_le (xs.take k) id; rw [List.length_take] at this; omega
      have HN2 := Lib.hid hn2
      clear hn2
      obtain ⟨x, hx⟩ : ∃ x, x = xs[k] := ⟨_, rfl⟩
      rw [← hx] at hp hs
      clear hx
      by_cases hne : (x != id) = true
      · rw [hne, if_pos rfl] at hs
        have HS := Lib.hid hs
        clear hs
        go_wp2_with (first
          | (at_builtin; refine wpList_append_own _ rfl (.tmp 19) (.tmp 24) 22 rfl w.heap.size 3 i0 (.int .i64 0) 1 8 Try.underlying22 HI.out HZ0.out HZ1.out HZ2.out rfl (by decide) _ n _ rfl (HO.out.alloc _) ⟨wr.heap.size, 0, none⟩ 1 1 [.int .i64 x] rfl rfl ?c1 ?c2 ?c3 ?c4 ?c5 ?_)
          | fail)
        case c1 => exact one_cell wr x
        case c2 => intro u hu; simp at hu; subst hu; rfl
        case c3 => unfold maxLen; omega
        case c4 => omega
        case c5 => have := HE.out.size; simp; omega
        intro v7 w7 hown7 hgrow7 _
        have HO7 := Lib.hid hown7
        have HB7 : Hid (Below w.heap.size w w7) := Lib.hid (below_grown_alloc HE.out HO.out hgrow7)
        clear hown7 hgrow7
        go_wp2_with fail
        go_roundw
        case rel =>
          refine ⟨k + 1, n + 1, by omega, by go_num, ?_, HB7.out⟩
          rw [HS.out, ivL, List.map_append]
          exact HO7.out
        case measure => simp [intOf]; omega
      · have hne2 : (x != id) = false := by simpa using hne
        clear hne
        rw [hne2, if_neg (by simp), List.append_nil] at hs
        have HS := Lib.hid hs
        clear hs
        go_wp2_with fail
        go_roundw
        case rel => exact ⟨k + 1, n, by omega, by go_num, by rw [HS.out]; exact HO.out, HE.out⟩
        case measure => simp [intOf]; omega
    · have hd : decide ((k : Int) < (xs.length : Int)) = false := by simp; omega
      obtain ⟨hn2, A', c', rfl, hr'⟩ := RowI.own HO.out
      have HNIL := Lib.hid (own_nil HO.out)
      rw [List.take_of_length_le (by omega)] at hn2 hr'
      have HN2 := Lib.hid hn2
      have HR' := Lib.hid hr'
      clear hn2 hr'
      go_wp2_with fail
      go_ret
      exact ⟨A', c', by rw [HN2.out]; rfl, HNIL.out, HR'.out, HE.out⟩
end Go.Proofs.Ytgbhfagmbkoobaa
