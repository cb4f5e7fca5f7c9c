/-
  THE WALK OF linhayref08.Same.
-/
import Derived.Test.YtgbhfagmbkoobaaRefs
namespace Go.Proofs.Ytgbhfagmbkoobaa
open Go.RowKit
theorem take_succ_eq (l m : List Int) (k : Nat) (h1 : k < l.length) (h2 : k < m.length) (h : l.take k = m.take k) (e : l[k] = m[k]) : l.take (k + 1) = m.take (k + 1) := by
  rw [List.take_succ_eq_append_getElem h1, List.take_succ_eq_append_getElem h2, h, e]
set_option maxRecDepth 100000 in
set_option maxHeartbeats 400000 in
theorem same_any (A B : Option Addr) (c d : Nat) (l m : List Int) (hll : l.length ≤ 1000) (w : World) (hl : RowI w A l) (hm : RowI w B m) :
    Calls Try.prog 20 #[.slice A l.length c, .slice B m.length d] w fun e w' => e = .returned (.bool (decide (l = m))) ∧ Below w.heap.size w w' := by
  have HL := Lib.hid hl
  have HM := Lib.hid hm
  clear hl hm
  by_cases hlen : l.length = m.length
  · have hd0 : ((m.length : Int) == (m.length : Int)) = true := by simp
    rw [hlen]
    have HLEN := Lib.hid hlen
    clear hlen
    go_enter Try.func20, Try.ntmps20
    go_wp2
    go_loopw [5] (fun i wr => ∃ k : Nat, k ≤ m.length ∧ i = .int .i64 k ∧ Hid (l.take k = m.take k) ∧ Below w.heap.size w wr) (fun i _ => m.length - (intOf i).toNat)
    case atStart => exact ⟨0, by omega, rfl, rfl, Below.refl _ _⟩
    case round =>
      obtain ⟨k, hk, rfl, HT, hbe⟩ := hrel
      have HB := Lib.hid hbe
      clear hbe
      by_cases hlt : k < m.length
      · have hd : decide ((k : Int) < (m.length : Int)) = true := by simp; omega
        have hkl : k < l.length := by rw [HLEN.out]; exact hlt
        obtain ⟨p, rfl, hpb, hp0⟩ := HL.out k hkl
        obtain ⟨q, rfl, hqb, hq0⟩ := HM.out k hlt
        have hp : wr.cell? (p.add k) = some (.int .i64 l[k]) := by rw [HB.out.cell (by rw [Addr.add]; split <;> exact hpb)]; exact hp0
        have hq : wr.cell? (q.add k) = some (.int .i64 m[k]) := by rw [HB.out.cell (by rw [Addr.add]; split <;> exact hqb)]; exact hq0
        clear hp0 hq0
        by_cases he : l[k] = m[k]
        · have hne : (l[k] != m[k]) = false := by simp [he]
          go_wp2
          go_quiet (fail)
          go_wp2
          go_roundw
          case rel => exact ⟨k + 1, by omega, by go_num, take_succ_eq l m k hkl hlt HT.out he, drewN_below HB.out _⟩
          case measure => simp [intOf]; omega
        · have hne : (l[k] != m[k]) = true := by simp [he]
          have hd2 : decide (l = m) = false := by simp; intro e; subst e; exact he rfl
          go_wp2
          go_quiet (fail)
          go_wp2
          go_ret
          rw [hd2]
          exact ⟨rfl, drewN_below HB.out _⟩
      · have hd : decide ((k : Int) < (m.length : Int)) = false := by simp; omega
        have hlm : decide (l = m) = true := by
          have := HT.out
          have h9 := HLEN.out
          rw [List.take_of_length_le (by omega), List.take_of_length_le (by omega)] at this
          simpa using this
        go_wp2
        go_ret
        rw [hlm]
        exact ⟨rfl, HB.out⟩
  · have hd0 : ((l.length : Int) == (m.length : Int)) = false := by simp; omega
    have hd1 : ((l.length : Int) != (m.length : Int)) = true := by simp; omega
    have hd2 : decide (l = m) = false := by simp; intro e; subst e; exact hlen rfl
    go_enter Try.func20, Try.ntmps20
    go_wp2
    go_ret
    rw [hd2]
    exact ⟨rfl, Below.refl _ _⟩
end Go.Proofs.Ytgbhfagmbkoobaa
