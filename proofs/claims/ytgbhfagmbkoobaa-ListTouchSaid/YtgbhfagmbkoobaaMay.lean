/-
  THE WALK OF linhayref15.May.
-/
import Derived.Test.YtgbhfagmbkoobaaWithout
namespace Go.Proofs.Ytgbhfagmbkoobaa
open Go.RowKit
def MayP (xs : List Int) : Prop := (∀ x ∈ xs, 0 ≤ x ∧ x < 64) ∧ xs.Nodup
def MaySays (xs : List Int) (w : World) (e : Ending) (w' : World) : Prop := ∃ b : Bool, e = .returned (.bool b) ∧ (b = true ↔ MayP xs) ∧ Below w.heap.size w w'
theorem may_take {xs : List Int} (h : MayP xs) (k : Nat) : MayP (xs.take k) := ⟨fun x hx => h.1 x (List.mem_of_mem_take hx), h.2.sublist (List.take_sublist k xs)⟩
theorem may_succ {xs : List Int} {k : Nat} (hk : k < xs.length) (h : MayP (xs.take k)) (h0 : 0 ≤ xs[k] ∧ xs[k] < 64) (hn : xs[k] ∉ xs.take k) : MayP (xs.take (k + 1)) := by
  rw [List.take_succ_eq_append_getElem hk]
  refine ⟨fun x hx => ?_, ?_⟩
  · rcases List.mem_append.mp hx with hx | hx
    · exact h.1 x hx
    · simp at hx; subst hx; exact h0
  · rw [List.nodup_append]
    refine ⟨h.2, by simp, ?_⟩
    rintro a ha b hb rfl
    simp at hb
    subst hb
    exact hn ha
theorem not_may_range {xs : List Int} {k : Nat} (hk : k < xs.length) (h0 : ¬ (0 ≤ xs[k] ∧ xs[k] < 64)) : ¬ MayP xs := fun h => h0 (h.1 _ (List.getElem_mem hk))
theorem not_may_twice {xs : List Int} {j k : Nat} (hk : k < xs.length) (hj : j < k) (h0 : xs[j] = xs[k]) : ¬ MayP xs := fun h => by
  exact (List.pairwise_iff_getElem.mp h.2) j k (by omega) hk hj h0
theorem valid_may {l : List Nat} (h : Valid l) : MayP (castL l) := by
  refine ⟨fun x hx => ?_, ?_⟩
  · simp [castL] at hx
    obtain ⟨a, ha, rfl⟩ := hx
    have := h.1 a ha
    omega
  · unfold castL
    refine List.Pairwise.map _ (fun a b hab => ?_) h.2
    intro e
    exact hab (by omega)
theorem may_valid {xs : List Int} (h : MayP xs) : ∃ l, Valid l ∧ xs = castL l := by
  refine ⟨xs.map Int.toNat, ⟨?_, ?_⟩, ?_⟩
  · intro a ha
    simp at ha
    obtain ⟨x, hx, rfl⟩ := ha
    have := h.1 x hx
    omega
  · unfold List.Nodup
    rw [List.pairwise_map]
    refine List.Pairwise.imp_of_mem (fun {a b} ha hb hab => ?_) h.2
    have h1 := h.1 a ha
    have h2 := h.1 b hb
    omega
  · unfold castL
    rw [List.map_map]
    conv => lhs; rw [← List.map_id xs]
    apply List.map_congr_left
    intro x hx
    have := h.1 x hx
    simp
    omega
set_option maxRecDepth 100000 in
set_option maxHeartbeats 1600000 in
theorem may_any (A : Option Addr) (c : Nat) (xs : List Int) (hn : xs.length ≤ 1000) (w : World) (hr : RowI w A xs) : Calls Try.prog 26 #[.slice A xs.length c] w (MaySays xs w) := by
  have HR := Lib.hid hr
  clear hr
  go_enter Try.func26, Try.ntmps26
  go_wp2_with fail
  go_loopw [3, 4] (fun i _ wr => ∃ k : Nat, k ≤ xs.length ∧ i = .int .i64 k ∧ MayP (xs.take k) ∧ Below w.heap.size w wr) (fun i _ _ => xs.length - (intOf i).toNat)
  case atStart => exact ⟨0, by omega, rfl, ⟨by simp, by simp⟩, Below.refl _ _⟩
  case round =>
    obtain ⟨k, hk, rfl, hm, hbe⟩ := hrel
    have HM := Lib.hid hm
    have HE := Lib.hid hbe
    clear hm hbe
    by_cases hlt : k < xs.length
    · have hd : decide ((k : Int) < (xs.length : Int)) = true := by simp; omega
      obtain ⟨p, rfl, hpb, hp⟩ := (HR.out.below HE.out) k hlt
      obtain ⟨x, hx⟩ : ∃ x, x = xs[k] := ⟨_, rfl⟩
      rw [← hx] at hp
      have HX := Lib.hid hx
      clear hx
      by_cases h0 : x < 0
      · have h0' : decide (x < 0) = true := by simpa using h0
        have HN := Lib.hid (not_may_range hlt (by rw [← HX.out]; omega))
        clear h0
        go_wp2_with fail
        go_ret
        exact ⟨false, rfl, by simp [HN.out], HE.out⟩
      · have h0' : decide (x < 0) = false := by simpa using h0
        by_cases h1 : 63 < x
        · have h1' : decide (63 < x) = true := by simpa using h1
          have HN := Lib.hid (not_may_range hlt (by rw [← HX.out]; omega))
          clear h0 h1
          go_wp2_with fail
          go_ret
          exact ⟨false, rfl, by simp [HN.out], HE.out⟩
        · have h1' : decide (63 < x) = false := by simpa using h1
          have HIN := Lib.hid (show 0 ≤ x ∧ x < 64 by omega)
          clear h0 h1
          go_wp2_with fail
          have HR1 := Lib.hid (HR.out.below HE.out)
          obtain ⟨w0, hw0⟩ : ∃ w0 : World, w0 = wr := ⟨_, rfl⟩
          subst hw0
          go_loopw [4] (fun i wr => ∃ j : Nat, j ≤ k ∧ i = .int .i64 j ∧ Hid (∀ q (hq : q < xs.length), q < j → xs[q] ≠ x) ∧ Below w0.heap.size w0 wr) (fun i _ => k - (intOf i).toNat)
          case atStart => exact ⟨0, by omega, rfl, Lib.hid (fun q _ h => absurd h (by omega)), Below.refl _ _⟩
          case round =>
            obtain ⟨j, hj, rfl, HQ, hbe⟩ := hrel
            have HE2 := Lib.hid hbe
            clear hbe
            by_cases hlt2 : j < k
            · have hd2 : decide ((j : Int) < (k : Int)) = true := by simp; omega
              have hjx : j < xs.length := by omega
              obtain ⟨p', hpp, hpb', hp'⟩ := (HR1.out.below HE2.out) j hjx
              obtain ⟨p'', hpp', hpb'', hp''⟩ := (HR1.out.below HE2.out) k hlt
              obtain rfl : p = p' := by injection hpp
              obtain rfl : p = p'' := by injection hpp'
              rw [← HX.out] at hp''
              obtain ⟨y, hy⟩ : ∃ y, y = xs[j] := ⟨_, rfl⟩
              rw [← hy] at hp'
              have HY := Lib.hid hy
              clear hy hpp hpp' hp hpb'' hpb'
              by_cases hxy : y = x
              · have hxy' : (y == x) = true := by simpa using hxy
                have HN := Lib.hid (not_may_twice hlt hlt2 (by rw [← HX.out, ← HY.out]; exact hxy))
                clear hxy
                go_wp2
                go_quiet (fail)
                go_wp2
                go_ret
                exact ⟨false, rfl, by simp [HN.out], drewN_below (HE.out.trans (HE2.out.mono HE.out.size)) _⟩
              · have hxy' : (y == x) = false := by simpa using hxy
                have HXY := Lib.hid hxy
                clear hxy
                go_wp2
                go_quiet (fail)
                go_wp2
                go_roundw
                case rel =>
                  refine ⟨j + 1, by omega, by go_num, Lib.hid (fun q hq hqj => ?_), drewN_below HE2.out _⟩
                  rcases Nat.lt_succ_iff_lt_or_eq.mp hqj with h | rfl
                  · exact HQ.out q hq h
                  · rw [← HY.out]; exact HXY.out
                case measure => simp [intOf]; omega
            · have hd2 : decide ((j : Int) < (k : Int)) = false := by simp; omega
              obtain rfl : j = k := by omega
              have HS : Hid (MayP (xs.take (j + 1))) := by
                refine Lib.hid (may_succ hlt HM.out (by rw [← HX.out]; exact HIN.out) (fun hmem => ?_))
                obtain ⟨q, hq, e⟩ := List.mem_iff_getElem.mp hmem
                rw [List.getElem_take] at e
                rw [List.length_take] at hq
                exact HQ.out q (by omega) (by omega) (by rw [e, HX.out])
              go_wp2
              go_roundw
              case rel => exact ⟨j + 1, by omega, by go_num, HS.out, HE.out.trans (HE2.out.mono HE.out.size)⟩
              case measure => simp [intOf]; omega
    · have hd : decide ((k : Int) < (xs.length : Int)) = false := by simp; omega
      have hM := HM.out
      rw [List.take_of_length_le (by omega)] at hM
      have HM' := Lib.hid hM
      clear hM
      go_wp2_with fail
      go_ret
      exact ⟨true, rfl, by simp [HM'.out], HE.out⟩
end Go.Proofs.Ytgbhfagmbkoobaa
