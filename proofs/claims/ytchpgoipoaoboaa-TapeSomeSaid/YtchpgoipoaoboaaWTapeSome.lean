/-
  THE WALK OF TapeSome: it answers true.
-/
import Derived.Test.YtchpgoipoaoboaaAwake
import Derived.Deep.RegionHeld3
namespace Go.Proofs.Ytchpgoipoaoboaa
open Go.RowKit
open Lean Elab Tactic in
elab "tgt" : tactic => withMainContext do
  let t ← getMainTarget
  let t ← instantiateMVars t
  let s := toString (← Meta.ppExpr t)
  logInfo m!"{s.take 30000}"
theorem someRun_take (b : ByteArray) : ∀ (m M : Nat) (t : Int) (ls : List Int), m ≤ M → (someRun b M t ls).1.take m = (someRun b m t ls).1
  | 0, _, _, _, _ => rfl
  | m + 1, M + 1, t, ls, h => by
    rw [someRun, someRun]
    simp only [List.take_succ_cons]
    rw [someRun_take b m M _ _ (by omega)]
theorem someRun_good (b : ByteArray) : ∀ (m : Nat) (t : Int) (ls : List Int), m ≤ ls.length → ls.length ≤ 2147483647 → ls.Nodup → (∀ a ∈ (someRun b m t ls).1, a ∈ ls) ∧ (someRun b m t ls).1.Nodup
  | 0, _, _, _, _, _ => ⟨fun a h => (by cases h), List.Pairwise.nil⟩
  | m + 1, t, ls, h, h2, hn => by
    have hp := pick_lt b t ls.length (by omega) h2
    have hk : (pickN b t ls.length).toNat < ls.length := by omega
    rw [someRun_succ b m t ls _ rfl hk]
    have hlen : (ls.eraseIdx (pickN b t ls.length).toNat).length = ls.length - 1 := List.length_eraseIdx_of_lt hk
    have hsub : (ls.eraseIdx (pickN b t ls.length).toNat).Sublist ls := List.eraseIdx_sublist ls _
    obtain ⟨g1, g2⟩ := someRun_good b m (pickAt b t ls.length) (ls.eraseIdx (pickN b t ls.length).toNat) (by omega) (by omega) (hsub.nodup hn)
    have hnot : ls[(pickN b t ls.length).toNat] ∉ ls.eraseIdx (pickN b t ls.length).toNat := by
      generalize (pickN b t ls.length).toNat = k at *
      have e : ls = ls.take k ++ ls[k] :: ls.drop (k + 1) := by rw [List.getElem_cons_drop, List.take_append_drop]
      have hn2 : (ls.take k ++ ls[k] :: ls.drop (k + 1)).Nodup := e ▸ hn
      rw [List.nodup_append] at hn2
      rw [List.eraseIdx_eq_take_drop_succ, List.mem_append]
      obtain ⟨_, n2, n3⟩ := hn2
      rintro (q | q)
      · exact n3 _ q _ (List.mem_cons_self ..) rfl
      · exact (List.nodup_cons.1 n2).1 q
    refine ⟨?_, List.nodup_cons.2 ⟨fun q => hnot (g1 _ q), g2⟩⟩
    intro a ha
    rcases List.mem_cons.1 ha with rfl | ha
    · exact List.getElem_mem hk
    · exact hsub.subset (g1 a ha)
theorem someRun_end (b : ByteArray) : ∀ (m : Nat) (t : Int) (ls : List Int), m ≤ ls.length → ls.length ≤ 2147483647 → (t < 0 → (someRun b m t ls).2 = t) ∧ (0 ≤ t → (someRun b m t ls).2 - t = min (m : Int) (leftOf b t))
  | 0, t, _, _, _ => by
    refine ⟨fun _ => rfl, fun _ => ?_⟩
    show t - t = _
    unfold leftOf
    split
    · omega
    · split <;> omega
  | m + 1, t, ls, h, h2 => by
    have hp := pick_lt b t ls.length (by omega) h2
    have hk : (pickN b t ls.length).toNat < ls.length := by omega
    rw [someRun_succ b m t ls _ rfl hk]
    have hlen : (ls.eraseIdx (pickN b t ls.length).toNat).length = ls.length - 1 := List.length_eraseIdx_of_lt hk
    have hat : pickAt b t ls.length = drawAt b t := by rw [pickAt, if_pos ⟨by omega, by omega⟩]
    obtain ⟨g1, g2⟩ := someRun_end b m (pickAt b t ls.length) (ls.eraseIdx (pickN b t ls.length).toNat) (by omega) (by omega)
    rw [hat] at g1 g2 ⊢
    show (t < 0 → (someRun b m (drawAt b t) _).2 = t) ∧ (0 ≤ t → (someRun b m (drawAt b t) _).2 - t = _)
    by_cases hd : 0 ≤ t ∧ t < (b.size : Int) / 4
    · have e : drawAt b t = t + 1 := by rw [drawAt, if_pos hd]
      rw [e] at g1 g2 ⊢
      refine ⟨fun q => by omega, fun _ => ?_⟩
      have g3 := g2 (by omega)
      have l1 : leftOf b t = (b.size : Int) / 4 - t := by unfold leftOf; split; omega; split <;> omega
      have l2 : leftOf b (t + 1) = (b.size : Int) / 4 - (t + 1) := by unfold leftOf; split; omega; split <;> omega
      rw [l2] at g3
      rw [l1]
      omega
    · have e : drawAt b t = t := by rw [drawAt, if_neg hd]
      rw [e] at g1 g2 ⊢
      refine ⟨g1, fun q => ?_⟩
      have g3 := g2 q
      have l1 : leftOf b t = 0 := by unfold leftOf; split; omega; split <;> omega
      rw [l1] at g3 ⊢
      omega
theorem upto_nodup (k : Nat) : (upto k k).Nodup := by
  rw [List.nodup_iff_pairwise_ne, List.pairwise_iff_getElem]
  intro i j hi hj hlt
  rw [upto_length] at hi hj
  simp [upto]
  omega
theorem upto_mem (k : Nat) (a : Int) (h : a ∈ upto k k) : 0 ≤ a ∧ a < k := by
  simp only [upto, List.mem_map, List.mem_range] at h
  obtain ⟨i, hi, rfl⟩ := h
  rw [if_pos hi]
  omega
theorem RowI.take {w : World} {A : Option Addr} {l all : List Int} (h : RowI w A all) (hp : all.take l.length = l) : RowI w A l := by
  intro j hj
  have hle : l.length ≤ all.length := by
    have := congrArg List.length hp
    rw [List.length_take] at this
    omega
  obtain ⟨a, ha, hb, hc⟩ := h j (by omega)
  refine ⟨a, ha, hb, ?_⟩
  rw [hc]
  have e : (all.take l.length)[j]'(by rw [List.length_take]; omega) = all[j] := List.getElem_take
  have e2 : (all.take l.length)[j]'(by rw [List.length_take]; omega) = l[j] := by simp only [hp]
  rw [← e, e2]
theorem own_cap {w : World} {base e size n : Nat} {v : Value} {xs : List Value} (h : w.ownsRow base e size v n xs) {A : Option Addr} {c : Nat} (hv : v = .slice A n c) : n ≤ c := by
  rcases h.2 with h2 | ⟨g, cap, cur, hv2, _, _, r, _⟩
  · obtain ⟨_, h3, _⟩ := h2
    omega
  · rw [hv] at hv2
    injection hv2 with _ _ hc
    omega
theorem left_kept {W0 wk : World} {p : Prop} (b : ByteArray) (t : Int) (hb : b.size ≤ 10000) (ht : I64 t) (h : Below W0.heap.size W0 wk ∧ p) :
    Calls Try.prog 17 #[tp b t] wk fun e w' => e = .returned (.int .i64 (leftOf b t)) ∧ Below W0.heap.size W0 w' := by
  refine (left_any b t hb ht wk).mono ?_
  rintro e w' ⟨rfl, hb⟩
  exact ⟨rfl, below_two h.1 hb⟩
set_option linter.unusedSimpArgs false in
set_option maxRecDepth 100000 in
set_option maxHeartbeats 16000000 in
theorem tapeSome_yes (b : ByteArray) (t : Int) (n m k r q s : Nat) (l all : List Int) (u u2 : Int) (hb : b.size ≤ 1000) (ht : I64 t) (hr : (n : Int) % 50 = (r : Int)) (_hr2 : r < 50) (hk1 : (1 : Int) + (r : Int) = (k : Int))
    (hs : (m : Int) % 60 = (s : Int)) (_hs2 : s < 60) (hq1 : (1 : Int) + (s : Int) = (q : Int)) (HL : Hid (someOf b t k q = (l, u))) (HA : Hid (someOf b t k k = (all, u2))) (hll : l.length ≤ 50) (hal : all.length = k) (hlk : l.length ≤ k) (hj1 : ((l.length : Int) == min (k : Int) (q : Int)) = true) (HPRE : Hid (all.take l.length = l)) (HU1 : Hid (t < 0 → u = t)) (HU2 : Hid (0 ≤ t → u - t = min (l.length : Int) (leftOf b t))) (HIN : Hid (∀ x (h : x < l.length), decide (l[x] < 0) = false ∧ decide ((k : Int) ≤ l[x]) = false)) (HND : Hid (∀ x y (h : x < l.length) (h2 : y < x), (l[x] == l[y]'(by omega)) = false)) (w : World) :
    Calls Try.prog 6 #[tp b t, .int .u8 n, .int .u8 m] w fun e w' => e = .returned (.bool true) ∧ Below w.heap.size w w' := by
  have hd1 : decide (1000 < (b.size : Int)) = false := by simp; omega
  go_enter Try.func6, Try.ntmps6
  go_wp2_with fail
  refine (awake_any _).mono ?_
  rintro e w1 ⟨rfl, hb1⟩
  have HB := Lib.hid (below_box hb1)
  have Bt := Lib.hid ((Box.new w b t).below hb1)
  clear hb1
  obtain ⟨t0, t1, t2⟩ := Bt.out
  go_wp2_with fail
  refine (some_any b t k q (by omega) ht (by unfold I64; omega) (by unfold I64; omega) _).mono ?_
  rintro e w2 ⟨v, rfl, hown_, hb2⟩
  rw [HL.out] at hown_ ⊢
  replace HB := Lib.hid (below_two HB.out hb2)
  replace Bt := Lib.hid (Bt.out.below hb2)
  clear hb2 t0 t1 t2
  obtain ⟨A, c, rfl, hrow⟩ := RowI.own hown_
  have RW := Lib.hid hrow
  clear hown_ hrow
  go_wp2_with fail
  replace RW := Lib.hid (RW.out.below ((Below.refl _ _).alloc (Nat.le_refl _) (.cells #[.string b, .int .i64 u] 23)))
  replace HB := Lib.hid (below_two HB.out ((Below.refl _ _).alloc (Nat.le_refl _) (.cells #[.string b, .int .i64 u] 23)))
  replace Bt := Lib.hid (Bt.out.alloc (.cells #[.string b, .int .i64 u] 23))
  have Bu := Lib.hid (Box.new w2 b u)
  generalize w2.alloc (.cells #[.string b, .int .i64 u] 23) = W at *
  go_loopw [11] (fun i wr => ∃ x : Nat, x ≤ l.length ∧ i = .int .i64 x ∧ Below W.heap.size W wr) (fun i _ => l.length - (intOf i).toNat)
  case atStart => exact ⟨0, by omega, rfl, Below.refl _ _⟩
  case round =>
    obtain ⟨x, hx, rfl, hbe⟩ := hrel
    have HE := Lib.hid hbe
    clear hbe
    by_cases hlt : x < l.length
    · have hd : decide ((x : Int) < (l.length : Int)) = true := by simp; omega
      obtain ⟨p, rfl, hpb, hp⟩ := (RW.out.below HE.out) x hlt
      obtain ⟨c1, c2⟩ := HIN.out x hlt
      go_wp2
      go_loopw [12] (fun i wr => ∃ y : Nat, y ≤ x ∧ i = .int .i64 y ∧ Below W.heap.size W wr) (fun i _ => x - (intOf i).toNat)
      case atStart => exact ⟨0, by omega, rfl, HE.out⟩
      case round =>
        obtain ⟨y, hy, rfl, hbe⟩ := hrel
        clear HE hp hpb
        have HE := Lib.hid hbe
        clear hbe
        by_cases hlt2 : y < x
        · have hd2 : decide ((y : Int) < (x : Int)) = true := by simp; omega
          obtain ⟨p1, e1, hpb, hp⟩ := (RW.out.below HE.out) x hlt
          injection e1 with e1
          subst e1
          obtain ⟨p2, e2, hpb2, hp2⟩ := (RW.out.below HE.out) y (by omega)
          injection e2 with e2
          subst e2
          have hne := HND.out x y hlt hlt2
          go_wp2
          go_quiet (fail)
          go_wp2
          go_roundw
          case rel => exact ⟨y + 1, by omega, by go_num, below_drewN HE.out _⟩
          case measure => simp [intOf]; omega
        · have hd2 : decide ((y : Int) < (x : Int)) = false := by simp; omega
          go_wp2
          go_roundw
          case rel => exact ⟨x + 1, by omega, by go_num, HE.out⟩
          case measure => simp [intOf]; omega
    · have hd : decide ((x : Int) < (l.length : Int)) = false := by simp; omega
      obtain ⟨t0, t1, t2⟩ := Bt.out.below HE.out
      go_wp2_with fail
      refine (some_any b t k k (by omega) ht (by unfold I64; omega) (by unfold I64; omega) _).mono ?_
      rintro e w3 ⟨v, rfl, hown_, hb3⟩
      rw [HA.out] at hown_ ⊢
      replace HB := Lib.hid (below_two HB.out (below_two HE.out hb3))
      replace Bt := Lib.hid ((Bt.out.below HE.out).below hb3)
      replace Bu := Lib.hid ((Bu.out.below HE.out).below hb3)
      replace RW := Lib.hid ((RW.out.below HE.out).below hb3)
      clear hb3 t0 t1 t2 HE
      obtain ⟨A2, c3, rfl, hrow⟩ := RowI.own hown_
      have hcap : all.length ≤ c3 := own_cap hown_ rfl
      have hcap2 : l.length ≤ c3 := by omega
      have hmin : min (l.length : Int) (k : Int) = (l.length : Int) := by omega
      have RA := Lib.hid hrow
      clear hown_ hrow
      obtain ⟨t0, t1, t2⟩ := Bt.out
      go_wp2_with fail
      replace HB := Lib.hid (below_two HB.out ((Below.refl _ _).alloc (Nat.le_refl _) (.cells #[.string b, .int .i64 u2] 23)))
      replace Bt := Lib.hid (Bt.out.alloc (.cells #[.string b, .int .i64 u2] 23))
      replace Bu := Lib.hid (Bu.out.alloc (.cells #[.string b, .int .i64 u2] 23))
      replace RW := Lib.hid (RW.out.below ((Below.refl _ _).alloc (Nat.le_refl _) (.cells #[.string b, .int .i64 u2] 23)))
      replace RA := Lib.hid (RA.out.below ((Below.refl _ _).alloc (Nat.le_refl _) (.cells #[.string b, .int .i64 u2] 23)))
      clear t0 t1 t2
      generalize w3.alloc (.cells #[.string b, .int .i64 u2] 23) = W0 at *
      have HS : Hid (∀ w', Below W0.heap.size W0 w' → Below W0.heap.size W0 w' ∧ w'.cell? ⟨w.heap.size, 0, none⟩ = some (.string b) ∧ w'.cell? ⟨w.heap.size, 1, none⟩ = some (.int .i64 t) ∧ w'.cell? ⟨w2.heap.size, 0, none⟩ = some (.string b) ∧ w'.cell? ⟨w2.heap.size, 1, none⟩ = some (.int .i64 u)) := fun w' h => ⟨h, (Bt.out.below h).2.1, (Bt.out.below h).2.2, (Bu.out.below h).2.1, (Bu.out.below h).2.2⟩
      by_cases htn : t < 0
      · have hd5 : decide (t < 0) = true := by simpa using htn
        have hd6 : (u == t) = true := by simpa using HU1.out htn
        obtain ⟨_, y1, y2, y3, y4⟩ := HS.out _ (Below.refl _ _)
        go_region
        all_goals
          go_wp2_with fail
          refine (same_any A2 A c3 c l l (by omega) _ (RowI.take (RA.out.below (Below.refl _ _).drew) HPRE.out) (RW.out.below (Below.refl _ _).drew)).mono ?_
          rintro e w5 ⟨rfl, hb5⟩
          rw [show decide (l = l) = true by simp]
          obtain ⟨g0, g1, g2⟩ := (Bt.out.below (Below.refl _ _).drew).below hb5
          obtain ⟨f0, f1, f2⟩ := (Bu.out.below (Below.refl _ _).drew).below hb5
          go_wp2_with fail
          go_ret
          exact ⟨rfl, below_two HB.out (below_two (Below.refl _ _).drew hb5)⟩
      · have hd5 : decide (t < 0) = false := by simpa using htn
        have hd6 : decide (0 ≤ t) = true := by simp; omega
        have hd7 := HU2.out (by omega)
        have hd8 : (u - t == min (l.length : Int) (leftOf b t)) = true := by simpa using hd7
        have hlo : 0 ≤ leftOf b t ∧ leftOf b t ≤ 250 := by unfold leftOf; split <;> (try split) <;> omega
        have hI5 : IntKind.i64.wrap (u - t) = u - t := by rw [IntKind.wrap_i64]; omega
        clear hd7 hlo
        refine wp_region_held_drew (S := (fun w' => Below W0.heap.size W0 w' ∧ w'.cell? ⟨w.heap.size, 0, none⟩ = some (.string b) ∧ w'.cell? ⟨w.heap.size, 1, none⟩ = some (.int .i64 t) ∧ w'.cell? ⟨w2.heap.size, 0, none⟩ = some (.string b) ∧ w'.cell? ⟨w2.heap.size, 1, none⟩ = some (.int .i64 u))) (by kernel_rfl) (HS.out _ (Below.refl _ _).drew) (fun hHeld => ?_)
        refine wpAnyH_take (i := 0) (v := (.pointer (some ⟨w.heap.size, 1, none⟩))) rfl (by kernel_rfl) (by kernel_rfl) (by kernel_rfl) (fun _ _ _ h => h) (Or.inl ⟨by kernel_rfl, fun w' hSw => by (obtain ⟨z0, z1, z2, z3, z4⟩ := hSw; go_simp)⟩) (by assumption) ?_
        simp only [Act.put, List.setIfInBounds_toArray, List.set_cons_zero, List.set_cons_succ]
        refine wpAnyH_take (i := 1) (v := (.int .i64 t)) rfl (by kernel_rfl) (by kernel_rfl) (by kernel_rfl) (fun _ _ _ h => h) (Or.inl ⟨by kernel_rfl, fun w' hSw => by (obtain ⟨z0, z1, z2, z3, z4⟩ := hSw; go_simp)⟩) (by assumption) ?_
        simp only [Act.put, List.setIfInBounds_toArray, List.set_cons_zero, List.set_cons_succ]
        refine wpAnyH_take (i := 2) (v := (.bool false)) rfl (by kernel_rfl) (by kernel_rfl) (by kernel_rfl) (fun _ _ _ h => h) (Or.inl ⟨by kernel_rfl, fun w' hSw => by (obtain ⟨z0, z1, z2, z3, z4⟩ := hSw; go_simp)⟩) (by assumption) ?_
        simp only [Act.put, List.setIfInBounds_toArray, List.set_cons_zero, List.set_cons_succ]
        refine wpAnyH_take (i := 3) (v := (.bool false)) rfl (by kernel_rfl) (by kernel_rfl) (by kernel_rfl) (fun _ _ _ h => h) (Or.inl ⟨by kernel_rfl, fun w' hSw => by (obtain ⟨z0, z1, z2, z3, z4⟩ := hSw; go_simp)⟩) (by assumption) ?_
        simp only [Act.put, List.setIfInBounds_toArray, List.set_cons_zero, List.set_cons_succ]
        refine wpAnyH_take (i := 4) (v := undef) rfl (by kernel_rfl) (by kernel_rfl) (by kernel_rfl) (fun _ _ _ h => h) (Or.inr ⟨by kernel_rfl, rfl⟩) (by assumption) ?_
        simp only [Act.put, List.setIfInBounds_toArray, List.set_cons_zero, List.set_cons_succ]
        refine wpAnyH_take (i := 5) (v := undef) rfl (by kernel_rfl) (by kernel_rfl) (by kernel_rfl) (fun _ _ _ h => h) (Or.inr ⟨by kernel_rfl, rfl⟩) (by assumption) ?_
        simp only [Act.put, List.setIfInBounds_toArray, List.set_cons_zero, List.set_cons_succ]
        refine wpAnyH_take (i := 6) (v := undef) rfl (by kernel_rfl) (by kernel_rfl) (by kernel_rfl) (fun _ _ _ h => h) (Or.inr ⟨by kernel_rfl, rfl⟩) (by assumption) ?_
        simp only [Act.put, List.setIfInBounds_toArray, List.set_cons_zero, List.set_cons_succ]
        refine wpAnyH_take (i := 7) (v := undef) rfl (by kernel_rfl) (by kernel_rfl) (by kernel_rfl) (fun _ _ _ h => h) (Or.inr ⟨by kernel_rfl, rfl⟩) (by assumption) ?_
        simp only [Act.put, List.setIfInBounds_toArray, List.set_cons_zero, List.set_cons_succ]
        refine wpAnyH_take (i := 8) (v := undef) rfl (by kernel_rfl) (by kernel_rfl) (by kernel_rfl) (fun _ _ _ h => h) (Or.inr ⟨by kernel_rfl, rfl⟩) (by assumption) ?_
        simp only [Act.put, List.setIfInBounds_toArray, List.set_cons_zero, List.set_cons_succ]
        refine wpAnyH_take (i := 9) (v := (.bool false)) rfl (by kernel_rfl) (by kernel_rfl) (by kernel_rfl) (fun _ _ _ h => h) (Or.inl ⟨by kernel_rfl, fun w' hSw => by (obtain ⟨z0, z1, z2, z3, z4⟩ := hSw; go_simp)⟩) (by assumption) ?_
        simp only [Act.put, List.setIfInBounds_toArray, List.set_cons_zero, List.set_cons_succ]
        refine wpAnyH_take (i := 10) (v := (.bool false)) rfl (by kernel_rfl) (by kernel_rfl) (by kernel_rfl) (fun _ _ _ h => h) (Or.inl ⟨by kernel_rfl, fun w' hSw => by (obtain ⟨z0, z1, z2, z3, z4⟩ := hSw; go_simp)⟩) (by assumption) ?_
        simp only [Act.put, List.setIfInBounds_toArray, List.set_cons_zero, List.set_cons_succ]
        refine wpAnyH_take (i := 11) (v := (.pointer (some ⟨w.heap.size, 1, none⟩))) rfl (by kernel_rfl) (by kernel_rfl) (by kernel_rfl) (fun _ _ _ h => h) (Or.inl ⟨by kernel_rfl, fun w' hSw => by (obtain ⟨z0, z1, z2, z3, z4⟩ := hSw; go_simp)⟩) (by assumption) ?_
        simp only [Act.put, List.setIfInBounds_toArray, List.set_cons_zero, List.set_cons_succ]
        refine wpAnyH_take (i := 12) (v := (.int .i64 t)) rfl (by kernel_rfl) (by kernel_rfl) (by kernel_rfl) (fun _ _ _ h => h) (Or.inl ⟨by kernel_rfl, fun w' hSw => by (obtain ⟨z0, z1, z2, z3, z4⟩ := hSw; go_simp)⟩) (by assumption) ?_
        simp only [Act.put, List.setIfInBounds_toArray, List.set_cons_zero, List.set_cons_succ]
        refine wpAnyH_take (i := 13) (v := (.bool true)) rfl (by kernel_rfl) (by kernel_rfl) (by kernel_rfl) (fun _ _ _ h => h) (Or.inl ⟨by kernel_rfl, fun w' hSw => by (obtain ⟨z0, z1, z2, z3, z4⟩ := hSw; go_simp)⟩) (by assumption) ?_
        simp only [Act.put, List.setIfInBounds_toArray, List.set_cons_zero, List.set_cons_succ]
        refine wpAnyH_take (i := 14) (v := (.bool true)) rfl (by kernel_rfl) (by kernel_rfl) (by kernel_rfl) (fun _ _ _ h => h) (Or.inl ⟨by kernel_rfl, fun w' hSw => by (obtain ⟨z0, z1, z2, z3, z4⟩ := hSw; go_simp)⟩) (by assumption) ?_
        simp only [Act.put, List.setIfInBounds_toArray, List.set_cons_zero, List.set_cons_succ]
        refine wpAnyH_take (i := 15) (v := (.pointer (some ⟨w2.heap.size, 1, none⟩))) rfl (by kernel_rfl) (by kernel_rfl) (by kernel_rfl) (fun _ _ _ h => h) (Or.inl ⟨by kernel_rfl, fun w' hSw => by (obtain ⟨z0, z1, z2, z3, z4⟩ := hSw; go_simp)⟩) (by assumption) ?_
        simp only [Act.put, List.setIfInBounds_toArray, List.set_cons_zero, List.set_cons_succ]
        refine wpAnyH_take (i := 16) (v := (.int .i64 u)) rfl (by kernel_rfl) (by kernel_rfl) (by kernel_rfl) (fun _ _ _ h => h) (Or.inl ⟨by kernel_rfl, fun w' hSw => by (obtain ⟨z0, z1, z2, z3, z4⟩ := hSw; go_simp)⟩) (by assumption) ?_
        simp only [Act.put, List.setIfInBounds_toArray, List.set_cons_zero, List.set_cons_succ]
        refine wpAnyH_take (i := 17) (v := (.pointer (some ⟨w.heap.size, 1, none⟩))) rfl (by kernel_rfl) (by kernel_rfl) (by kernel_rfl) (fun _ _ _ h => h) (Or.inl ⟨by kernel_rfl, fun w' hSw => by (obtain ⟨z0, z1, z2, z3, z4⟩ := hSw; go_simp)⟩) (by assumption) ?_
        simp only [Act.put, List.setIfInBounds_toArray, List.set_cons_zero, List.set_cons_succ]
        refine wpAnyH_take (i := 18) (v := (.int .i64 t)) rfl (by kernel_rfl) (by kernel_rfl) (by kernel_rfl) (fun _ _ _ h => h) (Or.inl ⟨by kernel_rfl, fun w' hSw => by (obtain ⟨z0, z1, z2, z3, z4⟩ := hSw; go_simp)⟩) (by assumption) ?_
        simp only [Act.put, List.setIfInBounds_toArray, List.set_cons_zero, List.set_cons_succ]
        refine wpAnyH_take (i := 19) (v := (.int .i64 (u - t))) rfl (by kernel_rfl) (by kernel_rfl) (by kernel_rfl) (fun _ _ _ h => h) (Or.inl ⟨by kernel_rfl, fun w' hSw => by (obtain ⟨z0, z1, z2, z3, z4⟩ := hSw; go_simp)⟩) (by assumption) ?_
        simp only [Act.put, List.setIfInBounds_toArray, List.set_cons_zero, List.set_cons_succ]
        refine wpAnyH_take (i := 20) (v := (.slice A l.length c)) rfl (by kernel_rfl) (by kernel_rfl) (by kernel_rfl) (fun _ _ _ h => h) (Or.inl ⟨by kernel_rfl, fun w' hSw => by (obtain ⟨z0, z1, z2, z3, z4⟩ := hSw; go_simp)⟩) (by assumption) ?_
        simp only [Act.put, List.setIfInBounds_toArray, List.set_cons_zero, List.set_cons_succ]
        refine wpAnyH_take (i := 21) (v := (.int .i64 (l.length : Int))) rfl (by kernel_rfl) (by kernel_rfl) (by kernel_rfl) (fun _ _ _ h => h) (Or.inl ⟨by kernel_rfl, fun w' hSw => by (obtain ⟨z0, z1, z2, z3, z4⟩ := hSw; go_simp)⟩) (by assumption) ?_
        simp only [Act.put, List.setIfInBounds_toArray, List.set_cons_zero, List.set_cons_succ]
        refine wpAnyH_take (i := 22) (v := (.agg #[.string b, .int .i64 t])) rfl (by kernel_rfl) (by kernel_rfl) (by kernel_rfl) (fun _ _ _ h => h) (Or.inl ⟨by kernel_rfl, fun w' hSw => by (obtain ⟨z0, z1, z2, z3, z4⟩ := hSw; go_simp)⟩) (by assumption) ?_
        simp only [Act.put, List.setIfInBounds_toArray, List.set_cons_zero, List.set_cons_succ]
        refine wpAnyH_ready (rs := [23]) (by kernel_rfl) (by simp) ?_
        refine AllReadyH.cons rfl (fun K hK => ?_) AllReadyH.nil
        rw [if_pos (by kernel_rfl)]
        go_simp
        refine (left_kept (p := True) b t (by omega) ht ⟨(Below.refl _ _).drew, True.intro⟩).mono ?_
        rintro e w4 ⟨rfl, hb4⟩
        have HN := Lib.hid hb4
        clear hb4
        go_wp2_with fail
        refine hK.out _ _ (HS.out _ HN.out) (fun hHeld => ?_)
        refine wpAnyH_take (i := 24) (v := (.int .i64 (min (l.length : Int) (leftOf b t)))) rfl (by kernel_rfl) (by kernel_rfl) (by kernel_rfl) (fun _ _ _ h => h) (Or.inl ⟨by kernel_rfl, fun w' hSw => by (obtain ⟨z0, z1, z2, z3, z4⟩ := hSw; go_simp)⟩) (by assumption) ?_
        simp only [Act.put, List.setIfInBounds_toArray, List.set_cons_zero, List.set_cons_succ]
        refine wpAnyH_take (i := 25) (v := (.bool true)) rfl (by kernel_rfl) (by kernel_rfl) (by kernel_rfl) (fun _ _ _ h => h) (Or.inl ⟨by kernel_rfl, fun w' hSw => by (obtain ⟨z0, z1, z2, z3, z4⟩ := hSw; go_simp)⟩) (by assumption) ?_
        simp only [Act.put, List.setIfInBounds_toArray, List.set_cons_zero, List.set_cons_succ]
        refine wpAnyH_take (i := 26) (v := (.bool true)) rfl (by kernel_rfl) (by kernel_rfl) (by kernel_rfl) (fun _ _ _ h => h) (Or.inl ⟨by kernel_rfl, fun w' hSw => by (obtain ⟨z0, z1, z2, z3, z4⟩ := hSw; go_simp)⟩) (by assumption) ?_
        simp only [Act.put, List.setIfInBounds_toArray, List.set_cons_zero, List.set_cons_succ]
        refine wpAnyH_take (i := 27) (v := (.bool true)) rfl (by kernel_rfl) (by kernel_rfl) (by kernel_rfl) (fun _ _ _ h => h) (Or.inl ⟨by kernel_rfl, fun w' hSw => by (obtain ⟨z0, z1, z2, z3, z4⟩ := hSw; go_simp)⟩) (by assumption) ?_
        simp only [Act.put, List.setIfInBounds_toArray, List.set_cons_zero, List.set_cons_succ]
        refine wpAnyH_take (i := 28) (v := (.bool true)) rfl (by kernel_rfl) (by kernel_rfl) (by kernel_rfl) (fun _ _ _ h => h) (Or.inl ⟨by kernel_rfl, fun w' hSw => by (obtain ⟨z0, z1, z2, z3, z4⟩ := hSw; go_simp)⟩) (by assumption) ?_
        simp only [Act.put, List.setIfInBounds_toArray, List.set_cons_zero, List.set_cons_succ]
        refine wpAnyH_done (by kernel_rfl) ?_ _
        go_wp2_with fail
        refine (same_any A2 A c3 c l l (by omega) _ (RowI.take (RA.out.below HN.out) HPRE.out) (RW.out.below HN.out)).mono ?_
        rintro e w5 ⟨rfl, hb5⟩
        rw [show decide (l = l) = true by simp]
        obtain ⟨g0, g1, g2⟩ := (Bt.out.below HN.out).below hb5
        obtain ⟨f0, f1, f2⟩ := (Bu.out.below HN.out).below hb5
        go_wp2_with fail
        go_ret
        exact ⟨rfl, below_two HB.out (below_two HN.out hb5)⟩
set_option maxRecDepth 100000 in
set_option maxHeartbeats 400000 in
theorem tapeSome_no (b : ByteArray) (t x y : Int) (h : decide (1000 < (b.size : Int)) = true) (w : World) :
    Calls Try.prog 6 #[tp b t, .int .u8 x, .int .u8 y] w fun e w' => e = .returned (.bool true) ∧ Below w.heap.size w w' := by
  go_enter Try.func6, Try.ntmps6
  go_wp2_with fail
  refine (awake_any _).mono ?_
  rintro e w1 ⟨rfl, hb1⟩
  have HB := Lib.hid (below_box hb1)
  have Bt := Lib.hid ((Box.new w b t).below hb1)
  clear hb1
  obtain ⟨t0, t1, t2⟩ := Bt.out
  go_wp2_with fail
  go_ret
  exact ⟨rfl, HB.out⟩
theorem wf_u8s {a : Int} (h : (Lit.int .u8 a).wf = true) : ∃ n : Nat, a = n ∧ n < 256 := by
  have h1 : IntKind.u8.min = 0 := rfl
  have h2 : IntKind.u8.max = 255 := rfl
  simp only [Lit.wf, Bool.and_eq_true, decide_eq_true_eq] at h
  exact ⟨a.toNat, by omega, by omega⟩
theorem wf_i64_4 {t : Int} (h : (Lit.int .i64 t).wf = true) : I64 t := by
  have h1 : IntKind.i64.min = -9223372036854775808 := rfl
  have h2 : IntKind.i64.max = 9223372036854775807 := rfl
  simp only [Lit.wf, Bool.and_eq_true, decide_eq_true_eq] at h
  unfold I64
  omega
theorem someOf_yes (b : ByteArray) (t : Int) (k q : Nat) (hk1 : 1 ≤ k) (hk2 : k ≤ 50) (hq : 1 ≤ q) : someOf b t k q = someRun b (min k q) t (upto k k) := by
  unfold someOf
  rw [if_pos ⟨by omega, by omega, by omega⟩, Int.toNat_natCast, show (min (k : Int) (q : Int)).toNat = min k q by omega]
theorem tapeSome_walk (b : ByteArray) (t x y : Int) (_wb : b.size ≤ maxLen) (wt : (Lit.int .i64 t).wf = true) (wx : (Lit.int .u8 x).wf = true) (wy : (Lit.int .u8 y).wf = true) (w : World) :
    Calls Try.prog 6 #[tp b t, .int .u8 x, .int .u8 y] w fun e w' => e = .returned (.bool true) ∧ Below w.heap.size w w' := by
  by_cases h1000 : b.size ≤ 1000
  · obtain ⟨n, rfl, hn⟩ := wf_u8s wx
    obtain ⟨m, rfl, hm⟩ := wf_u8s wy
    obtain ⟨k, hk⟩ : ∃ k, k = 1 + n % 50 := ⟨_, rfl⟩
    obtain ⟨q, hq⟩ : ∃ q, q = 1 + m % 60 := ⟨_, rfl⟩
    have hgood := someRun_good b (min k q) t (upto k k) (by rw [upto_length]; omega) (by rw [upto_length]; omega) (upto_nodup k)
    have hend := someRun_end b (min k q) t (upto k k) (by rw [upto_length]; omega) (by rw [upto_length]; omega)
    have hlen := someRun_length b (min k q) t (upto k k)
    have hlen2 := someRun_length b k t (upto k k)
    have htake := someRun_take b (min k q) k t (upto k k) (by omega)
    refine tapeSome_yes b t n m k (n % 50) q (m % 60) (someRun b (min k q) t (upto k k)).1 (someRun b k t (upto k k)).1 (someRun b (min k q) t (upto k k)).2 (someRun b k t (upto k k)).2 h1000 (wf_i64_4 wt) (by omega) (by omega) (by omega) (by omega) (by omega) (by omega) ?_ ?_ (by omega) hlen2 (by omega) (by rw [hlen]; simp; omega) ?_ hend.1 ?_ ?_ ?_ w
    · exact someOf_yes b t k q (by omega) (by omega) (by omega)
    · have e := someOf_yes b t k k (by omega) (by omega) (by omega)
      rw [Nat.min_self] at e
      exact e
    · rw [hlen]; exact htake
    · rw [hlen]; exact hend.2
    · intro i hi
      have h := upto_mem k _ (hgood.1 _ (List.getElem_mem hi))
      constructor
      · simp; omega
      · simp; omega
    · intro i j hi hj
      have h := List.pairwise_iff_getElem.1 (List.nodup_iff_pairwise_ne.1 hgood.2) j i (by omega) hi hj
      simp
      exact fun e => h e.symm
  · exact tapeSome_no b t x y (by simp; omega) w
end Go.Proofs.Ytchpgoipoaoboaa
