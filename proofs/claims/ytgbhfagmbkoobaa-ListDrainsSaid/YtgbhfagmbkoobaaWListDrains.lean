/-
  THE WALK OF ListDrains.
-/
import Derived.Test.YtgbhfagmbkoobaaLaw0
namespace Go.Proofs.Ytgbhfagmbkoobaa
open Go.RowKit
theorem Valid.take {l : List Nat} (h : Valid l) (q : Nat) : Valid (l.take q) := ⟨fun a ha => h.1 a (List.mem_of_mem_take ha), h.2.sublist (List.take_sublist q l)⟩
theorem RowI.setRow {w : World} {A : Option Addr} {l : List Int} {g : Nat} (h : RowI w A l) (hne : ∀ a, A = some a → a.block ≠ g) (cs : Array Value) : RowI (w.setRow g cs) A l := by
  intro j hj
  obtain ⟨a, ha, hlt, hc⟩ := h j hj
  refine ⟨a, ha, by rw [size_setRow]; exact hlt, ?_⟩
  rw [r_other _ (by rw [add_block]; exact hne a ha)]
  exact hc
theorem order_freshc (l : List Nat) (hv : Valid l) (w : World) : Calls Try.prog 12 #[.agg (cells (toldL l).at)] w fun e w' => ∃ A c, e = .returned (.tuple #[.slice A (castL l).length c, .bool true]) ∧ RowI w' A (castL l) ∧ FreshA A w.heap.size ∧ Below w.heap.size w w' := by
  rw [castL_len]; exact order_fresh l hv w
theorem last_nil_any (l : List Nat) (h : l = []) (w : World) : Calls Try.prog 18 #[.agg (cells (toldL l).at)] w (AnsN 0 false w) := by
  subst h; exact last_nil w
attribute [local go_sem] zero26
set_option maxRecDepth 100000 in
set_option maxHeartbeats 1600000 in
theorem drains_none (x : Ls) (hx : NoTell x) (w : World) : Calls Try.prog 6 #[.agg (cells x.at)] w fun e w' => e = .returned (.bool true) ∧ Below w.heap.size w w' := by
  have HXN := Lib.hid hx
  clear hx
  go_enter Try.func6, Try.ntmps6
  go_wp2_with fail
  refine (awake_any _).mono ?_
  rintro e w1 ⟨rfl, hb1⟩
  have HX := Lib.hid (Lies.below (g := w.heap.size) (c := x.at) ⟨heap_alloc_last w _⟩ hb1)
  have HB := Lib.hid (below_alloc1 hb1)
  clear hb1
  go_wp2_with (first
    | (refine wpList_load_row rfl 26 (.tmp 1) rfl w.heap.size rfl 26 _ (0, 0) _ HX.out.row Try.underlying26 rfl (size26 _) ?_)
    | fail)
  refine (order_none x HXN.out _).mono ?_
  rintro e w2 ⟨rfl, hb2⟩
  have HX2 := Lib.hid (HX.out.below hb2)
  have HB2 := Lib.hid (HB.out.trans (hb2.mono HB.out.size))
  clear hb2
  go_wp2_with (first
    | (refine wpList_load_row rfl 26 (.tmp 1) rfl w.heap.size rfl 26 _ (0, 0) _ HX2.out.row Try.underlying26 rfl (size26 _) ?_)
    | fail)
  refine (last_none x HXN.out _).mono ?_
  rintro e w3 ⟨rfl, hb3⟩
  have HB3 := Lib.hid (HB2.out.trans (hb3.mono HB2.out.size))
  clear hb3
  go_wp2_with fail
  go_ret
  exact ⟨rfl, HB3.out⟩
set_option maxRecDepth 100000 in
set_option maxHeartbeats 3000000 in
theorem drains_told (l : List Nat) (hv : Valid l) (w : World) : Calls Try.prog 6 #[.agg (cells (toldL l).at)] w fun e w' => e = .returned (.bool true) ∧ Below w.heap.size w w' := by
  have hl64 := hv.len
  have HV := Lib.hid hv
  clear hv
  go_enter Try.func6, Try.ntmps6
  go_wp2_with fail
  refine (awake_any _).mono ?_
  rintro e w1 ⟨rfl, hb1⟩
  have HX := Lib.hid (Lies.below (g := w.heap.size) (c := (toldL l).at) ⟨heap_alloc_last w _⟩ hb1)
  have HB := Lib.hid (below_alloc1 hb1)
  clear hb1
  go_wp2_with (first
    | (refine wpList_load_row rfl 26 (.tmp 1) rfl w.heap.size rfl 26 _ (0, 0) _ HX.out.row Try.underlying26 rfl (size26 _) ?_)
    | fail)
  refine (order_freshc l HV.out _).mono ?_
  rintro e w2 ⟨A, c, rfl, hrow, hfr, hb2⟩
  have HX2 := Lib.hid (HX.out.below hb2)
  have HB2 := Lib.hid (HB.out.trans (hb2.mono HB.out.size))
  have HR2 := Lib.hid hrow
  have HNE : Hid (∀ a, A = some a → a.block ≠ w.heap.size) := Lib.hid fun a ha => by
    have h1 := hfr a ha
    have h2 := HX.out.lt
    omega
  have hlc := castL_len l
  obtain ⟨n, hn⟩ : ∃ n, n = (castL l).length := ⟨_, rfl⟩
  rw [← hn]
  have hn100 : n ≤ 64 := by omega
  have hwn : IntKind.i64.wrap ((n : Int) - 1) = (n : Int) - 1 := by rw [IntKind.wrap_i64]; omega
  have HN := Lib.hid hn
  clear hb2 hrow HX HB hlc hn hfr
  go_wp2_with fail
  clear hwn
  go_loopw [8] (fun i wr => ∃ (k : Nat) (z : Int), k ≤ n ∧ i = .int .i64 z ∧ Hid (z = (k : Int) - 1) ∧ Lies wr w.heap.size (toldL (l.take k)).at ∧ Below w.heap.size w wr ∧ RowI wr A (castL l)) (fun i _ => ((intOf i) + 1).toNat)
  case atStart =>
    refine ⟨n, (n : Int) - 1, Nat.le_refl _, rfl, Lib.hid rfl, ?_, HB2.out, HR2.out⟩
    have h : l.take n = l := by rw [List.take_of_length_le]; rw [HN.out, castL_len]; omega
    rw [h]; exact HX2.out
  case round =>
    clear HX2 HB2 HR2
    obtain ⟨k, z, hk, rfl, HZ, hx, hbe, hr⟩ := hrel
    have HX := Lib.hid hx
    have HB := Lib.hid hbe
    have HR := Lib.hid hr
    clear hx hbe hr
    rcases Nat.eq_zero_or_pos k with rfl | hkp
    · obtain rfl : z = -1 := by have := HZ.out; omega
      have hd : decide ((0 : Int) ≤ -1) = false := by simp
      go_wp2_with (first
        | (refine wpList_load_row rfl 26 (.tmp 1) rfl w.heap.size rfl 26 _ (0, 0) _ HX.out.row Try.underlying26 rfl (size26 _) ?_)
        | fail)
      refine (last_nil_any (l.take 0) List.take_zero _).mono ?_
      rintro e w4 ⟨rfl, hb4⟩
      have HX4 := Lib.hid (HX.out.below hb4)
      have HB4 := Lib.hid (HB.out.trans (hb4.mono HB.out.size))
      clear hb4
      go_wp2_with fail
      refine wp_region_held_drew (S := (fun w' => Below w4.heap.size w4 w')) (by kernel_rfl) ((Below.refl _ _).drew) (fun hHeld => ?_)
      refine wpAnyH_take (i := 0) (v := (.bool true)) rfl (by kernel_rfl) (by kernel_rfl) (by kernel_rfl) (fun _ _ _ h => h) (Or.inl ⟨by kernel_rfl, fun w' hSw => by go_simp⟩) (by assumption) ?_
      simp only [Act.put, List.getElem_toArray, List.getElem_cons_zero, List.setIfInBounds_toArray, List.set_cons_zero, List.set_cons_succ]
      refine wpAnyH_take (i := 1) (v := (.bool true)) rfl (by kernel_rfl) (by kernel_rfl) (by kernel_rfl) (fun _ _ _ h => h) (Or.inl ⟨by kernel_rfl, fun w' hSw => by go_simp⟩) (by assumption) ?_
      simp only [Act.put, List.getElem_toArray, List.getElem_cons_succ, List.getElem_cons_zero, List.setIfInBounds_toArray, List.set_cons_zero, List.set_cons_succ]
      refine wpAnyH_take (i := 2) (v := (.bool false)) rfl (by kernel_rfl) (by kernel_rfl) (by kernel_rfl) (fun _ _ _ h => h) (Or.inl ⟨by kernel_rfl, fun w' hSw => by go_simp⟩) (by assumption) ?_
      simp only [Act.put, List.getElem_toArray, List.getElem_cons_succ, List.getElem_cons_zero, List.setIfInBounds_toArray, List.set_cons_zero, List.set_cons_succ]
      refine wpAnyH_take (i := 3) (v := (.bool true)) rfl (by kernel_rfl) (by kernel_rfl) (by kernel_rfl) (fun _ _ _ h => h) (Or.inl ⟨by kernel_rfl, fun w' hSw => by go_simp⟩) (by assumption) ?_
      simp only [Act.put, List.getElem_toArray, List.getElem_cons_succ, List.getElem_cons_zero, List.setIfInBounds_toArray, List.set_cons_zero, List.set_cons_succ]
      refine wpAnyH_take (i := 4) (v := (.bool true)) rfl (by kernel_rfl) (by kernel_rfl) (by kernel_rfl) (fun _ _ _ h => h) (Or.inl ⟨by kernel_rfl, fun w' hSw => by go_simp⟩) (by assumption) ?_
      simp only [Act.put, List.getElem_toArray, List.getElem_cons_succ, List.getElem_cons_zero, List.setIfInBounds_toArray, List.set_cons_zero, List.set_cons_succ]
      refine wpAnyH_take (i := 5) (v := (.bool true)) rfl (by kernel_rfl) (by kernel_rfl) (by kernel_rfl) (fun _ _ _ h => h) (Or.inl ⟨by kernel_rfl, fun w' hSw => by go_simp⟩) (by assumption) ?_
      simp only [Act.put, List.getElem_toArray, List.getElem_cons_succ, List.getElem_cons_zero, List.setIfInBounds_toArray, List.set_cons_zero, List.set_cons_succ]
      refine wpAnyH_take (i := 6) (v := .agg (cells (toldL (l.take 0)).at)) rfl (by kernel_rfl) (by kernel_rfl) (by kernel_rfl) (fun _ _ _ h => h) (Or.inl ⟨by kernel_rfl, fun w' hSw => run_load_op w' _ _ 26 (.tmp 1) rfl w.heap.size 0 rfl _ (HX4.out.below hSw).load⟩) (by assumption) ?_
      simp only [Act.put, List.getElem_toArray, List.getElem_cons_succ, List.getElem_cons_zero, List.setIfInBounds_toArray, List.set_cons_zero, List.set_cons_succ]
      refine wpAnyH_ready (rs := [7]) (by kernel_rfl) (by simp) ?_
      refine AllReadyH.cons rfl (fun K hK => ?_) AllReadyH.nil
      rw [if_pos (by kernel_rfl)]
      go_simp
      refine (new_any _).mono ?_
      rintro e w5 ⟨rfl, hb5⟩
      have HN5 := Lib.hid (below_drew3 hb5)
      clear hb5
      go_wp2_with fail
      refine hK.out _ _ HN5.out (fun hHeld => ?_)
      refine wpAnyH_take (i := 8) (v := .bool true) rfl (by kernel_rfl) (by kernel_rfl) (by kernel_rfl) (fun _ _ _ h => h) (Or.inl ⟨by kernel_rfl, fun w' hSw => run_op26e w' _ _ (.tmp 77) (.tmp 78) rfl (toldL (l.take 0)) newL rfl rfl true (eqB_refl _)⟩) (by assumption) ?_
      simp only [Act.put, List.getElem_toArray, List.getElem_cons_succ, List.getElem_cons_zero, List.setIfInBounds_toArray, List.set_cons_zero, List.set_cons_succ]
      refine wpAnyH_take (i := 9) (v := (.bool true)) rfl (by kernel_rfl) (by kernel_rfl) (by kernel_rfl) (fun _ _ _ h => h) (Or.inl ⟨by kernel_rfl, fun w' hSw => by go_simp⟩) (by assumption) ?_
      simp only [Act.put, List.getElem_toArray, List.getElem_cons_succ, List.getElem_cons_zero, List.setIfInBounds_toArray, List.set_cons_zero, List.set_cons_succ]
      refine wpAnyH_take (i := 10) (v := (.bool true)) rfl (by kernel_rfl) (by kernel_rfl) (by kernel_rfl) (fun _ _ _ h => h) (Or.inl ⟨by kernel_rfl, fun w' hSw => by go_simp⟩) (by assumption) ?_
      simp only [Act.put, List.getElem_toArray, List.getElem_cons_succ, List.getElem_cons_zero, List.setIfInBounds_toArray, List.set_cons_zero, List.set_cons_succ]
      refine wpAnyH_done (by kernel_rfl) ?_ _
      go_wp2_with fail
      go_ret
      exact ⟨rfl, HB4.out.trans (HN5.out.mono HB4.out.size)⟩
    · obtain ⟨q, rfl⟩ : ∃ q, k = q + 1 := ⟨k - 1, by omega⟩
      obtain rfl : z = (q : Int) := by have := HZ.out; omega
      have hd : decide ((0 : Int) ≤ (q : Int)) = true := by simp
      have hql : q < l.length := by have := HN.out; rw [castL_len] at this; omega
      obtain ⟨hq2, eq⟩ := castL_at l q hql
      have htk : l.take (q + 1) = l.take q ++ [l[q]] := List.take_succ_eq_append_getElem hql
      have hvq : Valid (l.take q ++ [l[q]]) := by rw [← htk]; exact HV.out.take _
      rw [htk] at HX
      obtain ⟨b, hb⟩ : ∃ b, b = l[q] := ⟨_, rfl⟩
      rw [← hb] at hvq HX eq
      have HVQ := Lib.hid hvq
      have HEQ := Lib.hid eq
      have hnb : ((b : Int) != (b : Int)) = false := by simp
      have hw1 : IntKind.i64.wrap ((q : Int) - 1) = (q : Int) - 1 := by rw [IntKind.wrap_i64]; omega
      have hqn : q < n := by omega
      clear hvq eq hb htk
      go_wp2_with (first
        | (refine wpList_load_row rfl 26 (.tmp 1) rfl w.heap.size rfl 26 _ (0, 0) _ HX.out.row Try.underlying26 rfl (size26 _) ?_)
        | fail)
      refine (last_some _ b HVQ.out _).mono ?_
      rintro e w4 ⟨rfl, hb4⟩
      have HX4 := Lib.hid (HX.out.below hb4)
      have HR4 := Lib.hid (HR.out.below hb4)
      have HB4 := Lib.hid (HB.out.trans (hb4.mono HB.out.size))
      clear hb4 HX HR HB
      go_wp2_with (first
        | (refine wpList_load_row rfl 26 (.tmp 1) rfl w.heap.size rfl 26 _ (0, 0) _ HX4.out.row Try.underlying26 rfl (size26 _) ?_)
        | fail)
      refine (last_drop _ b HVQ.out _).mono ?_
      rintro e w5 ⟨rfl, hb5⟩
      have HX5 := Lib.hid (HX4.out.below hb5)
      have HR5 := Lib.hid (HR4.out.below hb5)
      have HB5 := Lib.hid (HB4.out.trans (hb5.mono HB4.out.size))
      clear hb5 HX4 HR4 HB4
      have HX6 := Lib.hid (HX5.out.below ((Below.refl w5.heap.size w5).alloc (Nat.le_refl _) (.cells (cells (toldL (l.take q)).at) 26)))
      have HR6 := Lib.hid (HR5.out.below ((Below.refl w5.heap.size w5).alloc (Nat.le_refl _) (.cells (cells (toldL (l.take q)).at) 26)))
      have HB6 := Lib.hid (HB5.out.alloc HB5.out.size (.cells (cells (toldL (l.take q)).at) 26))
      have HY6 := Lib.hid (Lies.new w5 (toldL (l.take q)).at)
      clear HX5 HR5 HB5
      obtain ⟨p, rfl, hpb, hp⟩ := HR6.out q hq2
      rw [HEQ.out] at hp
      go_wp2_with (first
        | (refine wpList_store_row rfl 26 (.tmp 11) (.tmp 49) rfl w5.heap.size _ rfl rfl 26 _ (heap_alloc_last _ _) (size26 _) (size_same _ _) (Flat.all (Flat.at _)) ?_; rw [World.setRow_alloc_new])
        | (refine wpList_load_row rfl 26 (.tmp 11) rfl w5.heap.size rfl 26 _ (0, 0) _ HY6.out.row Try.underlying26 rfl (size26 _) ?_)
        | (refine wpList_store_row rfl 26 (.tmp 1) (.tmp 65) rfl w.heap.size _ rfl rfl 26 _ HX6.out.row (size26 _) (size_same _ _) (Flat.all (Flat.at _)) ?_)
        | fail)
      go_roundw
      case rel => exact ⟨q, (q : Int) - 1, by omega, rfl, Lib.hid rfl, HX6.out.setRow _, below_setRow HB6.out (Nat.le_refl _), HR6.out.setRow HNE.out _⟩
      case measure => simp [intOf]
theorem listDrains_walk (x : Ls) (w : World) : Calls Try.prog 6 #[.agg (cells x.at)] w fun e w' => e = .returned (.bool true) ∧ Below w.heap.size w w' := by
  rcases told_or x with ⟨l, hl, e⟩ | h
  · rw [e]; exact drains_told l hl w
  · exact drains_none x h w
end Go.Proofs.Ytgbhfagmbkoobaa
