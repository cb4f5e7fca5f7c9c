/-
  THE WALK OF linhayref15.Order.
-/
import Derived.Test.YtgbhfagmbkoobaaOrder
import Derived.Laws.AppendOwnNone
import Derived.Deep.RegionHeld3
namespace Go.Proofs.Ytgbhfagmbkoobaa
open Go.RowKit
theorem wpList_append_row {w : World} {ops : Array Oper} {rest : List Oper} {o : Oper} {a : Act} {Q : Exit → Act → World → Prop} (hgd : o.guard = none) (s x : Operand) (ho : o.op = .call { callee := .builtin .append, args := #[s, x], argTypes := #[22, 22] })
    (base : Nat) (v : Value) (n : Nat) (xs : List Value) (hs : a.eval s = v) (hown : w.ownsRow base 3 1 v n xs) (A : Option Addr) (c : Nat) (news : List Int) (hx : a.eval x = .slice A news.length c) (hnil : A = none → c = 0)
    (hrow : RowI w A news) (hlen : n + news.length ≤ 10000) (hbase : base ≤ w.heap.size)
    (h : ∀ v' w', w'.ownsRow base 3 1 v' (n + news.length) (xs ++ ivL news) → w.grownBy w' v.ownBlock → wpList Try.prog ops Q rest (a.put o.dst v') w') : wpList Try.prog ops Q (o :: rest) a w := by
  obtain ⟨i0, hi, hz0, hz1, hz2⟩ := info_parts info3
  cases A with
  | none =>
    have hn : news = [] := by
      cases news with
      | nil => rfl
      | cons b news => obtain ⟨_, h0, _⟩ := hrow 0 (by simp); cases h0
    subst hn
    obtain rfl := hnil rfl
    refine wpList_append_own_none hgd s x 22 ho base 3 i0 1 Try.underlying22 hi v n xs hs hown hx ?_
    refine h v w ?_ ⟨rfl, rfl, rfl, Nat.le_refl _, fun _ _ _ => rfl⟩
    simpa [ivL] using hown
  | some ad =>
    refine wpList_append_own w hgd s x 22 ho base 3 i0 (.int .i64 0) 1 8 Try.underlying22 hi hz0 hz1 hz2 rfl (by decide) v n xs hs hown ad news.length c (ivL news) hx (by simp [ivL]) ?_ ?_ (by unfold maxLen; omega) (by omega) hbase (fun v' w' h1 h2 _ => h v' w' h1 h2)
    · intro j u hj
      have hjl : j < news.length := by
        rcases Nat.lt_or_ge j news.length with q | q
        · exact q
        · rw [List.getElem?_eq_none (by simpa [ivL] using q)] at hj; cases hj
      obtain ⟨a', ha', _, hc⟩ := hrow j hjl
      injection ha' with ha'
      subst ha'
      rw [hc]
      simp [ivL, hjl] at hj
      rw [hj]
    · intro u hu
      simp [ivL] at hu
      obtain ⟨b, _, rfl⟩ := hu
      rfl
theorem own_one (w : World) (base : Nat) (hb : base ≤ w.heap.size) (id : Int) : (w.alloc (.cells #[.int .i64 id] 3)).ownsRow base 3 1 (.slice (some ⟨w.heap.size, 0, none⟩) 1 1) 1 (ivL [id]) :=
  ⟨rfl, .inr ⟨w.heap.size, 1, _, rfl, hb, heap_alloc_last _ _, Nat.le_refl _, by unfold maxLen; omega, rfl, rfl⟩⟩
theorem RowI.of_own {w : World} {base n : Nat} {A : Option Addr} {c : Nat} {l : List Int} (h : w.ownsRow base 3 1 (.slice A n c) n (ivL l)) : n = l.length ∧ (A = none → c = 0) ∧ RowI w A l := by
  obtain ⟨h1, A', c', e, h2⟩ := RowI.own h
  injection e with e1
  subst e1
  exact ⟨h1, own_nil h, h2⟩
def lastI (l : List Nat) : Int := match l.getLast? with | none => -1 | some a => a
theorem lastI_snoc (l : List Nat) (a : Nat) : lastI (l ++ [a]) = a := by unfold lastI; simp
theorem tl_told (l : List Nat) : (toldL l).tl = lastI l := by
  rcases List.eq_nil_or_concat l with rfl | ⟨m, b, rfl⟩
  · rfl
  · rw [List.concat_eq_append, told_tl, lastI_snoc]
theorem told_pv_out : ∀ (l : List Nat) (k : Nat), k ∉ l → (toldL l).pv k = -1
  | [], _, _ => rfl
  | a :: l, k, h => by
    have h1 : k ≠ a := fun e => h (by subst e; simp)
    have h2 : k ∉ l := fun e => h (by simp [e])
    show (pushL (toldL l) a).pv k = -1
    simp only [pushL]
    split
    · simp only [fset]; rw [if_neg h1]; exact told_pv_out l k h2
    · rename_i hne
      simp only [fset]
      cases l with
      | nil => exact absurd rfl hne
      | cons b l =>
        have h3 : (toldL (b :: l)).hd.toNat = b := by rw [hd_told]; simp [hdI]
        rw [h3, if_neg (fun e => h2 (by rw [e]; simp)), if_neg h1]
        exact told_pv_out _ k h2
theorem told_pv_head (a : Nat) (l : List Nat) (h : (a :: l).Nodup) : (toldL (a :: l)).pv a = -1 := by
  have h1 := List.nodup_cons.mp h
  show (pushL (toldL l) a).pv a = -1
  simp only [pushL]
  split
  · simp [fset]
  · rename_i hne
    cases l with
    | nil => exact absurd rfl hne
    | cons b l =>
      have h3 : (toldL (b :: l)).hd.toNat = b := by rw [hd_told]; simp [hdI]
      simp only [fset, h3]
      rw [if_neg (fun e => h1.1 (by rw [e]; simp))]
      simp
theorem told_pv_mid : ∀ (p : List Nat) (b k : Nat) (s : List Nat), (p ++ b :: k :: s).Nodup → (toldL (p ++ b :: k :: s)).pv k = b
  | [], b, k, s, _ => by
    show (pushL (toldL (k :: s)) b).pv k = b
    have h3 : (toldL (k :: s)).hd = (k : Int) := hd_told _
    simp only [pushL, h3, natneg, if_false, Int.toNat_natCast, fset, if_true]
  | y :: p, b, k, s, hn => by
    have h : y ∉ p ++ b :: k :: s ∧ (p ++ b :: k :: s).Nodup := List.nodup_cons.mp hn
    have hk : k ≠ y := fun e => h.1 (by subst e; simp)
    have ih := told_pv_mid p b k s h.2
    show (pushL (toldL (p ++ b :: k :: s)) y).pv k = b
    obtain ⟨z, q, hz⟩ : ∃ z q, p ++ b :: k :: s = z :: q := by cases p <;> simp
    have h3 : (toldL (p ++ b :: k :: s)).hd = (z : Int) := by rw [hz]; exact hd_told _
    have hkz : k ≠ z := by
      rintro rfl
      rw [hz] at ih h
      rw [told_pv_head k q h.2] at ih
      omega
    simp only [pushL, h3, natneg, if_false, Int.toNat_natCast, fset]
    rw [if_neg hkz, if_neg hk]
    exact ih
theorem told_pv (p : List Nat) (k : Nat) (s : List Nat) (hn : (p ++ k :: s).Nodup) : (toldL (p ++ k :: s)).pv k = lastI p := by
  rcases List.eq_nil_or_concat p with rfl | ⟨m, b, rfl⟩
  · exact told_pv_head k s hn
  · rw [List.concat_eq_append] at *
    rw [lastI_snoc, List.append_assoc]
    refine told_pv_mid m b k s ?_
    rw [List.append_assoc] at hn
    exact hn
/-- so far the numbers l are met from the last one on, and id is ahead of them, whatever tells x -/
def ChainB (x : Ls) (l : List Nat) (id : Int) : Prop := ∀ m, Valid m → SameL x (toldL m) → ∃ s, m = s ++ l ∧ id = lastI s
theorem ChainB.start (x : Ls) : ChainB x [] x.tl := fun m _ hs => ⟨m, by simp, by rw [hs.tl, tl_told]⟩
theorem lastI_nat {s : List Nat} {k : Nat} (h : (k : Int) = lastI s) : ∃ p, s = p ++ [k] := by
  rcases List.eq_nil_or_concat s with rfl | ⟨p, b, rfl⟩
  · simp [lastI] at h
  · rw [List.concat_eq_append, lastI_snoc] at h
    exact ⟨p, by rw [List.concat_eq_append, show k = b by omega]⟩
theorem ChainB.step {x : Ls} {l : List Nat} {k : Nat} (hk : k < 64) (h : ChainB x l k) : ChainB x (k :: l) (x.pv k) := by
  intro m hm hs
  obtain ⟨s, e, h2⟩ := h m hm hs
  obtain ⟨p, rfl⟩ := lastI_nat h2
  have e2 : m = p ++ k :: l := by rw [e]; simp
  refine ⟨p, e2, ?_⟩
  rw [hs.pv k hk, e2]
  exact told_pv p k l (by rw [← e2]; exact hm.2)
theorem ChainB.stop {x : Ls} {l : List Nat} {id : Int} (h : ChainB x l id) (hf : ¬ (0 ≤ id ∧ id < 64 ∧ l.length < 64)) (m : List Nat) (hm : Valid m) (hs : SameL x (toldL m)) : m = l := by
  obtain ⟨s, e, h2⟩ := h m hm hs
  rcases List.eq_nil_or_concat s with rfl | ⟨p, b, rfl⟩
  · simpa using e
  · exfalso
    rw [List.concat_eq_append] at e h2
    rw [lastI_snoc] at h2
    have h3 := hm.1 b (by rw [e]; simp)
    have h4 := hm.len
    have h5 : m.length = p.length + 1 + l.length := by rw [e]; simp; omega
    omega
theorem run_load_op {P : Program} (w : World) (o : Oper) (ev : Operand → Value) (ty : TypeId) (x : Operand) (ho : o.op = .load ty x) (b off : Nat) (hx : ev x = .pointer (some ⟨b, off, none⟩)) (v : Value) (hrun : (loadVar ty ⟨b, off, none⟩).run P w = .ok v w) : (execOp ev o).run P w = .ok (.value v) w := by
  unfold execOp
  simp only [ho, hx, Instr.loadAt, Instr.sureAddr, Sem.run_bind, Sem.run_pure, Result.andThen_ok, hrun]
theorem refTold_cast (A : Option Addr) (c : Nat) (l : List Nat) (hv : Valid l) (w : World) (hr : RowI w A (castL l)) : Calls Try.prog 22 #[.slice A (castL l).length c] w fun e w' => e = .returned (.agg (cells (toldL l).at)) ∧ Below w.heap.size w w' := by
  rw [castL_len]
  exact refTold_any A c l hv (by have := hv.len; omega) w hr
theorem below_drew3 {w3 w4 : World} (h : Below w3.drew.heap.size w3.drew w4) : Below w3.heap.size w3 w4 := (Below.refl _ _).drew.trans h
attribute [local go_sem] zero26 cells_get cells_set upd_at at_hd at_tl
set_option maxRecDepth 100000 in
set_option maxHeartbeats 1600000 in
theorem refOrder_any (x : Ls) (w : World) : Calls Try.prog 13 #[.agg (cells x.at)] w (OrderSays x w) := by
  go_enter Try.func13, Try.ntmps13
  go_wp2_with fail
  go_loopw [4, 5] (fun v i wr => ∃ (l : List Nat) (n : Nat) (id : Int), i = .int .i64 id ∧ wr.ownsRow (w.heap.size + 1) 3 1 v n (ivL (castL l)) ∧ (∀ a ∈ l, a < 64) ∧ n ≤ 64 ∧ Lies wr w.heap.size x.at ∧ Below w.heap.size w wr ∧ w.heap.size + 1 ≤ wr.heap.size ∧ Hid (ChainB x l id)) (fun v _ _ => 64 - sliceLen v)
  case atStart =>
    refine ⟨[], 0, x.tl, rfl, World.ownsRow_nil _ _ _ _, by simp, by omega, ⟨heap_alloc_last _ _⟩, (Below.refl _ _).alloc (Nat.le_refl _) _, by simp, Lib.hid (ChainB.start x)⟩
  case round =>
    rename_i v4 v5
    obtain ⟨l, n, id, rfl, ho, hv, hn64, hx, hbe, hsz, HC⟩ := hrel
    have HV := Lib.hid hv
    have HX := Lib.hid hx
    have HE := Lib.hid hbe
    have HS := Lib.hid hsz
    obtain ⟨A, c, rfl⟩ := own_slice ho
    obtain ⟨hnl, hnil, hrow⟩ := RowI.of_own ho
    have HFR : Hid (FreshA A w.heap.size ∧ l.length ≤ c) := Lib.hid ⟨(own_fresh ho).mono (by omega), by rw [← castL_len, ← hnl]; exact own_cap ho⟩
    rw [castL_len] at hnl
    have HNL := Lib.hid hnl
    have HNIL := Lib.hid hnil
    have HROW := Lib.hid hrow
    clear ho hv hx hbe hsz hnl hnil hrow
    by_cases hf : 0 ≤ id ∧ id < 64 ∧ n < 64
    · obtain ⟨h1, h2, h3⟩ := hf
      obtain ⟨k, rfl⟩ := Int.eq_ofNat_of_zero_le h1
      have hk : k < 64 := by omega
      have hd1 : decide (0 ≤ (k : Int)) = true := by simp
      have hd2 : decide ((k : Int) < 64) = true := by simp; omega
      have hd3 : decide ((n : Int) < 64) = true := by simp; omega
      have hk1 : (0 : Int) ≤ (k : Int) := by omega
      have HO := Lib.hid (own_one wr (w.heap.size + 1) HS.out k)
      have HR1 := Lib.hid (HROW.out.below ((Below.refl _ _).alloc (Nat.le_refl _) (.cells #[.int .i64 (k : Int)] 3)))
      obtain rfl : n = (castL l).length := by rw [castL_len]; exact HNL.out
      go_wp2_with (first
        | (at_builtin; refine wpList_append_row rfl (.tmp 21) (.tmp 22) rfl (w.heap.size + 1) _ 1 _ rfl HO.out A c (castL l) rfl HNIL.out HR1.out (by omega) ?c1 ?_)
        | fail)
      case c1 => have := HS.out; simp; omega
      intro v7 w7 hown7 hgrow7
      have HX7 : Hid (Lies w7 w.heap.size x.at) := Lib.hid ⟨by rw [grown_heap hgrow7 _ HX.out.lt (own_ne HO.out (by omega))]; exact HX.out.row⟩
      have HE7 := Lib.hid (Below.grown (HE.out.alloc HE.out.size _) hgrow7 (by have := HE.out.size; simp; omega) (fun k hk => Nat.le_trans (by omega) (HO.out.lt k hk).1))
      have HS7 : Hid (w.heap.size + 1 ≤ w7.heap.size) := by have h1 := hgrow7.size; have h2 := HS.out; simp at h1; exact Lib.hid (by omega)
      have HO7 : Hid (w7.ownsRow (w.heap.size + 1) 3 1 v7 (1 + (castL l).length) (ivL (castL (k :: l)))) := Lib.hid hown7
      have hc7 : w7.cell? ⟨w.heap.size, 64 + k, none⟩ = some (.int .i64 (x.pv k)) := by rw [HX7.out.cell _ (by omega), at_pv _ _ hk]
      clear hown7 hgrow7
      go_wp2_with fail
      obtain ⟨A7, c7, hv7⟩ := own_slice HO7.out
      go_roundw
      case rel =>
        refine ⟨k :: l, _, x.pv k, rfl, HO7.out, ?_, by omega, HX7.out, HE7.out, HS7.out, Lib.hid (HC.out.step hk)⟩
        intro a ha
        rcases List.mem_cons.mp ha with rfl | ha
        · exact hk
        · exact HV.out a ha
      case measure => rw [hv7]; simp only [sliceLen]; omega
    · obtain rfl : n = (castL l).length := by rw [castL_len]; exact HNL.out
      have HF := Lib.hid (show ¬ (0 ≤ id ∧ id < 64 ∧ l.length < 64) by rw [← HNL.out]; exact hf)
      by_cases h1 : 0 ≤ id
      · have hd1 : decide (0 ≤ id) = true := by simpa using h1
        by_cases h2 : id < 64
        · have hd2 : decide (id < 64) = true := by simpa using h2
          have hd3 : decide (((castL l).length : Int) < 64) = false := by simp; omega
          clear hf h1 h2
          go_wp2_with fail
          refine (may_any A c (castL l) (by omega) _ HROW.out).mono ?_
          rintro e w3 ⟨b, rfl, hb, hb3⟩
          have HX3 := Lib.hid (Lies.below HX.out hb3)
          have HE3 := Lib.hid (HE.out.trans (hb3.mono HE.out.size))
          have HR3 := Lib.hid (HROW.out.below hb3)
          have HBM := Lib.hid hb
          clear hb3 hb HX HE HROW HS
          cases b
          · have HNOT : Hid (∀ m, Valid m → ¬ SameL x (toldL m)) := Lib.hid fun m hm hs => by
              obtain rfl := HC.out.stop HF.out m hm hs
              have := HBM.out.mpr (valid_may hm)
              cases this
            go_wp2_with fail
            go_quiet (fail)
            go_wp2_with fail
            go_ret2
            exact ⟨drewN_below HE3.out _, Or.inr ⟨HNOT.out, rfl⟩⟩
          · have HVL : Hid (Valid l) := Lib.hid (by
              obtain ⟨m, hm, e⟩ := may_valid (HBM.out.mp rfl)
              obtain rfl := castL_inj e
              exact hm)
            go_wp2_with fail
            refine wp_region_held_drew (S := (fun w' => Below w3.heap.size w3 w')) (by kernel_rfl) ((Below.refl _ _).drew) (fun hHeld => ?_)
            refine wpAnyH_take (i := 0) (v := (.bool true)) rfl (by kernel_rfl) (by kernel_rfl) (by kernel_rfl) (fun _ _ _ h => h) (Or.inl ⟨by kernel_rfl, fun w' hSw => by go_simp⟩) (by assumption) ?_
            simp only [Act.put, List.setIfInBounds_toArray]
            refine wpAnyH_take (i := 1) (v := (.bool false)) rfl (by kernel_rfl) (by kernel_rfl) (by kernel_rfl) (fun _ _ _ h => h) (Or.inl ⟨by kernel_rfl, fun w' hSw => by go_simp⟩) (by assumption) ?_
            simp only [Act.put]
            refine wpAnyH_take (i := 2) (v := (.bool false)) rfl (by kernel_rfl) (by kernel_rfl) (by kernel_rfl) (fun _ _ _ h => h) (Or.inl ⟨by kernel_rfl, fun w' hSw => by go_simp⟩) (by assumption) ?_
            simp only [Act.put]
            refine wpAnyH_take (i := 3) (v := (.slice A (castL l).length c)) rfl (by kernel_rfl) (by kernel_rfl) (by kernel_rfl) (fun _ _ _ h => h) (Or.inl ⟨by kernel_rfl, fun w' hSw => by go_simp⟩) (by assumption) ?_
            simp only [Act.put]
            refine wpAnyH_take (i := 5) (v := .agg (cells x.at)) rfl (by kernel_rfl) (by kernel_rfl) (by kernel_rfl) (fun _ _ _ h => h) (Or.inl ⟨by kernel_rfl, fun w' hSw => run_load_op w' _ _ 26 (.tmp 1) rfl w.heap.size 0 rfl _ (HX3.out.below hSw).load⟩) (by assumption) ?_
            simp only [Act.put]
            refine wpAnyH_ready (rs := [4]) (by kernel_rfl) (by simp) ?_
            refine AllReadyH.cons rfl (fun K hK => ?_) AllReadyH.nil
            rw [if_pos (by kernel_rfl)]
            go_simp
            refine (refTold_cast A c l HVL.out _ (HR3.out.below (Below.refl _ _).drew)).mono ?_
            rintro e w4 ⟨rfl, hb4⟩
            have HN := Lib.hid (below_drew3 hb4)
            clear hb4
            go_wp2_with fail
            by_cases h26 : eqB (toldL l) x = true
            · have HSAME := Lib.hid ((eqB_iff _ _).mp h26).symm
              have H26 := Lib.hid h26
              clear h26
              refine hK.out _ _ HN.out (fun hHeld => ?_)
              refine wpAnyH_take (i := 6) (v := .bool (!true)) rfl (by kernel_rfl) (by kernel_rfl) (by kernel_rfl) (fun _ _ _ h => h) (Or.inl ⟨by kernel_rfl, fun w' hSw => run_op26 w' _ _ (.tmp 34) (.tmp 35) rfl (toldL l) x rfl rfl true H26.out⟩) (by assumption) ?_
              simp only [Act.put, List.setIfInBounds_toArray, Bool.not_true]
              refine wpAnyH_take (i := 7) (v := (.bool false)) rfl (by kernel_rfl) (by kernel_rfl) (by kernel_rfl) (fun _ _ _ h => h) (Or.inl ⟨by kernel_rfl, fun w' hSw => by go_simp⟩) (by assumption) ?_
              simp only [Act.put]
              refine wpAnyH_done (by kernel_rfl) ?_ _
              go_wp2_with fail
              go_ret2
              exact ⟨HE3.out.trans (HN.out.mono HE3.out.size), Or.inl ⟨l, HVL.out, HSAME.out, A, c, by rw [castL_len]; rfl, HR3.out.below HN.out, HFR.out⟩⟩
            · have h26' : eqB (toldL l) x = false := by simpa using h26
              have HNOT : Hid (∀ m, Valid m → ¬ SameL x (toldL m)) := Lib.hid fun m hm hs => h26 ((eqB_iff _ _).mpr (by
                obtain rfl := HC.out.stop HF.out m hm hs
                exact hs.symm))
              have H26 := Lib.hid h26'
              clear h26 h26'
              refine hK.out _ _ HN.out (fun hHeld => ?_)
              refine wpAnyH_take (i := 6) (v := .bool (!false)) rfl (by kernel_rfl) (by kernel_rfl) (by kernel_rfl) (fun _ _ _ h => h) (Or.inl ⟨by kernel_rfl, fun w' hSw => run_op26 w' _ _ (.tmp 34) (.tmp 35) rfl (toldL l) x rfl rfl false H26.out⟩) (by assumption) ?_
              simp only [Act.put, List.setIfInBounds_toArray, Bool.not_false]
              refine wpAnyH_take (i := 7) (v := (.bool true)) rfl (by kernel_rfl) (by kernel_rfl) (by kernel_rfl) (fun _ _ _ h => h) (Or.inl ⟨by kernel_rfl, fun w' hSw => by go_simp⟩) (by assumption) ?_
              simp only [Act.put]
              refine wpAnyH_done (by kernel_rfl) ?_ _
              go_wp2_with fail
              go_ret2
              exact ⟨HE3.out.trans (HN.out.mono HE3.out.size), Or.inr ⟨HNOT.out, rfl⟩⟩

        · have hd2 : decide (id < 64) = false := by simpa using h2
          clear hf h1 h2
          go_wp2_with fail
          refine (may_any A c (castL l) (by omega) _ HROW.out).mono ?_
          rintro e w3 ⟨b, rfl, hb, hb3⟩
          have HX3 := Lib.hid (Lies.below HX.out hb3)
          have HE3 := Lib.hid (HE.out.trans (hb3.mono HE.out.size))
          have HR3 := Lib.hid (HROW.out.below hb3)
          have HBM := Lib.hid hb
          clear hb3 hb HX HE HROW HS
          cases b
          · have HNOT : Hid (∀ m, Valid m → ¬ SameL x (toldL m)) := Lib.hid fun m hm hs => by
              obtain rfl := HC.out.stop HF.out m hm hs
              have := HBM.out.mpr (valid_may hm)
              cases this
            go_wp2_with fail
            go_quiet (fail)
            go_wp2_with fail
            go_ret2
            exact ⟨drewN_below HE3.out _, Or.inr ⟨HNOT.out, rfl⟩⟩
          · have HVL : Hid (Valid l) := Lib.hid (by
              obtain ⟨m, hm, e⟩ := may_valid (HBM.out.mp rfl)
              obtain rfl := castL_inj e
              exact hm)
            go_wp2_with fail
            refine wp_region_held_drew (S := (fun w' => Below w3.heap.size w3 w')) (by kernel_rfl) ((Below.refl _ _).drew) (fun hHeld => ?_)
            refine wpAnyH_take (i := 0) (v := (.bool true)) rfl (by kernel_rfl) (by kernel_rfl) (by kernel_rfl) (fun _ _ _ h => h) (Or.inl ⟨by kernel_rfl, fun w' hSw => by go_simp⟩) (by assumption) ?_
            simp only [Act.put, List.setIfInBounds_toArray]
            refine wpAnyH_take (i := 1) (v := (.bool false)) rfl (by kernel_rfl) (by kernel_rfl) (by kernel_rfl) (fun _ _ _ h => h) (Or.inl ⟨by kernel_rfl, fun w' hSw => by go_simp⟩) (by assumption) ?_
            simp only [Act.put]
            refine wpAnyH_take (i := 2) (v := (.bool false)) rfl (by kernel_rfl) (by kernel_rfl) (by kernel_rfl) (fun _ _ _ h => h) (Or.inl ⟨by kernel_rfl, fun w' hSw => by go_simp⟩) (by assumption) ?_
            simp only [Act.put]
            refine wpAnyH_take (i := 3) (v := (.slice A (castL l).length c)) rfl (by kernel_rfl) (by kernel_rfl) (by kernel_rfl) (fun _ _ _ h => h) (Or.inl ⟨by kernel_rfl, fun w' hSw => by go_simp⟩) (by assumption) ?_
            simp only [Act.put]
            refine wpAnyH_take (i := 5) (v := .agg (cells x.at)) rfl (by kernel_rfl) (by kernel_rfl) (by kernel_rfl) (fun _ _ _ h => h) (Or.inl ⟨by kernel_rfl, fun w' hSw => run_load_op w' _ _ 26 (.tmp 1) rfl w.heap.size 0 rfl _ (HX3.out.below hSw).load⟩) (by assumption) ?_
            simp only [Act.put]
            refine wpAnyH_ready (rs := [4]) (by kernel_rfl) (by simp) ?_
            refine AllReadyH.cons rfl (fun K hK => ?_) AllReadyH.nil
            rw [if_pos (by kernel_rfl)]
            go_simp
            refine (refTold_cast A c l HVL.out _ (HR3.out.below (Below.refl _ _).drew)).mono ?_
            rintro e w4 ⟨rfl, hb4⟩
            have HN := Lib.hid (below_drew3 hb4)
            clear hb4
            go_wp2_with fail
            by_cases h26 : eqB (toldL l) x = true
            · have HSAME := Lib.hid ((eqB_iff _ _).mp h26).symm
              have H26 := Lib.hid h26
              clear h26
              refine hK.out _ _ HN.out (fun hHeld => ?_)
              refine wpAnyH_take (i := 6) (v := .bool (!true)) rfl (by kernel_rfl) (by kernel_rfl) (by kernel_rfl) (fun _ _ _ h => h) (Or.inl ⟨by kernel_rfl, fun w' hSw => run_op26 w' _ _ (.tmp 34) (.tmp 35) rfl (toldL l) x rfl rfl true H26.out⟩) (by assumption) ?_
              simp only [Act.put, List.setIfInBounds_toArray, Bool.not_true]
              refine wpAnyH_take (i := 7) (v := (.bool false)) rfl (by kernel_rfl) (by kernel_rfl) (by kernel_rfl) (fun _ _ _ h => h) (Or.inl ⟨by kernel_rfl, fun w' hSw => by go_simp⟩) (by assumption) ?_
              simp only [Act.put]
              refine wpAnyH_done (by kernel_rfl) ?_ _
              go_wp2_with fail
              go_ret2
              exact ⟨HE3.out.trans (HN.out.mono HE3.out.size), Or.inl ⟨l, HVL.out, HSAME.out, A, c, by rw [castL_len]; rfl, HR3.out.below HN.out, HFR.out⟩⟩
            · have h26' : eqB (toldL l) x = false := by simpa using h26
              have HNOT : Hid (∀ m, Valid m → ¬ SameL x (toldL m)) := Lib.hid fun m hm hs => h26 ((eqB_iff _ _).mpr (by
                obtain rfl := HC.out.stop HF.out m hm hs
                exact hs.symm))
              have H26 := Lib.hid h26'
              clear h26 h26'
              refine hK.out _ _ HN.out (fun hHeld => ?_)
              refine wpAnyH_take (i := 6) (v := .bool (!false)) rfl (by kernel_rfl) (by kernel_rfl) (by kernel_rfl) (fun _ _ _ h => h) (Or.inl ⟨by kernel_rfl, fun w' hSw => run_op26 w' _ _ (.tmp 34) (.tmp 35) rfl (toldL l) x rfl rfl false H26.out⟩) (by assumption) ?_
              simp only [Act.put, List.setIfInBounds_toArray, Bool.not_false]
              refine wpAnyH_take (i := 7) (v := (.bool true)) rfl (by kernel_rfl) (by kernel_rfl) (by kernel_rfl) (fun _ _ _ h => h) (Or.inl ⟨by kernel_rfl, fun w' hSw => by go_simp⟩) (by assumption) ?_
              simp only [Act.put]
              refine wpAnyH_done (by kernel_rfl) ?_ _
              go_wp2_with fail
              go_ret2
              exact ⟨HE3.out.trans (HN.out.mono HE3.out.size), Or.inr ⟨HNOT.out, rfl⟩⟩

      · have hd1 : decide (0 ≤ id) = false := by simpa using h1
        clear hf h1
        go_wp2_with fail
        refine (may_any A c (castL l) (by omega) _ HROW.out).mono ?_
        rintro e w3 ⟨b, rfl, hb, hb3⟩
        have HX3 := Lib.hid (Lies.below HX.out hb3)
        have HE3 := Lib.hid (HE.out.trans (hb3.mono HE.out.size))
        have HR3 := Lib.hid (HROW.out.below hb3)
        have HBM := Lib.hid hb
        clear hb3 hb HX HE HROW HS
        cases b
        · have HNOT : Hid (∀ m, Valid m → ¬ SameL x (toldL m)) := Lib.hid fun m hm hs => by
            obtain rfl := HC.out.stop HF.out m hm hs
            have := HBM.out.mpr (valid_may hm)
            cases this
          go_wp2_with fail
          go_quiet (fail)
          go_wp2_with fail
          go_ret2
          exact ⟨drewN_below HE3.out _, Or.inr ⟨HNOT.out, rfl⟩⟩
        · have HVL : Hid (Valid l) := Lib.hid (by
            obtain ⟨m, hm, e⟩ := may_valid (HBM.out.mp rfl)
            obtain rfl := castL_inj e
            exact hm)
          go_wp2_with fail
          refine wp_region_held_drew (S := (fun w' => Below w3.heap.size w3 w')) (by kernel_rfl) ((Below.refl _ _).drew) (fun hHeld => ?_)
          refine wpAnyH_take (i := 0) (v := (.bool true)) rfl (by kernel_rfl) (by kernel_rfl) (by kernel_rfl) (fun _ _ _ h => h) (Or.inl ⟨by kernel_rfl, fun w' hSw => by go_simp⟩) (by assumption) ?_
          simp only [Act.put, List.setIfInBounds_toArray]
          refine wpAnyH_take (i := 1) (v := (.bool false)) rfl (by kernel_rfl) (by kernel_rfl) (by kernel_rfl) (fun _ _ _ h => h) (Or.inl ⟨by kernel_rfl, fun w' hSw => by go_simp⟩) (by assumption) ?_
          simp only [Act.put]
          refine wpAnyH_take (i := 2) (v := (.bool false)) rfl (by kernel_rfl) (by kernel_rfl) (by kernel_rfl) (fun _ _ _ h => h) (Or.inl ⟨by kernel_rfl, fun w' hSw => by go_simp⟩) (by assumption) ?_
          simp only [Act.put]
          refine wpAnyH_take (i := 3) (v := (.slice A (castL l).length c)) rfl (by kernel_rfl) (by kernel_rfl) (by kernel_rfl) (fun _ _ _ h => h) (Or.inl ⟨by kernel_rfl, fun w' hSw => by go_simp⟩) (by assumption) ?_
          simp only [Act.put]
          refine wpAnyH_take (i := 5) (v := .agg (cells x.at)) rfl (by kernel_rfl) (by kernel_rfl) (by kernel_rfl) (fun _ _ _ h => h) (Or.inl ⟨by kernel_rfl, fun w' hSw => run_load_op w' _ _ 26 (.tmp 1) rfl w.heap.size 0 rfl _ (HX3.out.below hSw).load⟩) (by assumption) ?_
          simp only [Act.put]
          refine wpAnyH_ready (rs := [4]) (by kernel_rfl) (by simp) ?_
          refine AllReadyH.cons rfl (fun K hK => ?_) AllReadyH.nil
          rw [if_pos (by kernel_rfl)]
          go_simp
          refine (refTold_cast A c l HVL.out _ (HR3.out.below (Below.refl _ _).drew)).mono ?_
          rintro e w4 ⟨rfl, hb4⟩
          have HN := Lib.hid (below_drew3 hb4)
          clear hb4
          go_wp2_with fail
          by_cases h26 : eqB (toldL l) x = true
          · have HSAME := Lib.hid ((eqB_iff _ _).mp h26).symm
            have H26 := Lib.hid h26
            clear h26
            refine hK.out _ _ HN.out (fun hHeld => ?_)
            refine wpAnyH_take (i := 6) (v := .bool (!true)) rfl (by kernel_rfl) (by kernel_rfl) (by kernel_rfl) (fun _ _ _ h => h) (Or.inl ⟨by kernel_rfl, fun w' hSw => run_op26 w' _ _ (.tmp 34) (.tmp 35) rfl (toldL l) x rfl rfl true H26.out⟩) (by assumption) ?_
            simp only [Act.put, List.setIfInBounds_toArray, Bool.not_true]
            refine wpAnyH_take (i := 7) (v := (.bool false)) rfl (by kernel_rfl) (by kernel_rfl) (by kernel_rfl) (fun _ _ _ h => h) (Or.inl ⟨by kernel_rfl, fun w' hSw => by go_simp⟩) (by assumption) ?_
            simp only [Act.put]
            refine wpAnyH_done (by kernel_rfl) ?_ _
            go_wp2_with fail
            go_ret2
            exact ⟨HE3.out.trans (HN.out.mono HE3.out.size), Or.inl ⟨l, HVL.out, HSAME.out, A, c, by rw [castL_len]; rfl, HR3.out.below HN.out, HFR.out⟩⟩
          · have h26' : eqB (toldL l) x = false := by simpa using h26
            have HNOT : Hid (∀ m, Valid m → ¬ SameL x (toldL m)) := Lib.hid fun m hm hs => h26 ((eqB_iff _ _).mpr (by
              obtain rfl := HC.out.stop HF.out m hm hs
              exact hs.symm))
            have H26 := Lib.hid h26'
            clear h26 h26'
            refine hK.out _ _ HN.out (fun hHeld => ?_)
            refine wpAnyH_take (i := 6) (v := .bool (!false)) rfl (by kernel_rfl) (by kernel_rfl) (by kernel_rfl) (fun _ _ _ h => h) (Or.inl ⟨by kernel_rfl, fun w' hSw => run_op26 w' _ _ (.tmp 34) (.tmp 35) rfl (toldL l) x rfl rfl false H26.out⟩) (by assumption) ?_
            simp only [Act.put, List.setIfInBounds_toArray, Bool.not_false]
            refine wpAnyH_take (i := 7) (v := (.bool true)) rfl (by kernel_rfl) (by kernel_rfl) (by kernel_rfl) (fun _ _ _ h => h) (Or.inl ⟨by kernel_rfl, fun w' hSw => by go_simp⟩) (by assumption) ?_
            simp only [Act.put]
            refine wpAnyH_done (by kernel_rfl) ?_ _
            go_wp2_with fail
            go_ret2
            exact ⟨HE3.out.trans (HN.out.mono HE3.out.size), Or.inr ⟨HNOT.out, rfl⟩⟩
end Go.Proofs.Ytgbhfagmbkoobaa
