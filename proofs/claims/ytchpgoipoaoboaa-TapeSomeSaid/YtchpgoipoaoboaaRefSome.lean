/-
  THE WALK OF linhayref08.Some.
-/
import Derived.Test.YtchpgoipoaoboaaFree
import Derived.Deep.LoopGhost
namespace Go.Proofs.Ytchpgoipoaoboaa
open Go.RowKit
open Lean Elab Tactic in
elab "tgt" : tactic => withMainContext do
  let t ← getMainTarget
  let t ← instantiateMVars t
  let s := toString (← Meta.ppExpr t)
  logInfo m!"{s.take 30000}"
theorem info4 : (Try.prog.info? 4).map (fun i => (i.zero, i.size, i.bytes)) = some (some (.bool false), 1, 1) := by kernel_rfl
theorem made_false (n : Nat) : (madeCells (Value.bool false).cells (n * 1)).toList = (List.replicate n false).map Value.bool := by
  unfold madeCells
  apply List.ext_getElem?
  intro i
  by_cases hi : i < n
  · simp [Value.cells, hi, Nat.mod_one]
  · simp [hi]
def ints (l : List Nat) : List Int := l.map (fun i : Nat => (i : Int))
theorem ints_range (n : Nat) : ints (List.range n) = upto n n := by
  unfold ints upto
  apply List.map_congr_left
  intro i hi
  simp at hi
  simp [hi]
theorem ints_erase : ∀ (l : List Nat) (p : Nat), ints (l.eraseIdx p) = (ints l).eraseIdx p
  | [], _ => rfl
  | _ :: _, 0 => rfl
  | a :: l, p + 1 => by
    show (a : Int) :: ints (l.eraseIdx p) = (a : Int) :: (ints l).eraseIdx p
    rw [ints_erase l p]
theorem ints_length (l : List Nat) : (ints l).length = l.length := by unfold ints; simp
theorem own_slice {w : World} {base e size n : Nat} {v : Value} {xs : List Value} (h : w.ownsRow base e size v n xs) : ∃ p cap, v = .slice p n cap := by
  rcases h.2 with h2 | ⟨g, cap, cur, hv, _⟩
  · obtain ⟨rfl, rfl, _⟩ := h2
    exact ⟨_, _, rfl⟩
  · exact ⟨_, _, hv⟩
set_option maxRecDepth 100000 in
set_option maxHeartbeats 800000 in
theorem refSome_yes (b : ByteArray) (t : Int) (n : Nat) (many : Int) (m : Nat) (total : List Int × Int) (HT : Hid (someRun b m t (upto n n) = total)) (hb : b.size ≤ 10000) (ht : I64 t) (h1 : 1 ≤ n) (h2 : n ≤ 1000) (hmany : 1 ≤ many)
    (hm : min (n : Int) many = (m : Int)) (hmn : m ≤ n) (w : World) :
    Calls Try.prog 15 #[tp b t, .int .i64 n, .int .i64 many] w fun e w' => ∃ v, e = .returned (.tuple #[v, tp b total.2]) ∧ w'.ownsRow w.heap.size 3 1 v m (total.1.map (Value.int .i64)) ∧ Below w.heap.size w w' := by
  have hd1 : decide ((n : Int) < 1) = false := by simp; omega
  have hd2 : decide (1000 < (n : Int)) = false := by simp; omega
  have hd3 : decide (many < 1) = false := by simp; omega
  obtain ⟨i0, hi, hz0, hz1, hz2⟩ := info_parts info4
  have hi' := Lib.hid hi
  have hz0' := Lib.hid hz0
  have hz1' := Lib.hid hz1
  have hz2' := Lib.hid hz2
  clear hi hz0 hz1 hz2
  obtain ⟨j0, hi, hz0, hz1, hz2⟩ := info_parts info3
  have ji' := Lib.hid hi
  have jz0' := Lib.hid hz0
  have jz1' := Lib.hid hz1
  have jz2' := Lib.hid hz2
  clear hi hz0 hz1 hz2
  have HMI := Lib.hid hm
  clear hm
  go_enter Try.func15, Try.ntmps15
  go_wp2_with (first
    | (at_make; refine wpList_make_full _ rfl _ _ 47 rfl (w.heap.size + 2) 4 i0 (.bool false) 1 Try.underlying47 hi'.out hz0'.out hz1'.out .i64 .i64 _ _ n rfl rfl rfl rfl (by rw [hz2'.out]; omega) (by unfold maxLen; omega) (by simp) ?_; intro w4 hown4 hgrow4; rw [made_false] at hown4))
  have hsz4 := (hown4.lt _ rfl).2
  simp at hsz4
  simp only [World.size_alloc] at hown4
  have hmem : Mem w w4 b t := by
    have hbb : Below (w.heap.size + 2) ((w.alloc (.cells #[.string b, .int .i64 t] 23)).alloc (.cells #[.string ⟨#[]⟩, .int .i64 0] 23)) w4 := (Below.refl _ _).grown hgrow4 (by simp) (fun k hk => by cases hk)
    refine ⟨?_, ?_, fun i => ?_, ?_, ?_, fun i => ?_, (((Below.refl _ _).alloc (Nat.le_refl _) _).alloc (by simp) _).trans (hbb.mono (by omega)), by omega⟩
    · rw [hbb.cell (by first | (simp; done) | (simp; omega))]; simp
    · rw [hbb.cell (by first | (simp; done) | (simp; omega))]; simp
    · rw [hbb.frozen (by first | (simp; done) | (simp; omega))]; simp
    · rw [hbb.cell (by first | (simp; done) | (simp; omega))]; simp
    · rw [hbb.cell (by first | (simp; done) | (simp; omega))]; simp
    · rw [hbb.frozen (by first | (simp; done) | (simp; omega))]; simp
  have HM := Lib.hid hmem
  have HL := Lib.hid (LiesV.own hown4 hsz4)
  clear hown4 hgrow4 hmem hsz4
  go_loopg [8] m (fun gk vo wr => ∃ (j : Nat) (tj : Int) (os : List Int) (tk : List Bool), gk + j = m ∧ wr.ownsRow (w.heap.size + 3) 3 1 vo j (os.map (Value.int .i64)) ∧ Hid (tk.length = n) ∧ Hid ((freeTo tk n).length + j = n) ∧ Hid (os ++ (someRun b gk tj (ints (freeTo tk n))).1 = total.1 ∧ (someRun b gk tj (ints (freeTo tk n))).2 = total.2) ∧ I64 tj ∧ LiesV wr (w.heap.size + 1 + 1) (tk.map Value.bool) ∧ Mem w wr b tj)
  case atStart =>
    refine ⟨0, t, [], List.replicate n false, rfl, World.ownsRow_nil _ _ _ _, by simp [Hid], ?_, ?_, ht, HL.out, HM.out⟩
    · rw [free_all]; simp [Hid]
    · rw [free_all, ints_range, HT.out]; simp [Hid]
  case round =>
    obtain ⟨j, tj, os, tk, hj, hown, HTKL, HLEN, HRUN, htj, hl, hme⟩ := hrel
    clear HL HM
    have HL := Lib.hid hl
    have HM := Lib.hid hme
    have HO := Lib.hid hown
    have HTJ := Lib.hid htj
    clear hl hme hown htj
    have hI0 : IntKind.i64.wrap (n - j : Int) = (n - j : Int) := by rw [IntKind.wrap_i64]; omega
    obtain ⟨q8, c8, rfl⟩ := own_slice HO.out
    by_cases hlt : j < m
    · have hmi := HMI.out
      have hd4 : decide ((j : Int) < (n : Int)) = true := by simp; omega
      have hd5 : decide ((j : Int) < many) = true := by simp; omega
      have hlen2 : ((n : Int) - j) = ((freeTo tk n).length : Int) := by have := HLEN.out; omega
      have hpos : 1 ≤ (freeTo tk n).length := by have := HLEN.out; omega
      have hfl : (freeTo tk n).length ≤ n := by have := HLEN.out; omega
      clear hmi
      have hme := HM.out
      have e0 := hme.t0
      have e1 := hme.t1
      have e2 := hme.tf
      clear hme
      go_wp2_with fail
      refine (refPick_any b tj (freeTo tk n).length hb (by unfold I64; omega) _).mono ?_
      rintro e w5 ⟨rfl, hb5⟩
      have HB5 := Lib.hid hb5
      clear hb5
      obtain ⟨p, hp, hpl⟩ : ∃ p : Nat, pickN b tj (freeTo tk n).length = (p : Int) ∧ p < (freeTo tk n).length := by
        have := pick_lt b tj (freeTo tk n).length hpos (by omega)
        exact ⟨(pickN b tj (freeTo tk n).length).toNat, by omega, by omega⟩
      have HP := Lib.hid hp
      rw [hp]
      clear hp
      have HM5 := Lib.hid (HM.out.below (HB5.out.mono (by have := HM.out.sz; omega)))
      have HL5 := Lib.hid (HL.out.below HB5.out)
      have HO5 := Lib.hid (own_below HO.out HB5.out)
      clear e0 e1 e2 HM HL HO
      have hme := HM5.out
      have e0 := hme.t0
      have e1 := hme.t1
      have e2 := hme.tf
      have e3 : w.heap.size < w5.heap.size := by have := hme.sz; omega
      clear hme
      have hput := HM5.out.put (pickAt b tj (freeTo tk n).length)
      have HPUT := Lib.hid (hput.below ((Below.refl _ _).alloc (by have := HM5.out.sz; simp; omega) (.cells #[.string b, .int .i64 (pickAt b tj (freeTo tk n).length)] 23)))
      have HLP := Lib.hid (((HL5.out.far (p := ⟨w.heap.size, 0, none⟩) (by show w.heap.size ≠ _; omega) (.string b)).far (p := ⟨w.heap.size, 1, none⟩) (by show w.heap.size ≠ _; omega) (.int .i64 (pickAt b tj (freeTo tk n).length))).alloc (.cells #[.string b, .int .i64 (pickAt b tj (freeTo tk n).length)] 23))
      have HOP := Lib.hid ((ownsRow_setCell_below (ownsRow_setCell_below HO5.out (a := ⟨w.heap.size, 0, none⟩) (by show w.heap.size < _; omega) (.string b)) (a := ⟨w.heap.size, 1, none⟩) (by show w.heap.size < _; omega) (.int .i64 (pickAt b tj (freeTo tk n).length))).alloc (.cells #[.string b, .int .i64 (pickAt b tj (freeTo tk n).length)] 23))
      clear hput HM5 HL5 HO5
      go_wp2
      generalize ((w5.setCell ⟨w.heap.size, 0, none⟩ (.string b)).setCell ⟨w.heap.size, 1, none⟩ (.int .i64 (pickAt b tj (freeTo tk n).length))).alloc (.cells #[.string b, .int .i64 (pickAt b tj (freeTo tk n).length)] 23) = W6 at *
      clear e0 e1 e2 e3 HB5
      go_loopw [8, 10, 12] (fun vo at' i wr' => ∃ c : Nat, c ≤ n ∧ vo = .slice q8 j c8 ∧ i = .int .i64 c ∧ Hid ((freeTo tk c).length ≤ p) ∧ at' = .int .i64 ((p : Int) - (freeTo tk c).length) ∧ wr' = W6) (fun _ _ i _ => n - (intOf i).toNat)
      case atStart => exact ⟨0, by omega, rfl, rfl, by simp [Hid, freeTo], by simp [freeTo], rfl⟩
      case round =>
        obtain ⟨c, hc, rfl, rfl, HC, rfl, rfl⟩ := hrel
        have hcn : c < n := by
          rcases Nat.lt_or_ge c n with h | h
          · exact h
          · obtain rfl : c = n := by omega
            have := HC.out
            omega
        have hd : decide ((c : Int) < (n : Int)) = true := by simp; omega
        have hct : c < tk.length := by rw [HTKL.out]; exact hcn
        obtain ⟨hcell, hfro⟩ := HLP.out.2 c (by simpa using hct)
        rw [List.getElem_map] at hcell
        by_cases hb1 : tk[c] = true
        · rw [hb1] at hcell
          have hfs := freeTo_succ tk c
          rw [if_neg (by rw [List.getElem?_eq_getElem hct, hb1]; simp), List.append_nil] at hfs
          have HFS := Lib.hid hfs
          clear hfs
          go_wp2
          go_roundw
          case rel =>
            refine ⟨c + 1, by omega, rfl, by go_num, by unfold Hid; rw [HFS.out]; exact HC.out, by rw [HFS.out], trivial⟩
          case measure => simp [intOf]; omega
        · have hb2 : tk[c] = false := by simpa using hb1
          rw [hb2] at hcell
          have hfs := freeTo_succ tk c
          rw [if_pos (by rw [List.getElem?_eq_getElem hct, hb2])] at hfs
          by_cases hat : (freeTo tk c).length = p
          · have hfh := free_hit tk c n hcn (by rw [List.getElem?_eq_getElem hct, hb2]) HTKL.out
            rw [hat] at hfh
            have HFH := Lib.hid hfh
            have HAT := Lib.hid hat
            have hat2 : ((p : Int) - (freeTo tk c).length == 0) = true := by simp; omega
            clear hfs hfh hat
            go_wp2_with (first
              | (at_builtin; refine wpList_append_lies _ rfl (.tmp 57) (.tmp 59) 30 rfl (w.heap.size + 3) 3 j0 (.int .i64 0) 1 8 Try.underlying30 ji'.out jz0'.out jz1'.out jz2'.out rfl (by omega) _ j (os.map (Value.int .i64)) rfl (HOP.out.alloc _) ⟨wr.heap.size, 0, none⟩ 1 1 [.int .i64 (c : Int)] rfl rfl ?c1 ?c2 ?c3 ?c4 ?c5 ?c6 _ rfl ?_)
              | fail)
            case c1 =>
              intro jj u hj
              match jj, hj with
              | 0, hj => (simp at hj; subst hj; rw [show (⟨wr.heap.size, 0, none⟩ : Addr).add 0 = ⟨wr.heap.size, 0, none⟩ from rfl, World.cell?_alloc_at _ _ _ _ (by simp)]; rfl)
            case c2 => intro u hu; simp at hu; subst hu; rfl
            case c3 => have := HPUT.out.sz; omega
            case c4 => unfold maxLen; omega
            case c5 => have := HPUT.out.sz; omega
            case c6 => have := HPUT.out.sz; simp; omega
            intro g cap w7 hown7 hgrow7 hat7 hlt7
            have hG7 := HLP.out.alloc (.cells #[.int .i64 (c : Int)] 3)
            have hne : some (w.heap.size + 1 + 1) ≠ (Value.slice q8 j c8).ownBlock := by
              intro e
              have := (HOP.out.lt _ e.symm).1
              omega
            have HL7 := Lib.hid (hG7.grown hgrow7 hne)
            have HG7 := Lib.hid hgrow7
            have HO7 := Lib.hid hown7
            have HLT7 := Lib.hid hlt7
            clear hG7 hgrow7 hown7 hat7 hlt7 hne hcell hfro
            obtain ⟨hcell, hfro⟩ := HL7.out.2 c (by simpa using hct)
            rw [List.getElem_map, hb2] at hcell
            go_wp2_with fail
            go_roundg (gk - 1)
            case measure => omega
            case rel =>
              have hF := HFH.out
              have hpi : p < (ints (freeTo tk n)).length := by rw [ints_length]; exact hpl
              have hget : (ints (freeTo tk n))[p] = (c : Int) := by
                have := List.getElem?_eq_getElem hpl
                rw [hF.1] at this
                injection this with this
                simp [ints, ← this]
              refine ⟨j + 1, pickAt b tj (freeTo tk n).length, os ++ [(c : Int)], tk.set c true, by omega, ?_, ?_, ?_, ?_, pick_i64 b tj _ hb HTJ.out, ?_, ?_⟩
              · refine ownsRow_setCell_below ?_ (by show w.heap.size + 1 + 1 < _; omega) _
                rw [List.map_append]
                exact HO7.out
              · unfold Hid; rw [List.length_set]; exact HTKL.out
              · unfold Hid; rw [hF.2, List.length_eraseIdx_of_lt hpl]; have := HLEN.out; omega
              · have hs := someRun_succ b (gk - 1) tj (ints (freeTo tk n)) p (by rw [ints_length, HP.out]; rfl) hpi
                rw [show gk - 1 + 1 = gk by omega, hget, ints_length, ← ints_erase, ← hF.2] at hs
                have hr := HRUN.out
                rw [hs] at hr
                refine ⟨?_, hr.2⟩
                rw [List.append_assoc]
                exact hr.1
              · have := HL7.out.store c (by simpa using hct) (.bool true)
                rw [List.map_set]
                exact this
              · refine HPUT.out.below ?_
                refine Below.setCell ?_ (by show w.heap.size + 2 ≤ w.heap.size + 1 + 1; omega) _
                refine Below.grown ((Below.refl _ _).alloc (by have := HPUT.out.sz; omega) _) HG7.out (by have := HPUT.out.sz; simp; omega) (fun kk hk => ?_)
                have := (HOP.out.lt _ hk).1
                omega
          · have hat2 : ((p : Int) - (freeTo tk c).length == 0) = false := by simp; have := HC.out; omega
            have hI2 : IntKind.i64.wrap ((p : Int) - (freeTo tk c).length - 1) = (p : Int) - (freeTo tk c).length - 1 := by rw [IntKind.wrap_i64]; have := HC.out; omega
            have HFS := Lib.hid hfs
            clear hfs
            go_wp2
            go_roundw
            case rel =>
              refine ⟨c + 1, by omega, rfl, by go_num, ?_, ?_, trivial⟩
              · unfold Hid; rw [HFS.out]; have := HC.out; simp; omega
              · rw [HFS.out]; simp; omega
            case measure => simp [intOf]; omega
    · have hmi := HMI.out
      by_cases hjn : j < n
      · have hd4 : decide ((j : Int) < (n : Int)) = true := by simp; omega
        have hd5 : decide ((j : Int) < many) = false := by simp; omega
        have hr := HRUN.out
        obtain rfl : gk = 0 := by omega
        have h1' : os = total.1 := by rw [← hr.1]; simp [someRun]
        have h2' : tj = total.2 := hr.2
        have H1 := Lib.hid h1'
        have H2 := Lib.hid h2'
        have hme := HM.out
        have e0 := hme.t0
        have e1 := hme.t1
        have e2 := hme.r0
        have e3 := hme.r1
        have e4 := hme.rf
        have e5 := hme.sz
        clear hme hr h1' h2' hmi
        go_wp2
        go_region
        all_goals
          go_wp2
          refine bodyPost_ret (v := .tuple #[.slice q8 j c8, tp b tj]) (by simp [results, Try.results15, go_sem, e2, e3]) rfl ⟨.slice q8 j c8, ?_, ?_, ?_⟩
          · rw [H2.out]
          · rw [← H1.out, show m = j by omega]
            exact (ownsRow_setCell_below (ownsRow_setCell_below HO.out (a := ⟨w.heap.size + 1, 0, none⟩) (by show w.heap.size + 1 < _; omega) _) (a := ⟨w.heap.size + 1, 1, none⟩) (by show w.heap.size + 1 < _; omega) _).mono (by omega)
          · exact ((HM.out.be.setCell (by simp) _).setCell (by simp) _).drew
      · have hd4 : decide ((j : Int) < (n : Int)) = false := by simp; omega
        have hr := HRUN.out
        obtain rfl : gk = 0 := by omega
        have h1' : os = total.1 := by rw [← hr.1]; simp [someRun]
        have h2' : tj = total.2 := hr.2
        have H1 := Lib.hid h1'
        have H2 := Lib.hid h2'
        have hme := HM.out
        have e0 := hme.t0
        have e1 := hme.t1
        have e2 := hme.r0
        have e3 := hme.r1
        have e4 := hme.rf
        have e5 := hme.sz
        clear hme hr h1' h2' hmi
        go_wp2
        go_region
        all_goals
          go_wp2
          refine bodyPost_ret (v := .tuple #[.slice q8 j c8, tp b tj]) (by simp [results, Try.results15, go_sem, e2, e3]) rfl ⟨.slice q8 j c8, ?_, ?_, ?_⟩
          · rw [H2.out]
          · rw [← H1.out, show m = j by omega]
            exact (ownsRow_setCell_below (ownsRow_setCell_below HO.out (a := ⟨w.heap.size + 1, 0, none⟩) (by show w.heap.size + 1 < _; omega) _) (a := ⟨w.heap.size + 1, 1, none⟩) (by show w.heap.size + 1 < _; omega) _).mono (by omega)
          · exact ((HM.out.be.setCell (by simp) _).setCell (by simp) _).drew
set_option maxRecDepth 100000 in
set_option maxHeartbeats 400000 in
theorem refSome_no (b : ByteArray) (t n many : Int) (h : ¬ (1 ≤ n ∧ n ≤ 1000 ∧ 1 ≤ many)) (w : World) :
    Calls Try.prog 15 #[tp b t, .int .i64 n, .int .i64 many] w fun e w' => ∃ v, e = .returned (.tuple #[v, tp b t]) ∧ w'.ownsRow w.heap.size 3 1 v 0 [] ∧ Below w.heap.size w w' := by
  by_cases h1 : n < 1
  · have hd : decide (n < 1) = true := by simp; omega
    go_enter Try.func15, Try.ntmps15
    go_wp2
    go_region
    all_goals
      go_wp2
      refine bodyPost_ret (v := .tuple #[.slice none 0 0, tp b t]) (by simp [results, Try.results15, go_sem]) rfl ⟨_, rfl, World.ownsRow_nil _ _ _ _, ?_⟩
      exact ((((Below.refl _ _).alloc (Nat.le_refl _) _).alloc (by simp) _).drew)
  · have hd : decide (n < 1) = false := by simp; omega
    by_cases h2 : 1000 < n
    · have hd2 : decide (1000 < n) = true := by simp; omega
      go_enter Try.func15, Try.ntmps15
      go_wp2
      go_region
      all_goals
        go_wp2
        refine bodyPost_ret (v := .tuple #[.slice none 0 0, tp b t]) (by simp [results, Try.results15, go_sem]) rfl ⟨_, rfl, World.ownsRow_nil _ _ _ _, ?_⟩
        exact ((((Below.refl _ _).alloc (Nat.le_refl _) _).alloc (by simp) _).drew)
    · have hd2 : decide (1000 < n) = false := by simp; omega
      have hd3 : decide (many < 1) = true := by simp; omega
      go_enter Try.func15, Try.ntmps15
      go_wp2
      go_region
      all_goals
        go_wp2
        refine bodyPost_ret (v := .tuple #[.slice none 0 0, tp b t]) (by simp [results, Try.results15, go_sem]) rfl ⟨_, rfl, World.ownsRow_nil _ _ _ _, ?_⟩
        exact ((((Below.refl _ _).alloc (Nat.le_refl _) _).alloc (by simp) _).drew)
theorem refSome_any (b : ByteArray) (t n many : Int) (hb : b.size ≤ 10000) (ht : I64 t) (_hn : I64 n) (_hmany : I64 many) (w : World) :
    Calls Try.prog 15 #[tp b t, .int .i64 n, .int .i64 many] w fun e w' => ∃ v, e = .returned (.tuple #[v, tp b (someOf b t n many).2]) ∧ w'.ownsRow w.heap.size 3 1 v (someOf b t n many).1.length ((someOf b t n many).1.map (Value.int .i64)) ∧ Below w.heap.size w w' := by
  by_cases h : inSome n many
  · rw [someOf, if_pos h]
    obtain ⟨h1, h2, h3⟩ := h
    obtain ⟨k, rfl⟩ := Int.eq_ofNat_of_zero_le (show 0 ≤ n by omega)
    rw [Int.toNat_natCast, someRun_length]
    exact refSome_yes b t k many (min (k : Int) many).toNat _ rfl hb ht (by omega) (by omega) h3 (by omega) (by omega) w
  · rw [someOf, if_neg h]
    exact refSome_no b t n many h w
end Go.Proofs.Ytchpgoipoaoboaa
