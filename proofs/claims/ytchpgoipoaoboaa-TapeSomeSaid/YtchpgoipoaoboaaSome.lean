/-
  THE WALK OF tape.Some.
-/
import Derived.Test.YtchpgoipoaoboaaLies
import Derived.Deep.Onto
namespace Go.Proofs.Ytchpgoipoaoboaa
open Go.RowKit
/-- so many are picked out of those that are left -/
def someRun (b : ByteArray) : Nat → Int → List Int → List Int × Int
  | 0, t, _ => ([], t)
  | m + 1, t, ls =>
    let k := (pickN b t ls.length).toNat
    let r := someRun b m (pickAt b t ls.length) (ls.eraseIdx k)
    (ls.getD k 0 :: r.1, r.2)
theorem pick_lt (b : ByteArray) (t : Int) (n : Nat) (h1 : 1 ≤ n) (h2 : n ≤ 2147483647) : 0 ≤ pickN b t n ∧ pickN b t n < n := by
  have r := nv_range (drawV b t)
  have hin : inPick (n : Int) := ⟨by omega, by omega⟩
  rw [pickN, if_pos hin, pickV]
  have h3 : 0 ≤ nv (drawV b t) * (n : Int) := Int.mul_nonneg r.1 (by omega)
  have h4 : nv (drawV b t) * (n : Int) ≤ 4294967295 * (n : Int) := Int.mul_le_mul_of_nonneg_right r.2 (by omega)
  omega
theorem pick_i64 (b : ByteArray) (t n : Int) (hb : b.size ≤ 10000) (ht : I64 t) : I64 (pickAt b t n) := by
  unfold pickAt; split
  · exact draw_i64 b t hb ht
  · exact ht
theorem info3 : (Try.prog.info? 3).map (fun i => (i.zero, i.size, i.bytes)) = some (some (.int .i64 0), 1, 8) := by kernel_rfl
theorem made_zeros (n : Nat) : (madeCells (Value.int .i64 0).cells (n * 1)).toList = (List.replicate n (0 : Int)).map (Value.int .i64) := by
  unfold madeCells
  apply List.ext_getElem?
  intro i
  by_cases hi : i < n
  · simp [Value.cells, hi, Nat.mod_one]
  · simp [hi]
/-- the first k numbers, and zeros -/
def upto (n k : Nat) : List Int := (List.range n).map fun i => if i < k then (i : Int) else 0
theorem upto_length (n k : Nat) : (upto n k).length = n := by simp [upto]
theorem upto_zero (n : Nat) : upto n 0 = List.replicate n 0 := by
  apply List.ext_getElem?
  intro i
  by_cases hi : i < n <;> simp [upto, hi]
theorem upto_succ (n k : Nat) (h : k < n) : (upto n k).set k (k : Int) = upto n (k + 1) := by
  apply List.ext_getElem?
  intro i
  rw [List.getElem?_set]
  by_cases hk : k = i
  · subst hk
    simp [upto, h]
  · by_cases hi : i < n
    · have : (i < k + 1) = (i < k) := by simp; omega
      simp [upto, hi, hk, this]
    · simp [upto, hi, hk]
/-- the boxed tape, the result's place, and what was there -/
structure Mem (w wr : World) (b : ByteArray) (t : Int) : Prop where
  t0 : wr.cell? ⟨w.heap.size, 0, none⟩ = some (.string b)
  t1 : wr.cell? ⟨w.heap.size, 1, none⟩ = some (.int .i64 t)
  tf : ∀ i, wr.frozen? ⟨w.heap.size, i, none⟩ = false
  r0 : wr.cell? ⟨w.heap.size + 1, 0, none⟩ = some (.string ⟨#[]⟩)
  r1 : wr.cell? ⟨w.heap.size + 1, 1, none⟩ = some (.int .i64 0)
  rf : ∀ i, wr.frozen? ⟨w.heap.size + 1, i, none⟩ = false
  be : Below w.heap.size w wr
  sz : w.heap.size + 3 ≤ wr.heap.size
theorem Mem.below {w wr w1 : World} {b : ByteArray} {t : Int} (h : Mem w wr b t) (hb : Below (w.heap.size + 2) wr w1) : Mem w w1 b t :=
  ⟨(hb.cell (by first | (simp; done) | (simp; omega))).trans h.t0, (hb.cell (by first | (simp; done) | (simp; omega))).trans h.t1, fun i => (hb.frozen (by first | (simp; done) | (simp; omega))).trans (h.tf i), (hb.cell (by first | (simp; done) | (simp; omega))).trans h.r0, (hb.cell (by first | (simp; done) | (simp; omega))).trans h.r1, fun i => (hb.frozen (by first | (simp; done) | (simp; omega))).trans (h.rf i),
    h.be.trans (hb.mono (by omega)), Nat.le_trans h.sz hb.size⟩
theorem Mem.put {w wr : World} {b : ByteArray} {t : Int} (h : Mem w wr b t) (t' : Int) : Mem w ((wr.setCell ⟨w.heap.size, 0, none⟩ (.string b)).setCell ⟨w.heap.size, 1, none⟩ (.int .i64 t')) b t' := by
  have e0 := h.t0
  have e1 := h.t1
  have e2 := h.r0
  have e3 := h.r1
  refine ⟨?_, ?_, fun i => by rw [World.frozen?_setCell, World.frozen?_setCell]; exact h.tf i, ?_, ?_, fun i => by rw [World.frozen?_setCell, World.frozen?_setCell]; exact h.rf i, ?_, by rw [World.size_setCell, World.size_setCell]; exact h.sz⟩
  · rw [World.cell?_setCell_other _ _ _ _ (by intro e; injection e with _ e4; cases e4)]; exact World.cell?_setCell_same _ _ _ e0
  · exact World.cell?_setCell_same _ _ _ (by rw [World.cell?_setCell_other _ _ _ _ (by intro e; injection e with _ e4; cases e4)]; exact e1)
  · rw [World.cell?_setCell_other _ _ _ _ (by intro e; injection e with e4; omega), World.cell?_setCell_other _ _ _ _ (by intro e; injection e with e4; omega)]; exact e2
  · rw [World.cell?_setCell_other _ _ _ _ (by intro e; injection e with e4; omega), World.cell?_setCell_other _ _ _ _ (by intro e; injection e with e4; omega)]; exact e3
  · exact (h.be.setCell (Nat.le_refl _) _).setCell (Nat.le_refl _) _
theorem own_below {W w1 : World} {base : Nat} {e : TypeId} {size : Nat} {v : Value} {n : Nat} {xs : List Value} (h : W.ownsRow base e size v n xs) (hb : Below W.heap.size W w1) : w1.ownsRow base e size v n xs := by
  obtain ⟨h1, h2⟩ := h
  refine ⟨h1, ?_⟩
  rcases h2 with h2 | ⟨g, cap, cur, hv, hg, hh, r⟩
  · exact Or.inl h2
  · have hlt : g < W.heap.size := by
      rcases Nat.lt_or_ge g W.heap.size with q | q
      · exact q
      · rw [Array.getElem?_eq_none q] at hh; cases hh
    exact Or.inr ⟨g, cap, cur, hv, hg, by rw [hb.block g hlt]; exact hh, r⟩
theorem someRun_succ (b : ByteArray) (m : Nat) (t : Int) (ls : List Int) (k : Nat) (hk : (pickN b t ls.length).toNat = k) (hlt : k < ls.length) :
    someRun b (m + 1) t ls = (ls[k] :: (someRun b m (pickAt b t ls.length) (ls.eraseIdx k)).1, (someRun b m (pickAt b t ls.length) (ls.eraseIdx k)).2) := by
  rw [someRun]
  simp only [hk]
  rw [List.getD_eq_getElem?_getD, List.getElem?_eq_getElem hlt, Option.getD_some]
set_option maxRecDepth 100000 in
set_option maxHeartbeats 400000 in
theorem some_yes (b : ByteArray) (t : Int) (n : Nat) (many : Int) (m : Nat) (total : List Int × Int) (HT : Hid (someRun b m t (upto n n) = total)) (hb : b.size ≤ 10000) (ht : I64 t) (h1 : 1 ≤ n) (h2 : n ≤ 1000) (hmany : 1 ≤ many) (_hmi : I64 many)
    (hm : min (n : Int) many = (m : Int)) (hmn : m ≤ n) (w : World) :
    Calls Try.prog 14 #[tp b t, .int .i64 n, .int .i64 many] w fun e w' => ∃ v, e = .returned (.tuple #[v, tp b total.2]) ∧ w'.ownsRow w.heap.size 3 1 v m (total.1.map (Value.int .i64)) ∧ Below w.heap.size w w' := by
  have hd1 : decide ((n : Int) < 1) = false := by simp; omega
  have hd2 : decide (1000 < (n : Int)) = false := by simp; omega
  have hd3 : decide (many < 1) = false := by simp; omega
  unfold I64 at _hmi
  obtain ⟨i0, hi, hz0, hz1, hz2⟩ := info_parts info3
  have hi' := Lib.hid hi
  have hz0' := Lib.hid hz0
  have hz1' := Lib.hid hz1
  have hz2' := Lib.hid hz2
  clear hi hz0 hz1 hz2
  go_enter Try.func14, Try.ntmps14
  go_wp2_with (first
    | (at_make; refine wpList_make_full _ rfl _ _ 30 rfl (w.heap.size + 2) 3 i0 (.int .i64 0) 1 Try.underlying30 hi'.out hz0'.out hz1'.out .i64 .i64 _ _ n rfl rfl rfl rfl (by rw [hz2'.out]; omega) (by unfold maxLen; omega) (by simp) ?_; intro w4 hown4 hgrow4; rw [made_zeros] at hown4))
  have hsz4 := (hown4.lt _ rfl).2
  simp at hsz4
  simp only [World.size_alloc] at hown4
  have hmem : Mem w w4 b t := by
    have hbb : Below (w.heap.size + 2) ((w.alloc (.cells #[.string b, .int .i64 t] 23)).alloc (.cells #[.string ⟨#[]⟩, .int .i64 0] 23)) w4 := (Below.refl _ _).grown hgrow4 (by simp) (fun k hk => by cases hk)
    refine ⟨?_, ?_, fun i => ?_, ?_, ?_, fun i => ?_, (((Below.refl _ _).alloc (Nat.le_refl _) _).alloc (by simp) _).trans (hbb.mono (by omega)), by omega⟩
    · rw [hbb.cell (by first | (simp; done) | (simp; omega))]; simp
    · rw [hbb.cell (by first | (simp; done) | (simp; omega))]; simp
    · rw [hbb.frozen (by first | (simp; done) | (simp; omega))]; simp
    · rw [hbb.cell (by first | (simp; done) | (simp; omega))]; simp
    · rw [hbb.cell (by first | (simp; done) | (simp; omega))]; simp
    · rw [hbb.frozen (by first | (simp; done) | (simp; omega))]; simp
  have hlies : LiesI w4 (w.heap.size + 1 + 1) (upto n 0) := by
    rw [upto_zero]; exact LiesI.own hown4 hsz4
  have HM := Lib.hid hmem
  have HL := Lib.hid hlies
  clear hown4 hgrow4 hmem hlies
  go_loopw [25] (fun i wr => ∃ k : Nat, k ≤ n ∧ i = .int .i64 k ∧ LiesI wr (w.heap.size + 1 + 1) (upto n k) ∧ Mem w wr b t) (fun i _ => n - (intOf i).toNat)
  case atStart => exact ⟨0, by omega, rfl, HL.out, HM.out⟩
  case round =>
    obtain ⟨k, hk, rfl, hl, hme⟩ := hrel
    clear HL HM
    have HL := Lib.hid hl
    have HM := Lib.hid hme
    clear hl hme hsz4
    by_cases hlt : k < n
    · have hd : decide ((k : Int) < (n : Int)) = true := by simp; omega
      obtain ⟨hcell, hfro⟩ := HL.out.2 k (by rw [upto_length]; exact hlt)
      have hzz := HL.out.1
      go_wp2
      go_roundw
      case rel =>
        refine ⟨k + 1, by omega, by go_num, ?_, HM.out.below ((Below.refl _ _).setCell (by first | (simp; done) | (simp; omega)) _)⟩
        rw [← upto_succ n k hlt]
        exact HL.out.store k (by rw [upto_length]; exact hlt) _
      case measure => simp [intOf]; omega
    · have hd : decide ((k : Int) < (n : Int)) = false := by simp; omega
      obtain rfl : k = n := by omega
      clear hd hlt hk
      go_wp2
      go_loopw [6, 8, 36] (fun vo vl i wr => ∃ (j : Nat) (tj : Int) (os ls : List Int), j ≤ m ∧ i = .int .i64 j ∧ vl = .slice (some ⟨w.heap.size + 1 + 1, 0, none⟩) ls.length k ∧ Hid (ls.length + j = k) ∧ wr.ownsRow (w.heap.size + 3) 3 1 vo j (os.map (Value.int .i64)) ∧ Hid (os ++ (someRun b (m - j) tj ls).1 = total.1 ∧ (someRun b (m - j) tj ls).2 = total.2) ∧ I64 tj ∧ LiesI wr (w.heap.size + 1 + 1) ls ∧ Mem w wr b tj) (fun _ _ i _ => m - (intOf i).toNat)
      case atStart =>
        refine ⟨0, t, [], upto k k, by omega, rfl, by rw [upto_length], ?_, World.ownsRow_nil _ _ _ _, ⟨?_, ?_⟩, ht, HL.out, HM.out⟩
        · show _ = _; rw [upto_length]; rfl
        · rw [← HT.out]; rfl
        · rw [← HT.out]; rfl
      case round =>
        obtain ⟨j, tj, os, ls, hj, rfl, rfl, HLEN, hown, HRUN, htj, hl, hme⟩ := hrel
        clear HL HM
        have HL := Lib.hid hl
        have HM := Lib.hid hme
        have HO := Lib.hid hown
        have HTJ := Lib.hid htj
        have hlen2 : ls.length + j ≤ k := Nat.le_of_eq HLEN.out
        clear hl hme hown htj
        by_cases hlt : j < m
        · have hd : decide ((j : Int) < (m : Int)) = true := by simp; omega
          have hpos : 1 ≤ ls.length := by have := HLEN.out; omega
          have hme := HM.out
          have e0 := hme.t0
          have e1 := hme.t1
          have e2 := hme.tf
          clear hme
          go_wp2_with fail
          refine (pick_any b tj ls.length hb HTJ.out (by unfold I64; omega) _).mono ?_
          rintro e w5 ⟨rfl, hb5⟩
          have HB5 := Lib.hid hb5
          clear hb5
          obtain ⟨p, hp, hpl⟩ : ∃ p : Nat, pickN b tj ls.length = (p : Int) ∧ p < ls.length := by
            have := pick_lt b tj ls.length hpos (by omega)
            exact ⟨(pickN b tj ls.length).toNat, by omega, by omega⟩
          have HP := Lib.hid hp
          rw [hp]
          clear hp
          have HM5 := Lib.hid (HM.out.below (HB5.out.mono (by have := HM.out.sz; omega)))
          have HL5 := Lib.hid (HL.out.below HB5.out)
          have HO5 := Lib.hid (own_below HO.out HB5.out)
          clear e0 e1 e2 HM HL HO
          have hme := HM5.out
          have e0 := hme.t0
          have e1 := hme.t1
          have e2 := hme.tf
          have e3 := hme.sz
          clear hme
          obtain ⟨hcell, hfro⟩ := HL5.out.2 p hpl
          have hput := HM5.out.put (pickAt b tj ls.length)
          have HPUT := Lib.hid hput
          have HLP := Lib.hid ((HL5.out.far (p := ⟨w.heap.size, 0, none⟩) (by show w.heap.size ≠ _; omega) (.string b)).far (p := ⟨w.heap.size, 1, none⟩) (by show w.heap.size ≠ _; omega) (.int .i64 (pickAt b tj ls.length)))
          have HOP := Lib.hid (ownsRow_setCell_below (ownsRow_setCell_below HO5.out (a := ⟨w.heap.size, 0, none⟩) (by show w.heap.size < _; omega) (.string b)) (a := ⟨w.heap.size, 1, none⟩) (by show w.heap.size < _; omega) (.int .i64 (pickAt b tj ls.length)))
          clear hput
          go_wp2_with (first
            | (at_builtin; refine wpList_append_lies _ rfl (.tmp 45) (.tmp 50) 30 rfl (w.heap.size + 3) 3 i0 (.int .i64 0) 1 8 Try.underlying30 hi'.out hz0'.out hz1'.out hz2'.out rfl (by omega) _ j (os.map (Value.int .i64)) rfl (HOP.out.alloc _) ⟨w5.heap.size, 0, none⟩ 1 1 [.int .i64 ls[p]] rfl rfl ?c1 ?c2 ?c3 ?c4 ?c5 ?c6 _ rfl ?_)
            | fail)
          case c1 =>
            intro jj u hj
            match jj, hj with
            | 0, hj => (simp at hj; subst hj; rw [show (⟨w5.heap.size, 0, none⟩ : Addr).add 0 = ⟨w5.heap.size, 0, none⟩ from rfl, World.cell?_alloc_at _ _ _ _ (by simp)]; rfl)
          case c2 => intro u hu; simp at hu; subst hu; rfl
          case c3 => omega
          case c4 => unfold maxLen; omega
          case c5 => omega
          case c6 => simp; omega
          intro g cap w7 hown7 hgrow7 hat7 hlt7
          have hG7 := HLP.out.alloc (.cells #[.int .i64 ls[p]] 3)
          have hne : some (w.heap.size + 1 + 1) ≠ u6.ownBlock := by
            intro e
            have := (HO5.out.lt _ e.symm).1
            omega
          have HL7 := Lib.hid (hG7.grown hgrow7 hne)
          have HG7 := Lib.hid hgrow7
          have HO7 := Lib.hid hown7
          have HLT7 := Lib.hid hlt7
          clear hG7 hgrow7 hown7 hat7 hlt7 hne
          go_wp2_with fail
          refine (del_any (w.heap.size + 1 + 1) k p ls _ HL7.out hpl (by omega) (by omega)).mono ?_
          rintro e w8 ⟨rfl, q, rfl⟩
          have e1 : (ls.eraseIdx p).length + (j + 1) = k := by
            rw [List.length_eraseIdx_of_lt hpl]; have := HLEN.out; omega
          have E1 := Lib.hid e1
          clear e1
          go_wp2_with fail
          go_roundw
          case rel =>
            refine ⟨j + 1, pickAt b tj ls.length, os ++ [ls[p]], ls.eraseIdx p, by omega, by go_num, rfl, E1, ?_, ?_, pick_i64 b tj _ hb HTJ.out, ?_, ?_⟩
            · refine own_setCells _ (by omega) _ _ _ ?_
              rw [List.map_append]
              exact HO7.out
            · have hs := someRun_succ b (m - (j + 1)) tj ls p (by rw [HP.out]; rfl) hpl
              rw [show m - (j + 1) + 1 = m - j by omega] at hs
              have hr := HRUN.out
              rw [hs] at hr
              refine ⟨?_, hr.2⟩
              rw [List.append_assoc]
              exact hr.1
            · have h9 : LiesI (w7.drewN q) (w.heap.size + 1 + 1) ls := HL7.out
              have h10 := (h9.cells (ls.eraseIdx p ++ [0]) (by rw [List.length_append, List.length_eraseIdx_of_lt hpl]; simp; omega)).front
              rw [List.map_append] at h10
              exact h10
            · refine HPUT.out.below ?_
              refine below_setCells _ (by omega) _ _ _ _ ?_
              refine below_drewN ?_ _
              refine Below.grown ((Below.refl _ _).alloc (by simp; omega) _) HG7.out (by simp; omega) (fun kk hk => ?_)
              have := (HO5.out.lt _ hk).1
              omega
          case measure => simp [intOf]; omega
        · have hd : decide ((j : Int) < (m : Int)) = false := by simp; omega
          obtain rfl : j = m := by omega
          have hr := HRUN.out
          rw [Nat.sub_self] at hr
          have h1 : os = total.1 := by rw [← hr.1]; simp [someRun]
          have h2 : tj = total.2 := hr.2
          have H1 := Lib.hid h1
          have H2 := Lib.hid h2
          have hme := HM.out
          have e0 := hme.t0
          have e1 := hme.t1
          have e2 := hme.r0
          have e3 := hme.r1
          have e4 := hme.rf
          have e5 := hme.sz
          clear hme hr h1 h2
          go_wp2
          go_region
          all_goals
            go_wp2
            refine bodyPost_ret (v := .tuple #[u6, tp b tj]) (by simp [results, Try.results14, go_sem, e2, e3]) rfl ⟨u6, ?_, ?_, ?_⟩
            · rw [H2.out]
            · rw [← H1.out]
              exact (ownsRow_setCell_below (ownsRow_setCell_below HO.out (a := ⟨w.heap.size + 1, 0, none⟩) (by show w.heap.size + 1 < _; omega) _) (a := ⟨w.heap.size + 1, 1, none⟩) (by show w.heap.size + 1 < _; omega) _).mono (by omega)
            · exact ((HM.out.be.setCell (by simp) _).setCell (by simp) _).drew
set_option maxRecDepth 100000 in
set_option maxHeartbeats 400000 in
theorem some_no (b : ByteArray) (t n many : Int) (h : ¬ (1 ≤ n ∧ n ≤ 1000 ∧ 1 ≤ many)) (w : World) :
    Calls Try.prog 14 #[tp b t, .int .i64 n, .int .i64 many] w fun e w' => ∃ v, e = .returned (.tuple #[v, tp b t]) ∧ w'.ownsRow w.heap.size 3 1 v 0 [] ∧ Below w.heap.size w w' := by
  by_cases h1 : n < 1
  · have hd : decide (n < 1) = true := by simp; omega
    go_enter Try.func14, Try.ntmps14
    go_wp2
    go_region
    all_goals
      go_wp2
      refine bodyPost_ret (v := .tuple #[.slice none 0 0, tp b t]) (by simp [results, Try.results14, go_sem]) rfl ⟨_, rfl, World.ownsRow_nil _ _ _ _, ?_⟩
      exact ((((Below.refl _ _).alloc (Nat.le_refl _) _).alloc (by simp) _).drew)
  · have hd : decide (n < 1) = false := by simp; omega
    by_cases h2 : 1000 < n
    · have hd2 : decide (1000 < n) = true := by simp; omega
      go_enter Try.func14, Try.ntmps14
      go_wp2
      go_region
      all_goals
        go_wp2
        refine bodyPost_ret (v := .tuple #[.slice none 0 0, tp b t]) (by simp [results, Try.results14, go_sem]) rfl ⟨_, rfl, World.ownsRow_nil _ _ _ _, ?_⟩
        exact ((((Below.refl _ _).alloc (Nat.le_refl _) _).alloc (by simp) _).drew)
    · have hd2 : decide (1000 < n) = false := by simp; omega
      have hd3 : decide (many < 1) = true := by simp; omega
      go_enter Try.func14, Try.ntmps14
      go_wp2
      go_region
      all_goals
        go_wp2
        refine bodyPost_ret (v := .tuple #[.slice none 0 0, tp b t]) (by simp [results, Try.results14, go_sem]) rfl ⟨_, rfl, World.ownsRow_nil _ _ _ _, ?_⟩
        exact ((((Below.refl _ _).alloc (Nat.le_refl _) _).alloc (by simp) _).drew)
def inSome (n many : Int) : Prop := 1 ≤ n ∧ n ≤ 1000 ∧ 1 ≤ many
instance (n many : Int) : Decidable (inSome n many) := by unfold inSome; infer_instance
def someOf (b : ByteArray) (t n many : Int) : List Int × Int :=
  if inSome n many then someRun b (min n many).toNat t (upto n.toNat n.toNat) else ([], t)
theorem someRun_length (b : ByteArray) : ∀ (m : Nat) (t : Int) (ls : List Int), (someRun b m t ls).1.length = m
  | 0, _, _ => rfl
  | m + 1, t, ls => by rw [someRun]; simp only [List.length_cons]; rw [someRun_length b m]
theorem some_any (b : ByteArray) (t n many : Int) (hb : b.size ≤ 10000) (ht : I64 t) (hn : I64 n) (hmany : I64 many) (w : World) :
    Calls Try.prog 14 #[tp b t, .int .i64 n, .int .i64 many] w fun e w' => ∃ v, e = .returned (.tuple #[v, tp b (someOf b t n many).2]) ∧ w'.ownsRow w.heap.size 3 1 v (someOf b t n many).1.length ((someOf b t n many).1.map (Value.int .i64)) ∧ Below w.heap.size w w' := by
  by_cases h : inSome n many
  · rw [someOf, if_pos h]
    obtain ⟨h1, h2, h3⟩ := h
    obtain ⟨k, rfl⟩ := Int.eq_ofNat_of_zero_le (show 0 ≤ n by omega)
    rw [Int.toNat_natCast, someRun_length]
    exact some_yes b t k many (min (k : Int) many).toNat _ rfl hb ht (by omega) (by omega) h3 hmany (by omega) (by omega) w
  · rw [someOf, if_neg h]
    exact some_no b t n many h w
end Go.Proofs.Ytchpgoipoaoboaa
