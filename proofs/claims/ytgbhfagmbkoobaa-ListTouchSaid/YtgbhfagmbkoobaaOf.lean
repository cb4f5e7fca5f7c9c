/-
  THE WALK OF list.Of.
-/
import Derived.Test.YtgbhfagmbkoobaaTold
import Derived.Deep.QuietTactic
namespace Go.Proofs.Ytgbhfagmbkoobaa
open Go.RowKit
/-- the numbers l are what the slice holds -/
def RowI (w : World) (A : Option Addr) (l : List Int) : Prop := ∀ j (h : j < l.length), ∃ a, A = some a ∧ a.block < w.heap.size ∧ w.cell? (a.add j) = some (.int .i64 l[j])
theorem RowI.below {w w1 : World} {A : Option Addr} {l : List Int} (h : RowI w A l) (hb : Below w.heap.size w w1) : RowI w1 A l := by
  intro j hj
  obtain ⟨a, ha, hlt, hc⟩ := h j hj
  exact ⟨a, ha, Nat.lt_of_lt_of_le hlt hb.size, by rw [hb.cell (by rw [Addr.add]; split <;> exact hlt)]; exact hc⟩
attribute [local go_sem] zero26 cells_get cells_set upd_at at_hd at_tl
/-- numbers that may be told: no number twice, each below 64 -/
def Valid (l : List Nat) : Prop := (∀ a ∈ l, a < 64) ∧ l.Nodup
def castL (l : List Nat) : List Int := l.map fun a : Nat => (a : Int)
def OfSays (xs : List Int) (w : World) (e : Ending) (w' : World) : Prop :=
  ∃ (s : Ls) (n : Int), e = .returned (.tuple #[.agg (cells s.at), .int .i64 n]) ∧ Below w.heap.size w w' ∧ ((∃ l, Valid l ∧ xs = castL l ∧ s = toldL l ∧ n = 0) ∨ ((∀ l, Valid l → xs ≠ castL l) ∧ s = newL ∧ n = 110))
theorem castL_get (l : List Nat) (q : Nat) (h : q < (castL l).length) : ∃ a, a ∈ l ∧ (castL l)[q] = (a : Int) := by
  unfold castL at h ⊢
  rw [List.length_map] at h
  exact ⟨l[q], List.getElem_mem _, by simp⟩
theorem castL_inj {l m : List Nat} (h : castL l = castL m) : l = m := by
  have := congrArg (List.map Int.toNat) h
  simpa [castL, List.map_map, Function.comp_def] using this
theorem no_range (xs : List Int) (q : Nat) (hq : q < xs.length) (h : ¬ (0 ≤ xs[q] ∧ xs[q] < 64)) (l : List Nat) (hv : Valid l) : xs ≠ castL l := by
  rintro rfl
  obtain ⟨a, ha, e⟩ := castL_get l q hq
  have := hv.1 a ha
  rw [e] at h
  omega
theorem no_twice (xs : List Int) (q a : Nat) (hq : q < xs.length) (h : xs[q] = (a : Int)) (m : List Nat) (hm : xs.drop (q + 1) = castL m) (ha : a ∈ m) (l : List Nat) (hv : Valid l) : xs ≠ castL l := by
  rintro rfl
  have hq' : q < l.length := by simpa [castL] using hq
  have e1 : l[q] = a := by
    have : (castL l)[q] = (l[q] : Int) := by simp [castL]
    rw [this] at h
    exact_mod_cast h
  have e2 : l.drop (q + 1) = m := castL_inj (by rw [← hm]; simp [castL, List.map_drop])
  have hd : l.drop q = a :: m := by rw [List.drop_eq_getElem_cons hq', e1, e2]
  have := (hv.2.sublist (List.drop_sublist q l))
  rw [hd, List.nodup_cons] at this
  exact this.1 ha
theorem drop_step (xs : List Int) (q a : Nat) (hq : q < xs.length) (h : xs[q] = (a : Int)) (m : List Nat) (hm : xs.drop (q + 1) = castL m) : xs.drop q = castL (a :: m) := by
  rw [List.drop_eq_getElem_cons hq, h, hm]; rfl
theorem Lies.setRow {w : World} {g : Nat} {c : Nat → Value} (h : Lies w g c) (d : Nat → Value) : Lies (w.setRow g (cells d)) g d := ⟨setRow_heap _ _ _ _ _ _ h.row⟩
theorem Lies.other {w : World} {g : Nat} {c : Nat → Value} (h : Lies w g c) (g' : Nat) (hne : g ≠ g') (d : Array Value) : Lies (w.setRow g' d) g c := ⟨by rw [setRow_other _ _ _ _ hne]; exact h.row⟩
theorem Lies.belowB {w w1 : World} {B g : Nat} {c : Nat → Value} (h : Lies w g c) (hb : Below B w w1) (hg : g < B) : Lies w1 g c := ⟨by rw [hb.block g hg]; exact h.row⟩
theorem results_row_tmp {P : Program} {fn : Func} {p q : Tmp} {ty : TypeId} (h : fn.results = #[.cell p ty, .tmp q]) (tmps : Array Value) (w : World) (g : Nat) (t : TypeId) (cs : Array Value) (fr : Nat × Nat) (d : TypeDesc) (v : Value)
    (hp : tmps.getD p undef = .pointer (some ⟨g, 0, none⟩)) (hg : w.heap[g]? = some (.cells cs t fr))
    (hu : P.underlying ty = some d) (hd : (match d with | .struct _ | .array _ _ => true | _ => false) = true) (hi : (P.info? ty).map (·.size) = some cs.size) (hq : tmps.getD q undef = v) :
    (results fn tmps).run P w = .ok (.tuple #[.agg cs, v]) w := by
  have hp' : tmps[p]?.getD undef = .pointer (some ⟨g, 0, none⟩) := by simpa using hp
  have hq' : tmps[q]?.getD undef = v := by simpa using hq
  simp [results, h, hp', asAddr, hq', run_loadVar_row w g t ty cs fr d hg hu hd hi]
set_option maxRecDepth 100000 in
set_option maxHeartbeats 1600000 in
theorem of_any (A : Option Addr) (c : Nat) (xs : List Int) (hn : xs.length ≤ 1000) (w : World) (hr : RowI w A xs) : Calls Try.prog 10 #[.slice A xs.length c] w (OfSays xs w) := by
  have HR := Lib.hid hr
  clear hr
  go_enter Try.func10, Try.ntmps10
  go_wp2_with fail
  refine (new_any _).mono ?_
  rintro e w1 ⟨rfl, hb1⟩
  have HB1 := Lib.hid hb1
  clear hb1
  go_wp2_with (first
    | (refine wpList_store_row rfl 26 (.tmp 4) (.tmp 7) rfl w1.heap.size _ rfl rfl 26 _ (heap_alloc_last _ _) (size26 _) (size_same _ _) (Flat.all (Flat.at _)) ?_; rw [World.setRow_alloc_new])
    | fail)
  have HL1 := Lib.hid (Lies.new w1 newL.at)
  have hz : w1.heap[w.heap.size]? = some (.cells (cells z0.at) 26) := by
    rw [HB1.out.block _ (by simp)]
    exact heap_alloc_last _ _
  have HZ1 := Lib.hid (Lies.below ⟨hz⟩ (((Below.refl _ _).alloc (Nat.le_refl _) (.cells (cells newL.at) 26))))
  have HW := Lib.hid (show w.heap.size < w1.heap.size from Nat.lt_of_lt_of_le (by simp) HB1.out.size)
  clear hz
  go_loopw [10] (fun i wr => ∃ (j : Nat) (l : List Nat), j ≤ xs.length ∧ i = .int .i64 j ∧ Hid (xs.drop (xs.length - j) = castL l) ∧ Hid (Valid l) ∧ Lies wr w1.heap.size (toldL l).at ∧ Lies wr w.heap.size z0.at ∧ Below w.heap.size w wr) (fun i _ => xs.length - (intOf i).toNat)
  case atStart =>
    refine ⟨0, [], by omega, rfl, by simp [Hid, castL], by simp [Hid, Valid], HL1.out, HZ1.out, ?_⟩
    exact ((Below.refl w.heap.size w).alloc (Nat.le_refl _) _).trans ((HB1.out.trans ((Below.refl _ _).alloc HB1.out.size _)).mono (by simp))
  case round =>
    obtain ⟨j, l, hj, rfl, HX, HV, hl, hz, hbe⟩ := hrel
    have HL := Lib.hid hl
    have HZ := Lib.hid hz
    have HE := Lib.hid hbe
    clear hl hz hbe
    by_cases hlt : j < xs.length
    · have hd : decide ((j : Int) < (xs.length : Int)) = true := by simp; omega
      obtain ⟨q, hq⟩ : ∃ q : Nat, q = xs.length - 1 - j := ⟨_, rfl⟩
      have hql : q < xs.length := by omega
      have hq1 : IntKind.i64.wrap ((xs.length : Int) - 1) = (xs.length : Int) - 1 := by rw [IntKind.wrap_i64]; omega
      have hq2 : IntKind.i64.wrap ((xs.length : Int) - 1 - j) = (q : Int) := by rw [IntKind.wrap_i64]; omega
      have HX1 : Hid (xs.drop (q + 1) = castL l) := by
        have := HX.out
        rwa [show xs.length - j = q + 1 by omega] at this
      have HQ := Lib.hid hq
      clear hq
      obtain ⟨p, rfl, hpb, hp⟩ := (HR.out.below HE.out) q hql
      have hgen : ∀ v, xs[q] = v → wr.cell? (p.add q) = some (.int .i64 v) := fun v hv => by rw [← hv]; exact hp
      clear hp
      by_cases hval : 0 ≤ xs[q] ∧ xs[q] < 64
      · obtain ⟨a, ha⟩ := Int.eq_ofNat_of_zero_le hval.1
        have ha64 : a < 64 := by omega
        have hp := hgen _ ha
        have hi1 : (0 : Int) ≤ (a : Int) := by omega
        have hi2 : (a : Int) < 64 := by omega
        have hi3 : decide (0 ≤ (a : Int) ∧ (a : Int) < 64) = true := by simp; omega
        have hcell : wr.cell? ⟨w1.heap.size, 128 + a, none⟩ = some (.bool (decide (a ∈ l))) := by
          rw [HL.out.cell _ (by omega), at_inn _ _ ha64, told_inn]
        have HA := Lib.hid ha
        clear hgen ha hval
        by_cases hin : a ∈ l
        · rw [decide_eq_true hin] at hcell
          have HI := Lib.hid hin
          clear hin
          go_wp2_with (first | (go_at_call 24; refine (is_any _ _).mono ?_; rintro e w2 ⟨rfl, rfl⟩; rw [hi3]) | fail)
          refine (new_any _).mono ?_
          rintro e w2 ⟨rfl, hb2⟩
          have HB2 := Lib.hid hb2
          clear hb2
          have HZ2 := Lib.hid (HZ.out.below HB2.out)
          go_wp2_with (first
            | (refine wpList_store_row rfl 26 (.tmp 2) (.tmp 30) rfl w.heap.size _ rfl rfl 26 _ HZ2.out.row (size26 _) (size_same _ _) (Flat.all (Flat.at _)) ?_)
            | fail)
          have HF : Below w.heap.size w (w2.setRow w.heap.size (cells newL.at)) := below_setRow (HE.out.trans (HB2.out.mono HE.out.size)) (Nat.le_refl _)
          refine bodyPost_ret (v := .tuple #[.agg (cells newL.at), .int .i64 110]) ?_ rfl ⟨_, _, rfl, HF, Or.inr ⟨no_twice xs q a hql HA.out l HX1.out HI.out, rfl, rfl⟩⟩
          exact results_row_tmp rfl _ _ w.heap.size 26 _ (0, 0) _ _ rfl (setRow_heap _ _ _ _ _ _ HZ2.out.row) Try.underlying26 rfl (size26 _) rfl
        · rw [decide_eq_false hin] at hcell
          go_wp2_with (first
            | (go_at_call 24; refine (is_any _ _).mono ?_; rintro e w2 ⟨rfl, rfl⟩; rw [hi3])
            | (refine wpList_load_row rfl 26 (.tmp 4) rfl w1.heap.size rfl 26 _ (0, 0) _ HL.out.row Try.underlying26 rfl (size26 _) ?_)
            | fail)
          have HI := Lib.hid hin
          clear hin
          refine (push_any l a ha64 HV.out.1 _).mono ?_
          rintro e w2 ⟨rfl, hb2⟩
          have HB2 := Lib.hid hb2
          clear hb2
          have HL2 := Lib.hid (HL.out.below HB2.out)
          have HZ2 := Lib.hid (HZ.out.below HB2.out)
          have HST := Lib.hid (drop_step xs q a hql HA.out l HX1.out)
          go_wp2_with (first
            | (refine wpList_store_row rfl 26 (.tmp 4) (.tmp 33) rfl w1.heap.size _ rfl rfl 26 _ HL2.out.row (size26 _) (size_same _ _) (Flat.all (Flat.at _)) ?_)
            | fail)
          go_roundw
          case rel =>
            refine ⟨j + 1, a :: l, by omega, by go_num, ?_, ?_, HL2.out.setRow _, HZ2.out.other _ ?_ _, ?_⟩
            · have h1 : xs.length - (j + 1) = q := by have := HQ.out; omega
              rw [h1]; exact HST
            · have h1 := HV.out
              exact Lib.hid ⟨fun b hb => by rcases List.mem_cons.mp hb with rfl | hb; exact ha64; exact h1.1 b hb, List.nodup_cons.mpr ⟨HI.out, h1.2⟩⟩
            · exact Nat.ne_of_lt HW.out
            · exact below_setRow (HE.out.trans (HB2.out.mono HE.out.size)) (Nat.le_of_lt HW.out)
          case measure => simp [intOf]; omega
      · have HO := Lib.hid (no_range xs q hql hval)
        obtain ⟨v, hv⟩ : ∃ v, v = xs[q] := ⟨_, rfl⟩
        have hp := hgen v hv.symm
        have hi3 : decide (0 ≤ v ∧ v < 64) = false := by rw [hv]; exact decide_eq_false hval
        clear hgen hval hv
        go_wp2_with (first | (go_at_call 24; refine (is_any _ _).mono ?_; rintro e w2 ⟨rfl, rfl⟩; rw [hi3]) | fail)
        refine (new_any _).mono ?_
        rintro e w2 ⟨rfl, hb2⟩
        have HB2 := Lib.hid hb2
        clear hb2
        have HZ2 := Lib.hid (HZ.out.below HB2.out)
        go_wp2_with (first
          | (refine wpList_store_row rfl 26 (.tmp 2) (.tmp 30) rfl w.heap.size _ rfl rfl 26 _ HZ2.out.row (size26 _) (size_same _ _) (Flat.all (Flat.at _)) ?_)
          | fail)
        have HF : Below w.heap.size w (w2.setRow w.heap.size (cells newL.at)) := below_setRow (HE.out.trans (HB2.out.mono HE.out.size)) (Nat.le_refl _)
        refine bodyPost_ret (v := .tuple #[.agg (cells newL.at), .int .i64 110]) ?_ rfl ⟨_, _, rfl, HF, Or.inr ⟨HO.out, rfl, rfl⟩⟩
        exact results_row_tmp rfl _ _ w.heap.size 26 _ (0, 0) _ _ rfl (setRow_heap _ _ _ _ _ _ HZ2.out.row) Try.underlying26 rfl (size26 _) rfl
    · have hd : decide ((j : Int) < (xs.length : Int)) = false := by simp; omega
      have HE2 : Hid (xs = castL l) := by
        have := HX.out
        rwa [show xs.length - j = 0 by omega, List.drop_zero] at this
      go_wp2_with (first
        | (refine wpList_load_row rfl 26 (.tmp 4) rfl w1.heap.size rfl 26 _ (0, 0) _ HL.out.row Try.underlying26 rfl (size26 _) ?_)
        | (refine wpList_store_row rfl 26 (.tmp 2) (.tmp 35) rfl w.heap.size _ rfl rfl 26 _ HZ.out.row (size26 _) (size_same _ _) (Flat.all (Flat.at _)) ?_)
        | fail)
      refine bodyPost_ret (v := .tuple #[.agg (cells (toldL l).at), .int .i64 0]) ?_ rfl ⟨_, _, rfl, below_setRow HE.out (Nat.le_refl _), Or.inl ⟨l, HV.out, HE2.out, rfl, rfl⟩⟩
      exact results_row_tmp rfl _ _ w.heap.size 26 _ (0, 0) _ _ rfl (setRow_heap _ _ _ _ _ _ HZ.out.row) Try.underlying26 rfl (size26 _) rfl
end Go.Proofs.Ytgbhfagmbkoobaa
