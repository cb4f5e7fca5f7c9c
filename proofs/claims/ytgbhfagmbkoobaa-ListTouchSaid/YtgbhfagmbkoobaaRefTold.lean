/-
  THE WALK OF linhayref15.Told.
-/
import Derived.Test.YtgbhfagmbkoobaaMay
import Derived.StillTailTactics
namespace Go.Proofs.Ytgbhfagmbkoobaa
open Go.RowKit
theorem setRow_twice (w : World) (g : Nat) (a b : Array Value) : (w.setRow g a).setRow g b = w.setRow g b := by
  simp only [World.setRow]
  congr 1
  apply Array.ext_getElem?
  intro i
  simp only [Array.getElem?_modify]
  by_cases h : g = i
  · subst h
    simp only [if_true]
    cases w.heap[g]? with
    | none => rfl
    | some o => cases o <;> rfl
  · simp [h]
theorem Lies.setCell {w : World} {g : Nat} {c : Nat → Value} (h : Lies w g c) (i : Nat) (v : Value) : w.setCell ⟨g, i, none⟩ v = w.setRow g (cells (upd c i v)) := by
  simp only [World.setRow, World.setCell]
  congr 1
  apply Array.ext_getElem?
  intro j
  simp only [Array.getElem?_modify]
  by_cases hj : g = j
  · subst hj
    simp only [if_true]
    rw [h.row]
    simp [cells_set]
  · simp [hj]
theorem Lies.eq {w : World} {g : Nat} {c : Nat → Value} (h : Lies w g c) : w = w.setRow g (cells c) := by
  have e : (w.setRow g (cells c)).heap = w.heap := by
    apply Array.ext_getElem?
    intro j
    by_cases hj : j = g
    · subst hj
      rw [setRow_heap _ _ _ _ _ _ h.row, h.row]
    · rw [setRow_other _ _ _ _ hj]
  show w = { w with heap := (w.setRow g (cells c)).heap }
  rw [e]
theorem relay {W : World} {g : Nat} {c : Nat → Value} (P : World → Prop) (h : Lies W g c) (hp : P W) : ∃ wb, W = wb.setRow g (cells c) ∧ Lies wb g c ∧ P wb := ⟨W, h.eq, h, hp⟩
theorem Lies.r_cell {w : World} {g : Nat} {c0 : Nat → Value} (h : Lies w g c0) (c : Nat → Value) (k : Nat) (hk : k < 194) : (w.setRow g (cells c)).cell? ⟨g, k, none⟩ = some (c k) := (h.setRow c).cell k hk
theorem Lies.r_fro {w : World} {g : Nat} {c0 : Nat → Value} (h : Lies w g c0) (c : Nat → Value) (k : Nat) : (w.setRow g (cells c)).frozen? ⟨g, k, none⟩ = false := (h.setRow c).fro k
theorem Lies.r_set {w : World} {g : Nat} {c0 : Nat → Value} (h : Lies w g c0) (c : Nat → Value) (k : Nat) (v : Value) : (w.setRow g (cells c)).setCell ⟨g, k, none⟩ v = w.setRow g (cells (upd c k v)) := by
  rw [(h.setRow c).setCell, setRow_twice]
theorem r_other {w : World} {g : Nat} (p : Addr) (h : p.block ≠ g) (cs : Array Value) : (w.setRow g cs).cell? p = w.cell? p := World.cell?_of_block (setRow_other _ _ _ _ h)
theorem add_block (p : Addr) (k : Nat) : (p.add k).block = p.block := by rw [Addr.add]; split <;> rfl
/-- one is laid last -/
def snocL (l : Ls) (b a : Nat) : Ls := { nx := fset l.nx b a, pv := fset l.pv a b, inn := fset l.inn a true, hd := l.hd, tl := a }
theorem told_tl : ∀ (m : List Nat) (b : Nat), (toldL (m ++ [b])).tl = (b : Int)
  | [], b => rfl
  | x :: m, b => by
    show (pushL (toldL (m ++ [b])) x).tl = _
    unfold pushL
    have h := told_tl m b
    have h2 := told_hd (m ++ [b])
    cases hm : m ++ [b] with
    | nil => simp at hm
    | cons y m' =>
      rw [hm] at h h2
      simp only [h2]
      rw [if_neg (by omega)]
      exact h
theorem fset_comm {α : Type} (f : Nat → α) (i j : Nat) (u v : α) (h : i ≠ j) : fset (fset f i u) j v = fset (fset f j v) i u := by
  funext k
  unfold fset
  by_cases h1 : k = i
  · subst h1; simp [h]
  · simp [h1]
theorem told_snoc : ∀ (m : List Nat) (b a : Nat), (m ++ [b, a]).Nodup → toldL (m ++ [b, a]) = snocL (toldL (m ++ [b])) b a
  | [], b, a, hn => by
    have hne : b ≠ a := by simp at hn; exact hn
    show pushL (pushL newL a) b = snocL (pushL newL b) b a
    simp only [pushL, snocL, newL]
    simp only [natneg, if_true, if_false, Int.toNat_natCast]
    congr 1
    · funext k
      simp only [fset]
      by_cases h1 : k = b
      · simp [h1]
      · simp [h1]
    · funext k
      simp only [fset]
      by_cases h1 : k = b
      · simp [h1, hne]
      · by_cases h2 : k = a <;> simp [h1, h2]
    · exact fset_comm _ _ _ _ _ (fun e => hne e.symm)
  | x :: m, b, a, hn => by
    have hn' : (m ++ [b, a]).Nodup := (List.nodup_cons.mp hn).2
    have hx : x ∉ m ++ [b, a] := (List.nodup_cons.mp hn).1
    have hxb : x ≠ b := by rintro rfl; simp at hx
    have hxa : x ≠ a := by rintro rfl; simp at hx
    have ih := told_snoc m b a hn'
    show pushL (toldL (m ++ [b, a])) x = snocL (pushL (toldL (m ++ [b])) x) b a
    rw [ih]
    obtain ⟨y, m', hm⟩ : ∃ y m', m ++ [b] = y :: m' := by cases m <;> simp
    have hy : y ≠ a := by
      rintro rfl
      have : m ++ [b, y] = (y :: m') ++ [y] := by rw [← hm]; simp
      rw [this] at hn'
      simp at hn'
    have h2 : (toldL (m ++ [b])).hd = (y : Int) := by rw [hm]; rfl
    have h3 : ¬ ((y : Int) = -1) := by omega
    simp only [pushL, snocL, h2, h3, if_false, Int.toNat_natCast]
    congr 1
    · exact fset_comm _ _ _ _ _ (fun e => hxb e.symm)
    · rw [fset_comm _ a x _ _ (fun e => hxa e.symm), fset_comm _ a y _ _ (fun e => hy e.symm)]
    · exact fset_comm _ _ _ _ _ (fun e => hxa e.symm)
def fillL (k : Nat) : Ls := ⟨fun j => if j < k then -1 else 0, fun j => if j < k then -1 else 0, fun _ => false, -1, -1⟩
theorem fill_succ (k : Nat) (hk : k < 64) : cells (upd (upd (fillL k).at k (.int .i64 (-1))) (64 + k) (.int .i64 (-1))) = cells (fillL (k + 1)).at := by
  apply cells_congr
  intro i hi
  unfold upd Ls.at fillL
  dsimp only
  (repeat' split) <;> first | rfl | (exfalso; omega)
theorem fill_all : cells (fillL 64).at = cells newL.at := by
  apply cells_congr
  intro i hi
  unfold Ls.at fillL newL
  dsimp only
  (repeat' split) <;> first | rfl | (exfalso; omega)
theorem castL_at (l : List Nat) (k : Nat) (h : k < l.length) : ∃ h2 : k < (castL l).length, (castL l)[k] = (l[k] : Int) := ⟨by simpa [castL] using h, by simp [castL]⟩
theorem told_first (l : List Nat) (h : 0 < l.length) : cells (upd (upd (upd newL.at (128 + l[0]) (.bool true)) 193 (.int .i64 l[0])) 192 (.int .i64 l[0])) = cells (toldL (l.take 1)).at := by
  obtain ⟨a, l', rfl⟩ : ∃ a l', l = a :: l' := by cases l with | nil => simp at h | cons a l' => exact ⟨a, l', rfl⟩
  apply cells_congr
  intro i hi
  simp only [List.getElem_cons_zero, List.take_succ_cons, List.take_zero, toldL]
  unfold upd Ls.at pushL newL fset
  dsimp only
  simp only [if_true]
  (repeat' split) <;> first | rfl | (exfalso; omega)
theorem snoc_cells (t : Ls) (b a : Nat) (ha : a < 64) (hb : b < 64) : cells (upd (upd (upd (upd t.at (128 + a) (.bool true)) 193 (.int .i64 a)) (64 + a) (.int .i64 b)) b (.int .i64 a)) = cells (snocL t b a).at := by
  apply cells_congr
  intro i hi
  unfold upd Ls.at snocL fset
  dsimp only
  (repeat' split) <;> first | rfl | (exfalso; omega)
theorem take_two (l : List Nat) (m : Nat) (h : m + 1 < l.length) : l.take (m + 1 + 1) = l.take m ++ [l[m], l[m + 1]] := by
  rw [List.take_succ_eq_append_getElem h, List.take_succ_eq_append_getElem (by omega), List.append_assoc]; rfl
theorem told_next (l : List Nat) (hv : Valid l) (m : Nat) (h : m + 1 < l.length) : cells (upd (upd (upd (upd (toldL (l.take (m + 1))).at (128 + l[m + 1]) (.bool true)) 193 (.int .i64 l[m + 1])) (64 + l[m + 1]) (.int .i64 l[m])) l[m] (.int .i64 l[m + 1])) = cells (toldL (l.take (m + 1 + 1))).at := by
  have hn : (l.take m ++ [l[m], l[m + 1]]).Nodup := by rw [← take_two l m h]; exact hv.2.sublist (List.take_sublist _ _)
  rw [snoc_cells _ _ _ (hv.1 _ (List.getElem_mem _)) (hv.1 _ (List.getElem_mem _)), take_two l m h, told_snoc _ _ _ hn, List.take_succ_eq_append_getElem (by omega)]
theorem add0 (p : Addr) : p.add 0 = p := by
  rcases p with ⟨b, o, s⟩
  rw [Addr.add]; cases s <;> simp
structure TB (w W : World) (c : Nat → Value) (p : Addr) (k a m b : Nat) : Prop where
  l : Lies W (w.heap.size + 1) c
  z : Lies W w.heap.size z0.at
  e : Below w.heap.size w W
  pb : p.block < w.heap.size
  pk : W.cell? (p.add k) = some (.int .i64 (a : Int))
  pm : W.cell? (p.add m) = some (.int .i64 (b : Int))
theorem TB.drew {w W : World} {c : Nat → Value} {p : Addr} {k a m b : Nat} (h : TB w W c p k a m b) : TB w W.drew c p k a m b := ⟨⟨h.l.row⟩, ⟨h.z.row⟩, h.e.drew, h.pb, h.pk, h.pm⟩
theorem TB.set {w W : World} {c : Nat → Value} {p : Addr} {k a m b : Nat} (h : TB w W c p k a m b) (d : Nat → Value) : TB w (W.setRow (w.heap.size + 1) (cells d)) d p k a m b :=
  ⟨h.l.setRow _, h.z.other _ (by omega) _, below_setRow h.e (by omega), h.pb, by rw [r_other _ (by rw [add_block]; have := h.pb; omega)]; exact h.pk, by rw [r_other _ (by rw [add_block]; have := h.pb; omega)]; exact h.pm⟩
attribute [local go_sem] zero26 cells_get cells_set upd_at
set_option maxRecDepth 100000 in
set_option maxHeartbeats 1600000 in
theorem refTold_any (A : Option Addr) (c : Nat) (l : List Nat) (hv : Valid l) (hn : l.length ≤ 1000) (w : World) (hr : RowI w A (castL l)) : Calls Try.prog 22 #[.slice A l.length c] w fun e w' => e = .returned (.agg (cells (toldL l).at)) ∧ Below w.heap.size w w' := by
  have HR := Lib.hid hr
  have HV := Lib.hid hv
  clear hr hv
  go_enter Try.func22, Try.ntmps22
  go_wp2_with (first
    | (refine wpList_buildTo rfl 26 _ rfl (some 6) rfl (cells (fillL 0).at) (by kernel_rfl) ?_)
    | (refine wpList_store_row rfl 26 (.tmp 3) (.tmp 6) rfl (w.heap.size + 1) _ rfl rfl 26 _ (heap_last2 _ _ _) (size26 _) (size_same _ _) (Flat.all (Flat.at _)) ?_; rw [setRow_last2])
    | fail)
  go_loopw [4] (fun i wr => ∃ k : Nat, k ≤ 64 ∧ i = .int .i64 k ∧ wr = (w.alloc (.cells (cells z0.at) 26)).alloc (.cells (cells (fillL k).at) 26)) (fun i _ => 64 - (intOf i).toNat)
  case atStart => exact ⟨0, by omega, rfl, rfl⟩
  case round =>
    obtain ⟨k, hk, rfl, rfl⟩ := hrel
    by_cases hlt : k < 64
    · have hd : decide ((k : Int) < 64) = true := by simp; omega
      have hk1 : (0 : Int) ≤ (k : Int) := by omega
      have hk2 : (k : Int) < 64 := by omega
      have hk5 : k < 194 := by omega
      have hk10 : 64 + k < 194 := by omega
      have hk6 : ¬ (64 + k = k) := by omega
      have HS := Lib.hid (fill_succ k hlt)
      go_wp2_with fail
      go_roundw
      case rel => exact ⟨k + 1, by omega, by go_num, by rw [HS.out]⟩
      case measure => simp [intOf]; omega
    · have hd : decide ((k : Int) < 64) = false := by simp; omega
      obtain rfl : k = 64 := by omega
      rw [fill_all]
      go_wp2_with fail
      clear hd
      simp only [show ((64 : Nat) : Int) = 64 from rfl]
      go_loopw [5] (fun i wr => ∃ k : Nat, k ≤ l.length ∧ i = .int .i64 k ∧ Lies wr (w.heap.size + 1) (toldL (l.take k)).at ∧ Lies wr w.heap.size z0.at ∧ Below w.heap.size w wr) (fun i _ => l.length - (intOf i).toNat)
      case atStart =>
        refine ⟨0, by omega, rfl, ⟨heap_last2 _ _ _⟩, ⟨heap_prev _ _ _⟩, ((Below.refl _ _).alloc (Nat.le_refl _) _).alloc (by simp) _⟩
      case round =>
        obtain ⟨k, hk, rfl, hl, hz, hbe⟩ := hrel
        by_cases hlt : k < l.length
        · have hd : decide ((k : Int) < (l.length : Int)) = true := by simp; omega
          obtain ⟨hk2, ea⟩ := castL_at l k hlt
          obtain ⟨p, rfl, hpb, hp0⟩ := HR.out k hk2
          have hp : wr.cell? (p.add k) = some (.int .i64 (l[k] : Int)) := by rw [hbe.cell (by rw [add_block]; exact hpb), hp0, ea]
          have ha64 := HV.out.1 _ (List.getElem_mem hlt)
          clear hp0 ea
          rcases Nat.eq_zero_or_pos k with rfl | hkp
          · skip
            have HF := Lib.hid (told_first l hlt)
            obtain ⟨a, ha⟩ : ∃ a, a = l[0] := ⟨_, rfl⟩
            rw [← ha] at hp ha64 HF
            obtain ⟨wb, rfl, hlb, hzb, hbb, hpp⟩ := relay (fun wb => Lies wb w.heap.size z0.at ∧ Below w.heap.size w wb ∧ wb.cell? (p.add 0) = some (.int .i64 a)) hl ⟨hz, hbe, hp⟩
            rw [show cells (toldL (l.take 0)).at = cells newL.at from rfl]
            have HLB := Lib.hid hlb
            have HZB := Lib.hid hzb
            have HBB := Lib.hid hbb
            have hcell := hlb.r_cell
            have hfro := hlb.r_fro
            have hset := hlb.r_set
            have hpc : ∀ cs : Array Value, (wb.setRow (w.heap.size + 1) cs).cell? (p.add 0) = some (.int .i64 (a : Int)) := fun cs => by rw [r_other _ (by rw [add_block]; omega)]; exact hpp
            rw [add0] at hpc
            clear hl hz hbe hp hpp hlb hzb hbb ha
            have ha1 : (0 : Int) ≤ (a : Int) := by omega
            have ha2 : (a : Int) < 64 := by omega
            have ha9 : 128 + a < 194 := by omega
            go_wp2_with fail
            go_roundw
            case rel =>
              refine ⟨1, by omega, rfl, ?_, HZB.out.other _ (by omega) _, below_setRow HBB.out (by omega)⟩
              rw [HF.out]
              exact HLB.out.setRow _
            case measure => simp [intOf]; omega
          · obtain ⟨m, hkm⟩ : ∃ m, k = m + 1 := ⟨k - 1, by omega⟩
            have HK := Lib.hid hkm
            have hm : m < l.length := by omega
            obtain ⟨hm2, em⟩ := castL_at l m hm
            obtain ⟨p2, hpe2, _, hq0⟩ := HR.out m hm2
            obtain rfl : p = p2 := by injection hpe2
            have hq : wr.cell? (p.add m) = some (.int .i64 (l[m] : Int)) := by rw [hbe.cell (by rw [add_block]; exact hpb), hq0, em]
            have hb64 := HV.out.1 _ (List.getElem_mem hm)
            clear hq0 em hpe2
            have hF : cells (upd (upd (upd (upd (toldL (l.take k)).at (128 + l[k]) (.bool true)) 193 (.int .i64 l[k])) (64 + l[k]) (.int .i64 l[m])) l[m] (.int .i64 l[k])) = cells (toldL (l.take (k + 1))).at := by
              subst hkm; exact told_next l HV.out m hlt
            have HF := Lib.hid hF
            obtain ⟨a, ha⟩ : ∃ a, a = l[k] := ⟨_, rfl⟩
            obtain ⟨b, hb⟩ : ∃ b, b = l[m] := ⟨_, rfl⟩
            rw [← ha] at hp ha64 HF
            rw [← hb] at hq hb64 HF
            obtain ⟨wb, rfl, hlb, hzb, hbb, hpp, hqq⟩ := relay (fun wb => Lies wb w.heap.size z0.at ∧ Below w.heap.size w wb ∧ wb.cell? (p.add k) = some (.int .i64 a) ∧ wb.cell? (p.add m) = some (.int .i64 b)) hl ⟨hz, hbe, hp, hq⟩
            have HLB := Lib.hid hlb
            have HZB := Lib.hid hzb
            have HBB := Lib.hid hbb
            have hcell := hlb.r_cell
            have hfro := hlb.r_fro
            have hset := hlb.r_set
            have HT := Lib.hid (TB.mk hlb hzb hbb hpb hpp hqq)
            have hpc : ∀ cs : Array Value, (wb.setRow (w.heap.size + 1) cs).cell? (p.add k) = some (.int .i64 (a : Int)) := fun cs => by rw [r_other _ (by rw [add_block]; omega)]; exact hpp
            have hqc : ∀ cs : Array Value, (wb.setRow (w.heap.size + 1) cs).cell? (p.add m) = some (.int .i64 (b : Int)) := fun cs => by rw [r_other _ (by rw [add_block]; omega)]; exact hqq
            clear hl hz hbe hp hq hpp hqq hlb hzb hbb ha hb hF
            have ha1 : (0 : Int) ≤ (a : Int) := by omega
            have ha2 : (a : Int) < 64 := by omega
            have ha9 : 128 + a < 194 := by omega
            have ha8 : 64 + a < 194 := by omega
            have hb1 : (0 : Int) ≤ (b : Int) := by omega
            have hb2 : (b : Int) < 64 := by omega
            have hb9 : b < 194 := by omega
            have hw1 : IntKind.i64.wrap ((k : Int) - 1) = (m : Int) := by rw [IntKind.wrap_i64]; omega
            have he0 : ((k : Int) == 0) = false := by simp; omega
            clear hkm
            go_wp2_with fail
            obtain ⟨W, hW⟩ : ∃ W, wb.setRow (w.heap.size + 1) (cells (upd (upd (toldL (l.take k)).at (128 + a) (.bool true)) 193 (.int .i64 (a : Int)))) = W := ⟨_, rfl⟩
            have T1 : Hid (TB w W (upd (upd (toldL (l.take k)).at (128 + a) (.bool true)) 193 (.int .i64 (a : Int))) p k a m b) := by
              rw [← hW]; exact Lib.hid (HT.out.set _)
            rw [hW]
            clear hW hpc hqc HLB HZB HBB HT hcell hfro hset
            have hp1 := T1.out.pk
            have hq1 := T1.out.pm
            go_still_tail 11, (by kernel_rfl)
            change wpList _ _ _ _ _ W.drew
            have T2 := Lib.hid T1.out.drew
            generalize W.drew = W2 at T2
            clear T1 hp1 hq1 W
            have hcell := T2.out.l.cell (64 + a) ha8
            have hfro := T2.out.l.fro (64 + a)
            have hset := T2.out.l.setCell (64 + a) (.int .i64 (b : Int))
            go_wp2_with fail
            clear hcell hfro hset
            obtain ⟨W, hW⟩ : ∃ W, W2.setRow (w.heap.size + 1) (cells (upd (upd (upd (toldL (l.take k)).at (128 + a) (.bool true)) 193 (.int .i64 (a : Int))) (64 + a) (.int .i64 (b : Int)))) = W := ⟨_, rfl⟩
            have T3 : Hid (TB w W (upd (upd (upd (toldL (l.take k)).at (128 + a) (.bool true)) 193 (.int .i64 (a : Int))) (64 + a) (.int .i64 (b : Int))) p k a m b) := by
              rw [← hW]; exact Lib.hid (T2.out.set _)
            rw [hW]
            clear hW T2 W2
            have hp1 := T3.out.pk
            have hq1 := T3.out.pm
            go_still_tail 11, (by kernel_rfl)
            change wpList _ _ _ _ _ W.drew
            have T4 := Lib.hid T3.out.drew
            generalize W.drew = W2 at T4
            clear T3 hp1 hq1 W
            have hcell := T4.out.l.cell b hb9
            have hfro := T4.out.l.fro b
            have hset := T4.out.l.setCell b (.int .i64 (a : Int))
            rw [HF.out] at hset
            go_wp2_with fail
            clear hcell hfro hset
            have T5 := Lib.hid (T4.out.set (toldL (l.take (k + 1))).at)
            go_roundw
            case rel => exact ⟨k + 1, by omega, by go_num, T5.out.l, T5.out.z, T5.out.e⟩
            case measure => simp [intOf]; omega
        · have hd : decide ((k : Int) < (l.length : Int)) = false := by simp; omega
          have HL : Hid (Lies wr (w.heap.size + 1) (toldL l).at) := by
            rw [List.take_of_length_le (by omega)] at hl
            exact Lib.hid hl
          have HZ := Lib.hid hz
          have HE := Lib.hid hbe
          clear hl hz hbe
          go_wp2_with (first
            | (refine wpList_load_row rfl 26 (.tmp 3) rfl (w.heap.size + 1) rfl 26 _ (0, 0) _ HL.out.row Try.underlying26 rfl (size26 _) ?_)
            | (refine wpList_store_row rfl 26 (.tmp 2) (.tmp 63) rfl w.heap.size _ rfl rfl 26 _ HZ.out.row (size26 _) (size_same _ _) (Flat.all (Flat.at _)) ?_)
            | fail)
          refine bodyPost_ret (v := .agg (cells (toldL l).at)) ?_ rfl ⟨rfl, below_setRow HE.out (Nat.le_refl _)⟩
          exact results_cell_row rfl _ _ w.heap.size 26 _ (0, 0) _ rfl (setRow_heap _ _ _ _ _ _ HZ.out.row) Try.underlying26 rfl (size26 _)
end Go.Proofs.Ytgbhfagmbkoobaa
