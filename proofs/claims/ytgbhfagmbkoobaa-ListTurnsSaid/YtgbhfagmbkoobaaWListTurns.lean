/-
  THE WALK OF ListTurns.
-/
import Derived.Test.YtgbhfagmbkoobaaLaw0
namespace Go.Proofs.Ytgbhfagmbkoobaa
open Go.RowKit
def rotQ (l : List Nat) (q : Nat) : List Nat := l.drop q ++ l.take q
theorem rotQ_valid {l : List Nat} (h : Valid l) (q : Nat) : Valid (rotQ l q) := by
  have hp : (rotQ l q).Perm l := by
    unfold rotQ
    have := List.perm_append_comm (l₁ := l.drop q) (l₂ := l.take q)
    rwa [List.take_append_drop] at this
  exact ⟨fun a ha => h.1 a (hp.mem_iff.mp ha), hp.nodup_iff.mpr h.2⟩
theorem rotQ_succ (l : List Nat) (q : Nat) (h : q < l.length) : rotQ l (q + 1) = (l.drop (q + 1) ++ l.take q) ++ [l[q]] := by
  unfold rotQ
  rw [List.take_succ_eq_append_getElem h, List.append_assoc]
theorem rotQ_step (l : List Nat) (q : Nat) (h : q < l.length) : l[q] :: (l.drop (q + 1) ++ l.take q) = rotQ l q := by
  unfold rotQ
  rw [List.drop_eq_getElem_cons h]; rfl
attribute [local go_sem] zero26
set_option maxRecDepth 100000 in
set_option maxHeartbeats 1600000 in
theorem turns_none (x : Ls) (hx : NoTell x) (w : World) : Calls Try.prog 8 #[.agg (cells x.at)] w fun e w' => e = .returned (.bool true) ∧ Below w.heap.size w w' := by
  have HXN := Lib.hid hx
  clear hx
  go_enter Try.func8, Try.ntmps8
  go_wp2_with fail
  refine (awake_any _).mono ?_
  rintro e w1 ⟨rfl, hb1⟩
  have HX := Lib.hid (Lies.below (g := w.heap.size) (c := x.at) ⟨heap_alloc_last w _⟩ hb1)
  have HB := Lib.hid (below_alloc1 hb1)
  clear hb1
  go_wp2_with (first
    | (refine wpList_load_row rfl 26 (.tmp 1) rfl w.heap.size rfl 26 _ (0, 0) _ HX.out.row Try.underlying26 rfl (size26 _) ?_)
    | fail)
  refine (order_none x HXN.out _).mono ?_
  rintro e w2 ⟨rfl, hb2⟩
  have HB2 := Lib.hid (HB.out.trans (hb2.mono HB.out.size))
  clear hb2
  go_wp2_with fail
  go_ret
  exact ⟨rfl, HB2.out⟩
set_option maxRecDepth 100000 in
set_option maxHeartbeats 1600000 in
theorem turns_told (l : List Nat) (hv : Valid l) (w : World) : Calls Try.prog 8 #[.agg (cells (toldL l).at)] w fun e w' => e = .returned (.bool true) ∧ Below w.heap.size w w' := by
  have hl64 := hv.len
  have HV := Lib.hid hv
  clear hv
  go_enter Try.func8, Try.ntmps8
  go_wp2_with fail
  refine (awake_any _).mono ?_
  rintro e w1 ⟨rfl, hb1⟩
  have HX := Lib.hid (Lies.below (g := w.heap.size) (c := (toldL l).at) ⟨heap_alloc_last w _⟩ hb1)
  have HB := Lib.hid (below_alloc1 hb1)
  have HG := Lib.hid (show w.heap.size < w1.heap.size from Nat.lt_of_lt_of_le (by simp) hb1.size)
  clear hb1
  go_wp2_with (first
    | (refine wpList_load_row rfl 26 (.tmp 1) rfl w.heap.size rfl 26 _ (0, 0) _ HX.out.row Try.underlying26 rfl (size26 _) ?_)
    | fail)
  refine (order_cast l HV.out _).mono ?_
  rintro e w2 ⟨A, c, rfl, hrow, hb2⟩
  have HX2 := Lib.hid (HX.out.below hb2)
  have HB2 := Lib.hid (HB.out.trans (hb2.mono HB.out.size))
  have HR2 := Lib.hid hrow
  have HG2 := Lib.hid (show w.heap.size < w2.heap.size from Nat.lt_of_lt_of_le HG.out hb2.size)
  clear hb2 hrow HX HB HG
  have HY3 := Lib.hid (Lies.new w2 (toldL l).at)
  go_wp2_with (first
    | (refine wpList_load_row rfl 26 (.tmp 1) rfl w.heap.size rfl 26 _ (0, 0) _ HX2.out.row Try.underlying26 rfl (size26 _) ?_)
    | (refine wpList_store_row rfl 26 (.tmp 6) (.tmp 21) rfl w2.heap.size _ rfl rfl 26 _ (heap_alloc_last _ _) (size26 _) (size_same _ _) (Flat.all (Flat.at _)) ?_; rw [World.setRow_alloc_new])
    | fail)
  go_loopw [7] (fun i wr => ∃ (k q : Nat), k ≤ (castL l).length ∧ i = .int .i64 k ∧ Hid (q + k = (castL l).length) ∧ Lies wr w2.heap.size (toldL (rotQ l q)).at ∧ Below w2.heap.size w2 wr) (fun i _ => (castL l).length - (intOf i).toNat)
  case atStart =>
    refine ⟨0, (castL l).length, by omega, rfl, Lib.hid rfl, ?_, (Below.refl _ _).alloc (Nat.le_refl _) _⟩
    have h : rotQ l (castL l).length = l := by unfold rotQ; rw [castL_len]; simp
    rw [h]; exact HY3.out
  case round =>
    clear HY3
    obtain ⟨k, q', hk, rfl, HQ, hy, hbe⟩ := hrel
    have HE := Lib.hid hbe
    have hln := castL_len l
    have hk100 : k ≤ 100 := by omega
    by_cases hlt : k < (castL l).length
    · have hd : decide ((k : Int) < ((castL l).length : Int)) = true := by simp; omega
      obtain ⟨q, rfl⟩ : ∃ q, q' = q + 1 := ⟨q' - 1, by have := HQ.out; omega⟩
      have hq := HQ.out
      have hql : q < l.length := by omega
      obtain ⟨hq2, eq⟩ := castL_at l q hql
      have hst := rotQ_step l q hql
      have hsu := rotQ_succ l q hql
      have hvq := rotQ_valid HV.out (q + 1)
      rw [hsu] at hvq hy
      obtain ⟨b, hb⟩ : ∃ b, b = l[q] := ⟨_, rfl⟩
      rw [← hb] at hst hvq hy eq
      obtain ⟨m, hm⟩ : ∃ m, m = l.drop (q + 1) ++ l.take q := ⟨_, rfl⟩
      rw [← hm] at hst hvq hy
      have HST := Lib.hid hst
      have HVQ := Lib.hid hvq
      have HY := Lib.hid hy
      have HEQ := Lib.hid eq
      have hw1 : IntKind.i64.wrap (((castL l).length : Int) - 1) = ((castL l).length : Int) - 1 := by rw [IntKind.wrap_i64]; omega
      have hw2 : IntKind.i64.wrap (((castL l).length : Int) - 1 - k) = (q : Int) := by rw [IntKind.wrap_i64]; omega
      have hnb : ((b : Int) != (b : Int)) = false := by simp
      have HLN := Lib.hid hln
      have HQ2 := Lib.hid hq
      clear hbe hln hq eq hst hsu hvq hy hb hm HQ
      go_wp2_with (first
        | (refine wpList_load_row rfl 26 (.tmp 6) rfl w2.heap.size rfl 26 _ (0, 0) _ HY.out.row Try.underlying26 rfl (size26 _) ?_)
        | fail)
      refine (last_some m b HVQ.out _).mono ?_
      rintro e w4 ⟨rfl, hb4⟩
      have HY4 := Lib.hid (HY.out.below hb4)
      have HE4 := Lib.hid (HE.out.trans (hb4.mono HE.out.size))
      clear hb4 HY HE
      go_wp2_with (first
        | (refine wpList_load_row rfl 26 (.tmp 6) rfl w2.heap.size rfl 26 _ (0, 0) _ HY4.out.row Try.underlying26 rfl (size26 _) ?_)
        | fail)
      refine (last_touch m b HVQ.out _).mono ?_
      rintro e w5 ⟨rfl, hb5⟩
      have HY5 := Lib.hid (HY4.out.below hb5)
      have HE5 := Lib.hid (HE4.out.trans (hb5.mono HE4.out.size))
      clear hb5 HY4 HE4
      have HY6 := Lib.hid (HY5.out.below ((Below.refl w5.heap.size w5).alloc (Nat.le_refl _) (.cells (cells (toldL (b :: m)).at) 26)))
      have HE6 := Lib.hid (HE5.out.alloc HE5.out.size (.cells (cells (toldL (b :: m)).at) 26))
      have HZ6 := Lib.hid (Lies.new w5 (toldL (b :: m)).at)
      clear HY5 HE5
      obtain ⟨p, rfl, hpb, hp⟩ := HR2.out.below HE6.out q hq2
      rw [HEQ.out] at hp
      go_wp2_with (first
        | (refine wpList_store_row rfl 26 (.tmp 10) (.tmp 37) rfl w5.heap.size _ rfl rfl 26 _ (heap_alloc_last _ _) (size26 _) (size_same _ _) (Flat.all (Flat.at _)) ?_; rw [World.setRow_alloc_new])
        | (refine wpList_load_row rfl 26 (.tmp 10) rfl w5.heap.size rfl 26 _ (0, 0) _ HZ6.out.row Try.underlying26 rfl (size26 _) ?_)
        | (refine wpList_store_row rfl 26 (.tmp 6) (.tmp 57) rfl w2.heap.size _ rfl rfl 26 _ HY6.out.row (size26 _) (size_same _ _) (Flat.all (Flat.at _)) ?_)
        | fail)
      go_roundw
      case rel =>
        refine ⟨k + 1, q, by omega, by go_num, Lib.hid (by have := HQ2.out; omega), ?_, below_setRow HE6.out (Nat.le_refl _)⟩
        rw [← HST.out]
        exact HY6.out.setRow _
      case measure => simp [intOf]; omega
    · have hd : decide ((k : Int) < ((castL l).length : Int)) = false := by simp; omega
      obtain rfl : q' = 0 := by have := HQ.out; omega
      have h0 : rotQ l 0 = l := by unfold rotQ; simp
      rw [h0] at hy
      have HY := Lib.hid hy
      have HX := Lib.hid (HX2.out.below hbe)
      have HB := Lib.hid (HB2.out.trans (hbe.mono HB2.out.size))
      clear hy hbe h0 hln HE
      go_wp2_with (first
        | (refine wpList_load_any (by kernel_rfl) 26 (.tmp 6) rfl w2.heap.size 0 rfl _ HY.out.load ?_)
        | (refine wpList_load_any (by kernel_rfl) 26 (.tmp 1) rfl w.heap.size 0 rfl _ HX.out.load ?_)
        | (refine wpList_eql26 (by kernel_rfl) (.tmp 60) (.tmp 61) rfl (toldL l) (toldL l) rfl rfl true (eqB_refl _) ?_)
        | fail)
      go_ret
      exact ⟨rfl, HB.out⟩
theorem turns_any (x : Ls) (w : World) : Calls Try.prog 8 #[.agg (cells x.at)] w fun e w' => e = .returned (.bool true) ∧ Below w.heap.size w w' := by
  rcases told_or x with ⟨l, hl, e⟩ | h
  · rw [e]; exact turns_told l hl w
  · exact turns_none x h w
theorem listTurns_walk (x : Ls) (w : World) : Calls Try.prog 8 #[.agg (cells x.at)] w fun e w' => e = .returned (.bool true) ∧ Below w.heap.size w w' := turns_any x w
end Go.Proofs.Ytgbhfagmbkoobaa
