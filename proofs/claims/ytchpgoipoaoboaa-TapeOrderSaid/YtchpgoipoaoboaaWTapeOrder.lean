/-
  THE WALK OF TapeOrder: it answers true.
-/
import Derived.Test.YtchpgoipoaoboaaAwake
import Derived.Deep.RegionHeld3
namespace Go.Proofs.Ytchpgoipoaoboaa
open Go.RowKit
open Lean Elab Tactic in
elab "tgt" : tactic => withMainContext do
  let t ← getMainTarget
  let t ← instantiateMVars t
  let s := toString (← Meta.ppExpr t)
  logInfo m!"{s.take 30000}"
theorem Box.put {w : World} {g : Nat} {b : ByteArray} {t : Int} (h : Box w g b t) (t' : Int) : Box ((w.setCell ⟨g, 0, none⟩ (.string b)).setCell ⟨g, 1, none⟩ (.int .i64 t')) g b t' := by
  obtain ⟨h0, h1, h2⟩ := h
  refine ⟨by rw [World.size_setCell, World.size_setCell]; exact h0, ?_, ?_⟩
  · rw [World.cell?_setCell_other _ _ _ _ (by intro e; injection e with _ e4; cases e4)]
    exact World.cell?_setCell_same _ _ _ (by rw [h1])
  · exact World.cell?_setCell_same _ _ _ (by rw [World.cell?_setCell_other _ _ _ _ (by intro e; injection e with _ e4; cases e4), h2])
theorem word_parts (b : ByteArray) (o : Nat) : nv (word b o) = bv (byteAt b o) + 256 * bv (byteAt b (o + 1)) + 65536 * bv (byteAt b (o + 2)) + 16777216 * bv (byteAt b (o + 3)) := by
  rw [← word_sum]
  have h0 := bv_range (byteAt b o)
  have h1 := bv_range (byteAt b (o + 1))
  have h2 := bv_range (byteAt b (o + 2))
  have h3 := bv_range (byteAt b (o + 3))
  omega
theorem word_bytes (b : ByteArray) (o : Nat) : nv (word b o) % 256 = bv (byteAt b o) ∧ nv (word b o) / 256 % 256 = bv (byteAt b (o + 1)) ∧ nv (word b o) / 65536 % 256 = bv (byteAt b (o + 2)) ∧ nv (word b o) / 16777216 % 256 = bv (byteAt b (o + 3)) := by
  have h := word_parts b o
  have h0 := bv_range (byteAt b o)
  have h1 := bv_range (byteAt b (o + 1))
  have h2 := bv_range (byteAt b (o + 2))
  have h3 := bv_range (byteAt b (o + 3))
  omega
theorem draw_at (b : ByteArray) (k : Nat) (h : k < b.size / 4) : drawV b k = word b (4 * k) ∧ drawAt b k = k + 1 := by
  have hc : 0 ≤ (k : Int) ∧ (k : Int) < (b.size : Int) / 4 := by omega
  rw [drawV, drawAt, if_pos hc, if_pos hc, Int.toNat_natCast]
  exact ⟨rfl, rfl⟩
theorem draw_past (b : ByteArray) (k : Int) (h : ¬ (0 ≤ k ∧ k < (b.size : Int) / 4)) : drawV b k = 0#32 ∧ drawAt b k = k := by
  rw [drawV, drawAt, if_neg h, if_neg h]
  exact ⟨rfl, rfl⟩
theorem left_at (b : ByteArray) (k : Nat) (h : k ≤ b.size / 4) : leftOf b k = ((b.size / 4 - k : Nat) : Int) := by
  unfold leftOf
  split
  · omega
  · split <;> omega
set_option maxRecDepth 100000 in
set_option maxHeartbeats 400000 in
theorem tapeOrder_walk (b : ByteArray) (_wb : b.size ≤ maxLen) (w : World) :
    Calls Try.prog 4 #[.string b] w fun e w' => e = .returned (.bool true) ∧ Below w.heap.size w w' := by
  by_cases h1000 : b.size ≤ 1000
  · have hd : decide (1000 < (b.size : Int)) = false := by simp; omega
    have hb2 : b.size ≤ 10000 := by omega
    go_enter Try.func4, Try.ntmps4
    go_wp2_with fail
    refine (awake_any _).mono ?_
    rintro e w1 ⟨rfl, hb1⟩
    have HB := Lib.hid hb1
    have HW1 := Lib.hid hb1.size
    clear hb1
    go_wp2_with fail
    refine (left_any b 0 hb2 (by unfold I64; omega) _).mono ?_
    rintro e w2 ⟨rfl, hb2'⟩
    replace HB := Lib.hid (below_two HB.out (below_box hb2'))
    have BT := Lib.hid ((Box.new w1 b 0).below hb2')
    have BF : Hid (∀ i, w2.frozen? ⟨w1.heap.size, i, none⟩ = false) := Lib.hid (one_block hb2').2.1
    clear hb2'
    go_wp2_with fail
    rw [show leftOf b 0 = ((b.size / 4 : Nat) : Int) from left_at b 0 (by omega)]
    obtain ⟨m, hm⟩ : ∃ m, m = b.size / 4 := ⟨_, rfl⟩
    rw [← hm]
    have hm250 : m ≤ 250 := by omega
    have HMM := Lib.hid hm
    clear hm
    have hfz : ∀ i, w2.frozen? ⟨w1.heap.size, i, none⟩ = false := BF.out
    have hw1 := HW1.out
    go_loopw [6] (fun i wr => ∃ k : Nat, k ≤ m ∧ i = .int .i64 k ∧ Box wr w1.heap.size b k ∧ (∀ i, wr.frozen? ⟨w1.heap.size, i, none⟩ = false) ∧ Below w.heap.size w wr) (fun i _ => m - (intOf i).toNat)
    case atStart => exact ⟨0, by omega, rfl, BT.out, BF.out, HB.out⟩
    case round =>
      obtain ⟨k, hk, rfl, hbox, hfz, hbe⟩ := hrel
      have HSZ := Lib.hid HB.out.size
      clear HB BT BF
      have HB := Lib.hid hbe
      have BT := Lib.hid hbox
      have BF := Lib.hid hfz
      clear hbe hbox hfz
      by_cases hlt : k < m
      · have hdk : decide ((k : Int) < (m : Int)) = true := by simp; omega
        have hmm := HMM.out
        obtain ⟨hv, ha⟩ := draw_at b k (by omega)
        have HV := Lib.hid hv
        have HA := Lib.hid ha
        clear hv ha
        obtain ⟨t0, t1, t2⟩ := BT.out
        obtain ⟨o, ho⟩ : ∃ o, o = 4 * k := ⟨_, rfl⟩
        have hw4 : IntKind.i64.wrap (4 * (k : Int)) = (o : Int) := by rw [IntWalk.i64_in _ (by omega)]; omega
        have hlow2 : o + 4 ≤ b.size := by omega
        have hgt : decide ((b.size : Int) < (o : Int) + 4) = false := by simp; omega
        have HO := Lib.hid ho
        clear ho hmm
        go_wp2_with fail
        refine (draw_any b k hb2 (by unfold I64; omega) _).mono ?_
        rintro e w3 ⟨rfl, hb3⟩
        rw [HV.out, HA.out, ← HO.out]
        replace HB := Lib.hid (below_two HB.out hb3)
        replace BT := Lib.hid (BT.out.below hb3)
        replace BF : Hid (∀ i, w3.frozen? ⟨w1.heap.size, i, none⟩ = false) := Lib.hid (fun i => (hb3.frozen t0).trans (BF.out i))
        clear hb3 t0 t1 t2
        obtain ⟨t0, t1, t2⟩ := BT.out
        have hfz := BF.out
        obtain ⟨f0, f1, f2, f3⟩ := word_bytes b o
        have g0 := byte_bv b o (by omega)
        have g1 := byte_bv b (o + 1) (by omega)
        have g2 := byte_bv b (o + 2) (by omega)
        have g3 := byte_bv b (o + 3) (by omega)
        have i1 : IntKind.i64.wrap ((o : Int) + 1) = (o : Int) + 1 := by rw [IntKind.wrap_i64]; omega
        have hlk : leftOf b ((k : Int) + 1) = ((m - (k + 1) : Nat) : Int) := by
          have h := left_at b (k + 1) (by have := HMM.out; omega)
          rw [HMM.out, ← h]
          rfl
        have HLK := Lib.hid hlk
        clear hlk
        have hI1 : IntKind.i64.wrap ((m : Int) - (k : Int) - 1) = ((m - (k + 1) : Nat) : Int) := by rw [IntKind.wrap_i64]; omega
        have hI2 : IntKind.i64.wrap ((m : Int) - (k : Int)) = (m : Int) - (k : Int) := by rw [IntKind.wrap_i64]; omega
        go_wp2_with fail
        refine (left_any b ((k : Int) + 1) hb2 (by unfold I64; omega) _).mono ?_
        rintro e w4 ⟨rfl, hb4⟩
        rw [HLK.out]
        replace HB := Lib.hid (below_two HB.out (below_box hb4))
        replace BT := Lib.hid ((BT.out.alloc (.cells #[.string b, .int .i64 ((k : Int) + 1)] 23)).below hb4)
        have BU := Lib.hid ((Box.new w3 b ((k : Int) + 1)).below hb4)
        replace BF : Hid (∀ i, w4.frozen? ⟨w1.heap.size, i, none⟩ = false) := Lib.hid (fun i => ((below_box hb4).frozen t0).trans (BF.out i))
        clear hb4 t0 t1 t2 hfz f0 f1 f2 f3 g0 g1 g2 g3
        obtain ⟨t0, t1, t2⟩ := BT.out
        obtain ⟨u0, u1, u2⟩ := BU.out
        have hfz := BF.out
        go_wp2_with fail
        go_roundw
        case rel =>
          refine ⟨k + 1, by omega, by go_num, Box.put BT.out _, fun i => by rw [World.frozen?_setCell, World.frozen?_setCell]; exact hfz i, (HB.out.setCell hw1 _).setCell hw1 _⟩
        case measure => simp [intOf]; omega
      · have hdk : decide ((k : Int) < (m : Int)) = false := by simp; omega
        obtain rfl : k = m := by omega
        have hmm := HMM.out
        obtain ⟨hv, ha⟩ := draw_past b k (by omega)
        have hlk := left_at b k (by omega)
        rw [← hmm, Nat.sub_self] at hlk
        have HLK := Lib.hid hlk
        have hdiv : ((k : Int) == (b.size : Int) / 4) = true := by simp; omega
        have HV := Lib.hid hv
        have HA := Lib.hid ha
        clear hv ha hmm hlk
        obtain ⟨t0, t1, t2⟩ := BT.out
        go_wp2_with fail
        refine (draw_any b k hb2 (by unfold I64; omega) _).mono ?_
        rintro e w3 ⟨rfl, hb3⟩
        rw [HV.out, HA.out]
        rw [show nv 0#32 = 0 from rfl]
        replace HB := Lib.hid (below_two HB.out hb3)
        replace BT := Lib.hid (BT.out.below hb3)
        have BU := Lib.hid (Box.new w3 b k)
        clear hb3 t0 t1 t2 BF
        obtain ⟨t0, t1, t2⟩ := BT.out
        go_wp2_with fail
        refine (left_any b k hb2 (by unfold I64; omega) _).mono ?_
        rintro e w4 ⟨rfl, hb4⟩
        rw [HLK.out]
        replace HB := Lib.hid (below_two HB.out (below_box hb4))
        clear hb4
        go_wp2_with fail
        go_ret
        exact ⟨rfl, HB.out⟩
  · have hd : decide (1000 < (b.size : Int)) = true := by simp; omega
    go_enter Try.func4, Try.ntmps4
    go_wp2_with fail
    refine (awake_any _).mono ?_
    rintro e w1 ⟨rfl, hb1⟩
    have HB := Lib.hid hb1
    clear hb1
    go_wp2_with fail
    go_ret
    exact ⟨rfl, HB.out⟩
end Go.Proofs.Ytchpgoipoaoboaa
