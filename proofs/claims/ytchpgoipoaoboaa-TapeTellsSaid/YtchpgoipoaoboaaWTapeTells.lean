/-
  THE WALK OF TapeTells: it answers true.
-/
import Derived.Test.YtchpgoipoaoboaaAwake
import Derived.Deep.RegionHeld3
namespace Go.Proofs.Ytchpgoipoaoboaa
open Go.RowKit
open Lean Elab Tactic in
elab "tgt" : tactic => withMainContext do
  let t ← getMainTarget
  let t ← instantiateMVars t
  let s := toString (← Meta.ppExpr t)
  logInfo m!"{s.take 30000}"
theorem someOf_le (b : ByteArray) (t n many : Int) : (someOf b t n many).1.length ≤ 1000 := by
  unfold someOf
  split
  · rename_i h
    rw [someRun_length]
    have := h.2.1
    omega
  · simp
theorem same_kept {W0 wk : World} {p : Prop} {A B : Option Addr} {c d : Nat} (l : List Int) (hl : l.length ≤ 1000) (h : Below W0.heap.size W0 wk ∧ p) (ra : RowI W0 A l) (rb : RowI W0 B l) :
    Calls Try.prog 16 #[.slice A l.length c, .slice B l.length d] wk fun e w' => e = .returned (.bool true) ∧ Below W0.heap.size W0 w' := by
  refine (same_any A B c d l l hl wk (ra.below h.1) (rb.below h.1)).mono ?_
  rintro e w' ⟨rfl, hb⟩
  exact ⟨by simp, below_two h.1 hb⟩
theorem left_kept {W0 wk : World} {p : Prop} (b : ByteArray) (t : Int) (hb : b.size ≤ 10000) (ht : I64 t) (h : Below W0.heap.size W0 wk ∧ p) :
    Calls Try.prog 17 #[tp b t] wk fun e w' => e = .returned (.int .i64 (leftOf b t)) ∧ Below W0.heap.size W0 w' := by
  refine (left_any b t hb ht wk).mono ?_
  rintro e w' ⟨rfl, hb⟩
  exact ⟨rfl, below_two h.1 hb⟩
theorem refLeft_kept {W0 wk : World} {p : Prop} (b : ByteArray) (t : Int) (hb : b.size ≤ 10000) (ht : I64 t) (h : Below W0.heap.size W0 wk ∧ p) :
    Calls Try.prog 18 #[tp b t] wk fun e w' => e = .returned (.int .i64 (leftOf b t)) ∧ Below W0.heap.size W0 w' := by
  refine (refLeft_any b t hb ht wk).mono ?_
  rintro e w' ⟨rfl, hb⟩
  exact ⟨rfl, below_two h.1 hb⟩
set_option maxRecDepth 100000 in
set_option maxHeartbeats 400000 in
theorem tapeTells_all (b : ByteArray) (t n many : Int) (ht : I64 t) (hn : I64 n) (hmany : I64 many) (w : World) :
    Calls Try.prog 3 #[tp b t, .int .i64 n, .int .i64 many] w fun e w' => e = .returned (.bool true) ∧ Below w.heap.size w w' := by
  by_cases h1000 : b.size ≤ 1000
  · have hd : decide (1000 < (b.size : Int)) = false := by simp; omega
    have hb2 : b.size ≤ 10000 := by omega
    have hlen : (someOf b t n many).1.length ≤ 1000 := someOf_le b t n many
    go_enter Try.func3, Try.ntmps3
    go_wp2_with fail
    refine (awake_any _).mono ?_
    rintro e w1_ ⟨rfl, hb_⟩
    have HB := Lib.hid (below_box hb_)
    have Bt := Lib.hid ((Box.new w b (t)).below hb_)
    clear hb_
    obtain ⟨t0, t1, t2⟩ := Bt.out
    go_wp2_with fail
    refine (draw_any b t hb2 ht _).mono ?_
    rintro e w2_ ⟨rfl, hb_⟩
    replace HB := Lib.hid (below_two HB.out hb_)
    clear t0 t1 t2
    replace Bt := Lib.hid (Bt.out.below hb_)
    clear hb_
    obtain ⟨t0, t1, t2⟩ := Bt.out
    go_wp2_with fail
    refine (refDraw_any b t hb2 _).mono ?_
    rintro e w3_ ⟨rfl, hb_⟩
    replace HB := Lib.hid (below_two HB.out (below_box hb_))
    clear t0 t1 t2
    replace Bt := Lib.hid ((Bt.out.alloc (.cells #[.string b, .int .i64 (drawAt b t)] 23)).below hb_)
    have Bu := Lib.hid ((Box.new w2_ b (drawAt b t)).below hb_)
    clear hb_
    obtain ⟨t0, t1, t2⟩ := Bt.out
    go_wp2_with fail
    refine (pick_any b t n hb2 ht hn _).mono ?_
    rintro e w4_ ⟨rfl, hb_⟩
    replace HB := Lib.hid (below_two HB.out (below_box hb_))
    clear t0 t1 t2
    replace Bt := Lib.hid ((Bt.out.alloc (.cells #[.string b, .int .i64 (drawAt b t)] 23)).below hb_)
    replace Bu := Lib.hid ((Bu.out.alloc (.cells #[.string b, .int .i64 (drawAt b t)] 23)).below hb_)
    have Bv := Lib.hid ((Box.new w3_ b (drawAt b t)).below hb_)
    clear hb_
    obtain ⟨t0, t1, t2⟩ := Bt.out
    go_wp2_with fail
    refine (refPick_any b t n hb2 hn _).mono ?_
    rintro e w5_ ⟨rfl, hb_⟩
    replace HB := Lib.hid (below_two HB.out (below_box hb_))
    clear t0 t1 t2
    replace Bt := Lib.hid ((Bt.out.alloc (.cells #[.string b, .int .i64 (pickAt b t n)] 23)).below hb_)
    replace Bu := Lib.hid ((Bu.out.alloc (.cells #[.string b, .int .i64 (pickAt b t n)] 23)).below hb_)
    replace Bv := Lib.hid ((Bv.out.alloc (.cells #[.string b, .int .i64 (pickAt b t n)] 23)).below hb_)
    have Bw := Lib.hid ((Box.new w4_ b (pickAt b t n)).below hb_)
    clear hb_
    obtain ⟨t0, t1, t2⟩ := Bt.out
    go_wp2_with fail
    refine (some_any b t n many hb2 ht hn hmany _).mono ?_
    rintro e w6_ ⟨k, rfl, hown_, hb_⟩
    replace HB := Lib.hid (below_two HB.out (below_box hb_))
    clear t0 t1 t2
    replace Bt := Lib.hid ((Bt.out.alloc (.cells #[.string b, .int .i64 (pickAt b t n)] 23)).below hb_)
    replace Bu := Lib.hid ((Bu.out.alloc (.cells #[.string b, .int .i64 (pickAt b t n)] 23)).below hb_)
    replace Bv := Lib.hid ((Bv.out.alloc (.cells #[.string b, .int .i64 (pickAt b t n)] 23)).below hb_)
    replace Bw := Lib.hid ((Bw.out.alloc (.cells #[.string b, .int .i64 (pickAt b t n)] 23)).below hb_)
    have Bx := Lib.hid ((Box.new w5_ b (pickAt b t n)).below hb_)
    clear hb_
    obtain ⟨t0, t1, t2⟩ := Bt.out
    obtain ⟨Ak, ck, rfl, hrow_⟩ := RowI.own hown_
    clear hown_
    have RK := Lib.hid hrow_
    clear hrow_
    go_wp2_with fail
    refine (refSome_any b t n many hb2 ht hn hmany _).mono ?_
    rintro e w7_ ⟨l, rfl, hown_, hb_⟩
    replace HB := Lib.hid (below_two HB.out (below_box hb_))
    clear t0 t1 t2
    replace Bt := Lib.hid ((Bt.out.alloc (.cells #[.string b, .int .i64 ((someOf b t n many).2)] 23)).below hb_)
    replace Bu := Lib.hid ((Bu.out.alloc (.cells #[.string b, .int .i64 ((someOf b t n many).2)] 23)).below hb_)
    replace Bv := Lib.hid ((Bv.out.alloc (.cells #[.string b, .int .i64 ((someOf b t n many).2)] 23)).below hb_)
    replace Bw := Lib.hid ((Bw.out.alloc (.cells #[.string b, .int .i64 ((someOf b t n many).2)] 23)).below hb_)
    replace Bx := Lib.hid ((Bx.out.alloc (.cells #[.string b, .int .i64 ((someOf b t n many).2)] 23)).below hb_)
    replace RK := Lib.hid (RK.out.below (below_box hb_))
    have By := Lib.hid ((Box.new w6_ b ((someOf b t n many).2)).below hb_)
    clear hb_
    obtain ⟨Al, cl, rfl, hrow_⟩ := RowI.own hown_
    clear hown_
    have RL := Lib.hid hrow_
    clear hrow_
    go_wp2_with fail
    replace Bt := Lib.hid (Bt.out.alloc (.cells #[.string b, .int .i64 ((someOf b t n many).2)] 23))
    replace Bu := Lib.hid (Bu.out.alloc (.cells #[.string b, .int .i64 ((someOf b t n many).2)] 23))
    replace Bv := Lib.hid (Bv.out.alloc (.cells #[.string b, .int .i64 ((someOf b t n many).2)] 23))
    replace Bw := Lib.hid (Bw.out.alloc (.cells #[.string b, .int .i64 ((someOf b t n many).2)] 23))
    replace Bx := Lib.hid (Bx.out.alloc (.cells #[.string b, .int .i64 ((someOf b t n many).2)] 23))
    replace By := Lib.hid (By.out.alloc (.cells #[.string b, .int .i64 ((someOf b t n many).2)] 23))
    have Bz := Lib.hid (Box.new w7_ b (someOf b t n many).2)
    replace RK := Lib.hid (RK.out.below ((Below.refl _ _).alloc (Nat.le_refl _) (.cells #[.string b, .int .i64 ((someOf b t n many).2)] 23)))
    replace RL := Lib.hid (RL.out.below ((Below.refl _ _).alloc (Nat.le_refl _) (.cells #[.string b, .int .i64 ((someOf b t n many).2)] 23)))
    replace HB := Lib.hid (below_two HB.out ((Below.refl _ _).alloc (Nat.le_refl _) (.cells #[.string b, .int .i64 ((someOf b t n many).2)] 23)))
    generalize w7_.alloc (.cells #[.string b, .int .i64 ((someOf b t n many).2)] 23) = W0 at *
    have HS : Hid (∀ w', Below W0.heap.size W0 w' → Below W0.heap.size W0 w' ∧ w'.cell? ⟨w.heap.size, 0, none⟩ = some (.string b) ∧ w'.cell? ⟨w.heap.size, 1, none⟩ = some (.int .i64 (t)) ∧ w'.cell? ⟨w2_.heap.size, 0, none⟩ = some (.string b) ∧ w'.cell? ⟨w2_.heap.size, 1, none⟩ = some (.int .i64 (drawAt b t)) ∧ w'.cell? ⟨w3_.heap.size, 0, none⟩ = some (.string b) ∧ w'.cell? ⟨w3_.heap.size, 1, none⟩ = some (.int .i64 (drawAt b t)) ∧ w'.cell? ⟨w4_.heap.size, 0, none⟩ = some (.string b) ∧ w'.cell? ⟨w4_.heap.size, 1, none⟩ = some (.int .i64 (pickAt b t n)) ∧ w'.cell? ⟨w5_.heap.size, 0, none⟩ = some (.string b) ∧ w'.cell? ⟨w5_.heap.size, 1, none⟩ = some (.int .i64 (pickAt b t n)) ∧ w'.cell? ⟨w6_.heap.size, 0, none⟩ = some (.string b) ∧ w'.cell? ⟨w6_.heap.size, 1, none⟩ = some (.int .i64 ((someOf b t n many).2)) ∧ w'.cell? ⟨w7_.heap.size, 0, none⟩ = some (.string b) ∧ w'.cell? ⟨w7_.heap.size, 1, none⟩ = some (.int .i64 ((someOf b t n many).2))) := fun w' h => ⟨h, (Bt.out.below h).2.1, (Bt.out.below h).2.2, (Bu.out.below h).2.1, (Bu.out.below h).2.2, (Bv.out.below h).2.1, (Bv.out.below h).2.2, (Bw.out.below h).2.1, (Bw.out.below h).2.2, (Bx.out.below h).2.1, (Bx.out.below h).2.2, (By.out.below h).2.1, (By.out.below h).2.2, (Bz.out.below h).2.1, (Bz.out.below h).2.2⟩
    go_region_held3 (fun w' => Below W0.heap.size W0 w' ∧ w'.cell? ⟨w.heap.size, 0, none⟩ = some (.string b) ∧ w'.cell? ⟨w.heap.size, 1, none⟩ = some (.int .i64 (t)) ∧ w'.cell? ⟨w2_.heap.size, 0, none⟩ = some (.string b) ∧ w'.cell? ⟨w2_.heap.size, 1, none⟩ = some (.int .i64 (drawAt b t)) ∧ w'.cell? ⟨w3_.heap.size, 0, none⟩ = some (.string b) ∧ w'.cell? ⟨w3_.heap.size, 1, none⟩ = some (.int .i64 (drawAt b t)) ∧ w'.cell? ⟨w4_.heap.size, 0, none⟩ = some (.string b) ∧ w'.cell? ⟨w4_.heap.size, 1, none⟩ = some (.int .i64 (pickAt b t n)) ∧ w'.cell? ⟨w5_.heap.size, 0, none⟩ = some (.string b) ∧ w'.cell? ⟨w5_.heap.size, 1, none⟩ = some (.int .i64 (pickAt b t n)) ∧ w'.cell? ⟨w6_.heap.size, 0, none⟩ = some (.string b) ∧ w'.cell? ⟨w6_.heap.size, 1, none⟩ = some (.int .i64 ((someOf b t n many).2)) ∧ w'.cell? ⟨w7_.heap.size, 0, none⟩ = some (.string b) ∧ w'.cell? ⟨w7_.heap.size, 1, none⟩ = some (.int .i64 ((someOf b t n many).2))) (first | exact HS.out _ HN.out | exact HS.out _ (Below.refl _ _).drew) (first | (go_at_call 16; refine (same_kept _ hlen (by assumption) RK.out RL.out).mono ?_; rintro e w' ⟨rfl, hb⟩; have HN := Lib.hid hb; clear hb) | (go_at_call 17; refine (left_kept _ _ hb2 ht (by assumption)).mono ?_; rintro e w' ⟨rfl, hb⟩; have HN := Lib.hid hb; clear hb) | (go_at_call 18; refine (refLeft_kept _ _ hb2 ht (by assumption)).mono ?_; rintro e w' ⟨rfl, hb⟩; have HN := Lib.hid hb; clear hb))
    all_goals
      go_wp2
      go_ret
      exact ⟨rfl, below_two HB.out HN.out⟩
  · have hd : decide (1000 < (b.size : Int)) = true := by simp; omega
    go_enter Try.func3, Try.ntmps3
    go_wp2_with fail
    refine (awake_any _).mono ?_
    rintro e w1 ⟨rfl, hb1⟩
    have HB := Lib.hid (below_box hb1)
    have BT := Lib.hid ((Box.new w b t).below hb1)
    clear hb1
    obtain ⟨t0, t1, t2⟩ := BT.out
    go_wp2_with fail
    go_ret
    exact ⟨rfl, HB.out⟩
theorem wf_i64 {t : Int} (h : (Lit.int .i64 t).wf = true) : I64 t := by
  have h1 : IntKind.i64.min = -9223372036854775808 := rfl
  have h2 : IntKind.i64.max = 9223372036854775807 := rfl
  simp only [Lit.wf, Bool.and_eq_true, decide_eq_true_eq] at h
  unfold I64
  omega
theorem tapeTells_walk (b : ByteArray) (t n many : Int) (_wb : b.size ≤ maxLen) (wt : (Lit.int .i64 t).wf = true) (wn : (Lit.int .i64 n).wf = true) (wm : (Lit.int .i64 many).wf = true) (w : World) :
    Calls Try.prog 3 #[tp b t, .int .i64 n, .int .i64 many] w fun e w' => e = .returned (.bool true) ∧ Below w.heap.size w w' :=
  tapeTells_all b t n many (wf_i64 wt) (wf_i64 wn) (wf_i64 wm) w
end Go.Proofs.Ytchpgoipoaoboaa
