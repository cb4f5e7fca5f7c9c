/-
  THE WALK OF TapeEnd: it answers true.
-/
import Derived.Test.YtchpgoipoaoboaaAwake
import Derived.Deep.RegionHeld3
namespace Go.Proofs.Ytchpgoipoaoboaa
open Go.RowKit
open Lean Elab Tactic in
elab "tgt" : tactic => withMainContext do
  let t ← getMainTarget
  let t ← instantiateMVars t
  let s := toString (← Meta.ppExpr t)
  logInfo m!"{s.take 30000}"
set_option maxRecDepth 100000 in
set_option maxHeartbeats 400000 in
theorem tapeEnd_yes (n m k r j : Nat) (hn : n < 256) (hm : m < 256) (hr : (n : Int) % 50 = (r : Int)) (_hr2 : r < 50) (hk1 : (1 : Int) + (r : Int) = (k : Int)) (HPK : Hid (pickN ⟨#[]⟩ 0 k = 0)) (HPA : Hid (pickAt ⟨#[]⟩ 0 k = 0)) (HSO : Hid (someOf ⟨#[]⟩ 0 k m = (upto j j, 0))) (HJ : Hid (((j : Int) == min (k : Int) (m : Int)) = true)) (hj : j ≤ 1000) (w : World) :
    Calls Try.prog 7 #[.int .u8 n, .int .u8 m] w fun e w' => e = .returned (.bool true) ∧ Below w.heap.size w w' := by
  go_enter Try.func7, Try.ntmps7
  go_wp2_with fail
  refine (awake_any _).mono ?_
  rintro e w1 ⟨rfl, hb1⟩
  have HB := Lib.hid hb1
  clear hb1
  go_wp2_with fail
  refine (pick_any ⟨#[]⟩ 0 k (by decide) (by unfold I64; omega) (by unfold I64; omega) _).mono ?_
  rintro e w2 ⟨rfl, hb2⟩
  rw [HPK.out, HPA.out]
  replace HB := Lib.hid (below_two HB.out hb2)
  clear hb2
  go_wp2_with fail
  refine (some_any ⟨#[]⟩ 0 k m (by decide) (by unfold I64; omega) (by unfold I64; omega) (by unfold I64; omega) _).mono ?_
  rintro e w3 ⟨l, rfl, hown_, hb3⟩
  rw [HSO.out] at hown_ ⊢
  replace HB := Lib.hid (below_two HB.out (below_box hb3))
  have Bt := Lib.hid ((Box.new w2 ⟨#[]⟩ 0).below hb3)
  clear hb3
  obtain ⟨A, c, rfl, hrow⟩ := RowI.own hown_
  have RW := Lib.hid hrow
  clear hown_ hrow
  have hul : (upto j j).length = j := upto_length j j
  go_wp2_with fail
  go_loopw [11] (fun i wr => ∃ q : Nat, q ≤ j ∧ i = .int .i64 q ∧ wr = w3.alloc (.cells #[.string ⟨#[]⟩, .int .i64 0] 23)) (fun i _ => j - (intOf i).toNat)
  case atStart => exact ⟨0, by omega, rfl, rfl⟩
  case round =>
    obtain ⟨q, hq, rfl, rfl⟩ := hrel
    by_cases hlt : q < j
    · have hd : decide ((q : Int) < (j : Int)) = true := by simp; omega
      obtain ⟨p, rfl, hpb, hp⟩ := RW.out q (by rw [upto_length]; exact hlt)
      have hval : (upto j j)[q]'(by rw [upto_length]; exact hlt) = (q : Int) := by simp [upto]; omega
      rw [hval] at hp
      have hp2 : (w3.alloc (.cells #[.string ⟨#[]⟩, .int .i64 0] 23)).cell? (p.add q) = some (.int .i64 q) := by
        rw [World.cell?_alloc_lt _ _ _ (by rw [Addr.add]; split <;> exact hpb)]; exact hp
      go_wp2
      go_roundw
      case rel => exact ⟨q + 1, by omega, by go_num, trivial⟩
      case measure => simp [intOf]; omega
    · have hd : decide ((q : Int) < (j : Int)) = false := by simp; omega
      obtain ⟨t0, t1, t2⟩ := Bt.out
      go_wp2
      go_ret
      refine ⟨?_, ?_⟩
      · show Ending.returned (.bool ((j : Int) == min (k : Int) (m : Int))) = _
        rw [HJ.out]
      · exact below_two HB.out ((Below.refl _ _).alloc (Nat.le_refl _) _)
theorem draw_none (t : Int) : drawV ⟨#[]⟩ t = 0#32 ∧ drawAt ⟨#[]⟩ t = t := by
  have h : ¬ (0 ≤ t ∧ t < (((⟨#[]⟩ : ByteArray).size : Nat) : Int) / 4) := by
    show ¬ (0 ≤ t ∧ t < ((0 : Nat) : Int) / 4)
    omega
  rw [drawV, drawAt, if_neg h, if_neg h]
  exact ⟨rfl, rfl⟩
theorem pick_none (k : Int) : pickN ⟨#[]⟩ 0 k = 0 ∧ pickAt ⟨#[]⟩ 0 k = 0 := by
  unfold pickN pickAt pickV
  rw [(draw_none 0).1, (draw_none 0).2]
  have h : nv 0#32 = 0 := rfl
  rw [h, Int.zero_mul]
  split <;> exact ⟨rfl, rfl⟩
theorem someRun_none : ∀ (m : Nat) (ls : List Int), m ≤ ls.length → someRun ⟨#[]⟩ m 0 ls = (ls.take m, 0)
  | 0, ls, _ => rfl
  | m + 1, [], h => by simp at h
  | m + 1, a :: ls, h => by
    rw [someRun]
    have e := pick_none ((a :: ls).length)
    rw [e.1, e.2]
    show (a :: (someRun ⟨#[]⟩ m 0 ls).1, (someRun ⟨#[]⟩ m 0 ls).2) = _
    rw [someRun_none m ls (by simpa using h)]
    rfl
theorem upto_take (k j : Nat) (h : j ≤ k) : (upto k k).take j = upto j j := by
  apply List.ext_getElem?
  intro i
  rw [List.getElem?_take]
  by_cases hi : i < j
  · have h2 : i < k := by omega
    simp [upto, hi, h2]
  · simp [upto, hi]
theorem wf_u8 {a : Int} (h : (Lit.int .u8 a).wf = true) : ∃ n : Nat, a = n ∧ n < 256 := by
  have h1 : IntKind.u8.min = 0 := rfl
  have h2 : IntKind.u8.max = 255 := rfl
  simp only [Lit.wf, Bool.and_eq_true, decide_eq_true_eq] at h
  exact ⟨a.toNat, by omega, by omega⟩
theorem tapeEnd_walk (a b : Int) (wa : (Lit.int .u8 a).wf = true) (wb : (Lit.int .u8 b).wf = true) (w : World) :
    Calls Try.prog 7 #[.int .u8 a, .int .u8 b] w fun e w' => e = .returned (.bool true) ∧ Below w.heap.size w w' := by
  obtain ⟨n, rfl, hn⟩ := wf_u8 wa
  obtain ⟨m, rfl, hm⟩ := wf_u8 wb
  refine tapeEnd_yes n m (1 + n % 50) (n % 50) (min (1 + n % 50) m) hn hm (by omega) (by omega) (by omega) (pick_none _).1 (pick_none _).2 ?_ ?_ (by omega) w
  · show _ = _
    unfold someOf
    by_cases h : 1 ≤ m
    · rw [if_pos ⟨by omega, by omega, by omega⟩, Int.toNat_natCast, show (min (((1 + n % 50 : Nat) : Nat) : Int) (m : Int)).toNat = min (1 + n % 50) m by omega, someRun_none _ _ (by rw [upto_length]; omega), upto_take _ _ (by omega)]
    · rw [if_neg (by rintro ⟨_, _, h3⟩; omega)]
      rw [show min (1 + n % 50) m = 0 by omega]
      rfl
  · show _ = _
    simp
    omega
end Go.Proofs.Ytchpgoipoaoboaa
