/-
  THE WALK OF awake: it answers true.
-/
import Derived.Test.YtchpgoipoaoboaaSame
namespace Go.Proofs.Ytchpgoipoaoboaa
open Go.RowKit
open Lean Elab Tactic in
elab "tgt" : tactic => withMainContext do
  let t ← getMainTarget
  let t ← instantiateMVars t
  let s := toString (← Meta.ppExpr t)
  logInfo m!"{s.take 30000}"
def tape0 : ByteArray := ⟨#[1, 0, 0, 0, 0, 1, 0, 0, 0, 0, 0, 128, 7]⟩
/-- a tape lies in block g -/
def Box (w : World) (g : Nat) (b : ByteArray) (t : Int) : Prop := g < w.heap.size ∧ w.cell? ⟨g, 0, none⟩ = some (.string b) ∧ w.cell? ⟨g, 1, none⟩ = some (.int .i64 t)
theorem Box.below {w w1 : World} {g : Nat} {b : ByteArray} {t : Int} (h : Box w g b t) (hb : Below w.heap.size w w1) : Box w1 g b t :=
  ⟨Nat.lt_of_lt_of_le h.1 hb.size, (hb.cell h.1).trans h.2.1, (hb.cell h.1).trans h.2.2⟩
theorem Box.alloc {w : World} {g : Nat} {b : ByteArray} {t : Int} (h : Box w g b t) (o : Obj) : Box (w.alloc o) g b t := h.below ((Below.refl _ _).alloc (Nat.le_refl _) _)
theorem Box.new (w : World) (b : ByteArray) (t : Int) : Box (w.alloc (.cells #[.string b, .int .i64 t] 23)) w.heap.size b t :=
  ⟨by simp, by simp, by simp⟩
theorem below_box {w w1 : World} {o : Obj} (hb : Below (w.alloc o).heap.size (w.alloc o) w1) : Below w.heap.size w w1 := ((Below.refl _ _).alloc (Nat.le_refl _) _).trans (hb.mono (by simp))
theorem aw1 : nv (drawV tape0 0) = 1 := by decide +kernel
theorem aw2 : drawAt tape0 0 = 1 := by decide +kernel
theorem aw3 : nv (drawV tape0 1) = 256 := by decide +kernel
theorem aw4 : drawAt tape0 1 = 2 := by decide +kernel
theorem aw5 : pickN tape0 2 5 = 2 := by decide +kernel
theorem aw6 : pickAt tape0 2 5 = 3 := by decide +kernel
theorem aw7 : nv (drawV tape0 3) = 0 := by decide +kernel
theorem aw8 : drawAt tape0 3 = 3 := by decide +kernel
theorem aw9 : someOf tape0 2 4 2 = ([2, 0], 3) := by decide +kernel
theorem aw10 : leftOf tape0 0 = 3 := by decide +kernel
theorem aw11 : leftOf tape0 3 = 0 := by decide +kernel
theorem aws : tape0.size ≤ 10000 := by decide +kernel
set_option maxRecDepth 100000 in
set_option maxHeartbeats 400000 in
theorem awake_any (w : World) : Calls Try.prog 9 #[] w fun e w' => e = .returned (.bool true) ∧ Below w.heap.size w w' := by
  go_enter Try.func9, Try.ntmps9
  go_wp2_with fail
  rw [show (⟨#[1, 0, 0, 0, 0, 1, 0, 0, 0, 0, 0, 128, 7]⟩ : ByteArray) = tape0 from rfl]
  refine (draw_any tape0 0 aws (by unfold I64; omega) _).mono ?_
  rintro e w1 ⟨rfl, hb1⟩
  rw [aw1, aw2]
  have HB := Lib.hid (below_box hb1)
  have BT := Lib.hid ((Box.new w tape0 0).below hb1)
  clear hb1
  go_wp2_with fail
  refine (draw_any tape0 1 aws (by unfold I64; omega) _).mono ?_
  rintro e w2 ⟨rfl, hb2⟩
  rw [aw3, aw4]
  have HB2 := Lib.hid (below_two HB.out (below_box hb2))
  have BT2 := Lib.hid ((BT.out.alloc (.cells #[.string tape0, .int .i64 1] 23)).below hb2)
  clear hb2 HB BT
  go_wp2_with fail
  refine (pick_any tape0 2 5 aws (by unfold I64; omega) (by unfold I64; omega) _).mono ?_
  rintro e w3 ⟨rfl, hb3⟩
  rw [aw5, aw6]
  have HB3 := Lib.hid (below_two HB2.out (below_box hb3))
  have BT3 := Lib.hid ((BT2.out.alloc (.cells #[.string tape0, .int .i64 2] 23)).below hb3)
  have BV3 := Lib.hid ((Box.new w2 tape0 2).below hb3)
  clear hb3 HB2 BT2
  go_wp2_with fail
  refine (draw_any tape0 3 aws (by unfold I64; omega) _).mono ?_
  rintro e w4 ⟨rfl, hb4⟩
  rw [aw7, aw8]
  have HB4 := Lib.hid (below_two HB3.out (below_box hb4))
  have BT4 := Lib.hid ((BT3.out.alloc (.cells #[.string tape0, .int .i64 3] 23)).below hb4)
  have BV4 := Lib.hid ((BV3.out.alloc (.cells #[.string tape0, .int .i64 3] 23)).below hb4)
  have BW4 := Lib.hid ((Box.new w3 tape0 3).below hb4)
  clear hb4 HB3 BT3 BV3
  obtain ⟨v0, v1, v2⟩ := BV4.out
  go_wp2_with fail
  refine (some_any tape0 2 4 2 aws (by unfold I64; omega) (by unfold I64; omega) (by unfold I64; omega) _).mono ?_
  rintro e w5 ⟨l, rfl, hown, hb5⟩
  rw [aw9] at hown ⊢
  have HB5 := Lib.hid (below_two HB4.out (below_box hb5))
  have BT5 := Lib.hid ((BT4.out.alloc (.cells #[.string tape0, .int .i64 3] 23)).below hb5)
  have BW5 := Lib.hid ((BW4.out.alloc (.cells #[.string tape0, .int .i64 3] 23)).below hb5)
  have BX5 := Lib.hid ((Box.new w4 tape0 3).below hb5)
  clear hb5 HB4 BT4 BW4 BV4 v0 v1 v2
  obtain ⟨A, c, rfl, hrow⟩ := RowI.own hown
  clear hown
  have HROW := Lib.hid hrow
  clear hrow
  obtain ⟨t0, t1, t2⟩ := BT5.out
  obtain ⟨w0, w1, w2⟩ := BW5.out
  obtain ⟨x0, x1, x2⟩ := BX5.out
  go_wp2_with fail
  refine (left_any tape0 0 aws (by unfold I64; omega) _).mono ?_
  rintro e w6 ⟨rfl, hb6⟩
  rw [aw10]
  have HB6 := Lib.hid (below_two HB5.out (below_box hb6))
  have BW6 := Lib.hid ((BW5.out.alloc (.cells #[.string tape0, .int .i64 3] 23)).below hb6)
  have BX6 := Lib.hid ((Box.new w5 tape0 3).below hb6)
  have HROW6 := Lib.hid (HROW.out.below (below_box hb6))
  clear hb6 t0 t1 t2 w0 w1 w2 x0 x1 x2 HB5 BT5 BW5 BX5 HROW
  obtain ⟨w0, w1, w2⟩ := BW6.out
  obtain ⟨x0, x1, x2⟩ := BX6.out
  go_wp2_with fail
  refine (left_any tape0 3 aws (by unfold I64; omega) _).mono ?_
  rintro e w7 ⟨rfl, hb7⟩
  rw [aw11]
  have HB7 := Lib.hid (below_two HB6.out hb7)
  have HROW7 := Lib.hid (HROW6.out.below hb7)
  clear hb7 w0 w1 w2 x0 x1 x2 HB6 BW6 BX6 HROW6
  go_wp2_with fail
  have hrow2 : RowI (w7.alloc (.cells #[.int .i64 2, .int .i64 0] 3)) (some ⟨w7.heap.size, 0, none⟩) [2, 0] := by
    intro j hj
    refine ⟨_, rfl, by simp, ?_⟩
    match j, hj with
    | 0, _ => simp [Addr.add]
    | 1, _ => simp [Addr.add]
  refine (same_any A (some ⟨w7.heap.size, 0, none⟩) c 2 [2, 0] [2, 0] (by decide) _ (HROW7.out.below ((Below.refl _ _).alloc (Nat.le_refl _) _)) hrow2).mono ?_
  rintro e w8 ⟨rfl, hb8⟩
  rw [show decide (([2, 0] : List Int) = [2, 0]) = true from by decide]
  have HB8 := Lib.hid (below_two HB7.out (below_box hb8))
  clear hb8 HB7 HROW7 hrow2
  go_wp2_with fail
  go_ret
  exact ⟨rfl, HB8.out⟩
end Go.Proofs.Ytchpgoipoaoboaa
