/-
  THE WALKS OF tape.Pick and of the reference's Pick.
-/
import Derived.Test.YtchpgoipoaoboaaRefDraw
namespace Go.Proofs.Ytchpgoipoaoboaa
open Go.RowKit
def pickV (d : BitVec 32) (n : Int) : Int := nv d * n / 4294967296
theorem pick_mul (d : BitVec 32) (n : Int) (h1 : 1 ≤ n) (h2 : n ≤ 2147483647) : ∃ p, nv d * n = p ∧ 0 ≤ p ∧ p ≤ 9223372030412324865 := by
  have r := nv_range d
  refine ⟨_, rfl, Int.mul_nonneg r.1 (by omega), ?_⟩
  have := Int.mul_le_mul r.2 h2 (by omega) (by omega)
  omega
theorem draw_i64 (b : ByteArray) (t : Int) (hb : b.size ≤ 10000) (ht : I64 t) : I64 (drawAt b t) := by
  unfold I64 at *; unfold drawAt; split <;> omega
set_option maxRecDepth 100000 in
set_option maxHeartbeats 400000 in
theorem pick_no (b : ByteArray) (t n : Int) (_hn : I64 n) (h : n < 1 ∨ 2147483647 < n) (w : World) :
    Calls Try.prog 12 #[tp b t, .int .i64 n] w fun e w' => e = .returned (.tuple #[.int .i64 0, tp b t]) ∧ Below w.heap.size w w' := by
  rcases h with h | h
  · have hd : decide (n < 1) = true := by simp; omega
    go_enter Try.func12, Try.ntmps12
    go_wp2
    go_region
    all_goals
      go_wp2
      refine bodyPost_ret (v := .tuple #[.int .i64 0, tp b t]) (by simp [results, Try.results12, go_sem]) rfl ⟨rfl, ?_⟩
      exact ((((Below.refl _ _).alloc (Nat.le_refl _) _).alloc (by simp) _).drew)
  · have hd : decide (n < 1) = false := by simp; omega
    have hd2 : decide (2147483647 < n) = true := by simp; omega
    go_enter Try.func12, Try.ntmps12
    go_wp2
    go_region
    all_goals
      go_wp2
      refine bodyPost_ret (v := .tuple #[.int .i64 0, tp b t]) (by simp [results, Try.results12, go_sem]) rfl ⟨rfl, ?_⟩
      exact ((((Below.refl _ _).alloc (Nat.le_refl _) _).alloc (by simp) _).drew)
set_option maxRecDepth 100000 in
set_option maxHeartbeats 400000 in
theorem pick_yes (b : ByteArray) (t n : Int) (hb : b.size ≤ 10000) (ht : I64 t) (h1 : 1 ≤ n) (h2 : n ≤ 2147483647) (w : World) :
    Calls Try.prog 12 #[tp b t, .int .i64 n] w fun e w' => e = .returned (.tuple #[.int .i64 (pickV (drawV b t) n), tp b (drawAt b t)]) ∧ Below w.heap.size w w' := by
  have hd : decide (n < 1) = false := by simp; omega
  have hd2 : decide (2147483647 < n) = false := by simp; omega
  obtain ⟨p, hp, hp0, hp1⟩ := pick_mul (drawV b t) n h1 h2
  have hpu : IntKind.u64.wrap p = p := IntWalk.u64_in _ (by omega)
  have hdr := nv_range (drawV b t)
  have hnu : IntKind.u64.wrap n = n := IntWalk.u64_in _ (by omega)
  go_enter Try.func12, Try.ntmps12
  go_wp2_with fail
  refine (draw_any b t hb ht _).mono ?_
  rintro e w1 ⟨rfl, hb1⟩
  obtain ⟨hc1, hc2, hf1, hf2, hsz⟩ := two_blocks hb1
  have hs1 : w.heap.size < w1.heap.size := by omega
  have hs2 : w.heap.size + 1 < w1.heap.size := by omega
  have HB1 := Lib.hid hb1
  clear hb1
  go_wp2
  have hpi : IntKind.i64.wrap (p / 4294967296) = p / 4294967296 := IntWalk.i64_in _ (by omega)
  go_region
  all_goals
    go_wp2
    refine bodyPost_ret (v := .tuple #[.int .i64 (pickV (drawV b t) n), tp b (drawAt b t)]) (by simp [results, Try.results12, go_sem, hc2, pickV, hp]) rfl ⟨rfl, ?_⟩
    have hB := ((((Below.refl w.heap.size w).alloc (Nat.le_refl _) (.cells #[.string b, .int .i64 t] 23)).alloc (by simp) (.cells #[.string ⟨#[]⟩, .int .i64 0] 23)).trans (HB1.out.mono (by simp; omega)))
    exact (((((hB.setCell (by simp) _).setCell (by simp) _).setCell (by simp) _).setCell (by simp) _).drew)
set_option maxRecDepth 100000 in
set_option maxHeartbeats 400000 in
theorem refPick_no (b : ByteArray) (t n : Int) (_hn : I64 n) (h : n < 1 ∨ 2147483647 < n) (w : World) :
    Calls Try.prog 13 #[tp b t, .int .i64 n] w fun e w' => e = .returned (.tuple #[.int .i64 0, tp b t]) ∧ Below w.heap.size w w' := by
  rcases h with h | h
  · have hd : decide (n < 1) = true := by simp; omega
    go_enter Try.func13, Try.ntmps13
    go_wp2
    go_region
    all_goals
      go_wp2
      refine bodyPost_ret (v := .tuple #[.int .i64 0, tp b t]) (by simp [results, Try.results13, go_sem]) rfl ⟨rfl, ?_⟩
      exact ((((Below.refl _ _).alloc (Nat.le_refl _) _).alloc (by simp) _).drew)
  · have hd : decide (n < 1) = false := by simp; omega
    have hd2 : decide (2147483647 < n) = true := by simp; omega
    go_enter Try.func13, Try.ntmps13
    go_wp2
    go_region
    all_goals
      go_wp2
      refine bodyPost_ret (v := .tuple #[.int .i64 0, tp b t]) (by simp [results, Try.results13, go_sem]) rfl ⟨rfl, ?_⟩
      exact ((((Below.refl _ _).alloc (Nat.le_refl _) _).alloc (by simp) _).drew)
set_option maxRecDepth 100000 in
set_option maxHeartbeats 400000 in
theorem refPick_yes (b : ByteArray) (t n : Int) (hb : b.size ≤ 10000)  (h1 : 1 ≤ n) (h2 : n ≤ 2147483647) (w : World) :
    Calls Try.prog 13 #[tp b t, .int .i64 n] w fun e w' => e = .returned (.tuple #[.int .i64 (pickV (drawV b t) n), tp b (drawAt b t)]) ∧ Below w.heap.size w w' := by
  have hd : decide (n < 1) = false := by simp; omega
  have hd2 : decide (2147483647 < n) = false := by simp; omega
  obtain ⟨p, hp, hp0, hp1⟩ := pick_mul (drawV b t) n h1 h2
  have hpu : IntKind.u64.wrap p = p := IntWalk.u64_in _ (by omega)
  have hdr := nv_range (drawV b t)
  have hnu : IntKind.u64.wrap n = n := IntWalk.u64_in _ (by omega)
  go_enter Try.func13, Try.ntmps13
  go_wp2_with fail
  refine (refDraw_any b t hb _).mono ?_
  rintro e w1 ⟨rfl, hb1⟩
  obtain ⟨hc1, hc2, hf1, hf2, hsz⟩ := two_blocks hb1
  have hs1 : w.heap.size < w1.heap.size := by omega
  have hs2 : w.heap.size + 1 < w1.heap.size := by omega
  have HB1 := Lib.hid hb1
  clear hb1
  go_wp2
  have hpi : IntKind.i64.wrap (p / 4294967296) = p / 4294967296 := IntWalk.i64_in _ (by omega)
  go_region
  all_goals
    go_wp2
    refine bodyPost_ret (v := .tuple #[.int .i64 (pickV (drawV b t) n), tp b (drawAt b t)]) (by simp [results, Try.results13, go_sem, hc2, hs2, pickV, hp]) rfl ⟨rfl, ?_⟩
    have hB := ((((Below.refl w.heap.size w).alloc (Nat.le_refl _) (.cells #[.string b, .int .i64 t] 23)).alloc (by simp) (.cells #[.string ⟨#[]⟩, .int .i64 0] 23)).trans (HB1.out.mono (by simp; omega)))
    exact ((((hB.setCell (by simp) _).setCell (by simp) _).alloc (by simp; omega) _).drew)
def inPick (n : Int) : Prop := 1 ≤ n ∧ n ≤ 2147483647
instance (n : Int) : Decidable (inPick n) := by unfold inPick; infer_instance
def pickN (b : ByteArray) (t n : Int) : Int := if inPick n then pickV (drawV b t) n else 0
def pickAt (b : ByteArray) (t n : Int) : Int := if inPick n then drawAt b t else t
theorem pick_any (b : ByteArray) (t n : Int) (hb : b.size ≤ 10000) (ht : I64 t) (hn : I64 n) (w : World) :
    Calls Try.prog 12 #[tp b t, .int .i64 n] w fun e w' => e = .returned (.tuple #[.int .i64 (pickN b t n), tp b (pickAt b t n)]) ∧ Below w.heap.size w w' := by
  by_cases h : inPick n
  · rw [pickN, pickAt, if_pos h, if_pos h]
    exact pick_yes b t n hb ht h.1 h.2 w
  · rw [pickN, pickAt, if_neg h, if_neg h]
    unfold inPick at h
    exact pick_no b t n hn (by omega) w
theorem refPick_any (b : ByteArray) (t n : Int) (hb : b.size ≤ 10000) (hn : I64 n) (w : World) :
    Calls Try.prog 13 #[tp b t, .int .i64 n] w fun e w' => e = .returned (.tuple #[.int .i64 (pickN b t n), tp b (pickAt b t n)]) ∧ Below w.heap.size w w' := by
  by_cases h : inPick n
  · rw [pickN, pickAt, if_pos h, if_pos h]
    exact refPick_yes b t n hb h.1 h.2 w
  · rw [pickN, pickAt, if_neg h, if_neg h]
    unfold inPick at h
    exact refPick_no b t n hn (by omega) w
end Go.Proofs.Ytchpgoipoaoboaa
