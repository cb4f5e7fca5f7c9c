/-
  THE WALKS OF linhayref08.Same and of the law's own helper; the numbers that a slice holds.
-/
import Derived.Test.YtchpgoipoaoboaaRefSome
import Derived.Lib.ConvBytes
namespace Go.Proofs.Ytchpgoipoaoboaa
open Go.RowKit
open Lean Elab Tactic in
elab "tgt" : tactic => withMainContext do
  let t ← getMainTarget
  let t ← instantiateMVars t
  let s := toString (← Meta.ppExpr t)
  logInfo m!"{s.take 30000}"
/-- the numbers l are what the slice holds -/
def RowI (w : World) (A : Option Addr) (l : List Int) : Prop := ∀ j (h : j < l.length), ∃ a, A = some a ∧ a.block < w.heap.size ∧ w.cell? (a.add j) = some (.int .i64 l[j])
theorem RowI.below {w w1 : World} {A : Option Addr} {l : List Int} (h : RowI w A l) (hb : Below w.heap.size w w1) : RowI w1 A l := by
  intro j hj
  obtain ⟨a, ha, hlt, hc⟩ := h j hj
  exact ⟨a, ha, Nat.lt_of_lt_of_le hlt hb.size, by rw [hb.cell (by rw [Addr.add]; split <;> exact hlt)]; exact hc⟩
theorem RowI.own_n {w : World} {base n : Nat} {v : Value} {l : List Int} (h : w.ownsRow base 3 1 v n (l.map (Value.int .i64))) (hn : l.length = n) : ∃ A c, v = .slice A n c ∧ RowI w A l := by
  obtain ⟨A, c, rfl⟩ := own_slice h
  refine ⟨A, c, rfl, fun j hj => ?_⟩
  rcases h.2 with h2 | ⟨g, cap, cur, hv, hg, hh, r⟩
  · obtain ⟨h2, h3, _⟩ := h2
    omega
  · injection hv with hA _ hc
    subst hA
    subst hc
    refine ⟨⟨g, 0, none⟩, rfl, (h.lt g rfl).2, ?_⟩
    have e := h.cellAt j (by omega)
    have e2 : (⟨g, 0, none⟩ : Addr).add j = ⟨g, j, none⟩ := by rw [Addr.add]; simp; omega
    rw [e2, e]
    simp [hj]
theorem RowI.own {w : World} {base : Nat} {v : Value} {l : List Int} (h : w.ownsRow base 3 1 v l.length (l.map (Value.int .i64))) : ∃ A c, v = .slice A l.length c ∧ RowI w A l := RowI.own_n h rfl
theorem take_succ_eq (l m : List Int) (k : Nat) (h1 : k < l.length) (h2 : k < m.length) (h : l.take k = m.take k) (e : l[k] = m[k]) : l.take (k + 1) = m.take (k + 1) := by
  rw [List.take_succ_eq_append_getElem h1, List.take_succ_eq_append_getElem h2, h, e]
set_option maxRecDepth 100000 in
set_option maxHeartbeats 400000 in
theorem same_any (A B : Option Addr) (c d : Nat) (l m : List Int) (hll : l.length ≤ 1000) (w : World) (hl : RowI w A l) (hm : RowI w B m) :
    Calls Try.prog 16 #[.slice A l.length c, .slice B m.length d] w fun e w' => e = .returned (.bool (decide (l = m))) ∧ Below w.heap.size w w' := by
  have HL := Lib.hid hl
  have HM := Lib.hid hm
  clear hl hm
  by_cases hlen : l.length = m.length
  · have hd0 : ((l.length : Int) == (m.length : Int)) = true := by simp; omega
    go_enter Try.func16, Try.ntmps16
    go_wp2
    go_loopw [5] (fun i wr => ∃ k : Nat, k ≤ m.length ∧ i = .int .i64 k ∧ Hid (l.take k = m.take k) ∧ Below w.heap.size w wr) (fun i _ => m.length - (intOf i).toNat)
    case atStart => exact ⟨0, by omega, rfl, rfl, Below.refl _ _⟩
    case round =>
      obtain ⟨k, hk, rfl, HT, hbe⟩ := hrel
      have HB := Lib.hid hbe
      clear hbe
      by_cases hlt : k < m.length
      · have hd : decide ((k : Int) < (m.length : Int)) = true := by simp; omega
        have hkl : k < l.length := by omega
        obtain ⟨p, rfl, hpb, hp0⟩ := HL.out k hkl
        obtain ⟨q, rfl, hqb, hq0⟩ := HM.out k hlt
        have hp : wr.cell? (p.add k) = some (.int .i64 l[k]) := by rw [HB.out.cell (by rw [Addr.add]; split <;> exact hpb)]; exact hp0
        have hq : wr.cell? (q.add k) = some (.int .i64 m[k]) := by rw [HB.out.cell (by rw [Addr.add]; split <;> exact hqb)]; exact hq0
        clear hp0 hq0
        by_cases he : l[k] = m[k]
        · have hne : (l[k] != m[k]) = false := by simp [he]
          go_wp2
          go_quiet (fail)
          go_wp2
          go_roundw
          case rel => exact ⟨k + 1, by omega, by go_num, take_succ_eq l m k hkl hlt HT.out he, below_drewN HB.out _⟩
          case measure => simp [intOf]; omega
        · have hne : (l[k] != m[k]) = true := by simp [he]
          have hd2 : decide (l = m) = false := by simp; intro e; subst e; exact he rfl
          go_wp2
          go_quiet (fail)
          go_wp2
          go_ret
          rw [hd2]
          exact ⟨rfl, below_drewN HB.out _⟩
      · have hd : decide ((k : Int) < (m.length : Int)) = false := by simp; omega
        have hlm : decide (l = m) = true := by
          have := HT.out
          rw [List.take_of_length_le (by omega), List.take_of_length_le (by omega)] at this
          simpa using this
        go_wp2
        go_ret
        rw [hlm]
        exact ⟨rfl, HB.out⟩
  · have hd0 : ((l.length : Int) == (m.length : Int)) = false := by simp; omega
    have hd1 : ((l.length : Int) != (m.length : Int)) = true := by simp; omega
    have hd2 : decide (l = m) = false := by simp; intro e; subst e; exact hlen rfl
    go_enter Try.func16, Try.ntmps16
    go_wp2
    go_ret
    rw [hd2]
    exact ⟨rfl, Below.refl _ _⟩
/-- a number's four bytes, the low one first -/
def le4 (n : BitVec 32) : List (BitVec 8) := [n.setWidth 8, (n >>> 8).setWidth 8, (n >>> 16).setWidth 8, (n >>> 24).setWidth 8]
def leS (n : BitVec 32) : ByteArray := ofBits (le4 n)
theorem conv4 (w : World) (z : Obj) (a b c d : Int) : (convert 44 9 (.slice (some ⟨w.heap.size + 1, 0, none⟩) 4 4)).run Try.prog ((w.alloc z).alloc (.cells #[.int .u8 a, .int .u8 b, .int .u8 c, .int .u8 d] 5)) =
    .ok (.string (strOfNums [a, b, c, d])) ((w.alloc z).alloc (.cells #[.int .u8 a, .int .u8 b, .int .u8 c, .int .u8 d] 5)) := by
  have hs : w.heap.size + 1 = (w.alloc z).heap.size := by simp
  rw [hs]
  refine run_convert_bytes_arg _ 44 5 Try.underlying44 Try.underlying5 _ 0 4 4 [a, b, c, d] rfl (fun i hi => ?_) 9 Try.underlying9
  rw [World.cell?_alloc_new]
  match i, hi with
  | 0, _ => rfl
  | 1, _ => rfl
  | 2, _ => rfl
  | 3, _ => rfl
theorem nv_hi (n : BitVec 32) : nv (n >>> 24) = bv ((n >>> 24).setWidth 8) := by
  have h := nv_shr n 24 16777216 rfl
  have r := nv_range n
  rw [← nv_byte]; omega
theorem le_nums (n : BitVec 32) : strOfNums [bv (n.setWidth 8), bv ((n >>> 8).setWidth 8), bv ((n >>> 16).setWidth 8), bv ((n >>> 24).setWidth 8)] = leS n := strOfNums_bv (le4 n)
theorem bv_mod8 (c : BitVec 8) : bv c % 256 = bv c := by have := bv_range c; omega
attribute [local go_sem] bv_mod8 nv_byte conv4 le_nums nv_hi
set_option maxRecDepth 100000 in
set_option maxHeartbeats 400000 in
theorem of_any (n : BitVec 32) (w : World) :
    Calls Try.prog 19 #[.int .u32 (nv n)] w fun e w' => e = .returned (tp (leS n) 0) ∧ Below w.heap.size w w' := by
  have r := nv_range n
  have h24 := nv_shr n 24 16777216 rfl
  have h16 := nv_shr n 16 65536 rfl
  have h8 := nv_shr n 8 256 rfl
  go_enter Try.func19, Try.ntmps19
  go_wp2
  refine bodyPost_ret (v := tp (leS n) 0) (by simp [results, Try.results19, go_sem]) rfl ⟨rfl, ?_⟩
  exact ((Below.refl _ _).alloc (Nat.le_refl _) _).alloc (by simp) _
end Go.Proofs.Ytchpgoipoaoboaa
