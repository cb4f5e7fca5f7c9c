/-
  THE WALK OF SumBurst: it answers true.
-/
import Derived.Test.YtinpogjdaehmmaaPlain
import Derived.Test.YtinpogjdaehmmaaAwake
import Derived.WalkSpells
import Derived.Lib.ConvBytes
import Derived.OwnWalk
import Derived.WalkLawsBesides
namespace Go.Proofs.Ytinpogjdaehmmaa
open Go.RowKit
def bvals (l : List (BitVec 8)) : List Value := l.map fun c => .int .u8 (bv c)
theorem info5 : (Try.prog.info? 5).map (fun i => (i.zero, i.size, i.bytes)) = some (some (.int .u8 0), 1, 1) := by kernel_rfl
theorem conv_own {W : World} {base : Nat} {v : Value} {n : Nat} {l : List (BitVec 8)} (h : W.ownsRow base 5 1 v n (bvals l)) :
    (convert 34 9 v).run Try.prog W = .ok (.string (ofBits l)) W := by
  have hlen : l.length = n := by have h1 := h.1; rw [bvals] at h1; simp at h1; omega
  rcases h.2 with ⟨rfl, h0⟩ | ⟨g, cap, cur, rfl, _⟩
  · have e : l = [] := List.eq_nil_of_length_eq_zero (by omega)
    subst e
    rw [run_convert_bytes_nil W 34 5 Try.underlying34 Try.underlying5 _ _ 9 Try.underlying9]
    rfl
  · rw [run_convert_bytes_arg W 34 5 Try.underlying34 Try.underlying5 g 0 n cap (l.map bv) (by simpa using hlen) (fun i hi => ?_) 9 Try.underlying9, strOfNums_bv]
    have hc := h.cells (g := g) rfl i (.int .u8 (bv (l.getD i 0#8))) (by
      unfold bvals
      rw [List.getElem?_map, List.getElem?_eq_getElem (by omega)]
      simp [List.getD_eq_getElem?_getD, List.getElem?_eq_getElem (show i < l.length by omega)])
    have hadd : (⟨g, 0, none⟩ : Addr).add i = ⟨g, 0 + i, none⟩ := by unfold Addr.add; split <;> simp_all
    rw [hadd] at hc
    rw [hc]
    simp [List.getD_eq_getElem?_getD, List.getElem?_map, List.getElem?_eq_getElem (show i < l.length by omega)]
theorem wf_u16 (a : Int) (h : (Lit.int .u16 a).wf = true) : ∃ n : Nat, a = n ∧ n ≤ 65535 := by
  have h1 : IntKind.u16.min = 0 := rfl
  have h2 : IntKind.u16.max = 65535 := rfl
  simp only [Lit.wf, Bool.and_eq_true, decide_eq_true_eq] at h
  exact ⟨a.toNat, by omega, by omega⟩
theorem wf_u8 (a : Int) (h : (Lit.int .u8 a).wf = true) : ∃ n : Nat, a = n ∧ n ≤ 255 := by
  have h1 : IntKind.u8.min = 0 := rfl
  have h2 : IntKind.u8.max = 255 := rfl
  simp only [Lit.wf, Bool.and_eq_true, decide_eq_true_eq] at h
  exact ⟨a.toNat, by omega, by omega⟩
theorem wf_nv (a : Int) (h : (Lit.int .u32 a).wf = true) : ∃ x, a = nv x := by
  have h1 : IntKind.u32.min = 0 := rfl
  have h2 : IntKind.u32.max = 4294967295 := rfl
  simp only [Lit.wf, Bool.and_eq_true, decide_eq_true_eq] at h
  refine ⟨BitVec.ofNat 32 a.toNat, ?_⟩
  unfold nv
  rw [BitVec.toNat_ofNat, Nat.mod_eq_of_lt (by omega)]
  omega
theorem bit_of (x : BitVec 32) (k : Nat) : ((nv x / 2 ^ k).tmod 2 == 1) = x.getLsbD k := by
  have e : nv x / 2 ^ k = ((x.toNat / 2 ^ k : Nat) : Int) := by
    unfold nv
    rw [show (2 : Int) ^ k = ((2 ^ k : Nat) : Int) by rw [Int.natCast_pow]; rfl]
    rfl
  rw [e, Int.tmod_eq_emod_of_nonneg (Int.natCast_nonneg _)]
  have h2 : x.getLsbD k = (x.toNat / 2 ^ k % 2 == 1) := by
    show x.toNat.testBit k = _
    rw [Nat.testBit_eq_decide_div_mod_eq]
    rfl
  rw [h2]
  have : (((x.toNat / 2 ^ k : Nat) : Int) % 2 == 1) = (x.toNat / 2 ^ k % 2 == 1) := by
    rw [Bool.eq_iff_iff]
    simp only [beq_iff_eq]
    omega
  exact this
theorem shr_128 (m : Nat) (h : m < 8) : (128 : Int) / 2 ^ m = bv (128#8 >>> m) := by
  have k : ∀ m : Fin 8, (128 : Int) / 2 ^ m.1 = bv (128#8 >>> m.1) := by decide
  exact k ⟨m, h⟩
theorem sealed_zero (s : ByteArray) : Crc.crc 0#32 (bs (sealS s)) = 0#32 := by
  rw [bs_sealS, Crc.crc_append]
  exact (Crc.crc_four_zero _ _ _ _ _).2 rfl
theorem burst_step (l : List (BitVec 8)) (x : BitVec 32) (L r k q m : Nat) (hl : l.length = L) (hqm : r + k = 8 * q + m) (hm : m < 8) (hq : q < l.length) (hk : k < 32) (hr : r < 8 * L - 31) (hb : x.getLsbD k = true)
    (h : Crc.crc 0#32 l = Crc.Sn (8 * L - r - 32) (Crc.Sn 32 (Crc.R x k))) :
    Crc.crc 0#32 (l.set q (l[q] ^^^ (128#8 >>> m))) = Crc.Sn (8 * L - r - 32) (Crc.Sn 32 (Crc.R x (k + 1))) := by
  rw [Crc.crc_set l 0#32 q m hq hm, h, Crc.E_split (8 * L - r - 32) _ k (by omega) (by rw [hl]; omega), ← Crc.Sn_xor, ← Crc.Sn_xor]
  have e : Crc.R x (k + 1) = Crc.R x k ^^^ (1#32 <<< (31 - k)) := by rw [Crc.R, if_pos hb]
  rw [e]
theorem burst_stay (x : BitVec 32) (k : Nat) (hb : x.getLsbD k = false) : Crc.R x (k + 1) = Crc.R x k := by
  rw [Crc.R, if_neg (by rw [hb]; decide)]
theorem burst_end (l : List (BitVec 8)) (x : BitVec 32) (a : Nat) (h : Crc.crc 0#32 l = Crc.Sn a (Crc.Sn 32 (Crc.R x 32))) (hx : x ≠ 0#32) : opensB (ofBits l) = false := by
  have hne : Crc.crc 0#32 l ≠ 0#32 := fun e => hx (Crc.R_zero x (Crc.Sn_inj0 32 _ (Crc.Sn_inj0 a _ (h.symm.trans e))))
  unfold opensB
  rw [nv_zero_iff, sumOf_one, bs_ofBits]
  simp [hne]
/-- the bytes l lie in block g, and may be written -/
def Lies (w : World) (g : Nat) (l : List (BitVec 8)) : Prop := g < w.heap.size ∧ ∀ j (h : j < l.length), w.cell? ⟨g, j, none⟩ = some (.int .u8 (bv l[j])) ∧ w.frozen? ⟨g, j, none⟩ = false
theorem Lies.conv {w : World} {g : Nat} {l : List (BitVec 8)} (h : Lies w g l) (n cap : Nat) (hn : l.length = n) : (convert 34 9 (.slice (some ⟨g, 0, none⟩) n cap)).run Try.prog w = .ok (.string (ofBits l)) w := by
  rw [run_convert_bytes_arg w 34 5 Try.underlying34 Try.underlying5 g 0 n cap (l.map bv) (by simpa using hn) (fun i hi => ?_) 9 Try.underlying9, strOfNums_bv]
  rw [Nat.zero_add, (h.2 i (by omega)).1]
  simp [List.getD_eq_getElem?_getD, List.getElem?_map, List.getElem?_eq_getElem (show i < l.length by omega)]
theorem Lies.store {w : World} {g : Nat} {l : List (BitVec 8)} (h : Lies w g l) (q : Nat) (hq : q < l.length) (c : BitVec 8) : Lies (w.setCell ⟨g, q, none⟩ (.int .u8 (bv c))) g (l.set q c) := by
  refine ⟨by rw [World.size_setCell]; exact h.1, fun j hj => ?_⟩
  rw [List.length_set] at hj
  obtain ⟨h1, h2⟩ := h.2 j hj
  constructor
  · rw [List.getElem_set]
    by_cases e : q = j
    · subst e
      rw [if_pos rfl]
      exact World.cell?_setCell_same _ _ _ (by rw [(h.2 q hq).1])
    · rw [if_neg e, World.cell?_setCell_other _ _ _ _ (by intro e2; injection e2 with _ e3; exact e e3), h1]
  · rw [World.frozen?_setCell]; exact h2
theorem to_bytes (w : World) (s : ByteArray) : ∃ wb cap, (convert 9 34 (.string s)).run Try.prog w = .ok (.slice (some ⟨w.heap.size, 0, none⟩) s.size cap) wb ∧ Lies wb w.heap.size (bs s) ∧ Below w.heap.size w wb := by
  refine ⟨_, _, Lib.run_convert_string_bytes (P := Try.prog) w 9 34 5 s Try.underlying9 Try.underlying34 Try.underlying5, ⟨by rw [Lib.bytesWorld_size]; omega, fun j hj => ⟨?_, ?_⟩⟩, ⟨rfl, rfl, rfl, by rw [Lib.bytesWorld_size]; omega, fun k hk => Lib.bytesWorld_at_old w 5 s k hk⟩⟩
  · have hj' : j < s.size := by rw [bs_length] at hj; exact hj
    rw [Lib.bytesWorld_cell w 5 s j hj']
    have hl : j < s.data.toList.length := by rw [Array.length_toList]; exact hj'
    rw [List.getD_eq_getElem?_getD, List.getElem?_eq_getElem hl, Option.getD_some]
    have e : (bs s)[j] = (s.data.toList[j]).toBitVec := by simp only [bs, List.getElem_map]
    rw [e]
    rfl
  · have hj' : j < s.size := by rw [bs_length] at hj; exact hj
    have hc : s.size ≤ (Lib.bytesCells w 5 s).size := by
      unfold Lib.bytesCells
      rw [Array.size_append, Array.size_map]
      exact Nat.le_add_right _ _
    simp only [World.frozen?, Lib.bytesWorld_at_new]
    simp; omega
set_option maxRecDepth 100000 in
set_option maxHeartbeats 400000 in
theorem sumBurst_long (a0 : ByteArray) (c : Nat) (x : BitVec 32) (h : ¬ a0.size ≤ 1000) (w : World) :
    Calls Try.prog 6 #[.string a0, .int .u16 c, .int .u32 (nv x)] w fun e w' => e = .returned (.bool true) ∧ Below w.heap.size w w' := by
  have hd : decide ((1000 : Int) < (a0.size : Int)) = true := by simp; omega
  go_enter Try.func6, Try.ntmps6
  go_wp2_with fail
  refine (awake_any _).mono ?_
  rintro e w1 ⟨rfl, hb1⟩
  have HB1 := Lib.hid hb1
  clear hb1
  go_wp2_with fail
  go_ret
  exact ⟨rfl, HB1.out⟩
attribute [local go_sem] bv_xor
set_option maxRecDepth 100000 in
set_option maxHeartbeats 400000 in
theorem sumBurst_short (a0 : ByteArray) (c : Nat) (x : BitVec 32) (hc : c ≤ 65535) (h : a0.size ≤ 1000) (w : World) :
    Calls Try.prog 6 #[.string a0, .int .u16 c, .int .u32 (nv x)] w fun e w' => e = .returned (.bool true) ∧ Below w.heap.size w w' := by
  have hd : decide ((1000 : Int) < (a0.size : Int)) = false := by simp; omega
  have hsz := size_sealS a0
  obtain ⟨r, hrem, hr⟩ : ∃ r : Nat, (c : Int) % (8 * ((a0.size : Int) + 8) - 31) = (r : Int) ∧ r < 8 * (a0.size + 8) - 31 :=
    ⟨c % (8 * (a0.size + 8) - 31), by rw [Int.natCast_emod]; congr 1; omega, Nat.mod_lt _ (by omega)⟩
  have hrx := nv_range x
  go_enter Try.func6, Try.ntmps6
  go_wp2_with fail
  refine (awake_any _).mono ?_
  rintro e w1 ⟨rfl, hb1⟩
  have HB1 := Lib.hid hb1
  clear hb1
  go_wp2_with fail
  refine (seal_any _ _ (by omega)).mono ?_
  rintro e w2 ⟨rfl, hb2⟩
  have HB2 := Lib.hid (below_two HB1.out hb2)
  clear hb2 HB1
  obtain ⟨wb, cap, hcv, hlies, hbel⟩ := to_bytes w2 (sealS a0)
  have HL := Lib.hid hlies
  have HBE := Lib.hid hbel
  clear hlies hbel
  go_wp2_with fail
  go_loopw [10] (fun i wr => ∃ (k : Nat) (l : List (BitVec 8)), k ≤ 32 ∧ i = .int .i64 k ∧ l.length = a0.size + 8 ∧ Hid (Crc.crc 0#32 l = Crc.Sn (8 * (a0.size + 8) - r - 32) (Crc.Sn 32 (Crc.R x k))) ∧ Hid (x = 0#32 → l = bs (sealS a0)) ∧ Lies wr w2.heap.size l ∧ Below w2.heap.size w2 wr) (fun i _ => 32 - (intOf i).toNat)
  case atStart => exact ⟨0, bs (sealS a0), by omega, rfl, by rw [bs_length, size_sealS], by show _ = _; rw [sealed_zero]; show _ = Crc.Sn _ (Crc.Sn 32 0#32); rw [Crc.Sn_zero, Crc.Sn_zero], fun _ => rfl, HL.out, HBE.out⟩
  case round =>
    obtain ⟨k, l, hk, rfl, hlen, HC, HX, hlies, hbe⟩ := hrel
    have HLEN := Lib.hid hlen
    have hlen2 : l.length ≤ a0.size + 8 := by omega
    have HBE := Lib.hid hbe
    have HL := Lib.hid hlies
    clear hbe hlies
    by_cases hlt : k < 32
    · have hd2 : decide ((k : Int) < 32) = true := by simp; omega
      obtain ⟨q, m, hqm, hq, hm⟩ : ∃ q m : Nat, r + k = 8 * q + m ∧ m < 8 ∧ q < a0.size + 8 := ⟨(r + k) / 8, (r + k) % 8, by omega, by omega, by omega⟩
      have HQM := Lib.hid hqm
      have e1 : ((r : Int) + (k : Int)) / 8 = (q : Int) := by omega
      have e2 : ((r : Int) + (k : Int)) % 8 = (m : Int) := by omega
      have hbit := bit_of x k
      have hql : q < l.length := by omega
      obtain ⟨hcell, hfro⟩ := HL.out.2 q hql
      have hg := HL.out.1
      clear hqm
      have h128 := shr_128 m hq
      clear hlen
      cases hb : x.getLsbD k with
      | true =>
        rw [hb] at hbit
        have HBIT := Lib.hid hb
        clear hb
        go_wp2
        go_roundw
        case rel =>
          refine ⟨k + 1, l.set q (l[q] ^^^ (128#8 >>> m)), by omega, by go_num, by rw [List.length_set]; exact HLEN.out, burst_step l x _ r k q m HLEN.out HQM.out hq hql hlt hr HBIT.out HC.out, ?_, HL.out.store q hql _, HBE.out.setCell (Nat.le_refl _) _⟩
          intro hx
          have := HBIT.out
          rw [hx] at this
          simp at this
        case measure => simp [intOf]; omega
      | false =>
        rw [hb] at hbit
        have HBIT := Lib.hid hb
        clear hb
        go_wp2
        go_roundw
        case rel => exact ⟨k + 1, l, by omega, by go_num, HLEN.out, by show _ = _; rw [burst_stay x k HBIT.out]; exact HC.out, HX, HL.out, HBE.out⟩
        case measure => simp [intOf]; omega
    · have hd2 : decide ((k : Int) < 32) = false := by simp; omega
      obtain rfl : k = 32 := by omega
      have hcv2 := HL.out.conv (a0.size + 8) cap HLEN.out
      clear hlen
      by_cases hx : x = 0#32
      · have hl := HX.out hx
        have hz : (nv x == 0) = true := by rw [nv_zero_iff]; simp [hx]
        clear hx
        subst hl
        rw [ofBits_bs] at hcv2
        have hself : ∀ s : ByteArray, (s.toList == s.toList) = true := by simp
        go_wp2_with fail
        refine (open_any _ _ (by omega)).mono ?_
        rintro e w5 ⟨rfl, hb5⟩
        have HB5 := Lib.hid (below_two (below_two HB2.out HBE.out) hb5)
        clear hb5
        rw [opens_seal, open_seal]
        go_wp2_with fail
        go_ret
        exact ⟨rfl, HB5.out⟩
      · have hz : (nv x == 0) = false := by rw [nv_zero_iff]; simp [hx]
        have hno := burst_end l x _ HC.out hx
        have HNO := Lib.hid hno
        clear hno hx
        go_wp2_with fail
        refine (open_any _ _ (by rw [size_ofBits]; omega)).mono ?_
        rintro e w5 ⟨rfl, hb5⟩
        have HB5 := Lib.hid (below_two (below_two HB2.out HBE.out) hb5)
        clear hb5
        rw [HNO.out]
        go_wp2_with fail
        go_ret
        exact ⟨rfl, HB5.out⟩
theorem sumBurst_walk (a0 : ByteArray) (a1 a2 : Int) (_w0 : a0.size ≤ maxLen) (w1 : (Lit.int .u16 a1).wf = true) (w2 : (Lit.int .u32 a2).wf = true) (w : World) :
    Calls Try.prog 6 #[.string a0, .int .u16 a1, .int .u32 a2] w fun e w' => e = .returned (.bool true) ∧ Below w.heap.size w w' := by
  obtain ⟨c, rfl, hc⟩ := wf_u16 a1 w1
  obtain ⟨x, rfl⟩ := wf_nv a2 w2
  by_cases h : a0.size ≤ 1000
  · exact sumBurst_short a0 c x hc h w
  · exact sumBurst_long a0 c x h w
end Go.Proofs.Ytinpogjdaehmmaa
