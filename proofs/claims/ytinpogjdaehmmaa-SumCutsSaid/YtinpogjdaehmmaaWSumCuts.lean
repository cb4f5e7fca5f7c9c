/-
  THE WALK OF SumCuts: it answers true.
-/
import Derived.Test.YtinpogjdaehmmaaPlain
import Derived.Test.YtinpogjdaehmmaaAwake
import Derived.WalkSpells
import Derived.Lib.ConvBytes
import Derived.OwnWalk
import Derived.WalkLawsBesides
namespace Go.Proofs.Ytinpogjdaehmmaa
open Go.RowKit
theorem bytes_inj {m n : BitVec 32} (h : Crc.bytes m = Crc.bytes n) : m = n := by
  have h1 := Crc.ofBytes_bytes m
  have h2 := Crc.ofBytes_bytes n
  unfold Crc.bytes at h
  simp only [List.cons.injEq, and_true] at h
  obtain ⟨e1, e2, e3, e4⟩ := h
  rw [e1, e2, e3, e4] at h1
  exact h1.symm.trans h2
theorem opens_size (t : ByteArray) (n : Nat) (h : opensB t = true) (hb : (bs t).take 4 = Crc.bytes (BitVec.ofNat 32 n)) (hn : n < 4294967296) (ht : t.size < 4294967296) : t.size = n + 8 := by
  unfold opensB at h
  rw [toList_beq] at h
  simp only [Bool.and_eq_true, Bool.not_eq_true', decide_eq_true_eq, decide_eq_false_iff_not] at h
  obtain ⟨⟨h8, h1⟩, _⟩ := h
  have h2 : (bs t).take 4 = Crc.bytes (BitVec.ofNat 32 (t.size - 8)) := by
    have := congrArg bs h1
    rw [bs_extract, bs_bytesS] at this
    simpa using this
  have h3 := bytes_inj (h2.symm.trans hb)
  have h4 := congrArg BitVec.toNat h3
  rw [BitVec.toNat_ofNat, BitVec.toNat_ofNat, Nat.mod_eq_of_lt (by omega), Nat.mod_eq_of_lt (by omega)] at h4
  omega
theorem head_seal (s : ByteArray) : (bs (sealS s)).take 4 = Crc.bytes (BitVec.ofNat 32 s.size) := by
  rw [bs_sealS, List.append_assoc]
  exact List.take_left' (length_bytes _)
theorem cut_short (s : ByteArray) (r : Nat) (hs : s.size ≤ 1000) (hr : r < s.size + 8) : opensB ((sealS s).extract 0 r) = false := by
  cases h : opensB ((sealS s).extract 0 r) with
  | false => rfl
  | true =>
    have hsz : ((sealS s).extract 0 r).size = r := by rw [ByteArray.size_extract, size_sealS]; omega
    have h8 : 8 ≤ r := by
      unfold opensB at h
      simp only [Bool.and_eq_true, Bool.not_eq_true', decide_eq_false_iff_not] at h
      omega
    have hb : (bs ((sealS s).extract 0 r)).take 4 = Crc.bytes (BitVec.ofNat 32 s.size) := by
      rw [bs_extract, List.drop_zero, List.take_take, ← head_seal]
      congr 1; omega
    have := opens_size _ s.size h hb (by omega) (by omega)
    omega
theorem cut_long (s t : ByteArray) (hs : s.size ≤ 1000) (ht : t.size ≤ 1000) (h0 : 0 < t.size) : opensB (sealS s ++ t) = false := by
  cases h : opensB (sealS s ++ t) with
  | false => rfl
  | true =>
    have hsz : (sealS s ++ t).size = s.size + 8 + t.size := by rw [ByteArray.size_append, size_sealS]
    have hb : (bs (sealS s ++ t)).take 4 = Crc.bytes (BitVec.ofNat 32 s.size) := by
      rw [bs_append, List.take_append_of_le_length (by rw [bs_length, size_sealS]; omega), head_seal]
    have := opens_size _ s.size h hb (by omega) (by omega)
    omega
theorem seal_not_empty (s : ByteArray) : ((sealS s).toList == []) = false := by
  rw [Go.ByteArray.toList_eq]
  have h := size_sealS s
  have h2 : (sealS s).data.toList.length = (sealS s).size := by rw [Array.length_toList]; rfl
  cases e : (sealS s).data.toList with
  | nil => rw [e] at h2; simp at h2; omega
  | cons => rfl
def bvals (l : List (BitVec 8)) : List Value := l.map fun c => .int .u8 (bv c)
theorem info5 : (Try.prog.info? 5).map (fun i => (i.zero, i.size, i.bytes)) = some (some (.int .u8 0), 1, 1) := by kernel_rfl
theorem conv_own {W : World} {base : Nat} {v : Value} {n : Nat} {l : List (BitVec 8)} (h : W.ownsRow base 5 1 v n (bvals l)) :
    (convert 34 9 v).run Try.prog W = .ok (.string (ofBits l)) W := by
  have hlen : l.length = n := by have h1 := h.1; rw [bvals] at h1; simp at h1; omega
  rcases h.2 with ⟨rfl, h0⟩ | ⟨g, cap, cur, rfl, _⟩
  · have e : l = [] := List.eq_nil_of_length_eq_zero (by omega)
    subst e
    rw [run_convert_bytes_nil W 34 5 Try.underlying34 Try.underlying5 _ _ 9 Try.underlying9]
    rfl
  · rw [run_convert_bytes_arg W 34 5 Try.underlying34 Try.underlying5 g 0 n cap (l.map bv) (by simpa using hlen) (fun i hi => ?_) 9 Try.underlying9, strOfNums_bv]
    have hc := h.cells (g := g) rfl i (.int .u8 (bv (l.getD i 0#8))) (by
      unfold bvals
      rw [List.getElem?_map, List.getElem?_eq_getElem (by omega)]
      simp [List.getD_eq_getElem?_getD, List.getElem?_eq_getElem (show i < l.length by omega)])
    have hadd : (⟨g, 0, none⟩ : Addr).add i = ⟨g, 0 + i, none⟩ := by unfold Addr.add; split <;> simp_all
    rw [hadd] at hc
    rw [hc]
    simp [List.getD_eq_getElem?_getD, List.getElem?_map, List.getElem?_eq_getElem (show i < l.length by omega)]
theorem made_zeros (n : Nat) : (madeCells (Value.int .u8 0).cells (n * 1)).toList = bvals (List.replicate n 0#8) := by
  unfold madeCells bvals
  apply List.ext_getElem?
  intro i
  by_cases hi : i < n
  · simp [Value.cells, hi, Nat.mod_one]; rfl
  · simp [hi]
set_option maxRecDepth 100000 in
set_option maxHeartbeats 400000 in
theorem sumCuts_long (a0 : ByteArray) (c m : Nat) (h : ¬ a0.size ≤ 1000) (w : World) :
    Calls Try.prog 8 #[.string a0, .int .u16 c, .int .u8 m] w fun e w' => e = .returned (.bool true) ∧ Below w.heap.size w w' := by
  have hd : decide ((1000 : Int) < (a0.size : Int)) = true := by simp; omega
  go_enter Try.func8, Try.ntmps8
  go_wp2_with fail
  refine (awake_any _).mono ?_
  rintro e w1 ⟨rfl, hb1⟩
  have HB1 := Lib.hid hb1
  clear hb1
  go_wp2_with fail
  go_ret
  exact ⟨rfl, HB1.out⟩
set_option maxRecDepth 100000 in
set_option maxHeartbeats 400000 in
theorem sumCuts_short (a0 : ByteArray) (c m : Nat) (hc : c ≤ 65535) (hm : m ≤ 255) (h : a0.size ≤ 1000) (w : World) :
    Calls Try.prog 8 #[.string a0, .int .u16 c, .int .u8 m] w fun e w' => e = .returned (.bool true) ∧ Below w.heap.size w w' := by
  have hd : decide ((1000 : Int) < (a0.size : Int)) = false := by simp; omega
  have hne := seal_not_empty a0
  have hsz := size_sealS a0
  obtain ⟨r, hrem, hr⟩ : ∃ r : Nat, (c : Int) % ((a0.size : Int) + 8) = (r : Int) ∧ r < a0.size + 8 :=
    ⟨c % (a0.size + 8), by rw [Int.natCast_emod]; rfl, Nat.mod_lt _ (by omega)⟩
  have hlt2 : (r : Int) ≤ (a0.size : Int) + 8 := by omega
  have hlt3 : r ≤ a0.size + 8 := by omega
  go_enter Try.func8, Try.ntmps8
  go_wp2_with fail
  refine (awake_any _).mono ?_
  rintro e w1 ⟨rfl, hb1⟩
  have HB1 := Lib.hid hb1
  clear hb1
  go_wp2_with fail
  refine (seal_any _ _ (by omega)).mono ?_
  rintro e w2 ⟨rfl, hb2⟩
  have HB2 := Lib.hid (below_two HB1.out hb2)
  clear hb2 HB1
  go_wp2_with fail
  refine (open_any _ _ (by rw [ByteArray.size_extract]; omega)).mono ?_
  rintro e w3 ⟨rfl, hb3⟩
  have HB3 := Lib.hid (below_two HB2.out hb3)
  clear hb3 HB2
  rw [cut_short a0 r h hr]
  obtain ⟨i0, hi, hz0, hz1, hz2⟩ := info_parts info5
  have hi' := Lib.hid hi
  have hz0' := Lib.hid hz0
  have hz1' := Lib.hid hz1
  have hz2' := Lib.hid hz2
  clear hi hz0 hz1 hz2
  have hz := size_ofBits (List.replicate (1 + m) 0#8)
  rw [List.length_replicate] at hz
  go_wp2_with (first
    | (at_make; refine wpList_make_full _ rfl _ _ 34 rfl w3.heap.size 5 i0 (.int .u8 0) 1 Try.underlying34 hi'.out hz0'.out hz1'.out .i64 .i64 _ _ (1 + m) rfl rfl (by omega) (by omega) (by rw [hz2'.out]; omega) (by unfold maxLen; omega) (Nat.le_refl _) ?_; intro w4 hown4 hgrow4; rw [made_zeros] at hown4; have HC := conv_own hown4; have HO := Lib.hid hown4; have HG := Lib.hid hgrow4; clear hown4 hgrow4))
  refine (open_any _ _ (by rw [ByteArray.size_append]; omega)).mono ?_
  rintro e w5 ⟨rfl, hb5⟩
  have HB5 := Lib.hid (below_two (HB3.out.trans (((Below.refl _ _).grown HG.out (Nat.le_refl _) (fun k hk => by cases hk)).mono HB3.out.size)) hb5)
  clear hb5
  rw [cut_long a0 (ofBits (List.replicate (1 + m) 0#8)) h (by omega) (by omega)]
  go_wp2_with fail
  go_ret
  exact ⟨rfl, HB5.out⟩
theorem wf_u16 (a : Int) (h : (Lit.int .u16 a).wf = true) : ∃ n : Nat, a = n ∧ n ≤ 65535 := by
  have h1 : IntKind.u16.min = 0 := rfl
  have h2 : IntKind.u16.max = 65535 := rfl
  simp only [Lit.wf, Bool.and_eq_true, decide_eq_true_eq] at h
  exact ⟨a.toNat, by omega, by omega⟩
theorem wf_u8 (a : Int) (h : (Lit.int .u8 a).wf = true) : ∃ n : Nat, a = n ∧ n ≤ 255 := by
  have h1 : IntKind.u8.min = 0 := rfl
  have h2 : IntKind.u8.max = 255 := rfl
  simp only [Lit.wf, Bool.and_eq_true, decide_eq_true_eq] at h
  exact ⟨a.toNat, by omega, by omega⟩
theorem sumCuts_walk (a0 : ByteArray) (a1 a2 : Int) (_w0 : a0.size ≤ maxLen) (w1 : (Lit.int .u16 a1).wf = true) (w2 : (Lit.int .u8 a2).wf = true) (w : World) :
    Calls Try.prog 8 #[.string a0, .int .u16 a1, .int .u8 a2] w fun e w' => e = .returned (.bool true) ∧ Below w.heap.size w w' := by
  obtain ⟨c, rfl, hc⟩ := wf_u16 a1 w1
  obtain ⟨m, rfl, hm⟩ := wf_u8 a2 w2
  by_cases h : a0.size ≤ 1000
  · exact sumCuts_short a0 c m hc hm h w
  · exact sumCuts_long a0 c m h w
end Go.Proofs.Ytinpogjdaehmmaa
