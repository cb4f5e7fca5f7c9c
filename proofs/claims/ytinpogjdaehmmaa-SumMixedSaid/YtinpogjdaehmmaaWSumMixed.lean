/-
  THE WALK OF SumMixed: it answers true.
-/
import Derived.Test.YtinpogjdaehmmaaPlain
import Derived.Test.YtinpogjdaehmmaaAwake
import Derived.WalkSpells
import Derived.Deep.RegionLaw
import Derived.Deep.RegionHeld3
import Derived.Deep.AppendLies
import Derived.Lib.ConvBytes
import Derived.WalkLawsBesides
namespace Go.Proofs.Ytinpogjdaehmmaa
open Go.RowKit
def mixed (a b : ByteArray) (k : Nat) : List (BitVec 8) := (List.range k).map fun i => byteAt a i ^^^ byteAt b i
theorem mixed_succ (a b : ByteArray) (k : Nat) : mixed a b (k + 1) = mixed a b k ++ [byteAt a k ^^^ byteAt b k] := by
  unfold mixed; rw [List.range_succ, List.map_append]; rfl
theorem take_bytes (a : ByteArray) (k : Nat) (h : k ≤ a.size) : (bs a).take k = (List.range k).map fun i => byteAt a i := by
  apply List.ext_getElem?
  intro i
  rw [List.getElem?_take, List.getElem?_map]
  by_cases hi : i < k
  · have hl : i < (bs a).length := by rw [bs_length]; omega
    rw [if_pos hi, List.getElem?_eq_getElem hl, List.getElem?_range hi]
    simp only [Option.map_some, byteAt]
    rw [List.getD_eq_getElem?_getD, List.getElem?_eq_getElem hl, Option.getD_some]
  · rw [if_neg hi]
    simp [hi]
theorem mixed_zip (a b : ByteArray) (k : Nat) (ha : k ≤ a.size) (hb : k ≤ b.size) : mixed a b k = List.zipWith (· ^^^ ·) ((bs a).take k) ((bs b).take k) := by
  rw [take_bytes a k ha, take_bytes b k hb]
  unfold mixed
  rw [List.zipWith_map, List.zipWith_self]
theorem mixed_sum (a b : ByteArray) (k : Nat) (ha : k ≤ a.size) (hb : k ≤ b.size) : sumOf [ofBits (mixed a b k)] = sumOf [a.extract 0 k] ^^^ sumOf [b.extract 0 k] := by
  rw [sumOf_one, sumOf_one, sumOf_one, bs_ofBits, bs_extract, bs_extract, mixed_zip a b k ha hb]
  rw [List.drop_zero, List.drop_zero, ← Crc.crc_xor]
  · rfl
  · rw [List.length_take, List.length_take, bs_length, bs_length]; omega
theorem mixed_length (a b : ByteArray) (k : Nat) : (mixed a b k).length = k := by unfold mixed; simp
def bvals (l : List (BitVec 8)) : List Value := l.map fun c => .int .u8 (bv c)
theorem bvals_append (l m : List (BitVec 8)) : bvals (l ++ m) = bvals l ++ bvals m := by unfold bvals; simp
theorem info5 : (Try.prog.info? 5).map (fun i => (i.zero, i.size, i.bytes)) = some (some (.int .u8 0), 1, 1) := by kernel_rfl
theorem conv_own {W : World} {base : Nat} {v : Value} {n : Nat} {l : List (BitVec 8)} (h : W.ownsRow base 5 1 v n (bvals l)) :
    (convert 34 9 v).run Try.prog W = .ok (.string (ofBits l)) W := by
  have hlen : l.length = n := by have h1 := h.1; rw [bvals] at h1; simp at h1; omega
  rcases h.2 with ⟨rfl, h0⟩ | ⟨g, cap, cur, rfl, _⟩
  · have e : l = [] := List.eq_nil_of_length_eq_zero (by omega)
    subst e
    rw [run_convert_bytes_nil W 34 5 Try.underlying34 Try.underlying5 _ _ 9 Try.underlying9]
    rfl
  · rw [run_convert_bytes_arg W 34 5 Try.underlying34 Try.underlying5 g 0 n cap (l.map bv) (by simpa using hlen) (fun i hi => ?_) 9 Try.underlying9, strOfNums_bv]
    have hc := h.cells (g := g) rfl i (.int .u8 (bv (l.getD i 0#8))) (by
      unfold bvals
      rw [List.getElem?_map, List.getElem?_eq_getElem (by omega)]
      simp [List.getD_eq_getElem?_getD, List.getElem?_eq_getElem (show i < l.length by omega)])
    have hadd : (⟨g, 0, none⟩ : Addr).add i = ⟨g, 0 + i, none⟩ := by unfold Addr.add; split <;> simp_all
    rw [hadd] at hc
    rw [hc]
    simp [List.getD_eq_getElem?_getD, List.getElem?_map, List.getElem?_eq_getElem (show i < l.length by omega)]
/-- a row of one text, wherever it lies -/
theorem of_look (b : Nat) (w : World) (s : ByteArray) (h : w.cell? ⟨b, 0, none⟩ = some (.string s) ∧ b < w.heap.size ∧ s.size ≤ 1000000) :
    Calls Try.prog 12 #[.slice (some ⟨b, 0, none⟩) 1 1] w fun e w' => e = .returned (.int .u32 (nv (sumOf [s]))) ∧ Below w.heap.size w w' := by
  refine of_any (some ⟨b, 0, none⟩) 1 [s] _ (by simp) (by simp [h.2.2]) ?_
  intro j hj
  have hj0 : j = 0 := by simpa using hj
  subst hj0
  exact ⟨_, rfl, h.2.1, by simpa [Addr.add] using h.1⟩
theorem own_below {W w1 : World} {base : Nat} {e : TypeId} {size : Nat} {v : Value} {n : Nat} {xs : List Value} (h : W.ownsRow base e size v n xs) (hb : Below W.heap.size W w1) : w1.ownsRow base e size v n xs := by
  obtain ⟨h1, h2⟩ := h
  refine ⟨h1, ?_⟩
  rcases h2 with h2 | ⟨g, cap, cur, hv, hg, hh, r⟩
  · exact Or.inl h2
  · have hlt : g < W.heap.size := by
      rcases Nat.lt_or_ge g W.heap.size with q | q
      · exact q
      · rw [Array.getElem?_eq_none q] at hh; cases hh
    exact Or.inr ⟨g, cap, cur, hv, hg, by rw [hb.block g hlt]; exact hh, r⟩
theorem bcell {W w1 : World} (hb : Below W.heap.size W w1) : (∀ b o, b < W.heap.size → w1.cell? ⟨b, o, none⟩ = W.cell? ⟨b, o, none⟩) :=
  fun b o h => hb.cell (p := ⟨b, o, none⟩) h
attribute [local go_sem] bv_xor
set_option maxRecDepth 100000 in
set_option maxHeartbeats 400000 in
theorem sumMixed_long (a b : ByteArray) (n : Nat) (hm : (if b.size < a.size then (b.size : Int) else (a.size : Int)) = (n : Int)) (h : 300 < n) (w : World) :
    Calls Try.prog 7 #[.string a, .string b] w fun e w' => e = .returned (.bool true) ∧ Below w.heap.size w w' := by
  have hd : decide ((300 : Int) < (n : Int)) = true := by simp; omega
  go_enter Try.func7, Try.ntmps7
  go_wp2_with fail
  refine (awake_any _).mono ?_
  rintro e w1 ⟨rfl, hb1⟩
  have HB1 := Lib.hid hb1
  clear hb1
  go_wp2_with fail
  go_ret
  exact ⟨rfl, HB1.out⟩
set_option maxRecDepth 100000 in
set_option maxHeartbeats 8000000 in
theorem sumMixed_short (a b : ByteArray) (n : Nat) (hn : n ≤ a.size) (hn2 : n ≤ b.size) (hm : (if b.size < a.size then (b.size : Int) else (a.size : Int)) = (n : Int)) (h : n ≤ 300) (w : World) :
    Calls Try.prog 7 #[.string a, .string b] w fun e w' => e = .returned (.bool true) ∧ Below w.heap.size w w' := by
  have hd : decide ((300 : Int) < (n : Int)) = false := by simp; omega
  go_enter Try.func7, Try.ntmps7
  go_wp2_with fail
  refine (awake_any _).mono ?_
  rintro e w1 ⟨rfl, hb1⟩
  have HB1 := Lib.hid hb1
  clear hb1
  go_wp2_with fail
  obtain ⟨i0, hi, hz0, hz1, hz2⟩ := info_parts info5
  have hi' := Lib.hid hi
  have hz0' := Lib.hid hz0
  have hz1' := Lib.hid hz1
  have hz2' := Lib.hid hz2
  clear hi hz0 hz1 hz2
  go_loopw [7, 8] (fun v i wr => ∃ k : Nat, k ≤ n ∧ i = .int .i64 k ∧ wr.ownsRow w1.heap.size 5 1 v k (bvals (mixed a b k)) ∧ Below w1.heap.size w1 wr) (fun _ i _ => n - (intOf i).toNat)
  case atStart => exact ⟨0, by omega, rfl, World.ownsRow_nil _ _ _ _, Below.refl _ _⟩
  case round =>
    obtain ⟨k, hk, rfl, hown, hbe⟩ := hrel
    have HBE := Lib.hid hbe
    have HOWN := Lib.hid hown
    clear hbe hown
    by_cases hlt : k < n
    · have hd2 : decide ((k : Int) < (n : Int)) = true := by simp; omega
      have hba := byte_bv a k (by omega)
      have hbb := byte_bv b k (by omega)
      have hka : (k : Int) < (a.size : Int) := by omega
      have hkb : (k : Int) < (b.size : Int) := by omega
      go_wp2
      go_region_law (refine step_append_lies _ rfl (.tmp 23) (.tmp 31) 34 rfl w1.heap.size 5 i0 (.int .u8 0) 1 1 Try.underlying34 hi'.out hz0'.out hz1'.out hz2'.out rfl (by omega) _ k (bvals (mixed a b k)) rfl (HOWN.out.drew.alloc _) ⟨wr.heap.size, 0, none⟩ 1 1 [.int .u8 (bv (byteAt a k ^^^ byteAt b k))] rfl rfl (cell_one_new _ _ _) (by simp [Value.oneCell']) (by omega) (by unfold maxLen; omega) (by omega) (by have := HBE.out.size; simp; omega) _ rfl ?_; intro g cap w2 hown2 hgrow2 hat2 hlt2)
      all_goals
        have HG := Lib.hid hgrow2
        have HO2 := Lib.hid hown2
        have HH := Lib.hid hat2
        clear hgrow2 hown2 hat2
        go_wp2
        go_roundw
        case rel => exact ⟨k + 1, by omega, by go_num, by rw [mixed_succ, bvals_append]; exact HO2.out, (HBE.out.trans (((Below.refl _ _).drew).alloc (by exact HBE.out.size) _)).grown HG.out (by have := HBE.out.size; simp; omega) (fun q hq => (HOWN.out.lt q hq).1)⟩
        case measure => simp [intOf]; omega
    · have hd2 : decide ((k : Int) < (n : Int)) = false := by simp; omega
      have hkn : k = n := by omega
      subst hkn
      have hfin : (nv (sumOf [ofBits (mixed a b k)]) == bits .xor .u32 (nv (sumOf [a.extract 0 k])) (nv (sumOf [b.extract 0 k]))) = true := by
        rw [nv_xor, mixed_sum a b k hn hn2]; simp
      have z1 : (ofBits (mixed a b k)).size ≤ 1000000 := by rw [size_ofBits, mixed_length]; omega
      have z2 : (a.extract 0 k).size ≤ 1000000 := by rw [ByteArray.size_extract]; omega
      have z3 : (b.extract 0 k).size ≤ 1000000 := by rw [ByteArray.size_extract]; omega
      have tok1 : True := trivial
      go_wp2
      go_region_held3 (fun w' => (convert 34 9 u7).run Try.prog w' = .ok (.string (ofBits (mixed a b k))) w') ((refine conv_own (base := w1.heap.size) (n := k) ?_; (repeat' (first | (with_reducible exact OWN6.out) | (with_reducible exact OWN5.out) | (with_reducible exact OWN4.out) | (with_reducible exact HOWN.out) | (with_reducible refine World.ownsRow.drew ?_) | (with_reducible refine World.ownsRow.alloc ?_ _))))) (first | (go_at_call 12; (have t_ := tok1; refine (of_look _ _ (ofBits (mixed a b k)) ⟨by first | (go_simp; done) | ((try go_simp); (repeat (first | rw [World.cell?_alloc_past _ _ _ (by first | (simp; done) | (simp; omega) | omega)] | rw [World.cell?_alloc_at _ _ _ _ (by first | (simp; done) | (simp; omega) | omega)] | rw [HC5 _ _ (by first | (simp; done) | (simp; omega) | omega)] | rw [HC _ _ (by first | (simp; done) | (simp; omega) | omega)] | rw [World.cell?_drew])); first | rfl | (simp; done)), by first | (simp; done) | (simp; omega) | omega, z1⟩).mono ?_; (rintro e w4 ⟨rfl, hb4⟩; have OWN4 : Hid (w4.ownsRow w1.heap.size 5 1 u7 k (bvals (mixed a b k))) := Lib.hid (own_below ((by repeat' (first | (with_reducible exact OWN6.out) | (with_reducible exact OWN5.out) | (with_reducible exact OWN4.out) | (with_reducible exact HOWN.out) | (with_reducible refine World.ownsRow.drew ?_) | (with_reducible refine World.ownsRow.alloc ?_ _)))) hb4); have hz4 := hb4.size; (try simp at hz4); have HB4 := Lib.hid hb4; have HC := bcell hb4; clear hb4 tok1 t_; have tok2 : True := trivial))) | (go_at_call 12; (have t_ := tok2; refine (of_look _ _ (a.extract 0 k) ⟨by first | (go_simp; done) | ((try go_simp); (repeat (first | rw [World.cell?_alloc_past _ _ _ (by first | (simp; done) | (simp; omega) | omega)] | rw [World.cell?_alloc_at _ _ _ _ (by first | (simp; done) | (simp; omega) | omega)] | rw [HC5 _ _ (by first | (simp; done) | (simp; omega) | omega)] | rw [HC _ _ (by first | (simp; done) | (simp; omega) | omega)] | rw [World.cell?_drew])); first | rfl | (simp; done)), by first | (simp; done) | (simp; omega) | omega, z2⟩).mono ?_; (rintro e w5 ⟨rfl, hb5⟩; have OWN5 : Hid (w5.ownsRow w1.heap.size 5 1 u7 k (bvals (mixed a b k))) := Lib.hid (own_below ((by repeat' (first | (with_reducible exact OWN6.out) | (with_reducible exact OWN5.out) | (with_reducible exact OWN4.out) | (with_reducible exact HOWN.out) | (with_reducible refine World.ownsRow.drew ?_) | (with_reducible refine World.ownsRow.alloc ?_ _)))) hb5); have hz5 := hb5.size; (try simp at hz5); have HB5 := Lib.hid hb5; have HC5 := bcell hb5; clear hb5 tok2 t_; have tok3 : True := trivial))) | (go_at_call 12; (have t_ := tok3; refine (of_look _ _ (b.extract 0 k) ⟨by first | (go_simp; done) | ((try go_simp); (repeat (first | rw [World.cell?_alloc_past _ _ _ (by first | (simp; done) | (simp; omega) | omega)] | rw [World.cell?_alloc_at _ _ _ _ (by first | (simp; done) | (simp; omega) | omega)] | rw [HC5 _ _ (by first | (simp; done) | (simp; omega) | omega)] | rw [HC _ _ (by first | (simp; done) | (simp; omega) | omega)] | rw [World.cell?_drew])); first | rfl | (simp; done)), by first | (simp; done) | (simp; omega) | omega, z3⟩).mono ?_; (rintro e w6 ⟨rfl, hb6⟩; have OWN6 : Hid (w6.ownsRow w1.heap.size 5 1 u7 k (bvals (mixed a b k))) := Lib.hid (own_below ((by repeat' (first | (with_reducible exact OWN6.out) | (with_reducible exact OWN5.out) | (with_reducible exact OWN4.out) | (with_reducible exact HOWN.out) | (with_reducible refine World.ownsRow.drew ?_) | (with_reducible refine World.ownsRow.alloc ?_ _)))) hb6); have hz6 := hb6.size; (try simp at hz6); have HB6 := Lib.hid hb6; clear hb6 tok3 t_))))
      all_goals
        have q1 := HB1.out.size
        have q2 := HBE.out.size
        go_wp2
        go_ret
        refine ⟨rfl, ?_⟩
        repeat' (first
          | (with_reducible exact HB1.out.trans (HBE.out.mono HB1.out.size))
          | (with_reducible refine Below.alloc ?_ ?_ _)
          | (with_reducible refine Below.drew ?_)
          | (with_reducible refine Below.trans ?_ (HB6.out.mono ?_))
          | (with_reducible refine Below.trans ?_ (HB5.out.mono ?_))
          | (with_reducible refine Below.trans ?_ (HB4.out.mono ?_))
          | omega | (simp; done) | (simp; omega))
theorem sumMixed_walk (a b : ByteArray) (_w0 : a.size ≤ maxLen) (_w1 : b.size ≤ maxLen) (w : World) :
    Calls Try.prog 7 #[.string a, .string b] w fun e w' => e = .returned (.bool true) ∧ Below w.heap.size w w' := by
  by_cases hm : b.size < a.size
  · by_cases h : b.size ≤ 300
    · exact sumMixed_short a b b.size (by omega) (by omega) (by rw [if_pos hm]) h w
    · exact sumMixed_long a b b.size (by rw [if_pos hm]) (by omega) w
  · by_cases h : a.size ≤ 300
    · exact sumMixed_short a b a.size (by omega) (by omega) (by rw [if_neg hm]) h w
    · exact sumMixed_long a b a.size (by rw [if_neg hm]) (by omega) w
end Go.Proofs.Ytinpogjdaehmmaa
