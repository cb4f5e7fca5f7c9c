/-
  THE PLAIN LAW OF sealing: a text is opened just if it is what its inside is sealed as.
-/
import Derived.Test.YtinpogjdaehmmaaRefOpen
namespace Go.Proofs.Ytinpogjdaehmmaa
open Go.RowKit
theorem toList_bs (s : ByteArray) : s.toList = s.data.toList := by
  rw [Go.ByteArray.toList_eq]
theorem toList_beq (s t : ByteArray) : (s.toList == t.toList) = decide (s = t) := by
  have h : s.toList = t.toList ↔ s = t := by
    constructor
    · intro h
      rw [toList_bs, toList_bs] at h
      exact ByteArray.ext (Array.toList_inj.1 h)
    · intro h; rw [h]
  by_cases e : s = t
  · rw [e]; simp
  · have := mt h.1 e
    simp [e, this]
theorem nv_zero_iff (x : BitVec 32) : (nv x == 0) = decide (x = 0#32) := by
  by_cases e : x = 0#32
  · rw [e]; rfl
  · have h : nv x ≠ 0 := fun h => e (nv_inj (y := 0#32) h)
    simp [e, h]
theorem nv_beq (x y : BitVec 32) : (nv x == nv y) = decide (x = y) := by
  by_cases e : x = y
  · rw [e]; simp
  · have h : nv x ≠ nv y := fun h => e (nv_inj h)
    simp [e, h]
theorem size_sealS (s : ByteArray) : (sealS s).size = s.size + 8 := by
  unfold sealS
  rw [ByteArray.size_append, ByteArray.size_append, size_bytesS, size_bytesS]
  omega
theorem bs_sealS (s : ByteArray) : bs (sealS s) = Crc.bytes (BitVec.ofNat 32 s.size) ++ bs s ++ Crc.bytes (Crc.crc 0#32 (Crc.bytes (BitVec.ofNat 32 s.size) ++ bs s)) := by
  unfold sealS
  rw [bs_append, bs_append, bs_bytesS, bs_bytesS, sumOf_two, bs_append, bs_bytesS]
theorem length_bytes (n : BitVec 32) : (Crc.bytes n).length = 4 := rfl
/-- the heart: a text is opened just if it is what its inside is sealed as -/
theorem opens_iff (s : ByteArray) : opensB s = (decide (8 ≤ s.size) && decide (sealS (s.extract 4 (4 + (s.size - 8))) = s)) := by
  unfold opensB
  rw [toList_beq, nv_zero_iff, sumOf_one]
  by_cases h8 : 8 ≤ s.size
  · have h8' : ¬ s.size < 8 := by omega
    have hl : (bs s).length = s.size := bs_length s
    generalize hm : s.extract 4 (4 + (s.size - 8)) = m
    have hms : m.size = s.size - 8 := by rw [← hm, ByteArray.size_extract]; omega
    have hmb : bs m = ((bs s).take (4 + (s.size - 8))).drop 4 := by rw [← hm, bs_extract]
    have hcut : bs s = (bs s).take 4 ++ bs m ++ (bs s).drop (4 + (s.size - 8)) := by
      rw [hmb]
      have e1 : (bs s).take 4 = ((bs s).take (4 + (s.size - 8))).take 4 := by rw [List.take_take]; congr 1; omega
      rw [e1, List.take_append_drop, List.take_append_drop]
    obtain ⟨a, b, c, d, ht⟩ : ∃ a b c d, (bs s).drop (4 + (s.size - 8)) = [a, b, c, d] := by
      have hlen : ((bs s).drop (4 + (s.size - 8))).length = 4 := by rw [List.length_drop, hl]; omega
      match (bs s).drop (4 + (s.size - 8)), hlen with
      | [a, b, c, d], _ => exact ⟨a, b, c, d, rfl⟩
    rw [ht] at hcut
    have key : (s.extract 0 4 = bytesS (BitVec.ofNat 32 (s.size - 8)) ∧ Crc.crc 0#32 (bs s) = 0#32) ↔ sealS m = s := by
      have h04 : bs (s.extract 0 4) = (bs s).take 4 := by rw [bs_extract]; rfl
      constructor
      · rintro ⟨h1, h2⟩
        have h1' : (bs s).take 4 = Crc.bytes (BitVec.ofNat 32 (s.size - 8)) := by rw [← h04, h1, bs_bytesS]
        apply bs_inj
        rw [bs_sealS, hms, ← h1']
        rw [hcut, Crc.crc_append, Crc.crc_four_zero] at h2
        rw [← h2]
        exact hcut.symm
      · intro h
        have hb : bs s = Crc.bytes (BitVec.ofNat 32 (s.size - 8)) ++ bs m ++ Crc.bytes (Crc.crc 0#32 (Crc.bytes (BitVec.ofNat 32 (s.size - 8)) ++ bs m)) := by
          conv => lhs; rw [← h]
          rw [bs_sealS, hms]
        constructor
        · apply bs_inj
          rw [h04, hb, bs_bytesS, List.append_assoc]
          exact List.take_left' (length_bytes _)
        · rw [hb, Crc.crc_append]
          exact (Crc.crc_four_zero _ _ _ _ _).2 rfl
    have e : (decide (s.extract 0 4 = bytesS (BitVec.ofNat 32 (s.size - 8))) && decide (Crc.crc 0#32 (bs s) = 0#32)) = decide (sealS m = s) := by
      rw [← Bool.decide_and]
      exact decide_eq_decide.2 key
    simp only [h8', h8, decide_true, decide_false, Bool.not_false, Bool.true_and]
    exact e
  · have h8' : s.size < 8 := by omega
    simp [h8, h8']
theorem extract_seal (s : ByteArray) : (sealS s).extract 4 (4 + ((sealS s).size - 8)) = s := by
  apply bs_inj
  rw [bs_extract, size_sealS, bs_sealS]
  have e : 4 + (s.size + 8 - 8) = (Crc.bytes (BitVec.ofNat 32 s.size) ++ bs s).length := by
    rw [List.length_append, length_bytes, bs_length]; omega
  rw [e, List.take_left' rfl]
  exact List.drop_left' (length_bytes _)
theorem opens_seal (s : ByteArray) : opensB (sealS s) = true := by
  rw [opens_iff, extract_seal, size_sealS]
  simp
theorem open_seal (s : ByteArray) : openS (sealS s) = s := by
  unfold openS
  rw [if_pos (opens_seal s), extract_seal]
theorem seal_open (s : ByteArray) (h : opensB s = true) : sealS (openS s) = s := by
  unfold openS
  rw [if_pos h]
  rw [opens_iff] at h
  simp only [Bool.and_eq_true, decide_eq_true_eq] at h
  exact h.2
theorem openS_none (s : ByteArray) (h : opensB s = false) : openS s = ⟨#[]⟩ := by
  unfold openS
  rw [h]
  rfl
theorem refOpens_eq (s : ByteArray) : refOpensB s = opensB s := by
  rw [opens_iff]
  unfold refOpensB
  rw [toList_beq]
  by_cases h8 : 8 ≤ s.size
  · have h8' : ¬ s.size < 8 := by omega
    have e : 4 + (s.size - 8) = s.size - 4 := by omega
    rw [e]
    simp [h8, h8']
  · have h8' : s.size < 8 := by omega
    simp [h8, h8']
theorem refOpen_eq (s : ByteArray) : refOpenS s = openS s := by
  unfold refOpenS openS
  rw [refOpens_eq]
  by_cases h : opensB s = true
  · have h2 := h
    rw [opens_iff] at h2
    simp only [Bool.and_eq_true, decide_eq_true_eq] at h2
    have e : 4 + (s.size - 8) = s.size - 4 := by omega
    rw [e]
  · simp [h]
theorem size_openS (s : ByteArray) : (openS s).size ≤ s.size := by
  unfold openS
  split
  · rw [ByteArray.size_extract]; omega
  · exact Nat.zero_le _
end Go.Proofs.Ytinpogjdaehmmaa
