/-
  THE PLAIN LAW OF THE SUM: a cyclic redundancy sum over bytes, as a function on 32 bits: it is linear, its table tells eight steps at once, four bytes that are the sum itself bring it to nought, and one bit that is turned turns it. No program is in sight.
-/
namespace Go.Proofs.Ytinpogjdaehmmaa.Crc
def poly : BitVec 32 := 0x814141ab#32
/-- one step -/
def S (x : BitVec 32) : BitVec 32 := if x.msb then (x <<< 1) ^^^ poly else x <<< 1
def Sn : Nat → BitVec 32 → BitVec 32
  | 0, x => x
  | n + 1, x => Sn n (S x)

theorem xor_self_mid (a b c : BitVec 32) : (a ^^^ b) ^^^ (c ^^^ b) = a ^^^ c := by
  rw [show (a ^^^ b) ^^^ (c ^^^ b) = (a ^^^ c) ^^^ (b ^^^ b) by ac_rfl]; simp
theorem xor_four (a b c d : BitVec 32) : (a ^^^ b) ^^^ (c ^^^ d) = (a ^^^ c) ^^^ (b ^^^ d) := by ac_rfl
theorem xor_five (n a b c d : BitVec 32) : n ^^^ (a ^^^ b ^^^ c ^^^ d) = (n ^^^ a) ^^^ (b ^^^ (c ^^^ d)) := by ac_rfl
theorem xor_four' (n b c d : BitVec 32) : n ^^^ (b ^^^ c ^^^ d) = (n ^^^ b) ^^^ (c ^^^ d) := by ac_rfl
theorem xor_three (n c d : BitVec 32) : n ^^^ (c ^^^ d) = (n ^^^ c) ^^^ d := by ac_rfl
theorem xor_assoc4 (a b c d : BitVec 32) : a ^^^ (b ^^^ (c ^^^ d)) = a ^^^ (b ^^^ c ^^^ d) := by ac_rfl
theorem S_xor (x y : BitVec 32) : S (x ^^^ y) = S x ^^^ S y := by
  unfold S
  rw [BitVec.msb_xor, BitVec.shiftLeft_xor_distrib]
  cases x.msb <;> cases y.msb <;> simp
  · ac_rfl
  · ac_rfl
  · rw [xor_self_mid]
theorem S_zero : S 0#32 = 0#32 := by decide
theorem Sn_xor (n : Nat) : ∀ x y, Sn n (x ^^^ y) = Sn n x ^^^ Sn n y := by
  induction n with
  | zero => intro x y; rfl
  | succ n ih => intro x y; simp only [Sn, S_xor, ih]
theorem Sn_zero (n : Nat) : Sn n 0#32 = 0#32 := by
  induction n with
  | zero => rfl
  | succ n ih => simp only [Sn, S_zero, ih]
theorem S_inj0 (x : BitVec 32) (h : S x = 0#32) : x = 0#32 := by
  unfold S at h
  cases hm : x.msb with
  | true =>
    rw [hm] at h
    have h0 : ((x <<< 1) ^^^ poly).getLsbD 0 = true := by simp [poly]
    simp only [if_true] at h
    rw [h] at h0; simp at h0
  | false =>
    rw [hm] at h
    simp only [Bool.false_eq_true, if_false] at h
    apply BitVec.eq_of_getLsbD_eq
    intro i hi
    by_cases h31 : i = 31
    · subst h31
      simpa [BitVec.msb_eq_getLsbD_last] using hm
    · have : (x <<< 1).getLsbD (i + 1) = x.getLsbD i := by
        rw [BitVec.getLsbD_shiftLeft]; simp; omega
      rw [← this, h]; simp
theorem Sn_inj0 (n : Nat) : ∀ x, Sn n x = 0#32 → x = 0#32 := by
  induction n with
  | zero => intro x h; exact h
  | succ n ih => intro x h; exact S_inj0 _ (ih _ h)
theorem Sn_add (m n : Nat) : ∀ x, Sn (m + n) x = Sn n (Sn m x) := by
  induction m with
  | zero => intro x; simp [Sn]
  | succ m ih => intro x; rw [Nat.add_right_comm]; simp only [Sn, ih]
/-- n places up, where nothing falls off. -/
theorem Sn_low (n : Nat) : ∀ x : BitVec 32, x.toNat * 2 ^ n < 2 ^ 32 → Sn n x = x <<< n := by
  induction n with
  | zero => intro x _; simp [Sn]
  | succ n ih =>
    intro x h
    have h1 : x.toNat * 2 * 2 ^ n < 2 ^ 32 := by rw [Nat.pow_succ, Nat.mul_comm (2 ^ n), ← Nat.mul_assoc] at h; exact h
    have hp : 0 < 2 ^ n := Nat.two_pow_pos n
    have h2 : x.toNat * 2 < 2 ^ 32 := Nat.lt_of_le_of_lt (Nat.le_mul_of_pos_right _ hp) h1
    have hm : x.msb = false := by rw [BitVec.msb_eq_decide]; simp; omega
    have hs : S x = x <<< 1 := by unfold S; rw [hm]; simp
    have ht : (x <<< 1).toNat = x.toNat * 2 := by
      rw [BitVec.toNat_shiftLeft, Nat.shiftLeft_eq]; exact Nat.mod_eq_of_lt (by simpa using h2)
    show Sn n (S x) = _
    rw [hs, ih _ (by rw [ht]; exact h1), ← BitVec.shiftLeft_add, Nat.add_comm]
/-- a byte comes in -/
def up (n : BitVec 32) (c : BitVec 8) : BitVec 32 := Sn 8 (n ^^^ (c.setWidth 32 <<< 24))
def tab (c : BitVec 8) : BitVec 32 := Sn 8 (c.setWidth 32 <<< 24)
theorem up_tab (n : BitVec 32) (c : BitVec 8) : up n c = (n <<< 8) ^^^ tab ((n >>> 24).setWidth 8 ^^^ c) := by
  have e : n ^^^ (c.setWidth 32 <<< 24) = (n &&& 0x00ffffff#32) ^^^ (((n >>> 24).setWidth 8 ^^^ c).setWidth 32 <<< 24) := by
    apply BitVec.eq_of_getLsbD_eq
    intro i hi
    have hm : (0x00ffffff#32).getLsbD i = decide (i < 24) := by
      have : ∀ i : Fin 32, (0x00ffffff#32).getLsbD i.1 = decide (i.1 < 24) := by decide
      exact this ⟨i, hi⟩
    simp only [BitVec.getLsbD_xor, BitVec.getLsbD_and, BitVec.getLsbD_shiftLeft, BitVec.getLsbD_setWidth, BitVec.getLsbD_ushiftRight, hm]
    by_cases h : i < 24
    · simp [h]
    · have h8 : i - 24 < 8 := by omega
      have e24 : 24 + (i - 24) = i := by omega
      have h32 : i - 24 < 32 := by omega
      simp [h, hi, h8, e24, h32]
  have hl : (n &&& 0x00ffffff#32).toNat * 2 ^ 8 < 2 ^ 32 := by
    rw [BitVec.toNat_and]
    have : n.toNat &&& (0x00ffffff#32).toNat ≤ (0x00ffffff#32).toNat := Nat.and_le_right
    have h2 : (0x00ffffff#32).toNat = 16777215 := rfl
    omega
  have hs : (n &&& 0x00ffffff#32) <<< 8 = n <<< 8 := by
    apply BitVec.eq_of_getLsbD_eq
    intro i hi
    have hm : (0x00ffffff#32).getLsbD (i - 8) = decide (i - 8 < 24) := by
      have : ∀ i : Fin 32, (0x00ffffff#32).getLsbD (i.1 - 8) = decide (i.1 - 8 < 24) := by decide
      exact this ⟨i, hi⟩
    simp only [BitVec.getLsbD_and, BitVec.getLsbD_shiftLeft, hm]
    by_cases h : i < 8
    · simp [h]
    · have : i - 8 < 24 := by omega
      simp [this]
  unfold up tab
  rw [e, Sn_xor, Sn_low 8 _ hl, hs]
theorem up_xor (n m : BitVec 32) (c d : BitVec 8) : up (n ^^^ m) (c ^^^ d) = up n c ^^^ up m d := by
  unfold up
  rw [← Sn_xor, BitVec.setWidth_xor, BitVec.shiftLeft_xor_distrib, xor_four]
/-- the sum of bytes, on from n -/
def crc (n : BitVec 32) : List (BitVec 8) → BitVec 32
  | [] => n
  | c :: l => crc (up n c) l
theorem crc_append (l m : List (BitVec 8)) : ∀ n, crc n (l ++ m) = crc (crc n l) m := by
  induction l with
  | nil => intro n; rfl
  | cons c l ih => intro n; exact ih _
theorem crc_xor : ∀ (l m : List (BitVec 8)) (a b : BitVec 32), l.length = m.length → crc (a ^^^ b) (l.zipWith (· ^^^ ·) m) = crc a l ^^^ crc b m
  | [], [], _, _, _ => rfl
  | c :: l, d :: m, a, b, h => by
    simp only [List.zipWith_cons_cons, crc, up_xor]
    exact crc_xor l m _ _ (by simpa using h)
/-- a number's bytes, the highest first -/
def bytes (n : BitVec 32) : List (BitVec 8) := [(n >>> 24).setWidth 8, (n >>> 16).setWidth 8, (n >>> 8).setWidth 8, n.setWidth 8]
def ofBytes (a b c d : BitVec 8) : BitVec 32 := (a.setWidth 32 <<< 24) ^^^ (b.setWidth 32 <<< 16) ^^^ (c.setWidth 32 <<< 8) ^^^ d.setWidth 32
theorem ofBytes_bytes (n : BitVec 32) : ofBytes ((n >>> 24).setWidth 8) ((n >>> 16).setWidth 8) ((n >>> 8).setWidth 8) (n.setWidth 8) = n := by
  apply BitVec.eq_of_getLsbD_eq
  intro i hi
  unfold ofBytes
  simp only [BitVec.getLsbD_xor, BitVec.getLsbD_shiftLeft, BitVec.getLsbD_setWidth, BitVec.getLsbD_ushiftRight]
  have h32 : i - 24 < 32 := by omega
  have h32b : i - 16 < 32 := by omega
  have h32c : i - 8 < 32 := by omega
  by_cases h1 : i < 8
  · have h2 : i < 16 := by omega
    have h3 : i < 24 := by omega
    simp [h1, h2, h3, hi]
  · by_cases h2 : i < 16
    · have e : 8 + (i - 8) = i := by omega
      have h8 : i - 8 < 8 := by omega
      have h3 : i < 24 := by omega
      simp [h1, h2, h3, e, hi, h8, h32c]
    · by_cases h3 : i < 24
      · have e : 16 + (i - 16) = i := by omega
        have h8 : i - 16 < 8 := by omega
        have h9 : ¬ i - 8 < 8 := by omega
        simp [h1, h2, h3, e, hi, h8, h9, h32b]
      · have e : 24 + (i - 24) = i := by omega
        have h8 : i - 24 < 8 := by omega
        have h9 : ¬ i - 16 < 8 := by omega
        have h10 : ¬ i - 8 < 8 := by omega
        simp [h1, h2, h3, e, hi, h8, h9, h10, h32]
theorem bytes_ofBytes (a b c d : BitVec 8) : bytes (ofBytes a b c d) = [a, b, c, d] := by
  have k : ∀ (x y : BitVec 8), (∀ i, i < 8 → x.getLsbD i = y.getLsbD i) → x = y := fun x y h => BitVec.eq_of_getLsbD_eq (fun i hi => h i hi)
  unfold bytes ofBytes
  congr 1
  · apply k; intro i hi
    simp only [BitVec.getLsbD_xor, BitVec.getLsbD_shiftLeft, BitVec.getLsbD_setWidth, BitVec.getLsbD_ushiftRight]
    have h1 : ¬ 24 + i < 24 := by omega
    have h2 : ¬ 24 + i < 16 := by omega
    have h3 : ¬ 24 + i < 8 := by omega
    have e1 : 24 + i - 24 = i := by omega
    have b1 : b.getLsbD (24 + i - 16) = false := BitVec.getLsbD_of_ge _ _ (by omega)
    have c1 : c.getLsbD (24 + i - 8) = false := BitVec.getLsbD_of_ge _ _ (by omega)
    have d1 : d.getLsbD (24 + i) = false := BitVec.getLsbD_of_ge _ _ (by omega)
    have h32 : 24 + i < 32 := by omega
    have h33 : i < 32 := by omega
    simp [*]
  congr 1
  · apply k; intro i hi
    simp only [BitVec.getLsbD_xor, BitVec.getLsbD_shiftLeft, BitVec.getLsbD_setWidth, BitVec.getLsbD_ushiftRight]
    have h2 : ¬ 16 + i < 16 := by omega
    have h3 : ¬ 16 + i < 8 := by omega
    have e1 : 16 + i - 16 = i := by omega
    have c1 : c.getLsbD (16 + i - 8) = false := BitVec.getLsbD_of_ge _ _ (by omega)
    have d1 : d.getLsbD (16 + i) = false := BitVec.getLsbD_of_ge _ _ (by omega)
    have h1 : 16 + i < 24 := by omega
    have h32 : 16 + i < 32 := by omega
    have h33 : i < 32 := by omega
    simp [*]
  congr 1
  · apply k; intro i hi
    simp only [BitVec.getLsbD_xor, BitVec.getLsbD_shiftLeft, BitVec.getLsbD_setWidth, BitVec.getLsbD_ushiftRight]
    have h3 : ¬ 8 + i < 8 := by omega
    have e1 : 8 + i - 8 = i := by omega
    have d1 : d.getLsbD (8 + i) = false := BitVec.getLsbD_of_ge _ _ (by omega)
    have h1 : 8 + i < 24 := by omega
    have h2 : 8 + i < 16 := by omega
    have h32 : 8 + i < 32 := by omega
    have h33 : i < 32 := by omega
    simp [*]
  congr 1
  · apply k; intro i hi
    simp only [BitVec.getLsbD_xor, BitVec.getLsbD_shiftLeft, BitVec.getLsbD_setWidth]
    have h1 : i < 24 := by omega
    have h2 : i < 16 := by omega
    have h32 : i < 32 := by omega
    simp [*]
/-- four bytes: as one word -/
theorem crc_four (n : BitVec 32) (a b c d : BitVec 8) : crc n [a, b, c, d] = Sn 32 (n ^^^ ofBytes a b c d) := by
  have low : ∀ (x : BitVec 8) (k j : Nat), j + k + 8 ≤ 32 → Sn j (x.setWidth 32 <<< k) = x.setWidth 32 <<< (k + j) := by
    intro x k j h
    have hx : x.toNat < 2 ^ 8 := x.isLt
    have hk : (x.setWidth 32 <<< k).toNat = x.toNat * 2 ^ k := by
      rw [BitVec.toNat_shiftLeft, Nat.shiftLeft_eq, BitVec.toNat_setWidth, Nat.mod_eq_of_lt (Nat.lt_of_lt_of_le hx (by decide))]
      refine Nat.mod_eq_of_lt (Nat.lt_of_lt_of_le (Nat.mul_lt_mul_of_pos_right hx (Nat.two_pow_pos k)) ?_)
      rw [← Nat.pow_add]
      exact Nat.pow_le_pow_right (by decide) (by omega)
    rw [Sn_low, ← BitVec.shiftLeft_add]
    rw [hk, Nat.mul_assoc, ← Nat.pow_add]
    refine Nat.lt_of_lt_of_le (Nat.mul_lt_mul_of_pos_right hx (Nat.two_pow_pos _)) ?_
    rw [← Nat.pow_add]
    exact Nat.pow_le_pow_right (by decide) (by omega)
  have e1 : Sn 8 (n ^^^ ofBytes a b c d) = up n a ^^^ ((b.setWidth 32 <<< 24) ^^^ (c.setWidth 32 <<< 16) ^^^ (d.setWidth 32 <<< 8)) := by
    unfold up ofBytes
    have h0 := low d 0 8 (by omega)
    rw [BitVec.shiftLeft_zero] at h0
    rw [xor_five, Sn_xor 8 (n ^^^ _) _, Sn_xor 8 (b.setWidth 32 <<< 16) _, Sn_xor 8 (c.setWidth 32 <<< 8) _, low b 16 8 (by omega), low c 8 8 (by omega), h0]
    rw [xor_assoc4]
  have e2 : Sn 8 (up n a ^^^ ((b.setWidth 32 <<< 24) ^^^ (c.setWidth 32 <<< 16) ^^^ (d.setWidth 32 <<< 8))) = up (up n a) b ^^^ ((c.setWidth 32 <<< 24) ^^^ (d.setWidth 32 <<< 16)) := by
    rw [xor_four', Sn_xor 8 (up n a ^^^ _) _, Sn_xor 8 (c.setWidth 32 <<< 16) _, low c 16 8 (by omega), low d 8 8 (by omega)]
    rfl
  have e3 : Sn 8 (up (up n a) b ^^^ ((c.setWidth 32 <<< 24) ^^^ (d.setWidth 32 <<< 16))) = up (up (up n a) b) c ^^^ (d.setWidth 32 <<< 24) := by
    rw [xor_three, Sn_xor, low d 16 8 (by omega)]
    rfl
  have e4 : ∀ x : BitVec 32, Sn 32 x = Sn 8 (Sn 8 (Sn 8 (Sn 8 x))) := fun x => by
    rw [← Sn_add, ← Sn_add, ← Sn_add]
  rw [e4, e1, e2, e3]
  rfl
theorem crc_four_zero (n : BitVec 32) (a b c d : BitVec 8) : crc n [a, b, c, d] = 0#32 ↔ [a, b, c, d] = bytes n := by
  rw [crc_four]
  constructor
  · intro h
    have h' := Sn_inj0 32 _ h
    have : n = ofBytes a b c d := by
      have h3 : (n ^^^ ofBytes a b c d) ^^^ ofBytes a b c d = 0#32 ^^^ ofBytes a b c d := by rw [h']
      rw [BitVec.xor_assoc] at h3
      simpa using h3
    rw [this, bytes_ofBytes]
  · intro h
    have : n = ofBytes a b c d := by
      have h2 := ofBytes_bytes n
      unfold bytes at h
      simp only [List.cons.injEq] at h
      obtain ⟨rfl, rfl, rfl, rfl, _⟩ := h
      exact h2.symm
    rw [← this]; simp [Sn_zero]
/-- one bit at the highest place, k steps on -/
def E (k : Nat) : BitVec 32 := Sn k (1#32 <<< 31)
theorem E_split (a k i : Nat) (h : i ≤ 31) (hk : k = a + (32 - i)) : E k = Sn a (Sn 32 (1#32 <<< (31 - i))) := by
  subst hk
  unfold E
  have h1 : Sn i (1#32 <<< (31 - i)) = 1#32 <<< 31 := by
    rw [Sn_low, ← BitVec.shiftLeft_add]
    · congr 1; omega
    · rw [BitVec.toNat_shiftLeft, Nat.shiftLeft_eq]
      have e1 : (1#32).toNat = 1 := rfl
      have e2 : 2 ^ (31 - i) < 2 ^ 32 := Nat.pow_lt_pow_right (by decide) (by omega)
      rw [e1, Nat.one_mul, Nat.mod_eq_of_lt e2, ← Nat.pow_add]
      exact Nat.pow_lt_pow_right (by decide) (by omega)
  have h2 : Sn 32 (1#32 <<< (31 - i)) = Sn (32 - i) (1#32 <<< 31) := by
    rw [← h1, ← Sn_add]
    exact congrArg (fun q => Sn q _) (by omega)
  rw [h2, Nat.add_comm, Sn_add]
theorem xor_right (n m c : BitVec 32) : n ^^^ m ^^^ c = n ^^^ c ^^^ m := by ac_rfl
theorem crc_lin (l : List (BitVec 8)) : ∀ n m, crc (n ^^^ m) l = crc n l ^^^ Sn (8 * l.length) m := by
  induction l with
  | nil => intro n m; rfl
  | cons c l ih =>
    intro n m
    have h : up (n ^^^ m) c = up n c ^^^ Sn 8 m := by
      unfold up
      rw [← Sn_xor, xor_right]
    simp only [crc, h, ih, List.length_cons]
    rw [Nat.mul_succ, Nat.add_comm, Sn_add]
theorem crc_set (l : List (BitVec 8)) (n : BitVec 32) (j r : Nat) (hj : j < l.length) (hr : r < 8) :
    crc n (l.set j (l[j] ^^^ (128#8 >>> r))) = crc n l ^^^ E (8 * (l.length - j) - r) := by
  have e : l.set j (l[j] ^^^ (128#8 >>> r)) = l.take j ++ (l[j] ^^^ (128#8 >>> r)) :: l.drop (j + 1) := by
    rw [List.set_eq_take_append_cons_drop, if_pos hj]
  have e0 : l = l.take j ++ l[j] :: l.drop (j + 1) := by
    rw [List.getElem_cons_drop, List.take_append_drop]
  have h8 : ∀ r : Fin 8, (128#8 >>> r.1).setWidth 32 <<< 24 = 1#32 <<< (31 - r.1) := by decide
  have h : ∀ n : BitVec 32, up n (l[j] ^^^ (128#8 >>> r)) = up n l[j] ^^^ Sn 8 (1#32 <<< (31 - r)) := fun n => by
    have := up_xor n 0#32 l[j] (128#8 >>> r)
    rw [BitVec.xor_zero] at this
    rw [this]
    congr 1
    unfold up
    rw [BitVec.zero_xor, h8 ⟨r, hr⟩]
  have h1 : Sn r (1#32 <<< (31 - r)) = 1#32 <<< 31 := by
    rw [Sn_low, ← BitVec.shiftLeft_add]
    · congr 1; omega
    · rw [BitVec.toNat_shiftLeft, Nat.shiftLeft_eq]
      have e1 : (1#32).toNat = 1 := rfl
      have e2 : 2 ^ (31 - r) < 2 ^ 32 := Nat.pow_lt_pow_right (by decide) (by omega)
      rw [e1, Nat.one_mul, Nat.mod_eq_of_lt e2, ← Nat.pow_add]
      exact Nat.pow_lt_pow_right (by decide) (by omega)
  have h2 : Sn 8 (1#32 <<< (31 - r)) = Sn (8 - r) (1#32 <<< 31) := by
    rw [← h1, ← Sn_add]
    exact congrArg (fun q => Sn q _) (by omega)
  conv => rhs; rw [e0]
  rw [e, crc_append, crc_append]
  simp only [crc, h, crc_lin, h2]
  congr 1
  rw [← Sn_add]
  unfold E
  congr 1
  simp
  omega
/-- the turned row of bits -/
def R (burst : BitVec 32) : Nat → BitVec 32
  | 0 => 0#32
  | i + 1 => if burst.getLsbD i then R burst i ^^^ (1#32 <<< (31 - i)) else R burst i
theorem R_bit (burst : BitVec 32) : ∀ i, i ≤ 32 → ∀ j, j < 32 → (R burst i).getLsbD (31 - j) = (decide (j < i) && burst.getLsbD j) := by
  intro i
  induction i with
  | zero => intro _ j _; simp [R]
  | succ i ih =>
    intro hi j hj
    have one : (1#32 <<< (31 - i)).getLsbD (31 - j) = decide (i = j) := by
      rw [BitVec.getLsbD_shiftLeft]
      by_cases h : i = j
      · subst h; simp; omega
      · have h' : ¬ (31 - j - (31 - i) = 0 ∧ ¬ (31 - j < 31 - i)) := by omega
        by_cases h2 : 31 - j < 31 - i
        · simp [h2, h]
        · have h3 : 31 - j - (31 - i) ≠ 0 := by omega
          simp [h2, h, BitVec.getLsbD_one, h3]
    unfold R
    by_cases hb : burst.getLsbD i = true
    · rw [if_pos hb, BitVec.getLsbD_xor, ih (by omega) j hj, one]
      by_cases h : i = j
      · subst h; simp [hb]
      · have : (j < i + 1) = (j < i) := by simp; omega
        simp [h, this]
    · rw [if_neg hb, ih (by omega) j hj]
      by_cases h : i = j
      · subst h; simp at hb; simp [hb]
      · have : (j < i + 1) = (j < i) := by simp; omega
        simp [this]
theorem R_zero (burst : BitVec 32) (h : R burst 32 = 0#32) : burst = 0#32 := by
  apply BitVec.eq_of_getLsbD_eq
  intro j hj
  have := R_bit burst 32 (by omega) j hj
  rw [h] at this
  rw [decide_eq_true hj, Bool.true_and] at this
  rw [← this]; simp
end Go.Proofs.Ytinpogjdaehmmaa.Crc
