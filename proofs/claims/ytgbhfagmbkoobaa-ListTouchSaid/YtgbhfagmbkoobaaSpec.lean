/-
  What the list's calls answer, as functions of what they are asked: the program's and the document's alike.
-/
import Derived.Test.YtgbhfagmbkoobaaLaw0
namespace Go.Proofs.Ytgbhfagmbkoobaa
open Go.RowKit
open Classical in
/-- the numbers that tell x, where there are some -/
noncomputable def tellS (x : Ls) : Option (List Nat) := if h : ∃ l, Valid l ∧ SameL x (toldL l) then some h.choose else none
theorem tellS_cases (x : Ls) : (∃ l, tellS x = some l ∧ Valid l ∧ cells x.at = cells (toldL l).at) ∨ (tellS x = none ∧ NoTell x) := by
  unfold tellS
  by_cases h : ∃ l, Valid l ∧ SameL x (toldL l)
  · rw [dif_pos h]
    exact Or.inl ⟨_, rfl, h.choose_spec.1, h.choose_spec.2.cells⟩
  · rw [dif_neg h]
    exact Or.inr ⟨rfl, fun l hl hs => h ⟨l, hl, hs⟩⟩
theorem tellS_told {l : List Nat} (h : Valid l) : tellS (toldL l) = some l := by
  rcases tellS_cases (toldL l) with ⟨m, e, hm, hc⟩ | ⟨_, hn⟩
  · rw [e, told_inj h hm (cells_eq hc)]
  · exact absurd (SameL.refl _) (hn l h)
noncomputable def touchS (x : Ls) (id : Int) : Ls × Int :=
  match tellS x with
  | none => (x, 120)
  | some l => if 0 ≤ id ∧ id < 64 then (toldL (id.toNat :: l.erase id.toNat), 0) else (toldL l, 110)
noncomputable def dropS (x : Ls) (id : Int) : Ls × Int :=
  match tellS x with
  | none => (x, 120)
  | some l => if 0 ≤ id ∧ id < 64 ∧ id.toNat ∈ l then (toldL (l.erase id.toNat), 0) else (toldL l, 120)
noncomputable def lastS (x : Ls) : Int × Bool :=
  match tellS x with
  | none => (0, false)
  | some l => match l.getLast? with | none => (0, false) | some b => (b, true)
noncomputable def orderS (x : Ls) : List Int × Bool :=
  match tellS x with
  | none => ([], false)
  | some l => (castL l, true)
open Classical in
noncomputable def ofS (xs : List Int) : Ls × Int := if h : ∃ l, Valid l ∧ xs = castL l then (toldL h.choose, 0) else (newL, 110)
theorem ofSays_S {xs : List Int} {w w' : World} {e : Ending} (h : OfSays xs w e w') : Ans (ofS xs).1 (ofS xs).2 w e w' := by
  obtain ⟨s, n, he, hb, ⟨l, hl, hx, rfl, rfl⟩ | ⟨hn, rfl, rfl⟩⟩ := h
  · have hex : ∃ l, Valid l ∧ xs = castL l := ⟨l, hl, hx⟩
    have h1 : hex.choose = l := castL_inj (by rw [← hex.choose_spec.2, hx])
    unfold ofS
    rw [dif_pos hex, h1]
    exact ⟨he, hb⟩
  · have hex : ¬ ∃ l, Valid l ∧ xs = castL l := fun ⟨l, hl, hx⟩ => hn l hl hx
    unfold ofS
    rw [dif_neg hex]
    exact ⟨he, hb⟩
theorem ofS_any (A : Option Addr) (c : Nat) (xs : List Int) (hn : xs.length ≤ 1000) (w : World) (hr : RowI w A xs) : Calls Try.prog 10 #[.slice A xs.length c] w (Ans (ofS xs).1 (ofS xs).2 w) := (of_any A c xs hn w hr).mono fun _ _ h => ofSays_S h
theorem refOfS_any (A : Option Addr) (c : Nat) (xs : List Int) (hn : xs.length ≤ 1000) (w : World) (hr : RowI w A xs) : Calls Try.prog 11 #[.slice A xs.length c] w (Ans (ofS xs).1 (ofS xs).2 w) := (refOf_any A c xs hn w hr).mono fun _ _ h => ofSays_S h
theorem orderS_len (x : Ls) : (orderS x).1.length ≤ 64 := by
  unfold orderS
  rcases tellS_cases x with ⟨l, e, hl, _⟩ | ⟨e, _⟩
  · rw [e]; simp only [castL_len]; exact hl.len
  · rw [e]; simp
def AnsR (r : List Int × Bool) (w : World) (e : Ending) (w' : World) : Prop := ∃ A c, e = .returned (.tuple #[.slice A r.1.length c, .bool r.2]) ∧ RowI w' A r.1 ∧ Below w.heap.size w w'
theorem orderSays_S {x : Ls} {w w' : World} {e : Ending} (h : OrderSays x w e w') : AnsR (orderS x) w e w' := by
  unfold orderS
  obtain ⟨hb, ⟨l, hl, hs, A, c, he, hr, _⟩ | ⟨hn, he⟩⟩ := h
  · rcases tellS_cases x with ⟨m, e2, hm, hc⟩ | ⟨_, hn⟩
    · have : l = m := told_inj hl hm (hs.symm.trans (cells_eq hc))
      subst this
      rw [e2]
      exact ⟨A, c, by rw [he, castL_len], hr, hb⟩
    · exact absurd hs (hn l hl)
  · rcases tellS_cases x with ⟨m, _, hm, hc⟩ | ⟨e2, _⟩
    · exact absurd (cells_eq hc) (hn m hm)
    · rw [e2]
      exact ⟨none, 0, he, fun j hj => absurd hj (by simp), hb⟩
theorem orderS_any (x : Ls) (w : World) : Calls Try.prog 12 #[.agg (cells x.at)] w (AnsR (orderS x) w) := (order_any x w).mono fun _ _ h => orderSays_S h
theorem refOrderS_any (x : Ls) (w : World) : Calls Try.prog 13 #[.agg (cells x.at)] w (AnsR (orderS x) w) := (refOrder_any x w).mono fun _ _ h => orderSays_S h
theorem touchS_any (x : Ls) (id : Int) (w : World) : Calls Try.prog 14 #[.agg (cells x.at), .int .i64 id] w (Ans (touchS x id).1 (touchS x id).2 w) := by
  unfold touchS
  rcases tellS_cases x with ⟨l, e, hl, hc⟩ | ⟨e, hn⟩
  · rw [e, hc]
    dsimp only
    split
    · rename_i h
      obtain ⟨k, rfl⟩ := Int.eq_ofNat_of_zero_le h.1
      rw [Int.toNat_natCast]
      by_cases hk : k ∈ l
      · exact touch_in l hl k hk w
      · rw [List.erase_of_not_mem hk]
        exact touch_new l hl k (by omega) hk w
    · rename_i h
      exact touch_range l hl id h w
  · rw [e]; exact touch_none x hn id w
theorem refTouchS_any (x : Ls) (id : Int) (w : World) : Calls Try.prog 15 #[.agg (cells x.at), .int .i64 id] w (Ans (touchS x id).1 (touchS x id).2 w) := by
  unfold touchS
  rcases tellS_cases x with ⟨l, e, hl, hc⟩ | ⟨e, hn⟩
  · rw [e, hc]
    dsimp only
    split
    · rename_i h
      obtain ⟨k, rfl⟩ := Int.eq_ofNat_of_zero_le h.1
      rw [Int.toNat_natCast]
      exact refTouch_ok l hl k (by omega) w
    · rename_i h
      by_cases h0 : id < 0
      · exact refTouch_lo l hl id h0 w
      · exact refTouch_hi l hl id (by omega) w
  · rw [e]; exact refTouch_none x hn id w
theorem dropS_any (x : Ls) (id : Int) (w : World) : Calls Try.prog 16 #[.agg (cells x.at), .int .i64 id] w (Ans (dropS x id).1 (dropS x id).2 w) := by
  unfold dropS
  rcases tellS_cases x with ⟨l, e, hl, hc⟩ | ⟨e, hn⟩
  · rw [e, hc]
    dsimp only
    split
    · rename_i h
      obtain ⟨k, rfl⟩ := Int.eq_ofNat_of_zero_le h.1
      rw [Int.toNat_natCast] at *
      exact drop_in l hl k h.2.2 w
    · rename_i h
      by_cases h0 : 0 ≤ id ∧ id < 64
      · obtain ⟨k, rfl⟩ := Int.eq_ofNat_of_zero_le h0.1
        exact drop_new l hl k (by omega) (fun hk => h ⟨h0.1, h0.2, by rwa [Int.toNat_natCast]⟩) w
      · exact drop_range l hl id h0 w
  · rw [e]; exact drop_none x hn id w
theorem refDropS_any (x : Ls) (id : Int) (w : World) : Calls Try.prog 17 #[.agg (cells x.at), .int .i64 id] w (Ans (dropS x id).1 (dropS x id).2 w) := by
  unfold dropS
  rcases tellS_cases x with ⟨l, e, hl, hc⟩ | ⟨e, hn⟩
  · rw [e, hc]
    dsimp only
    split
    · rename_i h
      obtain ⟨k, rfl⟩ := Int.eq_ofNat_of_zero_le h.1
      rw [Int.toNat_natCast] at *
      exact refDrop_in l hl k h.2.2 w
    · rename_i h
      by_cases h0 : 0 ≤ id ∧ id < 64
      · obtain ⟨k, rfl⟩ := Int.eq_ofNat_of_zero_le h0.1
        exact refDrop_new l hl k (fun hk => h ⟨h0.1, h0.2, by rwa [Int.toNat_natCast]⟩) w
      · exact refDrop_range l hl id h0 w
  · rw [e]; exact refDrop_none x hn id w
theorem lastS_any (x : Ls) (w : World) : Calls Try.prog 18 #[.agg (cells x.at)] w (AnsN (lastS x).1 (lastS x).2 w) := by
  unfold lastS
  rcases tellS_cases x with ⟨l, e, hl, hc⟩ | ⟨e, hn⟩
  · rw [e, hc]
    dsimp only
    rcases List.eq_nil_or_concat l with rfl | ⟨m, b, rfl⟩
    · exact last_nil w
    · rw [List.concat_eq_append] at *
      rw [List.getLast?_append]
      exact last_some m b hl w
  · rw [e]; exact last_none x hn w
theorem refLastS_any (x : Ls) (w : World) : Calls Try.prog 19 #[.agg (cells x.at)] w (AnsN (lastS x).1 (lastS x).2 w) := by
  unfold lastS
  rcases tellS_cases x with ⟨l, e, hl, hc⟩ | ⟨e, hn⟩
  · rw [e, hc]
    dsimp only
    rcases List.eq_nil_or_concat l with rfl | ⟨m, b, rfl⟩
    · exact refLast_nil w
    · rw [List.concat_eq_append] at *
      rw [List.getLast?_append]
      exact refLast_some m b hl w
  · rw [e]; exact refLast_none x hn w
end Go.Proofs.Ytgbhfagmbkoobaa
