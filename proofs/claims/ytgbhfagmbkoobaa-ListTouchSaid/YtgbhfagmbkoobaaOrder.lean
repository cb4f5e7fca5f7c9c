/-
  THE WALK OF list.Order.
-/
import Derived.Test.YtgbhfagmbkoobaaEq
namespace Go.Proofs.Ytgbhfagmbkoobaa
open Go.RowKit
structure LiesB (w : World) (g : Nat) (s : Nat → Bool) : Prop where
  row : w.heap[g]? = some (.cells (row64 (boolR s)) 24 (0, 0))
theorem LiesB.lt {w : World} {g : Nat} {s : Nat → Bool} (h : LiesB w g s) : g < w.heap.size := by
  rcases Nat.lt_or_ge g w.heap.size with q | q
  · exact q
  · have := h.row; rw [Array.getElem?_eq_none q] at this; cases this
theorem LiesB.cell {w : World} {g : Nat} {s : Nat → Bool} (h : LiesB w g s) (i : Nat) (hi : i < 64) : w.cell? ⟨g, i, none⟩ = some (.bool (s i)) := by
  rw [Joins.cell_of_block h.row, row64_get _ _ hi]; rfl
theorem LiesB.fro {w : World} {g : Nat} {s : Nat → Bool} (h : LiesB w g s) (i : Nat) : w.frozen? ⟨g, i, none⟩ = false := Joins.unfrozen_of_block h.row i
theorem LiesB.below {w w1 : World} {g B : Nat} {s : Nat → Bool} (h : LiesB w g s) (hb : Below B w w1) (hg : g < B) : LiesB w1 g s := ⟨by rw [hb.block g hg]; exact h.row⟩
theorem upd_bool (s : Nat → Bool) (i : Nat) (v : Bool) : upd (boolR s) i (.bool v) = boolR (fset s i v) := by
  funext j; unfold upd boolR fset; split <;> rfl
theorem LiesB.set {w : World} {g : Nat} {s : Nat → Bool} (h : LiesB w g s) (i : Nat) (v : Bool) : LiesB (w.setCell ⟨g, i, none⟩ (.bool v)) g (fset s i v) := by
  constructor
  simp only [World.setCell, Array.getElem?_modify, if_true, h.row]
  simp [row64_set, upd_bool]
theorem Lies.setO {w : World} {g : Nat} {c : Nat → Value} (h : Lies w g c) (g' i : Nat) (v : Value) (hne : g ≠ g') : Lies (w.setCell ⟨g', i, none⟩ v) g c := ⟨by rw [Below.heap_setCell _ _ _ _ hne]; exact h.row⟩
set_option maxRecDepth 100000 in
set_option maxHeartbeats 400000 in
theorem fresh_yes (k : Nat) (hk : k < 64) (w : World) (g : Nat) (s : Nat → Bool) (hl : LiesB w g s) (hs : s k = false) : Calls Try.prog 27 #[.int .i64 k, .pointer (some ⟨g, 0, none⟩)] w fun e w' => e = .returned (.bool true) ∧ w = w' := by
  have hi1 : (0 : Int) ≤ (k : Int) := by omega
  have hi2 : (k : Int) < 64 := by omega
  have hi3 : decide (0 ≤ (k : Int) ∧ (k : Int) < 64) = true := by simp; omega
  have hc := hl.cell k hk
  rw [hs] at hc
  clear hl hs
  go_enter Try.func27, Try.ntmps27
  go_wp2_with (first | (go_at_call 24; refine (is_any _ _).mono ?_; rintro e w2 ⟨rfl, rfl⟩; rw [hi3]) | fail)
  go_ret
  exact ⟨rfl, rfl⟩
set_option maxRecDepth 100000 in
set_option maxHeartbeats 400000 in
theorem fresh_in (k : Nat) (hk : k < 64) (w : World) (g : Nat) (s : Nat → Bool) (hl : LiesB w g s) (hs : s k = true) : Calls Try.prog 27 #[.int .i64 k, .pointer (some ⟨g, 0, none⟩)] w fun e w' => e = .returned (.bool false) ∧ w = w' := by
  have hi1 : (0 : Int) ≤ (k : Int) := by omega
  have hi2 : (k : Int) < 64 := by omega
  have hi3 : decide (0 ≤ (k : Int) ∧ (k : Int) < 64) = true := by simp; omega
  have hc := hl.cell k hk
  rw [hs] at hc
  clear hl hs
  go_enter Try.func27, Try.ntmps27
  go_wp2_with (first | (go_at_call 24; refine (is_any _ _).mono ?_; rintro e w2 ⟨rfl, rfl⟩; rw [hi3]) | fail)
  go_ret
  exact ⟨rfl, rfl⟩
set_option maxRecDepth 100000 in
set_option maxHeartbeats 400000 in
theorem fresh_out (id : Int) (hi : ¬ (0 ≤ id ∧ id < 64)) (w : World) (g : Nat) : Calls Try.prog 27 #[.int .i64 id, .pointer (some ⟨g, 0, none⟩)] w fun e w' => e = .returned (.bool false) ∧ w = w' := by
  have hi3 : decide (0 ≤ id ∧ id < 64) = false := decide_eq_false hi
  clear hi
  go_enter Try.func27, Try.ntmps27
  go_wp2_with (first | (go_at_call 24; refine (is_any _ _).mono ?_; rintro e w2 ⟨rfl, rfl⟩; rw [hi3]) | fail)
  go_ret
  exact ⟨rfl, rfl⟩
theorem len_below : ∀ (n : Nat) (l : List Nat), l.Nodup → (∀ a ∈ l, a < n) → l.length ≤ n
  | 0, l, _, h => by
    cases l with
    | nil => simp
    | cons a l => exact absurd (h a (by simp)) (by omega)
  | n + 1, l, hn, h => by
    have h1 : (l.erase n).Nodup := hn.erase n
    have h2 : ∀ a ∈ l.erase n, a < n := fun a ha => by
      have h3 := h a (List.mem_of_mem_erase ha)
      have h4 : a ≠ n := fun e => by
        subst e
        exact (hn.mem_erase_iff.mp ha).1 rfl
      omega
    have ih := len_below n _ h1 h2
    have h5 := List.le_length_erase (l := l) (a := n)
    omega
theorem Valid.len {l : List Nat} (h : Valid l) : l.length ≤ 64 := len_below 64 l h.2 h.1
def hdI : List Nat → Int
  | [] => -1
  | a :: _ => a
theorem hd_told : ∀ l : List Nat, (toldL l).hd = hdI l
  | [] => rfl
  | _ :: _ => rfl
theorem told_nx : ∀ (p : List Nat) (k : Nat) (s : List Nat), (p ++ k :: s).Nodup → (toldL (p ++ k :: s)).nx k = hdI s
  | [], k, s, _ => by
    show fset (toldL s).nx k (toldL s).hd k = _
    rw [hd_told]; simp [fset]
  | y :: p, k, s, hn => by
    have h := List.nodup_cons.mp hn
    have hne : k ≠ y := fun e => h.1 (by subst e; simp)
    show fset (toldL (p ++ k :: s)).nx y _ k = _
    unfold fset
    rw [if_neg hne]
    exact told_nx p k s h.2
/-- so far the numbers l are met, and id is next, whatever tells x -/
def Chain (x : Ls) (l : List Nat) (id : Int) : Prop := ∀ m, Valid m → SameL x (toldL m) → ∃ s, m = l ++ s ∧ id = hdI s
theorem Chain.start (x : Ls) : Chain x [] x.hd := fun m _ hs => ⟨m, rfl, by rw [hs.hd, hd_told]⟩
theorem Chain.step {x : Ls} {l : List Nat} {k : Nat} (hk : k < 64) (h : Chain x l k) : Chain x (l ++ [k]) (x.nx k) := by
  intro m hm hs
  obtain ⟨s, e, h2⟩ := h m hm hs
  cases s with
  | nil => simp [hdI] at h2
  | cons a s =>
    obtain rfl : k = a := by simp [hdI] at h2; omega
    refine ⟨s, by rw [e]; simp, ?_⟩
    rw [hs.nx k hk, e]
    exact told_nx l k s (by rw [← e]; exact hm.2)
theorem Chain.stop_out {x : Ls} {l : List Nat} {id : Int} (h : Chain x l id) (hi : ¬ (0 ≤ id ∧ id < 64)) (m : List Nat) (hm : Valid m) (hs : SameL x (toldL m)) : m = l := by
  obtain ⟨s, e, h2⟩ := h m hm hs
  cases s with
  | nil => simpa using e
  | cons a s =>
    have := hm.1 a (by rw [e]; simp)
    simp [hdI] at h2
    omega
theorem Chain.stop_in {x : Ls} {l : List Nat} {k : Nat} (h : Chain x l k) (hi : k ∈ l) (m : List Nat) (hm : Valid m) (hs : SameL x (toldL m)) : m = l := by
  obtain ⟨s, e, h2⟩ := h m hm hs
  cases s with
  | nil => simpa using e
  | cons a s =>
    obtain rfl : k = a := by simp [hdI] at h2; omega
    have := hm.2
    rw [e, List.nodup_append] at this
    exact absurd rfl (this.2.2 k hi k (by simp))
theorem valid_snoc {l : List Nat} {k : Nat} (h : Valid l) (hk : k < 64) (hn : k ∉ l) : Valid (l ++ [k]) := by
  refine ⟨fun a ha => ?_, ?_⟩
  · rcases List.mem_append.mp ha with ha | ha
    · exact h.1 a ha
    · simp at ha; omega
  · rw [List.nodup_append]
    refine ⟨h.2, by simp, ?_⟩
    rintro a ha b hb rfl
    simp at hb
    subst hb
    exact hn ha
def memB (l : List Nat) : Nat → Bool := fun i => decide (i ∈ l)
theorem memB_snoc (l : List Nat) (k : Nat) : fset (memB l) k true = memB (l ++ [k]) := by
  funext i
  unfold fset memB
  by_cases h : i = k
  · subst h; simp
  · simp [h]
theorem zero24 (w : World) : (zeroValue 24).run Try.prog w = .ok (.agg (row64 (boolR (memB [])))) w := by kernel_rfl
/-- what A points to is not older than the heap was at B -/
def FreshA (A : Option Addr) (B : Nat) : Prop := ∀ a, A = some a → B ≤ a.block
theorem own_fresh {w : World} {base e size n m c : Nat} {A : Option Addr} {xs : List Value} (h : w.ownsRow base e size (.slice A m c) n xs) : FreshA A base := by
  rintro a rfl
  exact (h.lt a.block rfl).1
theorem own_cap {w : World} {base e size n m c : Nat} {A : Option Addr} {xs : List Value} (h : w.ownsRow base e size (.slice A m c) n xs) : n ≤ c := by
  rcases h.2 with ⟨_, h⟩ | ⟨g, cap, cur, hv, _, _, h, _⟩
  · omega
  · injection hv with _ _ hc
    omega
theorem FreshA.mono {A : Option Addr} {B C : Nat} (h : FreshA A B) (hc : C ≤ B) : FreshA A C := fun a ha => Nat.le_trans hc (h a ha)
def OrderSays (x : Ls) (w : World) (e : Ending) (w' : World) : Prop :=
  Below w.heap.size w w' ∧ ((∃ l, Valid l ∧ SameL x (toldL l) ∧ ∃ A c, e = .returned (.tuple #[.slice A l.length c, .bool true]) ∧ RowI w' A (castL l) ∧ FreshA A w.heap.size ∧ l.length ≤ c) ∨
    ((∀ l, Valid l → ¬ SameL x (toldL l)) ∧ e = .returned (.tuple #[.slice none 0 0, .bool false])))
def sliceLen : Value → Nat
  | .slice _ n _ => n
  | _ => 0
theorem one_cell' (w : World) (x : Int) (b : Nat) (hb : b = w.heap.size) : ∀ (j : Nat) (u : Value), [Value.int .i64 x][j]? = some u → (w.alloc (.cells #[.int .i64 x] 3)).cell? ((⟨b, 0, none⟩ : Addr).add j) = some u := by
  subst hb; exact one_cell w x
theorem grown_heap {w w7 : World} {o : Obj} {row : Option Nat} (hg : (w.alloc o).grownBy w7 row) (g : Nat) (hlt : g < w.heap.size) (hne : some g ≠ row) : w7.heap[g]? = w.heap[g]? := by
  rw [hg.block g (by simp; omega) hne, Below.heap_alloc _ _ _ hlt]
theorem below_grown {a w w7 : World} {o : Obj} {v : Value} {B n : Nat} {xs : List Value} (h : Below a.heap.size a w) (ho : w.ownsRow B 3 1 v n xs) (hB : a.heap.size ≤ B) (hg : (w.alloc o).grownBy w7 v.ownBlock) : Below a.heap.size a w7 :=
  Below.grown (h.alloc h.size _) hg (by have := h.size; simp; omega) (fun k hk => Nat.le_trans hB (ho.lt k hk).1)
theorem own_ne {w : World} {B n g : Nat} {v : Value} {xs : List Value} (ho : w.ownsRow B 3 1 v n xs) (hg : g < B) : some g ≠ v.ownBlock := fun e => by have := (ho.lt g e.symm).1; omega
theorem fresh_no (id : Int) (l : List Nat) (h : ¬ ∃ k : Nat, k < 64 ∧ id = (k : Int) ∧ k ∉ l) (w : World) (g : Nat) (hl : LiesB w g (memB l)) : Calls Try.prog 27 #[.int .i64 id, .pointer (some ⟨g, 0, none⟩)] w fun e w' => e = .returned (.bool false) ∧ w = w' := by
  by_cases hr : 0 ≤ id ∧ id < 64
  · obtain ⟨k, rfl⟩ := Int.eq_ofNat_of_zero_le hr.1
    have hk : k < 64 := by omega
    have hin : k ∈ l := Classical.byContradiction fun hn => h ⟨k, hk, rfl, hn⟩
    exact fresh_in k hk w g (memB l) hl (decide_eq_true hin)
  · exact fresh_out id hr w g
theorem Chain.stop {x : Ls} {l : List Nat} {id : Int} (h : Chain x l id) (hf : ¬ ∃ k : Nat, k < 64 ∧ id = (k : Int) ∧ k ∉ l) (m : List Nat) (hm : Valid m) (hs : SameL x (toldL m)) : m = l := by
  by_cases hr : 0 ≤ id ∧ id < 64
  · obtain ⟨k, rfl⟩ := Int.eq_ofNat_of_zero_le hr.1
    have hk : k < 64 := by omega
    have hin : k ∈ l := Classical.byContradiction fun hn => hf ⟨k, hk, rfl, hn⟩
    exact h.stop_in hin m hm hs
  · exact h.stop_out hr m hm hs
theorem castL_len (l : List Nat) : (castL l).length = l.length := by simp [castL]
theorem run_row24 (w : World) (g : Nat) (x : Ls) (h : Lies w g x.at) : (loadVar 24 ⟨g, 128, none⟩).run Try.prog w = .ok (.agg (row64 (boolR x.inn))) w := by
  obtain ⟨i, hi, hz⟩ := Option.map_eq_some_iff.mp info24
  have hl := run_loadCells (P := Try.prog) w ⟨g, 128, none⟩ 64 (boolR x.inn) (fun j hj => by
    have hadd : (⟨g, 128, none⟩ : Addr).add j = ⟨g, 128 + j, none⟩ := by unfold Addr.add; split <;> simp_all
    rw [hadd, h.cell _ (by omega), at_inn _ _ hj]; rfl)
  simp [loadVar, isAgg, run_underlying Try.underlying24, sizeOf, typeInfo, hi, hz, hl, row64]
theorem of_told (A : Option Addr) (c : Nat) (l : List Nat) (hv : Valid l) (w : World) (hr : RowI w A (castL l)) : Calls Try.prog 10 #[.slice A (castL l).length c] w fun e w' => e = .returned (.tuple #[.agg (cells (toldL l).at), .int .i64 0]) ∧ Below w.heap.size w w' :=
  (of_any A c (castL l) (by rw [castL_len]; have := hv.len; omega) w hr).mono fun e w' h => by
    obtain ⟨s, n, rfl, hb, h | h⟩ := h
    · obtain ⟨m, _, e, rfl, rfl⟩ := h
      obtain rfl := castL_inj e
      exact ⟨rfl, hb⟩
    · exact absurd rfl (h.1 l hv)
theorem size24 (c : Nat → Value) : (Try.prog.info? 24).map (·.size) = some (row64 c).size := by rw [row64_size]; exact info24
theorem wpList_load_any {P : Program} {ops : Array Oper} {rest : List Oper} {o : Oper} {a : Act} {w : World} {Q : Exit → Act → World → Prop} (hw : Region.wanted o (yielded ops a.tmps) = true) (ty : TypeId) (x : Operand) (ho : o.op = .load ty x)
    (b off : Nat) (hx : a.eval x = .pointer (some ⟨b, off, none⟩)) (v : Value) (hrun : (loadVar ty ⟨b, off, none⟩).run P w = .ok v w) (h : wpList P ops Q rest (a.put o.dst v) w) : wpList P ops Q (o :: rest) a w := by
  unfold wpList
  rw [if_pos hw]
  refine Or.inl ?_
  unfold Oper.wp execOp
  simp only [ho, hx, Instr.loadAt, Instr.sureAddr, Sem.run_bind, Sem.run_pure, Result.andThen_ok, hrun]
  exact h
theorem LiesB.load {w : World} {g : Nat} {s : Nat → Bool} (h : LiesB w g s) : (loadVar 24 ⟨g, 0, none⟩).run Try.prog w = .ok (.agg (row64 (boolR s))) w :=
  run_loadVar_row w g 24 24 _ (0, 0) _ h.row Try.underlying24 rfl (size24 _)
theorem Lies.load {w : World} {g : Nat} {c : Nat → Value} (h : Lies w g c) : (loadVar 26 ⟨g, 0, none⟩).run Try.prog w = .ok (.agg (cells c)) w :=
  run_loadVar_row w g 26 26 _ (0, 0) _ h.row Try.underlying26 rfl (size26 _)
theorem eqr24 (w : World) (f g : Nat → Bool) (b : Bool) (h : eq64 f g = b) : (Op.equalIn 10000 24 (.agg (row64 (boolR f))) (.agg (row64 (boolR g)))).run Try.prog w = .ok b w := by
  rw [← h]; exact run_eq24 w 9998 f g
theorem eqr26 (w : World) (x y : Ls) (b : Bool) (h : eqB x y = b) : (Op.equalIn 10000 26 (.agg (cells x.at)) (.agg (cells y.at))).run Try.prog w = .ok b w := by
  rw [← h]; exact run_eq26 w 9997 x y
theorem run_op26 (w : World) (o : Oper) (ev : Operand → Value) (x y : Operand) (ho : o.op = .binOp .neq 26 x y 26) (p q : Ls) (hx : ev x = .agg (cells p.at)) (hy : ev y = .agg (cells q.at)) (b : Bool) (hb : eqB p q = b) : (execOp ev o).run Try.prog w = .ok (.value (.bool (!b))) w := by
  unfold execOp
  simp only [ho, hx, hy, Sem.run_bind, run_eqGuard_agg _ _ _ _ _ _ _ guard26, Result.andThen_ok, neq26, hb, Sem.run_pure]
theorem wpList_val_any {P : Program} {ops : Array Oper} {rest : List Oper} {o : Oper} {a : Act} {w : World} {Q : Exit → Act → World → Prop} (hw : Region.wanted o (yielded ops a.tmps) = true) (v : Value)
    (hrun : (execOp a.eval o).run P w = .ok (.value v) w) (h : wpList P ops Q rest (a.put o.dst v) w) : wpList P ops Q (o :: rest) a w := by
  unfold wpList
  rw [if_pos hw]
  refine Or.inl ?_
  unfold Oper.wp
  rw [hrun]
  exact h
theorem wpList_neq26 {ops : Array Oper} {rest : List Oper} {o : Oper} {a : Act} {w : World} {Q : Exit → Act → World → Prop} (hw : Region.wanted o (yielded ops a.tmps) = true) (x y : Operand) (ho : o.op = .binOp .neq 26 x y 26) (p q : Ls) (hx : a.eval x = .agg (cells p.at)) (hy : a.eval y = .agg (cells q.at)) (b : Bool) (hb : eqB p q = b)
    (h : wpList Try.prog ops Q rest (a.put o.dst (.bool (!b))) w) : wpList Try.prog ops Q (o :: rest) a w :=
  wpList_val_any hw _ (run_op26 w o a.eval x y ho p q hx hy b hb) h
attribute [local go_sem] zero26 zero24 cells_get cells_set upd_at at_hd at_tl row64_get row64_set
set_option maxRecDepth 100000 in
set_option maxHeartbeats 1600000 in
theorem order_any (x : Ls) (w : World) : Calls Try.prog 12 #[.agg (cells x.at)] w (OrderSays x w) := by
  obtain ⟨i0, hi, hz0, hz1, hz2⟩ := info_parts info3
  have HI := Lib.hid hi
  have HZ0 := Lib.hid hz0
  have HZ1 := Lib.hid hz1
  have HZ2 := Lib.hid hz2
  clear hi hz0 hz1 hz2
  go_enter Try.func12, Try.ntmps12
  go_wp2_with fail
  go_loopw [2, 6] (fun v i wr => ∃ (l : List Nat) (n : Nat) (id : Int), i = .int .i64 id ∧ wr.ownsRow (w.heap.size + 2) 3 1 v n (ivL (castL l)) ∧ Valid l ∧ LiesB wr (w.heap.size + 1) (memB l) ∧ Lies wr w.heap.size x.at ∧ Below w.heap.size w wr ∧ w.heap.size + 2 ≤ wr.heap.size ∧ Hid (Chain x l id)) (fun v _ _ => 64 - sliceLen v)
  case atStart =>
    refine ⟨[], 0, x.hd, rfl, World.ownsRow_nil _ _ _ _, ⟨by simp, by simp⟩, ⟨heap_last2 _ _ _⟩, ⟨heap_prev _ _ _⟩, ((Below.refl _ _).alloc (Nat.le_refl _) _).alloc (by simp) _, by simp, Lib.hid (Chain.start x)⟩
  case round =>
    rename_i v2 v6
    obtain ⟨l, n, id, rfl, ho, hv, hb, hx, hbe, hsz, HC⟩ := hrel
    have HO := Lib.hid ho
    have HV := Lib.hid hv
    have HB := Lib.hid hb
    have HX := Lib.hid hx
    have HE := Lib.hid hbe
    have HS := Lib.hid hsz
    have hnl : n = l.length := by have := ho.1; simp [ivL, castL] at this; omega
    have HNL := Lib.hid hnl
    have hn64 : n ≤ 64 := by rw [hnl]; exact hv.len
    clear ho hv hb hx hbe hsz hnl
    by_cases hf : ∃ k : Nat, k < 64 ∧ id = (k : Int) ∧ k ∉ l
    · obtain ⟨k, hk, rfl, hin⟩ := hf
      have hn63 : n < 64 := by
        have := (valid_snoc HV.out hk hin).len
        rw [List.length_append] at this
        have := HNL.out
        simp at *
        omega
      have HIN := Lib.hid hin
      clear hin
      have hk1 : (0 : Int) ≤ (k : Int) := by omega
      have hk2 : (k : Int) < 64 := by omega
      have hcell := HB.out.cell k hk
      have hfro := HB.out.fro k
      have HO2 := Lib.hid (ownsRow_setCell_below HO.out (a := ⟨w.heap.size + 1, k, none⟩) (by show w.heap.size + 1 < _; omega) (.bool true))
      have HB2 := Lib.hid (HB.out.set k true)
      have HX2 := Lib.hid (HX.out.setO (w.heap.size + 1) k (.bool true) (by omega))
      have HE2 := Lib.hid (HE.out.setCell (p := ⟨w.heap.size + 1, k, none⟩) (by show w.heap.size ≤ w.heap.size + 1; omega) (.bool true))
      have hwz : (wr.setCell ⟨w.heap.size + 1, k, none⟩ (.bool true)).heap.size = wr.heap.size := by simp
      have HWZ := Lib.hid hwz
      clear hwz
      go_wp2_with (first
        | (go_at_call 27; refine (fresh_yes k hk _ _ (memB l) HB.out (decide_eq_false HIN.out)).mono ?_; rintro e w2 ⟨rfl, rfl⟩)
        | (at_builtin; refine wpList_append_own _ rfl (.tmp 21) (.tmp 23) 22 rfl (w.heap.size + 2) 3 i0 (.int .i64 0) 1 8 Try.underlying22 HI.out HZ0.out HZ1.out HZ2.out rfl (by decide) _ n _ rfl (HO2.out.alloc _) ⟨wr.heap.size, 0, none⟩ 1 1 [.int .i64 (k : Int)] rfl rfl ?c1 ?c2 ?c3 ?c4 ?c5 ?_)
        | fail)
      case c1 => exact one_cell' _ k _ HWZ.out.symm
      case c2 => intro u hu; simp at hu; subst hu; rfl
      case c3 => unfold maxLen; omega
      case c4 => omega
      case c5 => have := HS.out; simp; omega
      intro v7 w7 hown7 hgrow7 _
      have HX7 : Hid (Lies w7 w.heap.size x.at) := Lib.hid ⟨by rw [grown_heap hgrow7 _ (by have := HS.out; simp; omega) (own_ne HO2.out (by omega))]; exact HX2.out.row⟩
      have HB7 : Hid (LiesB w7 (w.heap.size + 1) (memB (l ++ [k]))) := Lib.hid ⟨by rw [grown_heap hgrow7 _ (by have := HS.out; simp; omega) (own_ne HO2.out (by omega)), ← memB_snoc]; exact HB2.out.row⟩
      have HE7 := Lib.hid (below_grown HE2.out HO2.out (by omega) hgrow7)
      have HS7 : Hid (w.heap.size + 2 ≤ w7.heap.size) := by have h1 := hgrow7.size; have h2 := HS.out; simp at h1; exact Lib.hid (by omega)
      have HO7 := Lib.hid hown7
      have hc7 : w7.cell? ⟨w.heap.size, k, none⟩ = some (.int .i64 (x.nx k)) := by rw [HX7.out.cell _ (by omega), at_nx _ _ hk]
      clear hown7 hgrow7 HX2 HB2 HE2 HO2 hcell hfro HWZ
      go_wp2_with fail
      obtain ⟨A7, c7, hv7⟩ := own_slice HO7.out
      obtain ⟨A2, c2, hv2⟩ := own_slice HO.out
      go_roundw
      case rel =>
        refine ⟨l ++ [k], n + 1, x.nx k, rfl, ?_, valid_snoc HV.out hk HIN.out, HB7.out, HX7.out, HE7.out, HS7.out, Lib.hid (HC.out.step hk)⟩
        have h := HO7.out
        rw [ivL, castL, List.map_append, List.map_append]
        exact h
      case measure => rw [hv7, hv2]; simp [sliceLen]; omega
    · obtain ⟨A2, c2, rfl⟩ := own_slice HO.out
      obtain ⟨_, A', c', he, hrow⟩ := RowI.own HO.out
      have HROW : Hid (RowI wr A2 (castL l)) := by injection he with h1 h2 h3; subst h1; exact Lib.hid hrow
      have HF := Lib.hid hf
      obtain rfl : n = (castL l).length := by rw [castL_len]; exact HNL.out
      have HFR : Hid (FreshA A2 w.heap.size ∧ l.length ≤ c2) := Lib.hid ⟨(own_fresh HO.out).mono (by omega), by rw [← castL_len]; exact own_cap HO.out⟩
      clear he hrow hf A' c'
      go_wp2_with (first
        | (go_at_call 27; refine (fresh_no id l HF.out _ _ HB.out).mono ?_; rintro e w2 ⟨rfl, rfl⟩)
        | fail)
      refine (of_told A2 c2 l HV.out _ HROW.out).mono ?_
      rintro e w3 ⟨rfl, hb3⟩
      have HB3 := Lib.hid (LiesB.below HB.out hb3 HB.out.lt)
      have HX3 := Lib.hid (Lies.below HX.out hb3)
      have HE3 := Lib.hid (HE.out.trans (hb3.mono HE.out.size))
      have HR3 := Lib.hid (HROW.out.below hb3)
      clear hb3 HB HX HE HROW HS HO
      have HB4 := Lib.hid (HB3.out.below ((Below.refl w3.heap.size w3).alloc (Nat.le_refl _) (.cells (cells (toldL l).at) 26)) HB3.out.lt)
      have HX4 := Lib.hid (HX3.out.below ((Below.refl w3.heap.size w3).alloc (Nat.le_refl _) (.cells (cells (toldL l).at) 26)))
      have HT4 := Lib.hid (Lies.new w3 (toldL l).at)
      have HR4 := Lib.hid (HR3.out.below ((Below.refl w3.heap.size w3).alloc (Nat.le_refl _) (.cells (cells (toldL l).at) 26)))
      have HE4 := Lib.hid (HE3.out.alloc HE3.out.size (.cells (cells (toldL l).at) 26))
      have hg24 := guard24
      have hg26 := guard26
      by_cases h24 : eq64 (memB l) x.inn = true
      · have hq24 := eqr24 (w3.alloc (.cells (cells (toldL l).at) 26)) (memB l) x.inn true h24
        by_cases h26 : eqB (toldL l) x = true
        · have H26 := Lib.hid h26
          have HSAME := Lib.hid ((eqB_iff _ _).mp h26).symm
          clear h24 h26
          go_wp2_with (first
            | (refine wpList_store_row rfl 26 (.tmp 7) (.tmp 28) rfl w3.heap.size _ rfl rfl 26 _ (heap_alloc_last _ _) (size26 _) (size_same _ _) (Flat.all (Flat.at _)) ?_; rw [World.setRow_alloc_new])
            | (refine wpList_load_any (by kernel_rfl) 24 (.tmp 4) rfl (w.heap.size + 1) 0 rfl _ HB4.out.load ?_)
            | (refine wpList_load_any (by kernel_rfl) 24 (.tmp 34) rfl w.heap.size 128 rfl _ (run_row24 _ _ _ HX4.out) ?_)
            | (refine wpList_load_any (by kernel_rfl) 26 (.tmp 7) rfl w3.heap.size 0 rfl _ HT4.out.load ?_)
            | (refine wpList_load_any (by kernel_rfl) 26 (.tmp 1) rfl w.heap.size 0 rfl _ HX4.out.load ?_)
            | (refine wpList_neq26 (by kernel_rfl) (.tmp 39) (.tmp 40) rfl (toldL l) x rfl rfl true H26.out ?_; simp only [Bool.not_true])
            | fail)
          go_ret2
          exact ⟨HE4.out, Or.inl ⟨l, HV.out, HSAME.out, A2, c2, by rw [castL_len]; rfl, HR4.out, HFR.out⟩⟩
        · have h26' : eqB (toldL l) x = false := by simpa using h26
          have H26 := Lib.hid h26'
          have HNOT : Hid (∀ m, Valid m → ¬ SameL x (toldL m)) := Lib.hid fun m hm hs => h26 ((eqB_iff _ _).mpr (by
            obtain rfl := HC.out.stop HF.out m hm hs
            exact hs.symm))
          clear h24 h26 h26'
          go_wp2_with (first
            | (refine wpList_store_row rfl 26 (.tmp 7) (.tmp 28) rfl w3.heap.size _ rfl rfl 26 _ (heap_alloc_last _ _) (size26 _) (size_same _ _) (Flat.all (Flat.at _)) ?_; rw [World.setRow_alloc_new])
            | (refine wpList_load_any (by kernel_rfl) 24 (.tmp 4) rfl (w.heap.size + 1) 0 rfl _ HB4.out.load ?_)
            | (refine wpList_load_any (by kernel_rfl) 24 (.tmp 34) rfl w.heap.size 128 rfl _ (run_row24 _ _ _ HX4.out) ?_)
            | (refine wpList_load_any (by kernel_rfl) 26 (.tmp 7) rfl w3.heap.size 0 rfl _ HT4.out.load ?_)
            | (refine wpList_load_any (by kernel_rfl) 26 (.tmp 1) rfl w.heap.size 0 rfl _ HX4.out.load ?_)
            | (refine wpList_neq26 (by kernel_rfl) (.tmp 39) (.tmp 40) rfl (toldL l) x rfl rfl false H26.out ?_; simp only [Bool.not_false])
            | fail)
          go_ret2
          exact ⟨HE4.out, Or.inr ⟨HNOT.out, rfl⟩⟩
      · have h24' : eq64 (memB l) x.inn = false := by simpa using h24
        have hq24 := eqr24 (w3.alloc (.cells (cells (toldL l).at) 26)) (memB l) x.inn false h24'
        have HNOT : Hid (∀ m, Valid m → ¬ SameL x (toldL m)) := Lib.hid fun m hm hs => h24 ((eq64_iff _ _).mpr (fun i hi => by
          obtain rfl := HC.out.stop HF.out m hm hs
          rw [hs.inn i hi, told_inn]; rfl))
        clear h24 h24'
        go_wp2_with (first
            | (refine wpList_store_row rfl 26 (.tmp 7) (.tmp 28) rfl w3.heap.size _ rfl rfl 26 _ (heap_alloc_last _ _) (size26 _) (size_same _ _) (Flat.all (Flat.at _)) ?_; rw [World.setRow_alloc_new])
            | (refine wpList_load_any (by kernel_rfl) 24 (.tmp 4) rfl (w.heap.size + 1) 0 rfl _ HB4.out.load ?_)
            | (refine wpList_load_any (by kernel_rfl) 24 (.tmp 34) rfl w.heap.size 128 rfl _ (run_row24 _ _ _ HX4.out) ?_)
            | fail)

        go_ret2
        exact ⟨HE4.out, Or.inr ⟨HNOT.out, rfl⟩⟩
end Go.Proofs.Ytgbhfagmbkoobaa
