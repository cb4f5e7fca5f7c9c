/-
  No cell of these rows narrows 'for every input' (looked for: loops, veiled, ifaces, maps, wideKeys, modest, calm, conditions, laid).
  DERIVED. THE GIVEN ROWS OF THIS SEAT. 6 by the template 'for every input the law returns true; each argument reads behind the call as it read before'; 0 by the template 'total and deterministic' (their statements: YtgbhfagmbkoobaaTotals.lean).
  GIVEN WITH THE SEED: the statements are not yours to turn. If you find one false, say at which input.
  Laid BY PROGRAM, IN A SANDBOX (cutbox-rows.mjs): the forced cells as the released guide's own fill.sh prints them over the translation 7c4f41678311af17… (all of the seat's roots in one cut). By AI agents, Wed Nov 11 2026. No macro, syntax, notation, axiom, sorry.
-/
import Derived.Test.YtgbhfagmbkoobaaChecked
import GoSem.Claim
import GoSem.ClaimJoined
import GoSem.ClaimMapViews
import Derived.JoinedTies
import Derived.KernelRfl
namespace Go.Proofs.Ytgbhfagmbkoobaa
/- THE CELL 'sum', in the pinned program and in every row, IS THE sha256 OF THE DUMP (.gsa) THAT YtgbhfagmbkoobaaProg.lean LOADS. Nothing in Lean hashes anything: it is a label: what it is worth is what the hold of that sum in a sandbox is worth. -/
noncomputable def Try.pinned : Pinned := { name := "ytgbhfagmbkoobaa", sum := "7c4f41678311af17b692ad184bcdcd7ea4475bef432653e3f795322c477309b0", checked := Try.checked }
namespace Rows
def none {H : Type} : Left H := { results := [], args := [] }

/-- 'linhaylaw15.ListTells': WHATEVER THE INPUT: true; the input reads as it did. -/
def listTellsSpec : ChangeSpec := { name := "listTells", fn := fun _ => fun
  | [d1, d2, d3] => { results := [.lit (.bool true)], args := [d1, d2, d3] }
  | _ => none }
def listTellsRow : OpenClaim := { program := "ytgbhfagmbkoobaa", sum := "7c4f41678311af17b692ad184bcdcd7ea4475bef432653e3f795322c477309b0", func := "linhay/linhaylaw15.ListTells", spec := "listTells", unfollowed := true, recurses := true, apart := false }
def ListTellsSaid : Prop := listTellsRow.holds Try.pinned (OpenSpec.ofChange listTellsSpec)

/-- ITS FALSE NEIGHBOUR: 'it returns false'. Refute it at one input. -/
def listTellsWrong : ChangeSpec := { name := "listTells", fn := fun _ => fun
  | [d1, d2, d3] => { results := [.lit (.bool false)], args := [d1, d2, d3] }
  | _ => none }
def ListTellsWrongFalsely : Prop := listTellsRow.holds Try.pinned (OpenSpec.ofChange listTellsWrong)

/-- 'linhaylaw15.ListUses': WHATEVER THE INPUT: true; the input reads as it did. -/
def listUsesSpec : ChangeSpec := { name := "listUses", fn := fun _ => fun
  | [d] => { results := [.lit (.bool true)], args := [d] }
  | _ => none }
def listUsesRow : OpenClaim := { program := "ytgbhfagmbkoobaa", sum := "7c4f41678311af17b692ad184bcdcd7ea4475bef432653e3f795322c477309b0", func := "linhay/linhaylaw15.ListUses", spec := "listUses", unfollowed := true, recurses := true, apart := false }
def ListUsesSaid : Prop := listUsesRow.holds Try.pinned (OpenSpec.ofChange listUsesSpec)

/-- ITS FALSE NEIGHBOUR: 'it returns false'. Refute it at one input. -/
def listUsesWrong : ChangeSpec := { name := "listUses", fn := fun _ => fun
  | [d] => { results := [.lit (.bool false)], args := [d] }
  | _ => none }
def ListUsesWrongFalsely : Prop := listUsesRow.holds Try.pinned (OpenSpec.ofChange listUsesWrong)

/-- 'linhaylaw15.ListBack': WHATEVER THE INPUT: true; the input reads as it did. -/
def listBackSpec : ChangeSpec := { name := "listBack", fn := fun _ => fun
  | [d1, d2] => { results := [.lit (.bool true)], args := [d1, d2] }
  | _ => none }
def listBackRow : OpenClaim := { program := "ytgbhfagmbkoobaa", sum := "7c4f41678311af17b692ad184bcdcd7ea4475bef432653e3f795322c477309b0", func := "linhay/linhaylaw15.ListBack", spec := "listBack", unfollowed := true, recurses := true, apart := false }
def ListBackSaid : Prop := listBackRow.holds Try.pinned (OpenSpec.ofChange listBackSpec)

/-- ITS FALSE NEIGHBOUR: 'it returns false'. Refute it at one input. -/
def listBackWrong : ChangeSpec := { name := "listBack", fn := fun _ => fun
  | [d1, d2] => { results := [.lit (.bool false)], args := [d1, d2] }
  | _ => none }
def ListBackWrongFalsely : Prop := listBackRow.holds Try.pinned (OpenSpec.ofChange listBackWrong)

/-- 'linhaylaw15.ListDrains': WHATEVER THE INPUT: true; the input reads as it did. -/
def listDrainsSpec : ChangeSpec := { name := "listDrains", fn := fun _ => fun
  | [d] => { results := [.lit (.bool true)], args := [d] }
  | _ => none }
def listDrainsRow : OpenClaim := { program := "ytgbhfagmbkoobaa", sum := "7c4f41678311af17b692ad184bcdcd7ea4475bef432653e3f795322c477309b0", func := "linhay/linhaylaw15.ListDrains", spec := "listDrains", unfollowed := true, recurses := true, apart := false }
def ListDrainsSaid : Prop := listDrainsRow.holds Try.pinned (OpenSpec.ofChange listDrainsSpec)

/-- ITS FALSE NEIGHBOUR: 'it returns false'. Refute it at one input. -/
def listDrainsWrong : ChangeSpec := { name := "listDrains", fn := fun _ => fun
  | [d] => { results := [.lit (.bool false)], args := [d] }
  | _ => none }
def ListDrainsWrongFalsely : Prop := listDrainsRow.holds Try.pinned (OpenSpec.ofChange listDrainsWrong)

/-- 'linhaylaw15.ListTouch': WHATEVER THE INPUT: true; the input reads as it did. -/
def listTouchSpec : ChangeSpec := { name := "listTouch", fn := fun _ => fun
  | [d1, d2] => { results := [.lit (.bool true)], args := [d1, d2] }
  | _ => none }
def listTouchRow : OpenClaim := { program := "ytgbhfagmbkoobaa", sum := "7c4f41678311af17b692ad184bcdcd7ea4475bef432653e3f795322c477309b0", func := "linhay/linhaylaw15.ListTouch", spec := "listTouch", unfollowed := true, recurses := true, apart := false }
def ListTouchSaid : Prop := listTouchRow.holds Try.pinned (OpenSpec.ofChange listTouchSpec)

/-- ITS FALSE NEIGHBOUR: 'it returns false'. Refute it at one input. -/
def listTouchWrong : ChangeSpec := { name := "listTouch", fn := fun _ => fun
  | [d1, d2] => { results := [.lit (.bool false)], args := [d1, d2] }
  | _ => none }
def ListTouchWrongFalsely : Prop := listTouchRow.holds Try.pinned (OpenSpec.ofChange listTouchWrong)

/-- 'linhaylaw15.ListTurns': WHATEVER THE INPUT: true; the input reads as it did. -/
def listTurnsSpec : ChangeSpec := { name := "listTurns", fn := fun _ => fun
  | [d] => { results := [.lit (.bool true)], args := [d] }
  | _ => none }
def listTurnsRow : OpenClaim := { program := "ytgbhfagmbkoobaa", sum := "7c4f41678311af17b692ad184bcdcd7ea4475bef432653e3f795322c477309b0", func := "linhay/linhaylaw15.ListTurns", spec := "listTurns", unfollowed := true, recurses := true, apart := false }
def ListTurnsSaid : Prop := listTurnsRow.holds Try.pinned (OpenSpec.ofChange listTurnsSpec)

/-- ITS FALSE NEIGHBOUR: 'it returns false'. Refute it at one input. -/
def listTurnsWrong : ChangeSpec := { name := "listTurns", fn := fun _ => fun
  | [d] => { results := [.lit (.bool false)], args := [d] }
  | _ => none }
def ListTurnsWrongFalsely : Prop := listTurnsRow.holds Try.pinned (OpenSpec.ofChange listTurnsWrong)

/- THE SECOND FORM. 'bulk': how many values and letters a reading holds, each counted each time it is reached (what is shared counts as often as it is met; a slice's spare places count too). A statement '..UptoSaid' is the law's where the arguments, and the package variables that the reading takes, are together of bulk at most 1048576: NARROWER than '..Said'. Prove '..Said' where nothing that the law and all that it calls make is longer than what came in: it says more and counts as full. Else prove '..UptoSaid'. A law counts once. -/
mutual
def uptoBulk {H : Type} : DataW H → Nat
  | .lit (.string bytes) => bytes.length + 1
  | .lit _ => 1
  | .nil => 1
  | .ptr d => uptoBulk d + 1
  | .slice elems spare => uptoBulkAll elems + uptoBulkAll spare + 1
  | .agg parts => uptoBulkAll parts + 1
  | .iface _ d => uptoBulk d + 1
  | .map entries => uptoBulkEntries entries + 1
  | .held _ => 1
def uptoBulkAll {H : Type} : List (DataW H) → Nat
  | [] => 0
  | d :: r => uptoBulk d + uptoBulkAll r
def uptoBulkEntries {H : Type} : List (Lit × DataW H) → Nat
  | [] => 0
  | x :: r => uptoBulkEntry x + uptoBulkEntries r
def uptoBulkEntry {H : Type} : Lit × DataW H → Nat
  | (.string bytes, d) => bytes.length + uptoBulk d + 1
  | (_, d) => uptoBulk d + 1
 end
def uptoSmall : (H : Type) → List (DataW H) → Bool := fun _ ds => decide (uptoBulkAll ds ≤ 1048576)
def OpenSpec.upto (s : _root_.Go.ChangeSpec) : _root_.Go.OpenSpec := { _root_.Go.OpenSpec.ofChange s with cond := some uptoSmall }

/-- 'linhaylaw15.ListTells', WHERE WHAT IT READS IS OF BULK AT MOST 1048576: true; the input reads as it did. -/
def listTellsUptoRow : OpenClaim := { program := "ytgbhfagmbkoobaa", sum := "7c4f41678311af17b692ad184bcdcd7ea4475bef432653e3f795322c477309b0", func := "linhay/linhaylaw15.ListTells", spec := "listTells", unfollowed := true, recurses := true, apart := false, narrowed := true }
def ListTellsUptoSaid : Prop := listTellsUptoRow.holds Try.pinned (OpenSpec.upto listTellsSpec)

/-- 'linhaylaw15.ListUses', WHERE WHAT IT READS IS OF BULK AT MOST 1048576: true; the input reads as it did. -/
def listUsesUptoRow : OpenClaim := { program := "ytgbhfagmbkoobaa", sum := "7c4f41678311af17b692ad184bcdcd7ea4475bef432653e3f795322c477309b0", func := "linhay/linhaylaw15.ListUses", spec := "listUses", unfollowed := true, recurses := true, apart := false, narrowed := true }
def ListUsesUptoSaid : Prop := listUsesUptoRow.holds Try.pinned (OpenSpec.upto listUsesSpec)

/-- 'linhaylaw15.ListBack', WHERE WHAT IT READS IS OF BULK AT MOST 1048576: true; the input reads as it did. -/
def listBackUptoRow : OpenClaim := { program := "ytgbhfagmbkoobaa", sum := "7c4f41678311af17b692ad184bcdcd7ea4475bef432653e3f795322c477309b0", func := "linhay/linhaylaw15.ListBack", spec := "listBack", unfollowed := true, recurses := true, apart := false, narrowed := true }
def ListBackUptoSaid : Prop := listBackUptoRow.holds Try.pinned (OpenSpec.upto listBackSpec)

/-- 'linhaylaw15.ListDrains', WHERE WHAT IT READS IS OF BULK AT MOST 1048576: true; the input reads as it did. -/
def listDrainsUptoRow : OpenClaim := { program := "ytgbhfagmbkoobaa", sum := "7c4f41678311af17b692ad184bcdcd7ea4475bef432653e3f795322c477309b0", func := "linhay/linhaylaw15.ListDrains", spec := "listDrains", unfollowed := true, recurses := true, apart := false, narrowed := true }
def ListDrainsUptoSaid : Prop := listDrainsUptoRow.holds Try.pinned (OpenSpec.upto listDrainsSpec)

/-- 'linhaylaw15.ListTouch', WHERE WHAT IT READS IS OF BULK AT MOST 1048576: true; the input reads as it did. -/
def listTouchUptoRow : OpenClaim := { program := "ytgbhfagmbkoobaa", sum := "7c4f41678311af17b692ad184bcdcd7ea4475bef432653e3f795322c477309b0", func := "linhay/linhaylaw15.ListTouch", spec := "listTouch", unfollowed := true, recurses := true, apart := false, narrowed := true }
def ListTouchUptoSaid : Prop := listTouchUptoRow.holds Try.pinned (OpenSpec.upto listTouchSpec)

/-- 'linhaylaw15.ListTurns', WHERE WHAT IT READS IS OF BULK AT MOST 1048576: true; the input reads as it did. -/
def listTurnsUptoRow : OpenClaim := { program := "ytgbhfagmbkoobaa", sum := "7c4f41678311af17b692ad184bcdcd7ea4475bef432653e3f795322c477309b0", func := "linhay/linhaylaw15.ListTurns", spec := "listTurns", unfollowed := true, recurses := true, apart := false, narrowed := true }
def ListTurnsUptoSaid : Prop := listTurnsUptoRow.holds Try.pinned (OpenSpec.upto listTurnsSpec)

end Rows
end Go.Proofs.Ytgbhfagmbkoobaa
