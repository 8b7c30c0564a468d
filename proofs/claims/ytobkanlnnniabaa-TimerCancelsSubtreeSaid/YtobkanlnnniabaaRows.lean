/-
  No cell of these rows narrows 'for every input' (looked for: loops, veiled, ifaces, maps, wideKeys, modest, calm, conditions, laid).
  DERIVED. THE GIVEN ROWS OF THIS SEAT. 4 by the template 'for every input the law returns true; each argument reads behind the call as it read before'; 0 by the template 'total and deterministic' (their statements: YtobkanlnnniabaaTotals.lean).
  GIVEN WITH THE SEED: the statements are not yours to turn. If you find one false, say at which input.
  Laid BY PROGRAM, IN A SANDBOX (cutbox-rows.mjs): the forced cells as the released guide's own fill.sh prints them over the translation f2b5c3c5f18ec795… (all of the seat's roots in one cut). By AI agents, Wed Nov 11 2026. No macro, syntax, notation, axiom, sorry.
-/
import Derived.Test.YtobkanlnnniabaaChecked
import GoSem.Claim
import GoSem.ClaimJoined
import GoSem.ClaimMapViews
import Derived.JoinedTies
import Derived.KernelRfl
namespace Go.Proofs.Ytobkanlnnniabaa
/- THE CELL 'sum', in the pinned program and in every row, IS THE sha256 OF THE DUMP (.gsa) THAT YtobkanlnnniabaaProg.lean LOADS. Nothing in Lean hashes anything: it is a label: what it is worth is what the hold of that sum in a sandbox is worth. -/
noncomputable def Try.pinned : Pinned := { name := "ytobkanlnnniabaa", sum := "f2b5c3c5f18ec795f65bb55be3434b4c0e1dea6cd8aa7066601b5e4021c443e2", checked := Try.checked }
namespace Rows
def none {H : Type} : Left H := { results := [], args := [] }

/-- 'ginnellaw03.TimerExpiryOrder': WHATEVER THE INPUT: true; the input reads as it did. -/
def timerExpiryOrderSpec : ChangeSpec := { name := "timerExpiryOrder", fn := fun _ => fun
  | [d1, d2] => { results := [.lit (.bool true)], args := [d1, d2] }
  | _ => none }
def timerExpiryOrderRow : OpenClaim := { program := "ytobkanlnnniabaa", sum := "f2b5c3c5f18ec795f65bb55be3434b4c0e1dea6cd8aa7066601b5e4021c443e2", func := "ginnel/ginnellaw03.TimerExpiryOrder", spec := "timerExpiryOrder", unfollowed := true, recurses := true, apart := false }
def TimerExpiryOrderSaid : Prop := timerExpiryOrderRow.holds Try.pinned (OpenSpec.ofChange timerExpiryOrderSpec)

/-- ITS FALSE NEIGHBOUR: 'it returns false'. Refute it at one input. -/
def timerExpiryOrderWrong : ChangeSpec := { name := "timerExpiryOrder", fn := fun _ => fun
  | [d1, d2] => { results := [.lit (.bool false)], args := [d1, d2] }
  | _ => none }
def TimerExpiryOrderWrongFalsely : Prop := timerExpiryOrderRow.holds Try.pinned (OpenSpec.ofChange timerExpiryOrderWrong)

/-- 'ginnellaw03.TimerHandlesUnique': WHATEVER THE INPUT: true; the input reads as it did. -/
def timerHandlesUniqueSpec : ChangeSpec := { name := "timerHandlesUnique", fn := fun _ => fun
  | [d1, d2] => { results := [.lit (.bool true)], args := [d1, d2] }
  | _ => none }
def timerHandlesUniqueRow : OpenClaim := { program := "ytobkanlnnniabaa", sum := "f2b5c3c5f18ec795f65bb55be3434b4c0e1dea6cd8aa7066601b5e4021c443e2", func := "ginnel/ginnellaw03.TimerHandlesUnique", spec := "timerHandlesUnique", unfollowed := true, recurses := true, apart := false }
def TimerHandlesUniqueSaid : Prop := timerHandlesUniqueRow.holds Try.pinned (OpenSpec.ofChange timerHandlesUniqueSpec)

/-- ITS FALSE NEIGHBOUR: 'it returns false'. Refute it at one input. -/
def timerHandlesUniqueWrong : ChangeSpec := { name := "timerHandlesUnique", fn := fun _ => fun
  | [d1, d2] => { results := [.lit (.bool false)], args := [d1, d2] }
  | _ => none }
def TimerHandlesUniqueWrongFalsely : Prop := timerHandlesUniqueRow.holds Try.pinned (OpenSpec.ofChange timerHandlesUniqueWrong)

/-- 'ginnellaw03.TimerCancelsSubtree': WHATEVER THE INPUT: true; the input reads as it did. -/
def timerCancelsSubtreeSpec : ChangeSpec := { name := "timerCancelsSubtree", fn := fun _ => fun
  | [d1, d2] => { results := [.lit (.bool true)], args := [d1, d2] }
  | _ => none }
def timerCancelsSubtreeRow : OpenClaim := { program := "ytobkanlnnniabaa", sum := "f2b5c3c5f18ec795f65bb55be3434b4c0e1dea6cd8aa7066601b5e4021c443e2", func := "ginnel/ginnellaw03.TimerCancelsSubtree", spec := "timerCancelsSubtree", unfollowed := true, recurses := true, apart := false }
def TimerCancelsSubtreeSaid : Prop := timerCancelsSubtreeRow.holds Try.pinned (OpenSpec.ofChange timerCancelsSubtreeSpec)

/-- ITS FALSE NEIGHBOUR: 'it returns false'. Refute it at one input. -/
def timerCancelsSubtreeWrong : ChangeSpec := { name := "timerCancelsSubtree", fn := fun _ => fun
  | [d1, d2] => { results := [.lit (.bool false)], args := [d1, d2] }
  | _ => none }
def TimerCancelsSubtreeWrongFalsely : Prop := timerCancelsSubtreeRow.holds Try.pinned (OpenSpec.ofChange timerCancelsSubtreeWrong)

/-- 'ginnellaw03.TimerNeverAfterParent': WHATEVER THE INPUT: true; the input reads as it did. -/
def timerNeverAfterParentSpec : ChangeSpec := { name := "timerNeverAfterParent", fn := fun _ => fun
  | [d1, d2, d3] => { results := [.lit (.bool true)], args := [d1, d2, d3] }
  | _ => none }
def timerNeverAfterParentRow : OpenClaim := { program := "ytobkanlnnniabaa", sum := "f2b5c3c5f18ec795f65bb55be3434b4c0e1dea6cd8aa7066601b5e4021c443e2", func := "ginnel/ginnellaw03.TimerNeverAfterParent", spec := "timerNeverAfterParent", unfollowed := true, recurses := true, apart := false }
def TimerNeverAfterParentSaid : Prop := timerNeverAfterParentRow.holds Try.pinned (OpenSpec.ofChange timerNeverAfterParentSpec)

/-- ITS FALSE NEIGHBOUR: 'it returns false'. Refute it at one input. -/
def timerNeverAfterParentWrong : ChangeSpec := { name := "timerNeverAfterParent", fn := fun _ => fun
  | [d1, d2, d3] => { results := [.lit (.bool false)], args := [d1, d2, d3] }
  | _ => none }
def TimerNeverAfterParentWrongFalsely : Prop := timerNeverAfterParentRow.holds Try.pinned (OpenSpec.ofChange timerNeverAfterParentWrong)

/- THE SECOND FORM. 'bulk': how many values and letters a reading holds, each counted each time it is reached (what is shared counts as often as it is met; a slice's spare places count too). A statement '..UptoSaid' is the law's where the arguments, and the package variables that the reading takes, are together of bulk at most 1048576: NARROWER than '..Said'. Prove '..Said' where nothing that the law and all that it calls make is longer than what came in: it says more and counts as full. Else prove '..UptoSaid'. A law counts once. -/
mutual
def uptoBulk {H : Type} : DataW H → Nat
  | .lit (.string bytes) => bytes.length + 1
  | .lit _ => 1
  | .nil => 1
  | .ptr d => uptoBulk d + 1
  | .slice elems spare => uptoBulkAll elems + uptoBulkAll spare + 1
  | .agg parts => uptoBulkAll parts + 1
  | .iface _ d => uptoBulk d + 1
  | .map entries => uptoBulkEntries entries + 1
  | .held _ => 1
def uptoBulkAll {H : Type} : List (DataW H) → Nat
  | [] => 0
  | d :: r => uptoBulk d + uptoBulkAll r
def uptoBulkEntries {H : Type} : List (Lit × DataW H) → Nat
  | [] => 0
  | x :: r => uptoBulkEntry x + uptoBulkEntries r
def uptoBulkEntry {H : Type} : Lit × DataW H → Nat
  | (.string bytes, d) => bytes.length + uptoBulk d + 1
  | (_, d) => uptoBulk d + 1
 end
def uptoSmall : (H : Type) → List (DataW H) → Bool := fun _ ds => decide (uptoBulkAll ds ≤ 1048576)
def OpenSpec.upto (s : _root_.Go.ChangeSpec) : _root_.Go.OpenSpec := { _root_.Go.OpenSpec.ofChange s with cond := some uptoSmall }

/-- 'ginnellaw03.TimerExpiryOrder', WHERE WHAT IT READS IS OF BULK AT MOST 1048576: true; the input reads as it did. -/
def timerExpiryOrderUptoRow : OpenClaim := { program := "ytobkanlnnniabaa", sum := "f2b5c3c5f18ec795f65bb55be3434b4c0e1dea6cd8aa7066601b5e4021c443e2", func := "ginnel/ginnellaw03.TimerExpiryOrder", spec := "timerExpiryOrder", unfollowed := true, recurses := true, apart := false, narrowed := true }
def TimerExpiryOrderUptoSaid : Prop := timerExpiryOrderUptoRow.holds Try.pinned (OpenSpec.upto timerExpiryOrderSpec)

/-- 'ginnellaw03.TimerHandlesUnique', WHERE WHAT IT READS IS OF BULK AT MOST 1048576: true; the input reads as it did. -/
def timerHandlesUniqueUptoRow : OpenClaim := { program := "ytobkanlnnniabaa", sum := "f2b5c3c5f18ec795f65bb55be3434b4c0e1dea6cd8aa7066601b5e4021c443e2", func := "ginnel/ginnellaw03.TimerHandlesUnique", spec := "timerHandlesUnique", unfollowed := true, recurses := true, apart := false, narrowed := true }
def TimerHandlesUniqueUptoSaid : Prop := timerHandlesUniqueUptoRow.holds Try.pinned (OpenSpec.upto timerHandlesUniqueSpec)

/-- 'ginnellaw03.TimerCancelsSubtree', WHERE WHAT IT READS IS OF BULK AT MOST 1048576: true; the input reads as it did. -/
def timerCancelsSubtreeUptoRow : OpenClaim := { program := "ytobkanlnnniabaa", sum := "f2b5c3c5f18ec795f65bb55be3434b4c0e1dea6cd8aa7066601b5e4021c443e2", func := "ginnel/ginnellaw03.TimerCancelsSubtree", spec := "timerCancelsSubtree", unfollowed := true, recurses := true, apart := false, narrowed := true }
def TimerCancelsSubtreeUptoSaid : Prop := timerCancelsSubtreeUptoRow.holds Try.pinned (OpenSpec.upto timerCancelsSubtreeSpec)

/-- 'ginnellaw03.TimerNeverAfterParent', WHERE WHAT IT READS IS OF BULK AT MOST 1048576: true; the input reads as it did. -/
def timerNeverAfterParentUptoRow : OpenClaim := { program := "ytobkanlnnniabaa", sum := "f2b5c3c5f18ec795f65bb55be3434b4c0e1dea6cd8aa7066601b5e4021c443e2", func := "ginnel/ginnellaw03.TimerNeverAfterParent", spec := "timerNeverAfterParent", unfollowed := true, recurses := true, apart := false, narrowed := true }
def TimerNeverAfterParentUptoSaid : Prop := timerNeverAfterParentUptoRow.holds Try.pinned (OpenSpec.upto timerNeverAfterParentSpec)

end Rows
end Go.Proofs.Ytobkanlnnniabaa
