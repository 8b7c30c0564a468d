/-
  No cell of these rows narrows 'for every input' (looked for: loops, veiled, ifaces, maps, wideKeys, modest, calm, conditions, laid).
  DERIVED. THE GIVEN ROWS OF THIS SEAT. 5 by the template 'for every input the law returns true; each argument reads behind the call as it read before'; 0 by the template 'total and deterministic' (their statements: YtpbabdoecjlifaaTotals.lean).
  GIVEN WITH THE SEED: the statements are not yours to turn. If you find one false, say at which input.
  Laid BY PROGRAM, IN A SANDBOX (cutbox-rows.mjs): the forced cells as the released guide's own fill.sh prints them over the translation b05fd8453b7bf30b… (all of the seat's roots in one cut). By AI agents, Wed Nov 11 2026. No macro, syntax, notation, axiom, sorry.
-/
import Derived.Test.YtpbabdoecjlifaaChecked
import GoSem.Claim
import GoSem.ClaimJoined
import GoSem.ClaimMapViews
import Derived.JoinedTies
import Derived.KernelRfl
namespace Go.Proofs.Ytpbabdoecjlifaa
/- THE CELL 'sum', in the pinned program and in every row, IS THE sha256 OF THE DUMP (.gsa) THAT YtpbabdoecjlifaaProg.lean LOADS. Nothing in Lean hashes anything: it is a label: what it is worth is what the hold of that sum in a sandbox is worth. -/
noncomputable def Try.pinned : Pinned := { name := "ytpbabdoecjlifaa", sum := "b05fd8453b7bf30bd5f742c420b85bbb1526ffa2dab115463caf42acfba5ef46", checked := Try.checked }
namespace Rows
def none {H : Type} : Left H := { results := [], args := [] }

/-- 'ginnellaw02.HeapMatchesModel': WHATEVER THE INPUT: true; the input reads as it did. -/
def heapMatchesModelSpec : ChangeSpec := { name := "heapMatchesModel", fn := fun _ => fun
  | [d] => { results := [.lit (.bool true)], args := [d] }
  | _ => none }
def heapMatchesModelRow : OpenClaim := { program := "ytpbabdoecjlifaa", sum := "b05fd8453b7bf30bd5f742c420b85bbb1526ffa2dab115463caf42acfba5ef46", func := "ginnel/ginnellaw02.HeapMatchesModel", spec := "heapMatchesModel", unfollowed := true, recurses := true, apart := false }
def HeapMatchesModelSaid : Prop := heapMatchesModelRow.holds Try.pinned (OpenSpec.ofChange heapMatchesModelSpec)

/-- ITS FALSE NEIGHBOUR: 'it returns false'. Refute it at one input. -/
def heapMatchesModelWrong : ChangeSpec := { name := "heapMatchesModel", fn := fun _ => fun
  | [d] => { results := [.lit (.bool false)], args := [d] }
  | _ => none }
def HeapMatchesModelWrongFalsely : Prop := heapMatchesModelRow.holds Try.pinned (OpenSpec.ofChange heapMatchesModelWrong)

/-- 'ginnellaw02.HeapPopsInOrder': WHATEVER THE INPUT: true; the input reads as it did. -/
def heapPopsInOrderSpec : ChangeSpec := { name := "heapPopsInOrder", fn := fun _ => fun
  | [d] => { results := [.lit (.bool true)], args := [d] }
  | _ => none }
def heapPopsInOrderRow : OpenClaim := { program := "ytpbabdoecjlifaa", sum := "b05fd8453b7bf30bd5f742c420b85bbb1526ffa2dab115463caf42acfba5ef46", func := "ginnel/ginnellaw02.HeapPopsInOrder", spec := "heapPopsInOrder", unfollowed := true, recurses := true, apart := false }
def HeapPopsInOrderSaid : Prop := heapPopsInOrderRow.holds Try.pinned (OpenSpec.ofChange heapPopsInOrderSpec)

/-- ITS FALSE NEIGHBOUR: 'it returns false'. Refute it at one input. -/
def heapPopsInOrderWrong : ChangeSpec := { name := "heapPopsInOrder", fn := fun _ => fun
  | [d] => { results := [.lit (.bool false)], args := [d] }
  | _ => none }
def HeapPopsInOrderWrongFalsely : Prop := heapPopsInOrderRow.holds Try.pinned (OpenSpec.ofChange heapPopsInOrderWrong)

/-- 'ginnellaw02.HeapInstancesIndependent': WHATEVER THE INPUT: true; the input reads as it did. -/
def heapInstancesIndependentSpec : ChangeSpec := { name := "heapInstancesIndependent", fn := fun _ => fun
  | [d1, d2] => { results := [.lit (.bool true)], args := [d1, d2] }
  | _ => none }
def heapInstancesIndependentRow : OpenClaim := { program := "ytpbabdoecjlifaa", sum := "b05fd8453b7bf30bd5f742c420b85bbb1526ffa2dab115463caf42acfba5ef46", func := "ginnel/ginnellaw02.HeapInstancesIndependent", spec := "heapInstancesIndependent", unfollowed := true, recurses := true, apart := false }
def HeapInstancesIndependentSaid : Prop := heapInstancesIndependentRow.holds Try.pinned (OpenSpec.ofChange heapInstancesIndependentSpec)

/-- ITS FALSE NEIGHBOUR: 'it returns false'. Refute it at one input. -/
def heapInstancesIndependentWrong : ChangeSpec := { name := "heapInstancesIndependent", fn := fun _ => fun
  | [d1, d2] => { results := [.lit (.bool false)], args := [d1, d2] }
  | _ => none }
def HeapInstancesIndependentWrongFalsely : Prop := heapInstancesIndependentRow.holds Try.pinned (OpenSpec.ofChange heapInstancesIndependentWrong)

/-- 'ginnellaw02.HeapOrderInvariant': WHATEVER THE INPUT: true; the input reads as it did. -/
def heapOrderInvariantSpec : ChangeSpec := { name := "heapOrderInvariant", fn := fun _ => fun
  | [d] => { results := [.lit (.bool true)], args := [d] }
  | _ => none }
def heapOrderInvariantRow : OpenClaim := { program := "ytpbabdoecjlifaa", sum := "b05fd8453b7bf30bd5f742c420b85bbb1526ffa2dab115463caf42acfba5ef46", func := "ginnel/ginnellaw02.HeapOrderInvariant", spec := "heapOrderInvariant", unfollowed := true, recurses := true, apart := false }
def HeapOrderInvariantSaid : Prop := heapOrderInvariantRow.holds Try.pinned (OpenSpec.ofChange heapOrderInvariantSpec)

/-- ITS FALSE NEIGHBOUR: 'it returns false'. Refute it at one input. -/
def heapOrderInvariantWrong : ChangeSpec := { name := "heapOrderInvariant", fn := fun _ => fun
  | [d] => { results := [.lit (.bool false)], args := [d] }
  | _ => none }
def HeapOrderInvariantWrongFalsely : Prop := heapOrderInvariantRow.holds Try.pinned (OpenSpec.ofChange heapOrderInvariantWrong)

/-- 'ginnellaw02.HeapHandleLookup': WHATEVER THE INPUT: true; the input reads as it did. -/
def heapHandleLookupSpec : ChangeSpec := { name := "heapHandleLookup", fn := fun _ => fun
  | [d1, d2, d3] => { results := [.lit (.bool true)], args := [d1, d2, d3] }
  | _ => none }
def heapHandleLookupRow : OpenClaim := { program := "ytpbabdoecjlifaa", sum := "b05fd8453b7bf30bd5f742c420b85bbb1526ffa2dab115463caf42acfba5ef46", func := "ginnel/ginnellaw02.HeapHandleLookup", spec := "heapHandleLookup", unfollowed := true, recurses := true, apart := false }
def HeapHandleLookupSaid : Prop := heapHandleLookupRow.holds Try.pinned (OpenSpec.ofChange heapHandleLookupSpec)

/-- ITS FALSE NEIGHBOUR: 'it returns false'. Refute it at one input. -/
def heapHandleLookupWrong : ChangeSpec := { name := "heapHandleLookup", fn := fun _ => fun
  | [d1, d2, d3] => { results := [.lit (.bool false)], args := [d1, d2, d3] }
  | _ => none }
def HeapHandleLookupWrongFalsely : Prop := heapHandleLookupRow.holds Try.pinned (OpenSpec.ofChange heapHandleLookupWrong)

/- THE SECOND FORM. 'bulk': how many values and letters a reading holds, each counted each time it is reached (what is shared counts as often as it is met; a slice's spare places count too). A statement '..UptoSaid' is the law's where the arguments, and the package variables that the reading takes, are together of bulk at most 1048576: NARROWER than '..Said'. Prove '..Said' where nothing that the law and all that it calls make is longer than what came in: it says more and counts as full. Else prove '..UptoSaid'. A law counts once. -/
mutual
def uptoBulk {H : Type} : DataW H → Nat
  | .lit (.string bytes) => bytes.length + 1
  | .lit _ => 1
  | .nil => 1
  | .ptr d => uptoBulk d + 1
  | .slice elems spare => uptoBulkAll elems + uptoBulkAll spare + 1
  | .agg parts => uptoBulkAll parts + 1
  | .iface _ d => uptoBulk d + 1
  | .map entries => uptoBulkEntries entries + 1
  | .held _ => 1
def uptoBulkAll {H : Type} : List (DataW H) → Nat
  | [] => 0
  | d :: r => uptoBulk d + uptoBulkAll r
def uptoBulkEntries {H : Type} : List (Lit × DataW H) → Nat
  | [] => 0
  | x :: r => uptoBulkEntry x + uptoBulkEntries r
def uptoBulkEntry {H : Type} : Lit × DataW H → Nat
  | (.string bytes, d) => bytes.length + uptoBulk d + 1
  | (_, d) => uptoBulk d + 1
 end
def uptoSmall : (H : Type) → List (DataW H) → Bool := fun _ ds => decide (uptoBulkAll ds ≤ 1048576)
def OpenSpec.upto (s : _root_.Go.ChangeSpec) : _root_.Go.OpenSpec := { _root_.Go.OpenSpec.ofChange s with cond := some uptoSmall }

/-- 'ginnellaw02.HeapMatchesModel', WHERE WHAT IT READS IS OF BULK AT MOST 1048576: true; the input reads as it did. -/
def heapMatchesModelUptoRow : OpenClaim := { program := "ytpbabdoecjlifaa", sum := "b05fd8453b7bf30bd5f742c420b85bbb1526ffa2dab115463caf42acfba5ef46", func := "ginnel/ginnellaw02.HeapMatchesModel", spec := "heapMatchesModel", unfollowed := true, recurses := true, apart := false, narrowed := true }
def HeapMatchesModelUptoSaid : Prop := heapMatchesModelUptoRow.holds Try.pinned (OpenSpec.upto heapMatchesModelSpec)

/-- 'ginnellaw02.HeapPopsInOrder', WHERE WHAT IT READS IS OF BULK AT MOST 1048576: true; the input reads as it did. -/
def heapPopsInOrderUptoRow : OpenClaim := { program := "ytpbabdoecjlifaa", sum := "b05fd8453b7bf30bd5f742c420b85bbb1526ffa2dab115463caf42acfba5ef46", func := "ginnel/ginnellaw02.HeapPopsInOrder", spec := "heapPopsInOrder", unfollowed := true, recurses := true, apart := false, narrowed := true }
def HeapPopsInOrderUptoSaid : Prop := heapPopsInOrderUptoRow.holds Try.pinned (OpenSpec.upto heapPopsInOrderSpec)

/-- 'ginnellaw02.HeapInstancesIndependent', WHERE WHAT IT READS IS OF BULK AT MOST 1048576: true; the input reads as it did. -/
def heapInstancesIndependentUptoRow : OpenClaim := { program := "ytpbabdoecjlifaa", sum := "b05fd8453b7bf30bd5f742c420b85bbb1526ffa2dab115463caf42acfba5ef46", func := "ginnel/ginnellaw02.HeapInstancesIndependent", spec := "heapInstancesIndependent", unfollowed := true, recurses := true, apart := false, narrowed := true }
def HeapInstancesIndependentUptoSaid : Prop := heapInstancesIndependentUptoRow.holds Try.pinned (OpenSpec.upto heapInstancesIndependentSpec)

/-- 'ginnellaw02.HeapOrderInvariant', WHERE WHAT IT READS IS OF BULK AT MOST 1048576: true; the input reads as it did. -/
def heapOrderInvariantUptoRow : OpenClaim := { program := "ytpbabdoecjlifaa", sum := "b05fd8453b7bf30bd5f742c420b85bbb1526ffa2dab115463caf42acfba5ef46", func := "ginnel/ginnellaw02.HeapOrderInvariant", spec := "heapOrderInvariant", unfollowed := true, recurses := true, apart := false, narrowed := true }
def HeapOrderInvariantUptoSaid : Prop := heapOrderInvariantUptoRow.holds Try.pinned (OpenSpec.upto heapOrderInvariantSpec)

/-- 'ginnellaw02.HeapHandleLookup', WHERE WHAT IT READS IS OF BULK AT MOST 1048576: true; the input reads as it did. -/
def heapHandleLookupUptoRow : OpenClaim := { program := "ytpbabdoecjlifaa", sum := "b05fd8453b7bf30bd5f742c420b85bbb1526ffa2dab115463caf42acfba5ef46", func := "ginnel/ginnellaw02.HeapHandleLookup", spec := "heapHandleLookup", unfollowed := true, recurses := true, apart := false, narrowed := true }
def HeapHandleLookupUptoSaid : Prop := heapHandleLookupUptoRow.holds Try.pinned (OpenSpec.upto heapHandleLookupSpec)

end Rows
end Go.Proofs.Ytpbabdoecjlifaa
