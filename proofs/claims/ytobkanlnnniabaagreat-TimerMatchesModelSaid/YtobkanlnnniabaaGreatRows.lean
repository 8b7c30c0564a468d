/-
  No cell of these rows narrows 'for every input' (looked for: loops, veiled, ifaces, maps, wideKeys, modest, calm, conditions, laid).
  DERIVED. THE GIVEN ROWS OF THIS SEAT. 1 by the template 'for every input the law returns true; each argument reads behind the call as it read before'; 0 by the template 'total and deterministic' (their statements: YtobkanlnnniabaaGreatTotals.lean).
  GIVEN WITH THE SEED: the statements are not yours to turn. If you find one false, say at which input.
  Laid BY PROGRAM, IN A SANDBOX (cutbox-rows.mjs): the forced cells as the released guide's own fill.sh prints them over the translation c2d5d72e80ab4a19… (all of the seat's roots in one cut). By AI agents, Wed Nov 11 2026. No macro, syntax, notation, axiom, sorry.
-/
import Derived.Test.YtobkanlnnniabaaGreatChecked
import GoSem.Claim
import GoSem.ClaimJoined
import GoSem.ClaimMapViews
import Derived.JoinedTies
import Derived.KernelRfl
namespace Go.Proofs.YtobkanlnnniabaaGreat
/- THE CELL 'sum', in the pinned program and in every row, IS THE sha256 OF THE DUMP (.gsa) THAT YtobkanlnnniabaaGreatProg.lean LOADS. Nothing in Lean hashes anything: it is a label: what it is worth is what the hold of that sum in a sandbox is worth. -/
noncomputable def Tryz.pinned : Pinned := { name := "ytobkanlnnniabaagreat", sum := "c2d5d72e80ab4a19002bbea8a733e0a72dc09557c60f6e8c36c0cb965c24614e", checked := Tryz.checked }
namespace Rows
def none {H : Type} : Left H := { results := [], args := [] }

/-- 'ginnellaw03.TimerMatchesModel': WHATEVER THE INPUT: true; the input reads as it did. -/
def timerMatchesModelSpec : ChangeSpec := { name := "timerMatchesModel", fn := fun _ => fun
  | [d] => { results := [.lit (.bool true)], args := [d] }
  | _ => none }
def timerMatchesModelRow : OpenClaim := { program := "ytobkanlnnniabaagreat", sum := "c2d5d72e80ab4a19002bbea8a733e0a72dc09557c60f6e8c36c0cb965c24614e", func := "ginnel/ginnellaw03.TimerMatchesModel", spec := "timerMatchesModel", unfollowed := true, recurses := true, apart := false }
def TimerMatchesModelSaid : Prop := timerMatchesModelRow.holds Tryz.pinned (OpenSpec.ofChange timerMatchesModelSpec)

/-- ITS FALSE NEIGHBOUR: 'it returns false'. Refute it at one input. -/
def timerMatchesModelWrong : ChangeSpec := { name := "timerMatchesModel", fn := fun _ => fun
  | [d] => { results := [.lit (.bool false)], args := [d] }
  | _ => none }
def TimerMatchesModelWrongFalsely : Prop := timerMatchesModelRow.holds Tryz.pinned (OpenSpec.ofChange timerMatchesModelWrong)

/- THE SECOND FORM. 'bulk': how many values and letters a reading holds, each counted each time it is reached (what is shared counts as often as it is met; a slice's spare places count too). A statement '..UptoSaid' is the law's where the arguments, and the package variables that the reading takes, are together of bulk at most 1048576: NARROWER than '..Said'. Prove '..Said' where nothing that the law and all that it calls make is longer than what came in: it says more and counts as full. Else prove '..UptoSaid'. A law counts once. -/
mutual
def uptoBulk {H : Type} : DataW H → Nat
  | .lit (.string bytes) => bytes.length + 1
  | .lit _ => 1
  | .nil => 1
  | .ptr d => uptoBulk d + 1
  | .slice elems spare => uptoBulkAll elems + uptoBulkAll spare + 1
  | .agg parts => uptoBulkAll parts + 1
  | .iface _ d => uptoBulk d + 1
  | .map entries => uptoBulkEntries entries + 1
  | .held _ => 1
def uptoBulkAll {H : Type} : List (DataW H) → Nat
  | [] => 0
  | d :: r => uptoBulk d + uptoBulkAll r
def uptoBulkEntries {H : Type} : List (Lit × DataW H) → Nat
  | [] => 0
  | x :: r => uptoBulkEntry x + uptoBulkEntries r
def uptoBulkEntry {H : Type} : Lit × DataW H → Nat
  | (.string bytes, d) => bytes.length + uptoBulk d + 1
  | (_, d) => uptoBulk d + 1
 end
def uptoSmall : (H : Type) → List (DataW H) → Bool := fun _ ds => decide (uptoBulkAll ds ≤ 1048576)
def OpenSpec.upto (s : _root_.Go.ChangeSpec) : _root_.Go.OpenSpec := { _root_.Go.OpenSpec.ofChange s with cond := some uptoSmall }

/-- 'ginnellaw03.TimerMatchesModel', WHERE WHAT IT READS IS OF BULK AT MOST 1048576: true; the input reads as it did. -/
def timerMatchesModelUptoRow : OpenClaim := { program := "ytobkanlnnniabaagreat", sum := "c2d5d72e80ab4a19002bbea8a733e0a72dc09557c60f6e8c36c0cb965c24614e", func := "ginnel/ginnellaw03.TimerMatchesModel", spec := "timerMatchesModel", unfollowed := true, recurses := true, apart := false, narrowed := true }
def TimerMatchesModelUptoSaid : Prop := timerMatchesModelUptoRow.holds Tryz.pinned (OpenSpec.upto timerMatchesModelSpec)

end Rows
end Go.Proofs.YtobkanlnnniabaaGreat
