/-
  No cell of these rows narrows 'for every input' (looked for: loops, veiled, ifaces, maps, wideKeys, modest, calm, conditions, laid).
  DERIVED. THE GIVEN ROWS OF THIS SEAT. 3 by the template 'for every input the law returns true; each argument reads behind the call as it read before'; 0 by the template 'total and deterministic' (their statements: YtjnoohnkcadjiaaTotals.lean).
  GIVEN WITH THE SEED: the statements are not yours to turn. If you find one false, say at which input.
  Laid BY PROGRAM, IN A SANDBOX (cutbox-rows.mjs): the forced cells as the released guide's own fill.sh prints them over the translation 28f6a6741517fea4… (all of the seat's roots in one cut). By AI agents, Wed Nov 11 2026. No macro, syntax, notation, axiom, sorry.
-/
import Derived.Test.YtjnoohnkcadjiaaChecked
import GoSem.Claim
import GoSem.ClaimJoined
import GoSem.ClaimMapViews
import Derived.JoinedTies
import Derived.KernelRfl
namespace Go.Proofs.Ytjnoohnkcadjiaa
/- THE CELL 'sum', in the pinned program and in every row, IS THE sha256 OF THE DUMP (.gsa) THAT YtjnoohnkcadjiaaProg.lean LOADS. Nothing in Lean hashes anything: it is a label: what it is worth is what the hold of that sum in a sandbox is worth. -/
noncomputable def Try.pinned : Pinned := { name := "ytjnoohnkcadjiaa", sum := "28f6a6741517fea4e7c8c74c69e07579c8f3da0d1ef8d7af2bdf7794b873bb36", checked := Try.checked }
namespace Rows
def none {H : Type} : Left H := { results := [], args := [] }

/-- 'ginnellaw36.MailboxValidatesCapacity': WHATEVER THE INPUT: true; the input reads as it did. -/
def mailboxValidatesCapacitySpec : ChangeSpec := { name := "mailboxValidatesCapacity", fn := fun _ => fun
  | [d] => { results := [.lit (.bool true)], args := [d] }
  | _ => none }
def mailboxValidatesCapacityRow : OpenClaim := { program := "ytjnoohnkcadjiaa", sum := "28f6a6741517fea4e7c8c74c69e07579c8f3da0d1ef8d7af2bdf7794b873bb36", func := "ginnel/ginnellaw36.MailboxValidatesCapacity", spec := "mailboxValidatesCapacity", apart := false }
def MailboxValidatesCapacitySaid : Prop := mailboxValidatesCapacityRow.holds Try.pinned (OpenSpec.ofChange mailboxValidatesCapacitySpec)

/-- ITS FALSE NEIGHBOUR: 'it returns false'. Refute it at one input. -/
def mailboxValidatesCapacityWrong : ChangeSpec := { name := "mailboxValidatesCapacity", fn := fun _ => fun
  | [d] => { results := [.lit (.bool false)], args := [d] }
  | _ => none }
def MailboxValidatesCapacityWrongFalsely : Prop := mailboxValidatesCapacityRow.holds Try.pinned (OpenSpec.ofChange mailboxValidatesCapacityWrong)

/-- 'ginnellaw36.MailboxMatchesModel': WHATEVER THE INPUT: true; the input reads as it did. -/
def mailboxMatchesModelSpec : ChangeSpec := { name := "mailboxMatchesModel", fn := fun _ => fun
  | [d1, d2] => { results := [.lit (.bool true)], args := [d1, d2] }
  | _ => none }
def mailboxMatchesModelRow : OpenClaim := { program := "ytjnoohnkcadjiaa", sum := "28f6a6741517fea4e7c8c74c69e07579c8f3da0d1ef8d7af2bdf7794b873bb36", func := "ginnel/ginnellaw36.MailboxMatchesModel", spec := "mailboxMatchesModel", apart := false }
def MailboxMatchesModelSaid : Prop := mailboxMatchesModelRow.holds Try.pinned (OpenSpec.ofChange mailboxMatchesModelSpec)

/-- ITS FALSE NEIGHBOUR: 'it returns false'. Refute it at one input. -/
def mailboxMatchesModelWrong : ChangeSpec := { name := "mailboxMatchesModel", fn := fun _ => fun
  | [d1, d2] => { results := [.lit (.bool false)], args := [d1, d2] }
  | _ => none }
def MailboxMatchesModelWrongFalsely : Prop := mailboxMatchesModelRow.holds Try.pinned (OpenSpec.ofChange mailboxMatchesModelWrong)

/-- 'ginnellaw36.MailboxReceivesFromFirstNonempty': WHATEVER THE INPUT: true; the input reads as it did. -/
def mailboxReceivesFromFirstNonemptySpec : ChangeSpec := { name := "mailboxReceivesFromFirstNonempty", fn := fun _ => fun
  | [d1, d2] => { results := [.lit (.bool true)], args := [d1, d2] }
  | _ => none }
def mailboxReceivesFromFirstNonemptyRow : OpenClaim := { program := "ytjnoohnkcadjiaa", sum := "28f6a6741517fea4e7c8c74c69e07579c8f3da0d1ef8d7af2bdf7794b873bb36", func := "ginnel/ginnellaw36.MailboxReceivesFromFirstNonempty", spec := "mailboxReceivesFromFirstNonempty", apart := false }
def MailboxReceivesFromFirstNonemptySaid : Prop := mailboxReceivesFromFirstNonemptyRow.holds Try.pinned (OpenSpec.ofChange mailboxReceivesFromFirstNonemptySpec)

/-- ITS FALSE NEIGHBOUR: 'it returns false'. Refute it at one input. -/
def mailboxReceivesFromFirstNonemptyWrong : ChangeSpec := { name := "mailboxReceivesFromFirstNonempty", fn := fun _ => fun
  | [d1, d2] => { results := [.lit (.bool false)], args := [d1, d2] }
  | _ => none }
def MailboxReceivesFromFirstNonemptyWrongFalsely : Prop := mailboxReceivesFromFirstNonemptyRow.holds Try.pinned (OpenSpec.ofChange mailboxReceivesFromFirstNonemptyWrong)

/- THE SECOND FORM. 'bulk': how many values and letters a reading holds, each counted each time it is reached (what is shared counts as often as it is met; a slice's spare places count too). A statement '..UptoSaid' is the law's where the arguments, and the package variables that the reading takes, are together of bulk at most 1048576: NARROWER than '..Said'. Prove '..Said' where nothing that the law and all that it calls make is longer than what came in: it says more and counts as full. Else prove '..UptoSaid'. A law counts once. -/
mutual
def uptoBulk {H : Type} : DataW H → Nat
  | .lit (.string bytes) => bytes.length + 1
  | .lit _ => 1
  | .nil => 1
  | .ptr d => uptoBulk d + 1
  | .slice elems spare => uptoBulkAll elems + uptoBulkAll spare + 1
  | .agg parts => uptoBulkAll parts + 1
  | .iface _ d => uptoBulk d + 1
  | .map entries => uptoBulkEntries entries + 1
  | .held _ => 1
def uptoBulkAll {H : Type} : List (DataW H) → Nat
  | [] => 0
  | d :: r => uptoBulk d + uptoBulkAll r
def uptoBulkEntries {H : Type} : List (Lit × DataW H) → Nat
  | [] => 0
  | x :: r => uptoBulkEntry x + uptoBulkEntries r
def uptoBulkEntry {H : Type} : Lit × DataW H → Nat
  | (.string bytes, d) => bytes.length + uptoBulk d + 1
  | (_, d) => uptoBulk d + 1
 end
def uptoSmall : (H : Type) → List (DataW H) → Bool := fun _ ds => decide (uptoBulkAll ds ≤ 1048576)
def OpenSpec.upto (s : _root_.Go.ChangeSpec) : _root_.Go.OpenSpec := { _root_.Go.OpenSpec.ofChange s with cond := some uptoSmall }

/-- 'ginnellaw36.MailboxValidatesCapacity', WHERE WHAT IT READS IS OF BULK AT MOST 1048576: true; the input reads as it did. -/
def mailboxValidatesCapacityUptoRow : OpenClaim := { program := "ytjnoohnkcadjiaa", sum := "28f6a6741517fea4e7c8c74c69e07579c8f3da0d1ef8d7af2bdf7794b873bb36", func := "ginnel/ginnellaw36.MailboxValidatesCapacity", spec := "mailboxValidatesCapacity", apart := false, narrowed := true }
def MailboxValidatesCapacityUptoSaid : Prop := mailboxValidatesCapacityUptoRow.holds Try.pinned (OpenSpec.upto mailboxValidatesCapacitySpec)

/-- 'ginnellaw36.MailboxMatchesModel', WHERE WHAT IT READS IS OF BULK AT MOST 1048576: true; the input reads as it did. -/
def mailboxMatchesModelUptoRow : OpenClaim := { program := "ytjnoohnkcadjiaa", sum := "28f6a6741517fea4e7c8c74c69e07579c8f3da0d1ef8d7af2bdf7794b873bb36", func := "ginnel/ginnellaw36.MailboxMatchesModel", spec := "mailboxMatchesModel", apart := false, narrowed := true }
def MailboxMatchesModelUptoSaid : Prop := mailboxMatchesModelUptoRow.holds Try.pinned (OpenSpec.upto mailboxMatchesModelSpec)

/-- 'ginnellaw36.MailboxReceivesFromFirstNonempty', WHERE WHAT IT READS IS OF BULK AT MOST 1048576: true; the input reads as it did. -/
def mailboxReceivesFromFirstNonemptyUptoRow : OpenClaim := { program := "ytjnoohnkcadjiaa", sum := "28f6a6741517fea4e7c8c74c69e07579c8f3da0d1ef8d7af2bdf7794b873bb36", func := "ginnel/ginnellaw36.MailboxReceivesFromFirstNonempty", spec := "mailboxReceivesFromFirstNonempty", apart := false, narrowed := true }
def MailboxReceivesFromFirstNonemptyUptoSaid : Prop := mailboxReceivesFromFirstNonemptyUptoRow.holds Try.pinned (OpenSpec.upto mailboxReceivesFromFirstNonemptySpec)

end Rows
end Go.Proofs.Ytjnoohnkcadjiaa
