/-
  No cell of these rows narrows 'for every input' (looked for: loops, veiled, ifaces, maps, wideKeys, modest, calm, conditions, laid).
  DERIVED. THE GIVEN ROWS OF THIS SEAT. 3 by the template 'for every input the law returns true; each argument reads behind the call as it read before'; 0 by the template 'total and deterministic' (their statements: YtmdnkhpkpmbeoaaTotals.lean).
  GIVEN WITH THE SEED: the statements are not yours to turn. If you find one false, say at which input.
  Laid BY PROGRAM, IN A SANDBOX (cutbox-rows.mjs): the forced cells as the released guide's own fill.sh prints them over the translation f0279e576d618644… (all of the seat's roots in one cut). By AI agents, Wed Nov 11 2026. No macro, syntax, notation, axiom, sorry.
-/
import Derived.Test.YtmdnkhpkpmbeoaaChecked
import GoSem.Claim
import GoSem.ClaimJoined
import GoSem.ClaimMapViews
import Derived.JoinedTies
import Derived.KernelRfl
namespace Go.Proofs.Ytmdnkhpkpmbeoaa
/- THE CELL 'sum', in the pinned program and in every row, IS THE sha256 OF THE DUMP (.gsa) THAT YtmdnkhpkpmbeoaaProg.lean LOADS. Nothing in Lean hashes anything: it is a label: what it is worth is what the hold of that sum in a sandbox is worth. -/
noncomputable def Try.pinned : Pinned := { name := "ytmdnkhpkpmbeoaa", sum := "f0279e576d618644fa3e7b69acf68b91dfabc6626137557397d5fadd249cd4a4", checked := Try.checked }
namespace Rows
def none {H : Type} : Left H := { results := [], args := [] }

/-- 'ginnellaw34.TraceMatchesModel': WHATEVER THE INPUT: true; the input reads as it did. -/
def traceMatchesModelSpec : ChangeSpec := { name := "traceMatchesModel", fn := fun _ => fun
  | [d1, d2] => { results := [.lit (.bool true)], args := [d1, d2] }
  | _ => none }
def traceMatchesModelRow : OpenClaim := { program := "ytmdnkhpkpmbeoaa", sum := "f0279e576d618644fa3e7b69acf68b91dfabc6626137557397d5fadd249cd4a4", func := "ginnel/ginnellaw34.TraceMatchesModel", spec := "traceMatchesModel", unfollowed := true, recurses := true, plainKeys := false, apart := false }
def TraceMatchesModelSaid : Prop := traceMatchesModelRow.holds Try.pinned (OpenSpec.ofChange traceMatchesModelSpec)

/-- ITS FALSE NEIGHBOUR: 'it returns false'. Refute it at one input. -/
def traceMatchesModelWrong : ChangeSpec := { name := "traceMatchesModel", fn := fun _ => fun
  | [d1, d2] => { results := [.lit (.bool false)], args := [d1, d2] }
  | _ => none }
def TraceMatchesModelWrongFalsely : Prop := traceMatchesModelRow.holds Try.pinned (OpenSpec.ofChange traceMatchesModelWrong)

/-- 'ginnellaw34.TraceConnectionsIndependent': WHATEVER THE INPUT: true; the input reads as it did. -/
def traceConnectionsIndependentSpec : ChangeSpec := { name := "traceConnectionsIndependent", fn := fun _ => fun
  | [d1, d2] => { results := [.lit (.bool true)], args := [d1, d2] }
  | _ => none }
def traceConnectionsIndependentRow : OpenClaim := { program := "ytmdnkhpkpmbeoaa", sum := "f0279e576d618644fa3e7b69acf68b91dfabc6626137557397d5fadd249cd4a4", func := "ginnel/ginnellaw34.TraceConnectionsIndependent", spec := "traceConnectionsIndependent", unfollowed := true, recurses := true, plainKeys := false, apart := false }
def TraceConnectionsIndependentSaid : Prop := traceConnectionsIndependentRow.holds Try.pinned (OpenSpec.ofChange traceConnectionsIndependentSpec)

/-- ITS FALSE NEIGHBOUR: 'it returns false'. Refute it at one input. -/
def traceConnectionsIndependentWrong : ChangeSpec := { name := "traceConnectionsIndependent", fn := fun _ => fun
  | [d1, d2] => { results := [.lit (.bool false)], args := [d1, d2] }
  | _ => none }
def TraceConnectionsIndependentWrongFalsely : Prop := traceConnectionsIndependentRow.holds Try.pinned (OpenSpec.ofChange traceConnectionsIndependentWrong)

/-- 'ginnellaw34.TraceDoesNotAlias': WHATEVER THE INPUT: true; the input reads as it did. -/
def traceDoesNotAliasSpec : ChangeSpec := { name := "traceDoesNotAlias", fn := fun _ => fun
  | [d1, d2] => { results := [.lit (.bool true)], args := [d1, d2] }
  | _ => none }
def traceDoesNotAliasRow : OpenClaim := { program := "ytmdnkhpkpmbeoaa", sum := "f0279e576d618644fa3e7b69acf68b91dfabc6626137557397d5fadd249cd4a4", func := "ginnel/ginnellaw34.TraceDoesNotAlias", spec := "traceDoesNotAlias", unfollowed := true, recurses := true, plainKeys := false, apart := false }
def TraceDoesNotAliasSaid : Prop := traceDoesNotAliasRow.holds Try.pinned (OpenSpec.ofChange traceDoesNotAliasSpec)

/-- ITS FALSE NEIGHBOUR: 'it returns false'. Refute it at one input. -/
def traceDoesNotAliasWrong : ChangeSpec := { name := "traceDoesNotAlias", fn := fun _ => fun
  | [d1, d2] => { results := [.lit (.bool false)], args := [d1, d2] }
  | _ => none }
def TraceDoesNotAliasWrongFalsely : Prop := traceDoesNotAliasRow.holds Try.pinned (OpenSpec.ofChange traceDoesNotAliasWrong)

/- THE SECOND FORM. 'bulk': how many values and letters a reading holds, each counted each time it is reached (what is shared counts as often as it is met; a slice's spare places count too). A statement '..UptoSaid' is the law's where the arguments, and the package variables that the reading takes, are together of bulk at most 1048576: NARROWER than '..Said'. Prove '..Said' where nothing that the law and all that it calls make is longer than what came in: it says more and counts as full. Else prove '..UptoSaid'. A law counts once. -/
mutual
def uptoBulk {H : Type} : DataW H → Nat
  | .lit (.string bytes) => bytes.length + 1
  | .lit _ => 1
  | .nil => 1
  | .ptr d => uptoBulk d + 1
  | .slice elems spare => uptoBulkAll elems + uptoBulkAll spare + 1
  | .agg parts => uptoBulkAll parts + 1
  | .iface _ d => uptoBulk d + 1
  | .map entries => uptoBulkEntries entries + 1
  | .held _ => 1
def uptoBulkAll {H : Type} : List (DataW H) → Nat
  | [] => 0
  | d :: r => uptoBulk d + uptoBulkAll r
def uptoBulkEntries {H : Type} : List (Lit × DataW H) → Nat
  | [] => 0
  | x :: r => uptoBulkEntry x + uptoBulkEntries r
def uptoBulkEntry {H : Type} : Lit × DataW H → Nat
  | (.string bytes, d) => bytes.length + uptoBulk d + 1
  | (_, d) => uptoBulk d + 1
 end
def uptoSmall : (H : Type) → List (DataW H) → Bool := fun _ ds => decide (uptoBulkAll ds ≤ 1048576)
def OpenSpec.upto (s : _root_.Go.ChangeSpec) : _root_.Go.OpenSpec := { _root_.Go.OpenSpec.ofChange s with cond := some uptoSmall }

/-- 'ginnellaw34.TraceMatchesModel', WHERE WHAT IT READS IS OF BULK AT MOST 1048576: true; the input reads as it did. -/
def traceMatchesModelUptoRow : OpenClaim := { program := "ytmdnkhpkpmbeoaa", sum := "f0279e576d618644fa3e7b69acf68b91dfabc6626137557397d5fadd249cd4a4", func := "ginnel/ginnellaw34.TraceMatchesModel", spec := "traceMatchesModel", unfollowed := true, recurses := true, plainKeys := false, apart := false, narrowed := true }
def TraceMatchesModelUptoSaid : Prop := traceMatchesModelUptoRow.holds Try.pinned (OpenSpec.upto traceMatchesModelSpec)

/-- 'ginnellaw34.TraceConnectionsIndependent', WHERE WHAT IT READS IS OF BULK AT MOST 1048576: true; the input reads as it did. -/
def traceConnectionsIndependentUptoRow : OpenClaim := { program := "ytmdnkhpkpmbeoaa", sum := "f0279e576d618644fa3e7b69acf68b91dfabc6626137557397d5fadd249cd4a4", func := "ginnel/ginnellaw34.TraceConnectionsIndependent", spec := "traceConnectionsIndependent", unfollowed := true, recurses := true, plainKeys := false, apart := false, narrowed := true }
def TraceConnectionsIndependentUptoSaid : Prop := traceConnectionsIndependentUptoRow.holds Try.pinned (OpenSpec.upto traceConnectionsIndependentSpec)

/-- 'ginnellaw34.TraceDoesNotAlias', WHERE WHAT IT READS IS OF BULK AT MOST 1048576: true; the input reads as it did. -/
def traceDoesNotAliasUptoRow : OpenClaim := { program := "ytmdnkhpkpmbeoaa", sum := "f0279e576d618644fa3e7b69acf68b91dfabc6626137557397d5fadd249cd4a4", func := "ginnel/ginnellaw34.TraceDoesNotAlias", spec := "traceDoesNotAlias", unfollowed := true, recurses := true, plainKeys := false, apart := false, narrowed := true }
def TraceDoesNotAliasUptoSaid : Prop := traceDoesNotAliasUptoRow.holds Try.pinned (OpenSpec.upto traceDoesNotAliasSpec)

end Rows
end Go.Proofs.Ytmdnkhpkpmbeoaa
