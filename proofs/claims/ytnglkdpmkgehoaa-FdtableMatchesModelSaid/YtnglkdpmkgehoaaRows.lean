/-
  No cell of these rows narrows 'for every input' (looked for: loops, veiled, ifaces, maps, wideKeys, modest, calm, conditions, laid).
  DERIVED. THE GIVEN ROWS OF THIS SEAT. 5 by the template 'for every input the law returns true; each argument reads behind the call as it read before'; 0 by the template 'total and deterministic' (their statements: YtnglkdpmkgehoaaTotals.lean).
  GIVEN WITH THE SEED: the statements are not yours to turn. If you find one false, say at which input.
  Laid BY PROGRAM, IN A SANDBOX (cutbox-rows.mjs): the forced cells as the released guide's own fill.sh prints them over the translation adf0fdcb51366344… (all of the seat's roots in one cut). By AI agents, Wed Nov 11 2026. No macro, syntax, notation, axiom, sorry.
-/
import Derived.Test.YtnglkdpmkgehoaaChecked
import GoSem.Claim
import GoSem.ClaimJoined
import GoSem.ClaimMapViews
import Derived.JoinedTies
import Derived.KernelRfl
namespace Go.Proofs.Ytnglkdpmkgehoaa
/- THE CELL 'sum', in the pinned program and in every row, IS THE sha256 OF THE DUMP (.gsa) THAT YtnglkdpmkgehoaaProg.lean LOADS. Nothing in Lean hashes anything: it is a label: what it is worth is what the hold of that sum in a sandbox is worth. -/
noncomputable def Try.pinned : Pinned := { name := "ytnglkdpmkgehoaa", sum := "adf0fdcb51366344b73642fb09efd47b891e6d4a4950a39292d624cc95e3c36c", checked := Try.checked }
namespace Rows
def none {H : Type} : Left H := { results := [], args := [] }

/-- 'ginnellaw06.FdtableValidatesEndpoint': WHATEVER THE INPUT: true; the input reads as it did. -/
def fdtableValidatesEndpointSpec : ChangeSpec := { name := "fdtableValidatesEndpoint", fn := fun _ => fun
  | [d1, d2, d3] => { results := [.lit (.bool true)], args := [d1, d2, d3] }
  | _ => none }
def fdtableValidatesEndpointRow : OpenClaim := { program := "ytnglkdpmkgehoaa", sum := "adf0fdcb51366344b73642fb09efd47b891e6d4a4950a39292d624cc95e3c36c", func := "ginnel/ginnellaw06.FdtableValidatesEndpoint", spec := "fdtableValidatesEndpoint", plainKeys := false, apart := false }
def FdtableValidatesEndpointSaid : Prop := fdtableValidatesEndpointRow.holds Try.pinned (OpenSpec.ofChange fdtableValidatesEndpointSpec)

/-- ITS FALSE NEIGHBOUR: 'it returns false'. Refute it at one input. -/
def fdtableValidatesEndpointWrong : ChangeSpec := { name := "fdtableValidatesEndpoint", fn := fun _ => fun
  | [d1, d2, d3] => { results := [.lit (.bool false)], args := [d1, d2, d3] }
  | _ => none }
def FdtableValidatesEndpointWrongFalsely : Prop := fdtableValidatesEndpointRow.holds Try.pinned (OpenSpec.ofChange fdtableValidatesEndpointWrong)

/-- 'ginnellaw06.FdtableShutdownTransitions': WHATEVER THE INPUT: true; the input reads as it did. -/
def fdtableShutdownTransitionsSpec : ChangeSpec := { name := "fdtableShutdownTransitions", fn := fun _ => fun
  | [d1, d2, d3] => { results := [.lit (.bool true)], args := [d1, d2, d3] }
  | _ => none }
def fdtableShutdownTransitionsRow : OpenClaim := { program := "ytnglkdpmkgehoaa", sum := "adf0fdcb51366344b73642fb09efd47b891e6d4a4950a39292d624cc95e3c36c", func := "ginnel/ginnellaw06.FdtableShutdownTransitions", spec := "fdtableShutdownTransitions", unfollowed := true, recurses := true, plainKeys := false, apart := false }
def FdtableShutdownTransitionsSaid : Prop := fdtableShutdownTransitionsRow.holds Try.pinned (OpenSpec.ofChange fdtableShutdownTransitionsSpec)

/-- ITS FALSE NEIGHBOUR: 'it returns false'. Refute it at one input. -/
def fdtableShutdownTransitionsWrong : ChangeSpec := { name := "fdtableShutdownTransitions", fn := fun _ => fun
  | [d1, d2, d3] => { results := [.lit (.bool false)], args := [d1, d2, d3] }
  | _ => none }
def FdtableShutdownTransitionsWrongFalsely : Prop := fdtableShutdownTransitionsRow.holds Try.pinned (OpenSpec.ofChange fdtableShutdownTransitionsWrong)

/-- 'ginnellaw06.FdtableValidatesLimit': WHATEVER THE INPUT: true; the input reads as it did. -/
def fdtableValidatesLimitSpec : ChangeSpec := { name := "fdtableValidatesLimit", fn := fun _ => fun
  | [d] => { results := [.lit (.bool true)], args := [d] }
  | _ => none }
def fdtableValidatesLimitRow : OpenClaim := { program := "ytnglkdpmkgehoaa", sum := "adf0fdcb51366344b73642fb09efd47b891e6d4a4950a39292d624cc95e3c36c", func := "ginnel/ginnellaw06.FdtableValidatesLimit", spec := "fdtableValidatesLimit", unfollowed := true, recurses := true, plainKeys := false, apart := false }
def FdtableValidatesLimitSaid : Prop := fdtableValidatesLimitRow.holds Try.pinned (OpenSpec.ofChange fdtableValidatesLimitSpec)

/-- ITS FALSE NEIGHBOUR: 'it returns false'. Refute it at one input. -/
def fdtableValidatesLimitWrong : ChangeSpec := { name := "fdtableValidatesLimit", fn := fun _ => fun
  | [d] => { results := [.lit (.bool false)], args := [d] }
  | _ => none }
def FdtableValidatesLimitWrongFalsely : Prop := fdtableValidatesLimitRow.holds Try.pinned (OpenSpec.ofChange fdtableValidatesLimitWrong)

/-- 'ginnellaw06.FdtableNumbersUnique': WHATEVER THE INPUT: true; the input reads as it did. -/
def fdtableNumbersUniqueSpec : ChangeSpec := { name := "fdtableNumbersUnique", fn := fun _ => fun
  | [d1, d2] => { results := [.lit (.bool true)], args := [d1, d2] }
  | _ => none }
def fdtableNumbersUniqueRow : OpenClaim := { program := "ytnglkdpmkgehoaa", sum := "adf0fdcb51366344b73642fb09efd47b891e6d4a4950a39292d624cc95e3c36c", func := "ginnel/ginnellaw06.FdtableNumbersUnique", spec := "fdtableNumbersUnique", unfollowed := true, recurses := true, plainKeys := false, apart := false }
def FdtableNumbersUniqueSaid : Prop := fdtableNumbersUniqueRow.holds Try.pinned (OpenSpec.ofChange fdtableNumbersUniqueSpec)

/-- ITS FALSE NEIGHBOUR: 'it returns false'. Refute it at one input. -/
def fdtableNumbersUniqueWrong : ChangeSpec := { name := "fdtableNumbersUnique", fn := fun _ => fun
  | [d1, d2] => { results := [.lit (.bool false)], args := [d1, d2] }
  | _ => none }
def FdtableNumbersUniqueWrongFalsely : Prop := fdtableNumbersUniqueRow.holds Try.pinned (OpenSpec.ofChange fdtableNumbersUniqueWrong)

/-- 'ginnellaw06.FdtableMatchesModel': WHATEVER THE INPUT: true; the input reads as it did. -/
def fdtableMatchesModelSpec : ChangeSpec := { name := "fdtableMatchesModel", fn := fun _ => fun
  | [d1, d2] => { results := [.lit (.bool true)], args := [d1, d2] }
  | _ => none }
def fdtableMatchesModelRow : OpenClaim := { program := "ytnglkdpmkgehoaa", sum := "adf0fdcb51366344b73642fb09efd47b891e6d4a4950a39292d624cc95e3c36c", func := "ginnel/ginnellaw06.FdtableMatchesModel", spec := "fdtableMatchesModel", unfollowed := true, recurses := true, plainKeys := false, apart := false }
def FdtableMatchesModelSaid : Prop := fdtableMatchesModelRow.holds Try.pinned (OpenSpec.ofChange fdtableMatchesModelSpec)

/-- ITS FALSE NEIGHBOUR: 'it returns false'. Refute it at one input. -/
def fdtableMatchesModelWrong : ChangeSpec := { name := "fdtableMatchesModel", fn := fun _ => fun
  | [d1, d2] => { results := [.lit (.bool false)], args := [d1, d2] }
  | _ => none }
def FdtableMatchesModelWrongFalsely : Prop := fdtableMatchesModelRow.holds Try.pinned (OpenSpec.ofChange fdtableMatchesModelWrong)

/- THE SECOND FORM. 'bulk': how many values and letters a reading holds, each counted each time it is reached (what is shared counts as often as it is met; a slice's spare places count too). A statement '..UptoSaid' is the law's where the arguments, and the package variables that the reading takes, are together of bulk at most 1048576: NARROWER than '..Said'. Prove '..Said' where nothing that the law and all that it calls make is longer than what came in: it says more and counts as full. Else prove '..UptoSaid'. A law counts once. -/
mutual
def uptoBulk {H : Type} : DataW H → Nat
  | .lit (.string bytes) => bytes.length + 1
  | .lit _ => 1
  | .nil => 1
  | .ptr d => uptoBulk d + 1
  | .slice elems spare => uptoBulkAll elems + uptoBulkAll spare + 1
  | .agg parts => uptoBulkAll parts + 1
  | .iface _ d => uptoBulk d + 1
  | .map entries => uptoBulkEntries entries + 1
  | .held _ => 1
def uptoBulkAll {H : Type} : List (DataW H) → Nat
  | [] => 0
  | d :: r => uptoBulk d + uptoBulkAll r
def uptoBulkEntries {H : Type} : List (Lit × DataW H) → Nat
  | [] => 0
  | x :: r => uptoBulkEntry x + uptoBulkEntries r
def uptoBulkEntry {H : Type} : Lit × DataW H → Nat
  | (.string bytes, d) => bytes.length + uptoBulk d + 1
  | (_, d) => uptoBulk d + 1
 end
def uptoSmall : (H : Type) → List (DataW H) → Bool := fun _ ds => decide (uptoBulkAll ds ≤ 1048576)
def OpenSpec.upto (s : _root_.Go.ChangeSpec) : _root_.Go.OpenSpec := { _root_.Go.OpenSpec.ofChange s with cond := some uptoSmall }

/-- 'ginnellaw06.FdtableValidatesEndpoint', WHERE WHAT IT READS IS OF BULK AT MOST 1048576: true; the input reads as it did. -/
def fdtableValidatesEndpointUptoRow : OpenClaim := { program := "ytnglkdpmkgehoaa", sum := "adf0fdcb51366344b73642fb09efd47b891e6d4a4950a39292d624cc95e3c36c", func := "ginnel/ginnellaw06.FdtableValidatesEndpoint", spec := "fdtableValidatesEndpoint", plainKeys := false, apart := false, narrowed := true }
def FdtableValidatesEndpointUptoSaid : Prop := fdtableValidatesEndpointUptoRow.holds Try.pinned (OpenSpec.upto fdtableValidatesEndpointSpec)

/-- 'ginnellaw06.FdtableShutdownTransitions', WHERE WHAT IT READS IS OF BULK AT MOST 1048576: true; the input reads as it did. -/
def fdtableShutdownTransitionsUptoRow : OpenClaim := { program := "ytnglkdpmkgehoaa", sum := "adf0fdcb51366344b73642fb09efd47b891e6d4a4950a39292d624cc95e3c36c", func := "ginnel/ginnellaw06.FdtableShutdownTransitions", spec := "fdtableShutdownTransitions", unfollowed := true, recurses := true, plainKeys := false, apart := false, narrowed := true }
def FdtableShutdownTransitionsUptoSaid : Prop := fdtableShutdownTransitionsUptoRow.holds Try.pinned (OpenSpec.upto fdtableShutdownTransitionsSpec)

/-- 'ginnellaw06.FdtableValidatesLimit', WHERE WHAT IT READS IS OF BULK AT MOST 1048576: true; the input reads as it did. -/
def fdtableValidatesLimitUptoRow : OpenClaim := { program := "ytnglkdpmkgehoaa", sum := "adf0fdcb51366344b73642fb09efd47b891e6d4a4950a39292d624cc95e3c36c", func := "ginnel/ginnellaw06.FdtableValidatesLimit", spec := "fdtableValidatesLimit", unfollowed := true, recurses := true, plainKeys := false, apart := false, narrowed := true }
def FdtableValidatesLimitUptoSaid : Prop := fdtableValidatesLimitUptoRow.holds Try.pinned (OpenSpec.upto fdtableValidatesLimitSpec)

/-- 'ginnellaw06.FdtableNumbersUnique', WHERE WHAT IT READS IS OF BULK AT MOST 1048576: true; the input reads as it did. -/
def fdtableNumbersUniqueUptoRow : OpenClaim := { program := "ytnglkdpmkgehoaa", sum := "adf0fdcb51366344b73642fb09efd47b891e6d4a4950a39292d624cc95e3c36c", func := "ginnel/ginnellaw06.FdtableNumbersUnique", spec := "fdtableNumbersUnique", unfollowed := true, recurses := true, plainKeys := false, apart := false, narrowed := true }
def FdtableNumbersUniqueUptoSaid : Prop := fdtableNumbersUniqueUptoRow.holds Try.pinned (OpenSpec.upto fdtableNumbersUniqueSpec)

/-- 'ginnellaw06.FdtableMatchesModel', WHERE WHAT IT READS IS OF BULK AT MOST 1048576: true; the input reads as it did. -/
def fdtableMatchesModelUptoRow : OpenClaim := { program := "ytnglkdpmkgehoaa", sum := "adf0fdcb51366344b73642fb09efd47b891e6d4a4950a39292d624cc95e3c36c", func := "ginnel/ginnellaw06.FdtableMatchesModel", spec := "fdtableMatchesModel", unfollowed := true, recurses := true, plainKeys := false, apart := false, narrowed := true }
def FdtableMatchesModelUptoSaid : Prop := fdtableMatchesModelUptoRow.holds Try.pinned (OpenSpec.upto fdtableMatchesModelSpec)

end Rows
end Go.Proofs.Ytnglkdpmkgehoaa
