/-
  No cell of these rows narrows 'for every input' (looked for: loops, veiled, ifaces, maps, wideKeys, modest, calm, conditions, laid).
  DERIVED. THE GIVEN ROWS OF THIS SEAT. 4 by the template 'for every input the law returns true; each argument reads behind the call as it read before'; 0 by the template 'total and deterministic' (their statements: YtdpjfhogkllajaaTotals.lean).
  GIVEN WITH THE SEED: the statements are not yours to turn. If you find one false, say at which input.
  Laid BY PROGRAM, IN A SANDBOX (cutbox-rows.mjs): the forced cells as the released guide's own fill.sh prints them over the translation 5789d87282cba13c… (all of the seat's roots in one cut). By AI agents, Wed Nov 11 2026. No macro, syntax, notation, axiom, sorry.
-/
import Derived.Test.YtdpjfhogkllajaaChecked
import GoSem.Claim
import GoSem.ClaimJoined
import GoSem.ClaimMapViews
import Derived.JoinedTies
import Derived.KernelRfl
namespace Go.Proofs.Ytdpjfhogkllajaa
/- THE CELL 'sum', in the pinned program and in every row, IS THE sha256 OF THE DUMP (.gsa) THAT YtdpjfhogkllajaaProg.lean LOADS. Nothing in Lean hashes anything: it is a label: what it is worth is what the hold of that sum in a sandbox is worth. -/
noncomputable def Try.pinned : Pinned := { name := "ytdpjfhogkllajaa", sum := "5789d87282cba13cca5f78324c648661a8c9bc4e15548aef6fab6c1e777abb0c", checked := Try.checked }
namespace Rows
def none {H : Type} : Left H := { results := [], args := [] }

/-- 'ginnellaw26.InterleaveMatchesModel': WHATEVER THE INPUT: true; the input reads as it did. -/
def interleaveMatchesModelSpec : ChangeSpec := { name := "interleaveMatchesModel", fn := fun _ => fun
  | [d1, d2, d3] => { results := [.lit (.bool true)], args := [d1, d2, d3] }
  | _ => none }
def interleaveMatchesModelRow : OpenClaim := { program := "ytdpjfhogkllajaa", sum := "5789d87282cba13cca5f78324c648661a8c9bc4e15548aef6fab6c1e777abb0c", func := "ginnel/ginnellaw26.InterleaveMatchesModel", spec := "interleaveMatchesModel", unfollowed := true, recurses := true, apart := false }
def InterleaveMatchesModelSaid : Prop := interleaveMatchesModelRow.holds Try.pinned (OpenSpec.ofChange interleaveMatchesModelSpec)

/-- ITS FALSE NEIGHBOUR: 'it returns false'. Refute it at one input. -/
def interleaveMatchesModelWrong : ChangeSpec := { name := "interleaveMatchesModel", fn := fun _ => fun
  | [d1, d2, d3] => { results := [.lit (.bool false)], args := [d1, d2, d3] }
  | _ => none }
def InterleaveMatchesModelWrongFalsely : Prop := interleaveMatchesModelRow.holds Try.pinned (OpenSpec.ofChange interleaveMatchesModelWrong)

/-- 'ginnellaw26.InterleaveKeepsOrder': WHATEVER THE INPUT: true; the input reads as it did. -/
def interleaveKeepsOrderSpec : ChangeSpec := { name := "interleaveKeepsOrder", fn := fun _ => fun
  | [d1, d2, d3] => { results := [.lit (.bool true)], args := [d1, d2, d3] }
  | _ => none }
def interleaveKeepsOrderRow : OpenClaim := { program := "ytdpjfhogkllajaa", sum := "5789d87282cba13cca5f78324c648661a8c9bc4e15548aef6fab6c1e777abb0c", func := "ginnel/ginnellaw26.InterleaveKeepsOrder", spec := "interleaveKeepsOrder", unfollowed := true, recurses := true, apart := false }
def InterleaveKeepsOrderSaid : Prop := interleaveKeepsOrderRow.holds Try.pinned (OpenSpec.ofChange interleaveKeepsOrderSpec)

/-- ITS FALSE NEIGHBOUR: 'it returns false'. Refute it at one input. -/
def interleaveKeepsOrderWrong : ChangeSpec := { name := "interleaveKeepsOrder", fn := fun _ => fun
  | [d1, d2, d3] => { results := [.lit (.bool false)], args := [d1, d2, d3] }
  | _ => none }
def InterleaveKeepsOrderWrongFalsely : Prop := interleaveKeepsOrderRow.holds Try.pinned (OpenSpec.ofChange interleaveKeepsOrderWrong)

/-- 'ginnellaw26.InterleaveAlternates': WHATEVER THE INPUT: true; the input reads as it did. -/
def interleaveAlternatesSpec : ChangeSpec := { name := "interleaveAlternates", fn := fun _ => fun
  | [d1, d2, d3] => { results := [.lit (.bool true)], args := [d1, d2, d3] }
  | _ => none }
def interleaveAlternatesRow : OpenClaim := { program := "ytdpjfhogkllajaa", sum := "5789d87282cba13cca5f78324c648661a8c9bc4e15548aef6fab6c1e777abb0c", func := "ginnel/ginnellaw26.InterleaveAlternates", spec := "interleaveAlternates", unfollowed := true, recurses := true, apart := false }
def InterleaveAlternatesSaid : Prop := interleaveAlternatesRow.holds Try.pinned (OpenSpec.ofChange interleaveAlternatesSpec)

/-- ITS FALSE NEIGHBOUR: 'it returns false'. Refute it at one input. -/
def interleaveAlternatesWrong : ChangeSpec := { name := "interleaveAlternates", fn := fun _ => fun
  | [d1, d2, d3] => { results := [.lit (.bool false)], args := [d1, d2, d3] }
  | _ => none }
def InterleaveAlternatesWrongFalsely : Prop := interleaveAlternatesRow.holds Try.pinned (OpenSpec.ofChange interleaveAlternatesWrong)

/-- 'ginnellaw26.InterleaveDoesNotAlias': WHATEVER THE INPUT: true; the input reads as it did. -/
def interleaveDoesNotAliasSpec : ChangeSpec := { name := "interleaveDoesNotAlias", fn := fun _ => fun
  | [d1, d2, d3] => { results := [.lit (.bool true)], args := [d1, d2, d3] }
  | _ => none }
def interleaveDoesNotAliasRow : OpenClaim := { program := "ytdpjfhogkllajaa", sum := "5789d87282cba13cca5f78324c648661a8c9bc4e15548aef6fab6c1e777abb0c", func := "ginnel/ginnellaw26.InterleaveDoesNotAlias", spec := "interleaveDoesNotAlias", unfollowed := true, recurses := true, apart := false }
def InterleaveDoesNotAliasSaid : Prop := interleaveDoesNotAliasRow.holds Try.pinned (OpenSpec.ofChange interleaveDoesNotAliasSpec)

/-- ITS FALSE NEIGHBOUR: 'it returns false'. Refute it at one input. -/
def interleaveDoesNotAliasWrong : ChangeSpec := { name := "interleaveDoesNotAlias", fn := fun _ => fun
  | [d1, d2, d3] => { results := [.lit (.bool false)], args := [d1, d2, d3] }
  | _ => none }
def InterleaveDoesNotAliasWrongFalsely : Prop := interleaveDoesNotAliasRow.holds Try.pinned (OpenSpec.ofChange interleaveDoesNotAliasWrong)

/- THE SECOND FORM. 'bulk': how many values and letters a reading holds, each counted each time it is reached (what is shared counts as often as it is met; a slice's spare places count too). A statement '..UptoSaid' is the law's where the arguments, and the package variables that the reading takes, are together of bulk at most 1048576: NARROWER than '..Said'. Prove '..Said' where nothing that the law and all that it calls make is longer than what came in: it says more and counts as full. Else prove '..UptoSaid'. A law counts once. -/
mutual
def uptoBulk {H : Type} : DataW H → Nat
  | .lit (.string bytes) => bytes.length + 1
  | .lit _ => 1
  | .nil => 1
  | .ptr d => uptoBulk d + 1
  | .slice elems spare => uptoBulkAll elems + uptoBulkAll spare + 1
  | .agg parts => uptoBulkAll parts + 1
  | .iface _ d => uptoBulk d + 1
  | .map entries => uptoBulkEntries entries + 1
  | .held _ => 1
def uptoBulkAll {H : Type} : List (DataW H) → Nat
  | [] => 0
  | d :: r => uptoBulk d + uptoBulkAll r
def uptoBulkEntries {H : Type} : List (Lit × DataW H) → Nat
  | [] => 0
  | x :: r => uptoBulkEntry x + uptoBulkEntries r
def uptoBulkEntry {H : Type} : Lit × DataW H → Nat
  | (.string bytes, d) => bytes.length + uptoBulk d + 1
  | (_, d) => uptoBulk d + 1
 end
def uptoSmall : (H : Type) → List (DataW H) → Bool := fun _ ds => decide (uptoBulkAll ds ≤ 1048576)
def OpenSpec.upto (s : _root_.Go.ChangeSpec) : _root_.Go.OpenSpec := { _root_.Go.OpenSpec.ofChange s with cond := some uptoSmall }

/-- 'ginnellaw26.InterleaveMatchesModel', WHERE WHAT IT READS IS OF BULK AT MOST 1048576: true; the input reads as it did. -/
def interleaveMatchesModelUptoRow : OpenClaim := { program := "ytdpjfhogkllajaa", sum := "5789d87282cba13cca5f78324c648661a8c9bc4e15548aef6fab6c1e777abb0c", func := "ginnel/ginnellaw26.InterleaveMatchesModel", spec := "interleaveMatchesModel", unfollowed := true, recurses := true, apart := false, narrowed := true }
def InterleaveMatchesModelUptoSaid : Prop := interleaveMatchesModelUptoRow.holds Try.pinned (OpenSpec.upto interleaveMatchesModelSpec)

/-- 'ginnellaw26.InterleaveKeepsOrder', WHERE WHAT IT READS IS OF BULK AT MOST 1048576: true; the input reads as it did. -/
def interleaveKeepsOrderUptoRow : OpenClaim := { program := "ytdpjfhogkllajaa", sum := "5789d87282cba13cca5f78324c648661a8c9bc4e15548aef6fab6c1e777abb0c", func := "ginnel/ginnellaw26.InterleaveKeepsOrder", spec := "interleaveKeepsOrder", unfollowed := true, recurses := true, apart := false, narrowed := true }
def InterleaveKeepsOrderUptoSaid : Prop := interleaveKeepsOrderUptoRow.holds Try.pinned (OpenSpec.upto interleaveKeepsOrderSpec)

/-- 'ginnellaw26.InterleaveAlternates', WHERE WHAT IT READS IS OF BULK AT MOST 1048576: true; the input reads as it did. -/
def interleaveAlternatesUptoRow : OpenClaim := { program := "ytdpjfhogkllajaa", sum := "5789d87282cba13cca5f78324c648661a8c9bc4e15548aef6fab6c1e777abb0c", func := "ginnel/ginnellaw26.InterleaveAlternates", spec := "interleaveAlternates", unfollowed := true, recurses := true, apart := false, narrowed := true }
def InterleaveAlternatesUptoSaid : Prop := interleaveAlternatesUptoRow.holds Try.pinned (OpenSpec.upto interleaveAlternatesSpec)

/-- 'ginnellaw26.InterleaveDoesNotAlias', WHERE WHAT IT READS IS OF BULK AT MOST 1048576: true; the input reads as it did. -/
def interleaveDoesNotAliasUptoRow : OpenClaim := { program := "ytdpjfhogkllajaa", sum := "5789d87282cba13cca5f78324c648661a8c9bc4e15548aef6fab6c1e777abb0c", func := "ginnel/ginnellaw26.InterleaveDoesNotAlias", spec := "interleaveDoesNotAlias", unfollowed := true, recurses := true, apart := false, narrowed := true }
def InterleaveDoesNotAliasUptoSaid : Prop := interleaveDoesNotAliasUptoRow.holds Try.pinned (OpenSpec.upto interleaveDoesNotAliasSpec)

end Rows
end Go.Proofs.Ytdpjfhogkllajaa
