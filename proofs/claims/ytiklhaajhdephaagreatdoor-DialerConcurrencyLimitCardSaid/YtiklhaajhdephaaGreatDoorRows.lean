/-
  NARROWER THAN 'FOR EVERY INPUT', by the rows' own cells (each row's printed sentence says how): DialerConcurrencyLimit: laid · DialerMatchesModel: laid · DialerTimeExtremes: laid.
  DERIVED. THE GIVEN ROWS OF THIS SEAT. 3 by the template 'for every input the law returns true; each argument reads behind the call as it read before'; 0 by the template 'total and deterministic' (their statements: YtiklhaajhdephaaGreatDoorTotals.lean).
  GIVEN WITH THE SEED: the statements are not yours to turn. If you find one false, say at which input.
  Laid BY PROGRAM, IN A SANDBOX (cutbox-rows.mjs): the forced cells as the released guide's own fill.sh prints them over the translation 21f00e1136d1b1a1… (all of the seat's roots in one cut). By AI agents, Wed Nov 11 2026. No macro, syntax, notation, axiom, sorry.
-/
import Derived.Test.YtiklhaajhdephaaGreatDoorChecked
import GoSem.PinnedTables
import GoSem.Claim
import GoSem.ClaimJoined
import GoSem.ClaimMapViews
import Derived.JoinedTies
import Derived.KernelRfl
namespace Go.Proofs.YtiklhaajhdephaaGreatDoor
/- THE CELL 'sum', in the pinned program and in every row, IS THE sha256 OF THE DUMP (.gsa) THAT YtiklhaajhdephaaGreatDoorProg.lean LOADS. Nothing in Lean hashes anything: it is a label: what it is worth is what the hold of that sum in a sandbox is worth. -/
noncomputable def Tryz.pinned : Pinned := { name := "ytiklhaajhdephaagreatdoor", sum := "21f00e1136d1b1a19877db756b10bc85a5064cfec30097006eaa81745d8139da", checked := Tryz.checked }
namespace Rows
def none {H : Type} : Left H := { results := [], args := [] }

/- WHAT THE LISTED PACKAGE-LEVEL VARIABLES READ AS WHEN THE CALL BEGINS. Each datum BY PROGRAM (the guide's laid-datum.mjs) off the statement by which the dump's own 'gosem.cut.vars' lays the variable. In a bare row this is a premise. The card (YtiklhaajhdephaaGreatDoorCards.lean) ties it to the program's text. -/
def laid_unicode_utf8_acceptRanges {H : Type} : DataW H := .agg [.agg [.lit (.int .u8 128), .lit (.int .u8 191)], .agg [.lit (.int .u8 160), .lit (.int .u8 191)], .agg [.lit (.int .u8 128), .lit (.int .u8 159)], .agg [.lit (.int .u8 144), .lit (.int .u8 191)], .agg [.lit (.int .u8 128), .lit (.int .u8 143)], .agg [.lit (.int .u8 0), .lit (.int .u8 0)], .agg [.lit (.int .u8 0), .lit (.int .u8 0)], .agg [.lit (.int .u8 0), .lit (.int .u8 0)], .agg [.lit (.int .u8 0), .lit (.int .u8 0)], .agg [.lit (.int .u8 0), .lit (.int .u8 0)], .agg [.lit (.int .u8 0), .lit (.int .u8 0)], .agg [.lit (.int .u8 0), .lit (.int .u8 0)], .agg [.lit (.int .u8 0), .lit (.int .u8 0)], .agg [.lit (.int .u8 0), .lit (.int .u8 0)], .agg [.lit (.int .u8 0), .lit (.int .u8 0)], .agg [.lit (.int .u8 0), .lit (.int .u8 0)]]
/-- One of Go's own tables, pinned by name: the form's constant. -/
def laid_unicode_utf8_first : DataW Unit := Go.Pinned.utf8First

/-- 'ginnellaw29.DialerConcurrencyLimit': WHATEVER THE INPUT: true; the input reads as it did. -/
def dialerConcurrencyLimitSpec : ChangeSpec := { name := "dialerConcurrencyLimit", fn := fun _ => fun
  | [d1, d2] => { results := [.lit (.bool true)], args := [d1, d2] }
  | _ => none }
def dialerConcurrencyLimitRow : OpenClaim := { program := "ytiklhaajhdephaagreatdoor", sum := "21f00e1136d1b1a19877db756b10bc85a5064cfec30097006eaa81745d8139da", func := "ginnel/ginnellaw29.DialerConcurrencyLimit", spec := "dialerConcurrencyLimit", inPlace := ["internal/bytealg.IndexByteString", "internal/bytealg.IndexString"], unfollowed := true, recurses := true, named := ["unicode/utf8.first", "unicode/utf8.acceptRanges", "internal/bytealg.MaxLen"], apart := false, laid := [("unicode/utf8.acceptRanges", laid_unicode_utf8_acceptRanges), ("unicode/utf8.first", laid_unicode_utf8_first)] }
def DialerConcurrencyLimitSaid : Prop := dialerConcurrencyLimitRow.holds Tryz.pinned (OpenSpec.ofChange dialerConcurrencyLimitSpec)

/-- ITS FALSE NEIGHBOUR: 'it returns false'. Refute it at one input. -/
def dialerConcurrencyLimitWrong : ChangeSpec := { name := "dialerConcurrencyLimit", fn := fun _ => fun
  | [d1, d2] => { results := [.lit (.bool false)], args := [d1, d2] }
  | _ => none }
def DialerConcurrencyLimitWrongFalsely : Prop := dialerConcurrencyLimitRow.holds Tryz.pinned (OpenSpec.ofChange dialerConcurrencyLimitWrong)

/-- 'ginnellaw29.DialerMatchesModel': WHATEVER THE INPUT: true; the input reads as it did. -/
def dialerMatchesModelSpec : ChangeSpec := { name := "dialerMatchesModel", fn := fun _ => fun
  | [d1, d2, d3] => { results := [.lit (.bool true)], args := [d1, d2, d3] }
  | _ => none }
def dialerMatchesModelRow : OpenClaim := { program := "ytiklhaajhdephaagreatdoor", sum := "21f00e1136d1b1a19877db756b10bc85a5064cfec30097006eaa81745d8139da", func := "ginnel/ginnellaw29.DialerMatchesModel", spec := "dialerMatchesModel", inPlace := ["internal/bytealg.IndexByteString", "internal/bytealg.IndexString"], unfollowed := true, recurses := true, named := ["unicode/utf8.first", "unicode/utf8.acceptRanges", "internal/bytealg.MaxLen"], apart := false, laid := [("unicode/utf8.acceptRanges", laid_unicode_utf8_acceptRanges), ("unicode/utf8.first", laid_unicode_utf8_first)] }
def DialerMatchesModelSaid : Prop := dialerMatchesModelRow.holds Tryz.pinned (OpenSpec.ofChange dialerMatchesModelSpec)

/-- ITS FALSE NEIGHBOUR: 'it returns false'. Refute it at one input. -/
def dialerMatchesModelWrong : ChangeSpec := { name := "dialerMatchesModel", fn := fun _ => fun
  | [d1, d2, d3] => { results := [.lit (.bool false)], args := [d1, d2, d3] }
  | _ => none }
def DialerMatchesModelWrongFalsely : Prop := dialerMatchesModelRow.holds Tryz.pinned (OpenSpec.ofChange dialerMatchesModelWrong)

/-- 'ginnellaw29.DialerTimeExtremes': WHATEVER THE INPUT: true; the input reads as it did. -/
def dialerTimeExtremesSpec : ChangeSpec := { name := "dialerTimeExtremes", fn := fun _ => fun
  | [d1, d2, d3] => { results := [.lit (.bool true)], args := [d1, d2, d3] }
  | _ => none }
def dialerTimeExtremesRow : OpenClaim := { program := "ytiklhaajhdephaagreatdoor", sum := "21f00e1136d1b1a19877db756b10bc85a5064cfec30097006eaa81745d8139da", func := "ginnel/ginnellaw29.DialerTimeExtremes", spec := "dialerTimeExtremes", inPlace := ["internal/bytealg.IndexByteString", "internal/bytealg.IndexString"], unfollowed := true, recurses := true, named := ["unicode/utf8.first", "unicode/utf8.acceptRanges", "internal/bytealg.MaxLen"], apart := false, laid := [("unicode/utf8.acceptRanges", laid_unicode_utf8_acceptRanges), ("unicode/utf8.first", laid_unicode_utf8_first)] }
def DialerTimeExtremesSaid : Prop := dialerTimeExtremesRow.holds Tryz.pinned (OpenSpec.ofChange dialerTimeExtremesSpec)

/-- ITS FALSE NEIGHBOUR: 'it returns false'. Refute it at one input. -/
def dialerTimeExtremesWrong : ChangeSpec := { name := "dialerTimeExtremes", fn := fun _ => fun
  | [d1, d2, d3] => { results := [.lit (.bool false)], args := [d1, d2, d3] }
  | _ => none }
def DialerTimeExtremesWrongFalsely : Prop := dialerTimeExtremesRow.holds Tryz.pinned (OpenSpec.ofChange dialerTimeExtremesWrong)

/- THE SECOND FORM. 'bulk': how many values and letters a reading holds, each counted each time it is reached (what is shared counts as often as it is met; a slice's spare places count too). A statement '..UptoSaid' is the law's where the arguments, and the package variables that the reading takes, are together of bulk at most 1048576: NARROWER than '..Said'. Prove '..Said' where nothing that the law and all that it calls make is longer than what came in: it says more and counts as full. Else prove '..UptoSaid'. A law counts once. -/
mutual
def uptoBulk {H : Type} : DataW H → Nat
  | .lit (.string bytes) => bytes.length + 1
  | .lit _ => 1
  | .nil => 1
  | .ptr d => uptoBulk d + 1
  | .slice elems spare => uptoBulkAll elems + uptoBulkAll spare + 1
  | .agg parts => uptoBulkAll parts + 1
  | .iface _ d => uptoBulk d + 1
  | .map entries => uptoBulkEntries entries + 1
  | .held _ => 1
def uptoBulkAll {H : Type} : List (DataW H) → Nat
  | [] => 0
  | d :: r => uptoBulk d + uptoBulkAll r
def uptoBulkEntries {H : Type} : List (Lit × DataW H) → Nat
  | [] => 0
  | x :: r => uptoBulkEntry x + uptoBulkEntries r
def uptoBulkEntry {H : Type} : Lit × DataW H → Nat
  | (.string bytes, d) => bytes.length + uptoBulk d + 1
  | (_, d) => uptoBulk d + 1
 end
def uptoSmall : (H : Type) → List (DataW H) → Bool := fun _ ds => decide (uptoBulkAll ds ≤ 1048576)
def OpenSpec.upto (s : _root_.Go.ChangeSpec) : _root_.Go.OpenSpec := { _root_.Go.OpenSpec.ofChange s with cond := some uptoSmall }

/-- 'ginnellaw29.DialerConcurrencyLimit', WHERE WHAT IT READS IS OF BULK AT MOST 1048576: true; the input reads as it did. -/
def dialerConcurrencyLimitUptoRow : OpenClaim := { program := "ytiklhaajhdephaagreatdoor", sum := "21f00e1136d1b1a19877db756b10bc85a5064cfec30097006eaa81745d8139da", func := "ginnel/ginnellaw29.DialerConcurrencyLimit", spec := "dialerConcurrencyLimit", inPlace := ["internal/bytealg.IndexByteString", "internal/bytealg.IndexString"], unfollowed := true, recurses := true, named := ["unicode/utf8.first", "unicode/utf8.acceptRanges", "internal/bytealg.MaxLen"], apart := false, laid := [("unicode/utf8.acceptRanges", laid_unicode_utf8_acceptRanges), ("unicode/utf8.first", laid_unicode_utf8_first)], narrowed := true }
def DialerConcurrencyLimitUptoSaid : Prop := dialerConcurrencyLimitUptoRow.holds Tryz.pinned (OpenSpec.upto dialerConcurrencyLimitSpec)

/-- 'ginnellaw29.DialerMatchesModel', WHERE WHAT IT READS IS OF BULK AT MOST 1048576: true; the input reads as it did. -/
def dialerMatchesModelUptoRow : OpenClaim := { program := "ytiklhaajhdephaagreatdoor", sum := "21f00e1136d1b1a19877db756b10bc85a5064cfec30097006eaa81745d8139da", func := "ginnel/ginnellaw29.DialerMatchesModel", spec := "dialerMatchesModel", inPlace := ["internal/bytealg.IndexByteString", "internal/bytealg.IndexString"], unfollowed := true, recurses := true, named := ["unicode/utf8.first", "unicode/utf8.acceptRanges", "internal/bytealg.MaxLen"], apart := false, laid := [("unicode/utf8.acceptRanges", laid_unicode_utf8_acceptRanges), ("unicode/utf8.first", laid_unicode_utf8_first)], narrowed := true }
def DialerMatchesModelUptoSaid : Prop := dialerMatchesModelUptoRow.holds Tryz.pinned (OpenSpec.upto dialerMatchesModelSpec)

/-- 'ginnellaw29.DialerTimeExtremes', WHERE WHAT IT READS IS OF BULK AT MOST 1048576: true; the input reads as it did. -/
def dialerTimeExtremesUptoRow : OpenClaim := { program := "ytiklhaajhdephaagreatdoor", sum := "21f00e1136d1b1a19877db756b10bc85a5064cfec30097006eaa81745d8139da", func := "ginnel/ginnellaw29.DialerTimeExtremes", spec := "dialerTimeExtremes", inPlace := ["internal/bytealg.IndexByteString", "internal/bytealg.IndexString"], unfollowed := true, recurses := true, named := ["unicode/utf8.first", "unicode/utf8.acceptRanges", "internal/bytealg.MaxLen"], apart := false, laid := [("unicode/utf8.acceptRanges", laid_unicode_utf8_acceptRanges), ("unicode/utf8.first", laid_unicode_utf8_first)], narrowed := true }
def DialerTimeExtremesUptoSaid : Prop := dialerTimeExtremesUptoRow.holds Tryz.pinned (OpenSpec.upto dialerTimeExtremesSpec)

end Rows
end Go.Proofs.YtiklhaajhdephaaGreatDoor
