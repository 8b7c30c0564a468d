/-
  NARROWER THAN 'FOR EVERY INPUT', by the rows' own cells (each row's printed sentence says how): AddrsortMatchesModel: laid · AddrsortIsStableSort: laid · CandidatesMatchModel: laid · CandidatesAreTakenOnce: laid · CandidatesAlternateFamilies: laid · CandidatesDoNotAlias: laid · DialerValidatesConfig: laid · DialerStaggersAttempts: laid · DialerReportsExhaustion: laid.
  DERIVED. THE GIVEN ROWS OF THIS SEAT. 9 by the template 'for every input the law returns true; each argument reads behind the call as it read before'; 0 by the template 'total and deterministic' (their statements: YtiklhaajhdephaaDoorTotals.lean).
  GIVEN WITH THE SEED: the statements are not yours to turn. If you find one false, say at which input.
  Laid BY PROGRAM, IN A SANDBOX (cutbox-rows.mjs): the forced cells as the released guide's own fill.sh prints them over the translation 8ffe91ca2e1ad336… (all of the seat's roots in one cut). By AI agents, Wed Nov 11 2026. No macro, syntax, notation, axiom, sorry.
-/
import Derived.Test.YtiklhaajhdephaaDoorChecked
import GoSem.PinnedTables
import GoSem.Claim
import GoSem.ClaimJoined
import GoSem.ClaimMapViews
import Derived.JoinedTies
import Derived.KernelRfl
namespace Go.Proofs.YtiklhaajhdephaaDoor
/- THE CELL 'sum', in the pinned program and in every row, IS THE sha256 OF THE DUMP (.gsa) THAT YtiklhaajhdephaaDoorProg.lean LOADS. Nothing in Lean hashes anything: it is a label: what it is worth is what the hold of that sum in a sandbox is worth. -/
noncomputable def Tryd.pinned : Pinned := { name := "ytiklhaajhdephaadoor", sum := "8ffe91ca2e1ad336516a23fae971543e8c2af5516bc9d5ada8dbb92e58ae68b7", checked := Tryd.checked }
namespace Rows
def none {H : Type} : Left H := { results := [], args := [] }

/- WHAT THE LISTED PACKAGE-LEVEL VARIABLES READ AS WHEN THE CALL BEGINS. Each datum BY PROGRAM (the guide's laid-datum.mjs) off the statement by which the dump's own 'gosem.cut.vars' lays the variable. In a bare row this is a premise. The card (YtiklhaajhdephaaDoorCards.lean) ties it to the program's text. -/
def laid_unicode_utf8_acceptRanges {H : Type} : DataW H := .agg [.agg [.lit (.int .u8 128), .lit (.int .u8 191)], .agg [.lit (.int .u8 160), .lit (.int .u8 191)], .agg [.lit (.int .u8 128), .lit (.int .u8 159)], .agg [.lit (.int .u8 144), .lit (.int .u8 191)], .agg [.lit (.int .u8 128), .lit (.int .u8 143)], .agg [.lit (.int .u8 0), .lit (.int .u8 0)], .agg [.lit (.int .u8 0), .lit (.int .u8 0)], .agg [.lit (.int .u8 0), .lit (.int .u8 0)], .agg [.lit (.int .u8 0), .lit (.int .u8 0)], .agg [.lit (.int .u8 0), .lit (.int .u8 0)], .agg [.lit (.int .u8 0), .lit (.int .u8 0)], .agg [.lit (.int .u8 0), .lit (.int .u8 0)], .agg [.lit (.int .u8 0), .lit (.int .u8 0)], .agg [.lit (.int .u8 0), .lit (.int .u8 0)], .agg [.lit (.int .u8 0), .lit (.int .u8 0)], .agg [.lit (.int .u8 0), .lit (.int .u8 0)]]
/-- One of Go's own tables, pinned by name: the form's constant. -/
def laid_unicode_utf8_first : DataW Unit := Go.Pinned.utf8First

/-- 'ginnellaw25.AddrsortMatchesModel': WHATEVER THE INPUT: true; the input reads as it did. -/
def addrsortMatchesModelSpec : ChangeSpec := { name := "addrsortMatchesModel", fn := fun _ => fun
  | [d] => { results := [.lit (.bool true)], args := [d] }
  | _ => none }
def addrsortMatchesModelRow : OpenClaim := { program := "ytiklhaajhdephaadoor", sum := "8ffe91ca2e1ad336516a23fae971543e8c2af5516bc9d5ada8dbb92e58ae68b7", func := "ginnel/ginnellaw25.AddrsortMatchesModel", spec := "addrsortMatchesModel", inPlace := ["internal/bytealg.IndexByteString", "internal/bytealg.IndexString"], unfollowed := true, recurses := true, named := ["unicode/utf8.first", "unicode/utf8.acceptRanges", "internal/bytealg.MaxLen"], plainKeys := false, apart := false, laid := [("unicode/utf8.acceptRanges", laid_unicode_utf8_acceptRanges), ("unicode/utf8.first", laid_unicode_utf8_first)] }
def AddrsortMatchesModelSaid : Prop := addrsortMatchesModelRow.holds Tryd.pinned (OpenSpec.ofChange addrsortMatchesModelSpec)

/-- ITS FALSE NEIGHBOUR: 'it returns false'. Refute it at one input. -/
def addrsortMatchesModelWrong : ChangeSpec := { name := "addrsortMatchesModel", fn := fun _ => fun
  | [d] => { results := [.lit (.bool false)], args := [d] }
  | _ => none }
def AddrsortMatchesModelWrongFalsely : Prop := addrsortMatchesModelRow.holds Tryd.pinned (OpenSpec.ofChange addrsortMatchesModelWrong)

/-- 'ginnellaw25.AddrsortIsStableSort': WHATEVER THE INPUT: true; the input reads as it did. -/
def addrsortIsStableSortSpec : ChangeSpec := { name := "addrsortIsStableSort", fn := fun _ => fun
  | [d] => { results := [.lit (.bool true)], args := [d] }
  | _ => none }
def addrsortIsStableSortRow : OpenClaim := { program := "ytiklhaajhdephaadoor", sum := "8ffe91ca2e1ad336516a23fae971543e8c2af5516bc9d5ada8dbb92e58ae68b7", func := "ginnel/ginnellaw25.AddrsortIsStableSort", spec := "addrsortIsStableSort", inPlace := ["internal/bytealg.IndexByteString", "internal/bytealg.IndexString"], unfollowed := true, recurses := true, named := ["unicode/utf8.first", "unicode/utf8.acceptRanges", "internal/bytealg.MaxLen"], plainKeys := false, apart := false, laid := [("unicode/utf8.acceptRanges", laid_unicode_utf8_acceptRanges), ("unicode/utf8.first", laid_unicode_utf8_first)] }
def AddrsortIsStableSortSaid : Prop := addrsortIsStableSortRow.holds Tryd.pinned (OpenSpec.ofChange addrsortIsStableSortSpec)

/-- ITS FALSE NEIGHBOUR: 'it returns false'. Refute it at one input. -/
def addrsortIsStableSortWrong : ChangeSpec := { name := "addrsortIsStableSort", fn := fun _ => fun
  | [d] => { results := [.lit (.bool false)], args := [d] }
  | _ => none }
def AddrsortIsStableSortWrongFalsely : Prop := addrsortIsStableSortRow.holds Tryd.pinned (OpenSpec.ofChange addrsortIsStableSortWrong)

/-- 'ginnellaw28.CandidatesMatchModel': WHATEVER THE INPUT: true; the input reads as it did. -/
def candidatesMatchModelSpec : ChangeSpec := { name := "candidatesMatchModel", fn := fun _ => fun
  | [d1, d2] => { results := [.lit (.bool true)], args := [d1, d2] }
  | _ => none }
def candidatesMatchModelRow : OpenClaim := { program := "ytiklhaajhdephaadoor", sum := "8ffe91ca2e1ad336516a23fae971543e8c2af5516bc9d5ada8dbb92e58ae68b7", func := "ginnel/ginnellaw28.CandidatesMatchModel", spec := "candidatesMatchModel", inPlace := ["internal/bytealg.IndexByteString", "internal/bytealg.IndexString"], unfollowed := true, recurses := true, named := ["unicode/utf8.first", "unicode/utf8.acceptRanges", "internal/bytealg.MaxLen"], plainKeys := false, apart := false, laid := [("unicode/utf8.acceptRanges", laid_unicode_utf8_acceptRanges), ("unicode/utf8.first", laid_unicode_utf8_first)] }
def CandidatesMatchModelSaid : Prop := candidatesMatchModelRow.holds Tryd.pinned (OpenSpec.ofChange candidatesMatchModelSpec)

/-- ITS FALSE NEIGHBOUR: 'it returns false'. Refute it at one input. -/
def candidatesMatchModelWrong : ChangeSpec := { name := "candidatesMatchModel", fn := fun _ => fun
  | [d1, d2] => { results := [.lit (.bool false)], args := [d1, d2] }
  | _ => none }
def CandidatesMatchModelWrongFalsely : Prop := candidatesMatchModelRow.holds Tryd.pinned (OpenSpec.ofChange candidatesMatchModelWrong)

/-- 'ginnellaw28.CandidatesAreTakenOnce': WHATEVER THE INPUT: true; the input reads as it did. -/
def candidatesAreTakenOnceSpec : ChangeSpec := { name := "candidatesAreTakenOnce", fn := fun _ => fun
  | [d1, d2, d3, d4] => { results := [.lit (.bool true)], args := [d1, d2, d3, d4] }
  | _ => none }
def candidatesAreTakenOnceRow : OpenClaim := { program := "ytiklhaajhdephaadoor", sum := "8ffe91ca2e1ad336516a23fae971543e8c2af5516bc9d5ada8dbb92e58ae68b7", func := "ginnel/ginnellaw28.CandidatesAreTakenOnce", spec := "candidatesAreTakenOnce", inPlace := ["internal/bytealg.IndexByteString", "internal/bytealg.IndexString"], unfollowed := true, recurses := true, named := ["unicode/utf8.first", "unicode/utf8.acceptRanges", "internal/bytealg.MaxLen"], plainKeys := false, apart := false, laid := [("unicode/utf8.acceptRanges", laid_unicode_utf8_acceptRanges), ("unicode/utf8.first", laid_unicode_utf8_first)] }
def CandidatesAreTakenOnceSaid : Prop := candidatesAreTakenOnceRow.holds Tryd.pinned (OpenSpec.ofChange candidatesAreTakenOnceSpec)

/-- ITS FALSE NEIGHBOUR: 'it returns false'. Refute it at one input. -/
def candidatesAreTakenOnceWrong : ChangeSpec := { name := "candidatesAreTakenOnce", fn := fun _ => fun
  | [d1, d2, d3, d4] => { results := [.lit (.bool false)], args := [d1, d2, d3, d4] }
  | _ => none }
def CandidatesAreTakenOnceWrongFalsely : Prop := candidatesAreTakenOnceRow.holds Tryd.pinned (OpenSpec.ofChange candidatesAreTakenOnceWrong)

/-- 'ginnellaw28.CandidatesAlternateFamilies': WHATEVER THE INPUT: true; the input reads as it did. -/
def candidatesAlternateFamiliesSpec : ChangeSpec := { name := "candidatesAlternateFamilies", fn := fun _ => fun
  | [d1, d2] => { results := [.lit (.bool true)], args := [d1, d2] }
  | _ => none }
def candidatesAlternateFamiliesRow : OpenClaim := { program := "ytiklhaajhdephaadoor", sum := "8ffe91ca2e1ad336516a23fae971543e8c2af5516bc9d5ada8dbb92e58ae68b7", func := "ginnel/ginnellaw28.CandidatesAlternateFamilies", spec := "candidatesAlternateFamilies", inPlace := ["internal/bytealg.IndexByteString", "internal/bytealg.IndexString"], unfollowed := true, recurses := true, named := ["unicode/utf8.first", "unicode/utf8.acceptRanges", "internal/bytealg.MaxLen"], plainKeys := false, apart := false, laid := [("unicode/utf8.acceptRanges", laid_unicode_utf8_acceptRanges), ("unicode/utf8.first", laid_unicode_utf8_first)] }
def CandidatesAlternateFamiliesSaid : Prop := candidatesAlternateFamiliesRow.holds Tryd.pinned (OpenSpec.ofChange candidatesAlternateFamiliesSpec)

/-- ITS FALSE NEIGHBOUR: 'it returns false'. Refute it at one input. -/
def candidatesAlternateFamiliesWrong : ChangeSpec := { name := "candidatesAlternateFamilies", fn := fun _ => fun
  | [d1, d2] => { results := [.lit (.bool false)], args := [d1, d2] }
  | _ => none }
def CandidatesAlternateFamiliesWrongFalsely : Prop := candidatesAlternateFamiliesRow.holds Tryd.pinned (OpenSpec.ofChange candidatesAlternateFamiliesWrong)

/-- 'ginnellaw28.CandidatesDoNotAlias': WHATEVER THE INPUT: true; the input reads as it did. -/
def candidatesDoNotAliasSpec : ChangeSpec := { name := "candidatesDoNotAlias", fn := fun _ => fun
  | [d1, d2] => { results := [.lit (.bool true)], args := [d1, d2] }
  | _ => none }
def candidatesDoNotAliasRow : OpenClaim := { program := "ytiklhaajhdephaadoor", sum := "8ffe91ca2e1ad336516a23fae971543e8c2af5516bc9d5ada8dbb92e58ae68b7", func := "ginnel/ginnellaw28.CandidatesDoNotAlias", spec := "candidatesDoNotAlias", inPlace := ["internal/bytealg.IndexByteString", "internal/bytealg.IndexString"], unfollowed := true, recurses := true, named := ["unicode/utf8.first", "unicode/utf8.acceptRanges", "internal/bytealg.MaxLen"], plainKeys := false, apart := false, laid := [("unicode/utf8.acceptRanges", laid_unicode_utf8_acceptRanges), ("unicode/utf8.first", laid_unicode_utf8_first)] }
def CandidatesDoNotAliasSaid : Prop := candidatesDoNotAliasRow.holds Tryd.pinned (OpenSpec.ofChange candidatesDoNotAliasSpec)

/-- ITS FALSE NEIGHBOUR: 'it returns false'. Refute it at one input. -/
def candidatesDoNotAliasWrong : ChangeSpec := { name := "candidatesDoNotAlias", fn := fun _ => fun
  | [d1, d2] => { results := [.lit (.bool false)], args := [d1, d2] }
  | _ => none }
def CandidatesDoNotAliasWrongFalsely : Prop := candidatesDoNotAliasRow.holds Tryd.pinned (OpenSpec.ofChange candidatesDoNotAliasWrong)

/-- 'ginnellaw29.DialerValidatesConfig': WHATEVER THE INPUT: true; the input reads as it did. -/
def dialerValidatesConfigSpec : ChangeSpec := { name := "dialerValidatesConfig", fn := fun _ => fun
  | [d1, d2] => { results := [.lit (.bool true)], args := [d1, d2] }
  | _ => none }
def dialerValidatesConfigRow : OpenClaim := { program := "ytiklhaajhdephaadoor", sum := "8ffe91ca2e1ad336516a23fae971543e8c2af5516bc9d5ada8dbb92e58ae68b7", func := "ginnel/ginnellaw29.DialerValidatesConfig", spec := "dialerValidatesConfig", inPlace := ["internal/bytealg.IndexByteString", "internal/bytealg.IndexString"], unfollowed := true, recurses := true, named := ["unicode/utf8.first", "unicode/utf8.acceptRanges", "internal/bytealg.MaxLen"], plainKeys := false, apart := false, laid := [("unicode/utf8.acceptRanges", laid_unicode_utf8_acceptRanges), ("unicode/utf8.first", laid_unicode_utf8_first)] }
def DialerValidatesConfigSaid : Prop := dialerValidatesConfigRow.holds Tryd.pinned (OpenSpec.ofChange dialerValidatesConfigSpec)

/-- ITS FALSE NEIGHBOUR: 'it returns false'. Refute it at one input. -/
def dialerValidatesConfigWrong : ChangeSpec := { name := "dialerValidatesConfig", fn := fun _ => fun
  | [d1, d2] => { results := [.lit (.bool false)], args := [d1, d2] }
  | _ => none }
def DialerValidatesConfigWrongFalsely : Prop := dialerValidatesConfigRow.holds Tryd.pinned (OpenSpec.ofChange dialerValidatesConfigWrong)

/-- 'ginnellaw29.DialerStaggersAttempts': WHATEVER THE INPUT: true; the input reads as it did. -/
def dialerStaggersAttemptsSpec : ChangeSpec := { name := "dialerStaggersAttempts", fn := fun _ => fun
  | [d1, d2] => { results := [.lit (.bool true)], args := [d1, d2] }
  | _ => none }
def dialerStaggersAttemptsRow : OpenClaim := { program := "ytiklhaajhdephaadoor", sum := "8ffe91ca2e1ad336516a23fae971543e8c2af5516bc9d5ada8dbb92e58ae68b7", func := "ginnel/ginnellaw29.DialerStaggersAttempts", spec := "dialerStaggersAttempts", inPlace := ["internal/bytealg.IndexByteString", "internal/bytealg.IndexString"], unfollowed := true, recurses := true, named := ["unicode/utf8.first", "unicode/utf8.acceptRanges", "internal/bytealg.MaxLen"], plainKeys := false, apart := false, laid := [("unicode/utf8.acceptRanges", laid_unicode_utf8_acceptRanges), ("unicode/utf8.first", laid_unicode_utf8_first)] }
def DialerStaggersAttemptsSaid : Prop := dialerStaggersAttemptsRow.holds Tryd.pinned (OpenSpec.ofChange dialerStaggersAttemptsSpec)

/-- ITS FALSE NEIGHBOUR: 'it returns false'. Refute it at one input. -/
def dialerStaggersAttemptsWrong : ChangeSpec := { name := "dialerStaggersAttempts", fn := fun _ => fun
  | [d1, d2] => { results := [.lit (.bool false)], args := [d1, d2] }
  | _ => none }
def DialerStaggersAttemptsWrongFalsely : Prop := dialerStaggersAttemptsRow.holds Tryd.pinned (OpenSpec.ofChange dialerStaggersAttemptsWrong)

/-- 'ginnellaw29.DialerReportsExhaustion': WHATEVER THE INPUT: true; the input reads as it did. -/
def dialerReportsExhaustionSpec : ChangeSpec := { name := "dialerReportsExhaustion", fn := fun _ => fun
  | [d1, d2, d3, d4] => { results := [.lit (.bool true)], args := [d1, d2, d3, d4] }
  | _ => none }
def dialerReportsExhaustionRow : OpenClaim := { program := "ytiklhaajhdephaadoor", sum := "8ffe91ca2e1ad336516a23fae971543e8c2af5516bc9d5ada8dbb92e58ae68b7", func := "ginnel/ginnellaw29.DialerReportsExhaustion", spec := "dialerReportsExhaustion", inPlace := ["internal/bytealg.IndexByteString", "internal/bytealg.IndexString"], unfollowed := true, recurses := true, named := ["unicode/utf8.first", "unicode/utf8.acceptRanges", "internal/bytealg.MaxLen"], plainKeys := false, apart := false, laid := [("unicode/utf8.acceptRanges", laid_unicode_utf8_acceptRanges), ("unicode/utf8.first", laid_unicode_utf8_first)] }
def DialerReportsExhaustionSaid : Prop := dialerReportsExhaustionRow.holds Tryd.pinned (OpenSpec.ofChange dialerReportsExhaustionSpec)

/-- ITS FALSE NEIGHBOUR: 'it returns false'. Refute it at one input. -/
def dialerReportsExhaustionWrong : ChangeSpec := { name := "dialerReportsExhaustion", fn := fun _ => fun
  | [d1, d2, d3, d4] => { results := [.lit (.bool false)], args := [d1, d2, d3, d4] }
  | _ => none }
def DialerReportsExhaustionWrongFalsely : Prop := dialerReportsExhaustionRow.holds Tryd.pinned (OpenSpec.ofChange dialerReportsExhaustionWrong)

/- THE SECOND FORM. 'bulk': how many values and letters a reading holds, each counted each time it is reached (what is shared counts as often as it is met; a slice's spare places count too). A statement '..UptoSaid' is the law's where the arguments, and the package variables that the reading takes, are together of bulk at most 1048576: NARROWER than '..Said'. Prove '..Said' where nothing that the law and all that it calls make is longer than what came in: it says more and counts as full. Else prove '..UptoSaid'. A law counts once. -/
mutual
def uptoBulk {H : Type} : DataW H → Nat
  | .lit (.string bytes) => bytes.length + 1
  | .lit _ => 1
  | .nil => 1
  | .ptr d => uptoBulk d + 1
  | .slice elems spare => uptoBulkAll elems + uptoBulkAll spare + 1
  | .agg parts => uptoBulkAll parts + 1
  | .iface _ d => uptoBulk d + 1
  | .map entries => uptoBulkEntries entries + 1
  | .held _ => 1
def uptoBulkAll {H : Type} : List (DataW H) → Nat
  | [] => 0
  | d :: r => uptoBulk d + uptoBulkAll r
def uptoBulkEntries {H : Type} : List (Lit × DataW H) → Nat
  | [] => 0
  | x :: r => uptoBulkEntry x + uptoBulkEntries r
def uptoBulkEntry {H : Type} : Lit × DataW H → Nat
  | (.string bytes, d) => bytes.length + uptoBulk d + 1
  | (_, d) => uptoBulk d + 1
 end
def uptoSmall : (H : Type) → List (DataW H) → Bool := fun _ ds => decide (uptoBulkAll ds ≤ 1048576)
def OpenSpec.upto (s : _root_.Go.ChangeSpec) : _root_.Go.OpenSpec := { _root_.Go.OpenSpec.ofChange s with cond := some uptoSmall }

/-- 'ginnellaw25.AddrsortMatchesModel', WHERE WHAT IT READS IS OF BULK AT MOST 1048576: true; the input reads as it did. -/
def addrsortMatchesModelUptoRow : OpenClaim := { program := "ytiklhaajhdephaadoor", sum := "8ffe91ca2e1ad336516a23fae971543e8c2af5516bc9d5ada8dbb92e58ae68b7", func := "ginnel/ginnellaw25.AddrsortMatchesModel", spec := "addrsortMatchesModel", inPlace := ["internal/bytealg.IndexByteString", "internal/bytealg.IndexString"], unfollowed := true, recurses := true, named := ["unicode/utf8.first", "unicode/utf8.acceptRanges", "internal/bytealg.MaxLen"], plainKeys := false, apart := false, laid := [("unicode/utf8.acceptRanges", laid_unicode_utf8_acceptRanges), ("unicode/utf8.first", laid_unicode_utf8_first)], narrowed := true }
def AddrsortMatchesModelUptoSaid : Prop := addrsortMatchesModelUptoRow.holds Tryd.pinned (OpenSpec.upto addrsortMatchesModelSpec)

/-- 'ginnellaw25.AddrsortIsStableSort', WHERE WHAT IT READS IS OF BULK AT MOST 1048576: true; the input reads as it did. -/
def addrsortIsStableSortUptoRow : OpenClaim := { program := "ytiklhaajhdephaadoor", sum := "8ffe91ca2e1ad336516a23fae971543e8c2af5516bc9d5ada8dbb92e58ae68b7", func := "ginnel/ginnellaw25.AddrsortIsStableSort", spec := "addrsortIsStableSort", inPlace := ["internal/bytealg.IndexByteString", "internal/bytealg.IndexString"], unfollowed := true, recurses := true, named := ["unicode/utf8.first", "unicode/utf8.acceptRanges", "internal/bytealg.MaxLen"], plainKeys := false, apart := false, laid := [("unicode/utf8.acceptRanges", laid_unicode_utf8_acceptRanges), ("unicode/utf8.first", laid_unicode_utf8_first)], narrowed := true }
def AddrsortIsStableSortUptoSaid : Prop := addrsortIsStableSortUptoRow.holds Tryd.pinned (OpenSpec.upto addrsortIsStableSortSpec)

/-- 'ginnellaw28.CandidatesMatchModel', WHERE WHAT IT READS IS OF BULK AT MOST 1048576: true; the input reads as it did. -/
def candidatesMatchModelUptoRow : OpenClaim := { program := "ytiklhaajhdephaadoor", sum := "8ffe91ca2e1ad336516a23fae971543e8c2af5516bc9d5ada8dbb92e58ae68b7", func := "ginnel/ginnellaw28.CandidatesMatchModel", spec := "candidatesMatchModel", inPlace := ["internal/bytealg.IndexByteString", "internal/bytealg.IndexString"], unfollowed := true, recurses := true, named := ["unicode/utf8.first", "unicode/utf8.acceptRanges", "internal/bytealg.MaxLen"], plainKeys := false, apart := false, laid := [("unicode/utf8.acceptRanges", laid_unicode_utf8_acceptRanges), ("unicode/utf8.first", laid_unicode_utf8_first)], narrowed := true }
def CandidatesMatchModelUptoSaid : Prop := candidatesMatchModelUptoRow.holds Tryd.pinned (OpenSpec.upto candidatesMatchModelSpec)

/-- 'ginnellaw28.CandidatesAreTakenOnce', WHERE WHAT IT READS IS OF BULK AT MOST 1048576: true; the input reads as it did. -/
def candidatesAreTakenOnceUptoRow : OpenClaim := { program := "ytiklhaajhdephaadoor", sum := "8ffe91ca2e1ad336516a23fae971543e8c2af5516bc9d5ada8dbb92e58ae68b7", func := "ginnel/ginnellaw28.CandidatesAreTakenOnce", spec := "candidatesAreTakenOnce", inPlace := ["internal/bytealg.IndexByteString", "internal/bytealg.IndexString"], unfollowed := true, recurses := true, named := ["unicode/utf8.first", "unicode/utf8.acceptRanges", "internal/bytealg.MaxLen"], plainKeys := false, apart := false, laid := [("unicode/utf8.acceptRanges", laid_unicode_utf8_acceptRanges), ("unicode/utf8.first", laid_unicode_utf8_first)], narrowed := true }
def CandidatesAreTakenOnceUptoSaid : Prop := candidatesAreTakenOnceUptoRow.holds Tryd.pinned (OpenSpec.upto candidatesAreTakenOnceSpec)

/-- 'ginnellaw28.CandidatesAlternateFamilies', WHERE WHAT IT READS IS OF BULK AT MOST 1048576: true; the input reads as it did. -/
def candidatesAlternateFamiliesUptoRow : OpenClaim := { program := "ytiklhaajhdephaadoor", sum := "8ffe91ca2e1ad336516a23fae971543e8c2af5516bc9d5ada8dbb92e58ae68b7", func := "ginnel/ginnellaw28.CandidatesAlternateFamilies", spec := "candidatesAlternateFamilies", inPlace := ["internal/bytealg.IndexByteString", "internal/bytealg.IndexString"], unfollowed := true, recurses := true, named := ["unicode/utf8.first", "unicode/utf8.acceptRanges", "internal/bytealg.MaxLen"], plainKeys := false, apart := false, laid := [("unicode/utf8.acceptRanges", laid_unicode_utf8_acceptRanges), ("unicode/utf8.first", laid_unicode_utf8_first)], narrowed := true }
def CandidatesAlternateFamiliesUptoSaid : Prop := candidatesAlternateFamiliesUptoRow.holds Tryd.pinned (OpenSpec.upto candidatesAlternateFamiliesSpec)

/-- 'ginnellaw28.CandidatesDoNotAlias', WHERE WHAT IT READS IS OF BULK AT MOST 1048576: true; the input reads as it did. -/
def candidatesDoNotAliasUptoRow : OpenClaim := { program := "ytiklhaajhdephaadoor", sum := "8ffe91ca2e1ad336516a23fae971543e8c2af5516bc9d5ada8dbb92e58ae68b7", func := "ginnel/ginnellaw28.CandidatesDoNotAlias", spec := "candidatesDoNotAlias", inPlace := ["internal/bytealg.IndexByteString", "internal/bytealg.IndexString"], unfollowed := true, recurses := true, named := ["unicode/utf8.first", "unicode/utf8.acceptRanges", "internal/bytealg.MaxLen"], plainKeys := false, apart := false, laid := [("unicode/utf8.acceptRanges", laid_unicode_utf8_acceptRanges), ("unicode/utf8.first", laid_unicode_utf8_first)], narrowed := true }
def CandidatesDoNotAliasUptoSaid : Prop := candidatesDoNotAliasUptoRow.holds Tryd.pinned (OpenSpec.upto candidatesDoNotAliasSpec)

/-- 'ginnellaw29.DialerValidatesConfig', WHERE WHAT IT READS IS OF BULK AT MOST 1048576: true; the input reads as it did. -/
def dialerValidatesConfigUptoRow : OpenClaim := { program := "ytiklhaajhdephaadoor", sum := "8ffe91ca2e1ad336516a23fae971543e8c2af5516bc9d5ada8dbb92e58ae68b7", func := "ginnel/ginnellaw29.DialerValidatesConfig", spec := "dialerValidatesConfig", inPlace := ["internal/bytealg.IndexByteString", "internal/bytealg.IndexString"], unfollowed := true, recurses := true, named := ["unicode/utf8.first", "unicode/utf8.acceptRanges", "internal/bytealg.MaxLen"], plainKeys := false, apart := false, laid := [("unicode/utf8.acceptRanges", laid_unicode_utf8_acceptRanges), ("unicode/utf8.first", laid_unicode_utf8_first)], narrowed := true }
def DialerValidatesConfigUptoSaid : Prop := dialerValidatesConfigUptoRow.holds Tryd.pinned (OpenSpec.upto dialerValidatesConfigSpec)

/-- 'ginnellaw29.DialerStaggersAttempts', WHERE WHAT IT READS IS OF BULK AT MOST 1048576: true; the input reads as it did. -/
def dialerStaggersAttemptsUptoRow : OpenClaim := { program := "ytiklhaajhdephaadoor", sum := "8ffe91ca2e1ad336516a23fae971543e8c2af5516bc9d5ada8dbb92e58ae68b7", func := "ginnel/ginnellaw29.DialerStaggersAttempts", spec := "dialerStaggersAttempts", inPlace := ["internal/bytealg.IndexByteString", "internal/bytealg.IndexString"], unfollowed := true, recurses := true, named := ["unicode/utf8.first", "unicode/utf8.acceptRanges", "internal/bytealg.MaxLen"], plainKeys := false, apart := false, laid := [("unicode/utf8.acceptRanges", laid_unicode_utf8_acceptRanges), ("unicode/utf8.first", laid_unicode_utf8_first)], narrowed := true }
def DialerStaggersAttemptsUptoSaid : Prop := dialerStaggersAttemptsUptoRow.holds Tryd.pinned (OpenSpec.upto dialerStaggersAttemptsSpec)

/-- 'ginnellaw29.DialerReportsExhaustion', WHERE WHAT IT READS IS OF BULK AT MOST 1048576: true; the input reads as it did. -/
def dialerReportsExhaustionUptoRow : OpenClaim := { program := "ytiklhaajhdephaadoor", sum := "8ffe91ca2e1ad336516a23fae971543e8c2af5516bc9d5ada8dbb92e58ae68b7", func := "ginnel/ginnellaw29.DialerReportsExhaustion", spec := "dialerReportsExhaustion", inPlace := ["internal/bytealg.IndexByteString", "internal/bytealg.IndexString"], unfollowed := true, recurses := true, named := ["unicode/utf8.first", "unicode/utf8.acceptRanges", "internal/bytealg.MaxLen"], plainKeys := false, apart := false, laid := [("unicode/utf8.acceptRanges", laid_unicode_utf8_acceptRanges), ("unicode/utf8.first", laid_unicode_utf8_first)], narrowed := true }
def DialerReportsExhaustionUptoSaid : Prop := dialerReportsExhaustionUptoRow.holds Tryd.pinned (OpenSpec.upto dialerReportsExhaustionSpec)

end Rows
end Go.Proofs.YtiklhaajhdephaaDoor
