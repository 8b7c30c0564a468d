/-
  DERIVED. GIVEN WITH THE SEED: THE CARDS: each row of YtiklhaajhdephaaDoorRows.lean that lists a variable, with what it lists TIED to the program's text (the seventh form; the later family's looks); each row that meets fmt, with fmt's text TOLD by the authors' own Lean function (tested against real Go, not proved from fmt's source: count such statements apart). THE CARD IS WHAT COUNTS. Prove the row's statement (the work); the ties are given (YtiklhaajhdephaaDoorTie.lean); close each card by the builder's one call (the guide's Derived/Test/ToyasCard.lean, 'card_holds'). Laid BY PROGRAM, IN A SANDBOX (cutbox-door.mjs). By AI agents, Wed Nov 11 2026. No macro, syntax, notation, axiom, sorry.
-/
import Derived.Test.YtiklhaajhdephaaDoorRows
import GoSem.ClaimSeven
namespace Go.Proofs.YtiklhaajhdephaaDoor
namespace Rows

/-- THE TIED CARD OF 'ginnellaw25.AddrsortMatchesModel'. -/
def addrsortMatchesModelCard : Claim7 := { stood := { row := addrsortMatchesModelRow, standIns := [], harness := (true, "5befad24a3e9b3d9c688acd4ea44020d752db1b22d3d70f9edc34305006425d2"), looks := false }, kinds := [], alts := [], laidByText := true, laidKinds := [.data, .pinned], laidTests := true, laidLooks := .later }
def AddrsortMatchesModelCardSaid : Prop := Claim7.holds Tryd.pinned (.plain (OpenSpec.ofChange addrsortMatchesModelSpec)) addrsortMatchesModelCard

/-- THE TIED CARD OF 'ginnellaw25.AddrsortIsStableSort'. -/
def addrsortIsStableSortCard : Claim7 := { stood := { row := addrsortIsStableSortRow, standIns := [], harness := (true, "5befad24a3e9b3d9c688acd4ea44020d752db1b22d3d70f9edc34305006425d2"), looks := false }, kinds := [], alts := [], laidByText := true, laidKinds := [.data, .pinned], laidTests := true, laidLooks := .later }
def AddrsortIsStableSortCardSaid : Prop := Claim7.holds Tryd.pinned (.plain (OpenSpec.ofChange addrsortIsStableSortSpec)) addrsortIsStableSortCard

/-- THE TIED CARD OF 'ginnellaw28.CandidatesMatchModel'. -/
def candidatesMatchModelCard : Claim7 := { stood := { row := candidatesMatchModelRow, standIns := [], harness := (true, "5befad24a3e9b3d9c688acd4ea44020d752db1b22d3d70f9edc34305006425d2"), looks := false }, kinds := [], alts := [], laidByText := true, laidKinds := [.data, .pinned], laidTests := true, laidLooks := .later }
def CandidatesMatchModelCardSaid : Prop := Claim7.holds Tryd.pinned (.plain (OpenSpec.ofChange candidatesMatchModelSpec)) candidatesMatchModelCard

/-- THE TIED CARD OF 'ginnellaw28.CandidatesAreTakenOnce'. -/
def candidatesAreTakenOnceCard : Claim7 := { stood := { row := candidatesAreTakenOnceRow, standIns := [], harness := (true, "5befad24a3e9b3d9c688acd4ea44020d752db1b22d3d70f9edc34305006425d2"), looks := false }, kinds := [], alts := [], laidByText := true, laidKinds := [.data, .pinned], laidTests := true, laidLooks := .later }
def CandidatesAreTakenOnceCardSaid : Prop := Claim7.holds Tryd.pinned (.plain (OpenSpec.ofChange candidatesAreTakenOnceSpec)) candidatesAreTakenOnceCard

/-- THE TIED CARD OF 'ginnellaw28.CandidatesAlternateFamilies'. -/
def candidatesAlternateFamiliesCard : Claim7 := { stood := { row := candidatesAlternateFamiliesRow, standIns := [], harness := (true, "5befad24a3e9b3d9c688acd4ea44020d752db1b22d3d70f9edc34305006425d2"), looks := false }, kinds := [], alts := [], laidByText := true, laidKinds := [.data, .pinned], laidTests := true, laidLooks := .later }
def CandidatesAlternateFamiliesCardSaid : Prop := Claim7.holds Tryd.pinned (.plain (OpenSpec.ofChange candidatesAlternateFamiliesSpec)) candidatesAlternateFamiliesCard

/-- THE TIED CARD OF 'ginnellaw28.CandidatesDoNotAlias'. -/
def candidatesDoNotAliasCard : Claim7 := { stood := { row := candidatesDoNotAliasRow, standIns := [], harness := (true, "5befad24a3e9b3d9c688acd4ea44020d752db1b22d3d70f9edc34305006425d2"), looks := false }, kinds := [], alts := [], laidByText := true, laidKinds := [.data, .pinned], laidTests := true, laidLooks := .later }
def CandidatesDoNotAliasCardSaid : Prop := Claim7.holds Tryd.pinned (.plain (OpenSpec.ofChange candidatesDoNotAliasSpec)) candidatesDoNotAliasCard

/-- THE TIED CARD OF 'ginnellaw29.DialerValidatesConfig'. -/
def dialerValidatesConfigCard : Claim7 := { stood := { row := dialerValidatesConfigRow, standIns := [], harness := (true, "5befad24a3e9b3d9c688acd4ea44020d752db1b22d3d70f9edc34305006425d2"), looks := false }, kinds := [], alts := [], laidByText := true, laidKinds := [.data, .pinned], laidTests := true, laidLooks := .later }
def DialerValidatesConfigCardSaid : Prop := Claim7.holds Tryd.pinned (.plain (OpenSpec.ofChange dialerValidatesConfigSpec)) dialerValidatesConfigCard

/-- THE TIED CARD OF 'ginnellaw29.DialerStaggersAttempts'. -/
def dialerStaggersAttemptsCard : Claim7 := { stood := { row := dialerStaggersAttemptsRow, standIns := [], harness := (true, "5befad24a3e9b3d9c688acd4ea44020d752db1b22d3d70f9edc34305006425d2"), looks := false }, kinds := [], alts := [], laidByText := true, laidKinds := [.data, .pinned], laidTests := true, laidLooks := .later }
def DialerStaggersAttemptsCardSaid : Prop := Claim7.holds Tryd.pinned (.plain (OpenSpec.ofChange dialerStaggersAttemptsSpec)) dialerStaggersAttemptsCard

/-- THE TIED CARD OF 'ginnellaw29.DialerReportsExhaustion'. -/
def dialerReportsExhaustionCard : Claim7 := { stood := { row := dialerReportsExhaustionRow, standIns := [], harness := (true, "5befad24a3e9b3d9c688acd4ea44020d752db1b22d3d70f9edc34305006425d2"), looks := false }, kinds := [], alts := [], laidByText := true, laidKinds := [.data, .pinned], laidTests := true, laidLooks := .later }
def DialerReportsExhaustionCardSaid : Prop := Claim7.holds Tryd.pinned (.plain (OpenSpec.ofChange dialerReportsExhaustionSpec)) dialerReportsExhaustionCard

/-- THE SECOND FORM's CARD OF 'ginnellaw25.AddrsortMatchesModel'. -/
def addrsortMatchesModelUptoCard : Claim7 := { stood := { row := addrsortMatchesModelUptoRow, standIns := [], harness := (true, "5befad24a3e9b3d9c688acd4ea44020d752db1b22d3d70f9edc34305006425d2"), looks := false }, kinds := [], alts := [], laidByText := true, laidKinds := [.data, .pinned], laidTests := true, laidLooks := .later }
def AddrsortMatchesModelUptoCardSaid : Prop := Claim7.holds Tryd.pinned (.plain (OpenSpec.upto addrsortMatchesModelSpec)) addrsortMatchesModelUptoCard

/-- THE SECOND FORM's CARD OF 'ginnellaw25.AddrsortIsStableSort'. -/
def addrsortIsStableSortUptoCard : Claim7 := { stood := { row := addrsortIsStableSortUptoRow, standIns := [], harness := (true, "5befad24a3e9b3d9c688acd4ea44020d752db1b22d3d70f9edc34305006425d2"), looks := false }, kinds := [], alts := [], laidByText := true, laidKinds := [.data, .pinned], laidTests := true, laidLooks := .later }
def AddrsortIsStableSortUptoCardSaid : Prop := Claim7.holds Tryd.pinned (.plain (OpenSpec.upto addrsortIsStableSortSpec)) addrsortIsStableSortUptoCard

/-- THE SECOND FORM's CARD OF 'ginnellaw28.CandidatesMatchModel'. -/
def candidatesMatchModelUptoCard : Claim7 := { stood := { row := candidatesMatchModelUptoRow, standIns := [], harness := (true, "5befad24a3e9b3d9c688acd4ea44020d752db1b22d3d70f9edc34305006425d2"), looks := false }, kinds := [], alts := [], laidByText := true, laidKinds := [.data, .pinned], laidTests := true, laidLooks := .later }
def CandidatesMatchModelUptoCardSaid : Prop := Claim7.holds Tryd.pinned (.plain (OpenSpec.upto candidatesMatchModelSpec)) candidatesMatchModelUptoCard

/-- THE SECOND FORM's CARD OF 'ginnellaw28.CandidatesAreTakenOnce'. -/
def candidatesAreTakenOnceUptoCard : Claim7 := { stood := { row := candidatesAreTakenOnceUptoRow, standIns := [], harness := (true, "5befad24a3e9b3d9c688acd4ea44020d752db1b22d3d70f9edc34305006425d2"), looks := false }, kinds := [], alts := [], laidByText := true, laidKinds := [.data, .pinned], laidTests := true, laidLooks := .later }
def CandidatesAreTakenOnceUptoCardSaid : Prop := Claim7.holds Tryd.pinned (.plain (OpenSpec.upto candidatesAreTakenOnceSpec)) candidatesAreTakenOnceUptoCard

/-- THE SECOND FORM's CARD OF 'ginnellaw28.CandidatesAlternateFamilies'. -/
def candidatesAlternateFamiliesUptoCard : Claim7 := { stood := { row := candidatesAlternateFamiliesUptoRow, standIns := [], harness := (true, "5befad24a3e9b3d9c688acd4ea44020d752db1b22d3d70f9edc34305006425d2"), looks := false }, kinds := [], alts := [], laidByText := true, laidKinds := [.data, .pinned], laidTests := true, laidLooks := .later }
def CandidatesAlternateFamiliesUptoCardSaid : Prop := Claim7.holds Tryd.pinned (.plain (OpenSpec.upto candidatesAlternateFamiliesSpec)) candidatesAlternateFamiliesUptoCard

/-- THE SECOND FORM's CARD OF 'ginnellaw28.CandidatesDoNotAlias'. -/
def candidatesDoNotAliasUptoCard : Claim7 := { stood := { row := candidatesDoNotAliasUptoRow, standIns := [], harness := (true, "5befad24a3e9b3d9c688acd4ea44020d752db1b22d3d70f9edc34305006425d2"), looks := false }, kinds := [], alts := [], laidByText := true, laidKinds := [.data, .pinned], laidTests := true, laidLooks := .later }
def CandidatesDoNotAliasUptoCardSaid : Prop := Claim7.holds Tryd.pinned (.plain (OpenSpec.upto candidatesDoNotAliasSpec)) candidatesDoNotAliasUptoCard

/-- THE SECOND FORM's CARD OF 'ginnellaw29.DialerValidatesConfig'. -/
def dialerValidatesConfigUptoCard : Claim7 := { stood := { row := dialerValidatesConfigUptoRow, standIns := [], harness := (true, "5befad24a3e9b3d9c688acd4ea44020d752db1b22d3d70f9edc34305006425d2"), looks := false }, kinds := [], alts := [], laidByText := true, laidKinds := [.data, .pinned], laidTests := true, laidLooks := .later }
def DialerValidatesConfigUptoCardSaid : Prop := Claim7.holds Tryd.pinned (.plain (OpenSpec.upto dialerValidatesConfigSpec)) dialerValidatesConfigUptoCard

/-- THE SECOND FORM's CARD OF 'ginnellaw29.DialerStaggersAttempts'. -/
def dialerStaggersAttemptsUptoCard : Claim7 := { stood := { row := dialerStaggersAttemptsUptoRow, standIns := [], harness := (true, "5befad24a3e9b3d9c688acd4ea44020d752db1b22d3d70f9edc34305006425d2"), looks := false }, kinds := [], alts := [], laidByText := true, laidKinds := [.data, .pinned], laidTests := true, laidLooks := .later }
def DialerStaggersAttemptsUptoCardSaid : Prop := Claim7.holds Tryd.pinned (.plain (OpenSpec.upto dialerStaggersAttemptsSpec)) dialerStaggersAttemptsUptoCard

/-- THE SECOND FORM's CARD OF 'ginnellaw29.DialerReportsExhaustion'. -/
def dialerReportsExhaustionUptoCard : Claim7 := { stood := { row := dialerReportsExhaustionUptoRow, standIns := [], harness := (true, "5befad24a3e9b3d9c688acd4ea44020d752db1b22d3d70f9edc34305006425d2"), looks := false }, kinds := [], alts := [], laidByText := true, laidKinds := [.data, .pinned], laidTests := true, laidLooks := .later }
def DialerReportsExhaustionUptoCardSaid : Prop := Claim7.holds Tryd.pinned (.plain (OpenSpec.upto dialerReportsExhaustionSpec)) dialerReportsExhaustionUptoCard
end Rows
end Go.Proofs.YtiklhaajhdephaaDoor
