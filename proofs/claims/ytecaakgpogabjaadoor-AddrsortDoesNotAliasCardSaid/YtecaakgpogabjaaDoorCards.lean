/-
  DERIVED. GIVEN WITH THE SEED: THE CARDS: each row of YtecaakgpogabjaaDoorRows.lean that lists a variable, with what it lists TIED to the program's text (the seventh form; the later family's looks); each row that meets fmt, with fmt's text TOLD by the authors' own Lean function (tested against real Go, not proved from fmt's source: count such statements apart). THE CARD IS WHAT COUNTS. Prove the row's statement (the work); the ties are given (YtecaakgpogabjaaDoorTie.lean); close each card by the builder's one call (the guide's Derived/Test/ToyasCard.lean, 'card_holds'). Laid BY PROGRAM, IN A SANDBOX (cutbox-door.mjs). By AI agents, Wed Nov 11 2026. No macro, syntax, notation, axiom, sorry.
-/
import Derived.Test.YtecaakgpogabjaaDoorRows
import GoSem.ClaimSeven
namespace Go.Proofs.YtecaakgpogabjaaDoor
namespace Rows

/-- THE TIED CARD OF 'ginnellaw25.AddrsortMatchesModel'. -/
def addrsortMatchesModelCard : Claim7 := { stood := { row := addrsortMatchesModelRow, standIns := [], harness := (true, "4177350ea34198befc6ff6f31b4814eb5d3a5020a4d88c2318c58b39474c45e1"), looks := false }, kinds := [], alts := [], laidByText := true, laidKinds := [.data, .pinned], laidTests := true, laidLooks := .later }
def AddrsortMatchesModelCardSaid : Prop := Claim7.holds Tryd.pinned (.plain (OpenSpec.ofChange addrsortMatchesModelSpec)) addrsortMatchesModelCard

/-- THE TIED CARD OF 'ginnellaw25.AddrsortIsStableSort'. -/
def addrsortIsStableSortCard : Claim7 := { stood := { row := addrsortIsStableSortRow, standIns := [], harness := (true, "4177350ea34198befc6ff6f31b4814eb5d3a5020a4d88c2318c58b39474c45e1"), looks := false }, kinds := [], alts := [], laidByText := true, laidKinds := [.data, .pinned], laidTests := true, laidLooks := .later }
def AddrsortIsStableSortCardSaid : Prop := Claim7.holds Tryd.pinned (.plain (OpenSpec.ofChange addrsortIsStableSortSpec)) addrsortIsStableSortCard

/-- THE TIED CARD OF 'ginnellaw25.AddrsortLessIsWeakOrder'. -/
def addrsortLessIsWeakOrderCard : Claim7 := { stood := { row := addrsortLessIsWeakOrderRow, standIns := [], harness := (true, "4177350ea34198befc6ff6f31b4814eb5d3a5020a4d88c2318c58b39474c45e1"), looks := false }, kinds := [], alts := [], laidByText := true, laidKinds := [.data, .pinned], laidTests := true, laidLooks := .later }
def AddrsortLessIsWeakOrderCardSaid : Prop := Claim7.holds Tryd.pinned (.plain (OpenSpec.ofChange addrsortLessIsWeakOrderSpec)) addrsortLessIsWeakOrderCard

/-- THE TIED CARD OF 'ginnellaw25.AddrsortDoesNotAlias'. -/
def addrsortDoesNotAliasCard : Claim7 := { stood := { row := addrsortDoesNotAliasRow, standIns := [], harness := (true, "4177350ea34198befc6ff6f31b4814eb5d3a5020a4d88c2318c58b39474c45e1"), looks := false }, kinds := [], alts := [], laidByText := true, laidKinds := [.data, .pinned], laidTests := true, laidLooks := .later }
def AddrsortDoesNotAliasCardSaid : Prop := Claim7.holds Tryd.pinned (.plain (OpenSpec.ofChange addrsortDoesNotAliasSpec)) addrsortDoesNotAliasCard

/-- THE SECOND FORM's CARD OF 'ginnellaw25.AddrsortMatchesModel'. -/
def addrsortMatchesModelUptoCard : Claim7 := { stood := { row := addrsortMatchesModelUptoRow, standIns := [], harness := (true, "4177350ea34198befc6ff6f31b4814eb5d3a5020a4d88c2318c58b39474c45e1"), looks := false }, kinds := [], alts := [], laidByText := true, laidKinds := [.data, .pinned], laidTests := true, laidLooks := .later }
def AddrsortMatchesModelUptoCardSaid : Prop := Claim7.holds Tryd.pinned (.plain (OpenSpec.upto addrsortMatchesModelSpec)) addrsortMatchesModelUptoCard

/-- THE SECOND FORM's CARD OF 'ginnellaw25.AddrsortIsStableSort'. -/
def addrsortIsStableSortUptoCard : Claim7 := { stood := { row := addrsortIsStableSortUptoRow, standIns := [], harness := (true, "4177350ea34198befc6ff6f31b4814eb5d3a5020a4d88c2318c58b39474c45e1"), looks := false }, kinds := [], alts := [], laidByText := true, laidKinds := [.data, .pinned], laidTests := true, laidLooks := .later }
def AddrsortIsStableSortUptoCardSaid : Prop := Claim7.holds Tryd.pinned (.plain (OpenSpec.upto addrsortIsStableSortSpec)) addrsortIsStableSortUptoCard

/-- THE SECOND FORM's CARD OF 'ginnellaw25.AddrsortLessIsWeakOrder'. -/
def addrsortLessIsWeakOrderUptoCard : Claim7 := { stood := { row := addrsortLessIsWeakOrderUptoRow, standIns := [], harness := (true, "4177350ea34198befc6ff6f31b4814eb5d3a5020a4d88c2318c58b39474c45e1"), looks := false }, kinds := [], alts := [], laidByText := true, laidKinds := [.data, .pinned], laidTests := true, laidLooks := .later }
def AddrsortLessIsWeakOrderUptoCardSaid : Prop := Claim7.holds Tryd.pinned (.plain (OpenSpec.upto addrsortLessIsWeakOrderSpec)) addrsortLessIsWeakOrderUptoCard

/-- THE SECOND FORM's CARD OF 'ginnellaw25.AddrsortDoesNotAlias'. -/
def addrsortDoesNotAliasUptoCard : Claim7 := { stood := { row := addrsortDoesNotAliasUptoRow, standIns := [], harness := (true, "4177350ea34198befc6ff6f31b4814eb5d3a5020a4d88c2318c58b39474c45e1"), looks := false }, kinds := [], alts := [], laidByText := true, laidKinds := [.data, .pinned], laidTests := true, laidLooks := .later }
def AddrsortDoesNotAliasUptoCardSaid : Prop := Claim7.holds Tryd.pinned (.plain (OpenSpec.upto addrsortDoesNotAliasSpec)) addrsortDoesNotAliasUptoCard
end Rows
end Go.Proofs.YtecaakgpogabjaaDoor
