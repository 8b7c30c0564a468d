/-
  DERIVED. GIVEN WITH THE SEED: THE CARDS: each row of YtiklhaajhdephaaGreatDoorRows.lean that lists a variable, with what it lists TIED to the program's text (the seventh form; the later family's looks); each row that meets fmt, with fmt's text TOLD by the authors' own Lean function (tested against real Go, not proved from fmt's source: count such statements apart). THE CARD IS WHAT COUNTS. Prove the row's statement (the work); the ties are given (YtiklhaajhdephaaGreatDoorTie.lean); close each card by the builder's one call (the guide's Derived/Test/ToyasCard.lean, 'card_holds'). Laid BY PROGRAM, IN A SANDBOX (cutbox-door.mjs). By AI agents, Wed Nov 11 2026. No macro, syntax, notation, axiom, sorry.
-/
import Derived.Test.YtiklhaajhdephaaGreatDoorRows
import GoSem.ClaimSeven
namespace Go.Proofs.YtiklhaajhdephaaGreatDoor
namespace Rows

/-- THE TIED CARD OF 'ginnellaw29.DialerConcurrencyLimit'. -/
def dialerConcurrencyLimitCard : Claim7 := { stood := { row := dialerConcurrencyLimitRow, standIns := [], harness := (true, "9d63c86be96879783bc57c7648363f50903f451c38cf0ff1179b8df42fc8e596"), looks := false }, kinds := [], alts := [], laidByText := true, laidKinds := [.data, .pinned], laidTests := true, laidLooks := .later }
def DialerConcurrencyLimitCardSaid : Prop := Claim7.holds Tryz.pinned (.plain (OpenSpec.ofChange dialerConcurrencyLimitSpec)) dialerConcurrencyLimitCard

/-- THE TIED CARD OF 'ginnellaw29.DialerMatchesModel'. -/
def dialerMatchesModelCard : Claim7 := { stood := { row := dialerMatchesModelRow, standIns := [], harness := (true, "9d63c86be96879783bc57c7648363f50903f451c38cf0ff1179b8df42fc8e596"), looks := false }, kinds := [], alts := [], laidByText := true, laidKinds := [.data, .pinned], laidTests := true, laidLooks := .later }
def DialerMatchesModelCardSaid : Prop := Claim7.holds Tryz.pinned (.plain (OpenSpec.ofChange dialerMatchesModelSpec)) dialerMatchesModelCard

/-- THE TIED CARD OF 'ginnellaw29.DialerTimeExtremes'. -/
def dialerTimeExtremesCard : Claim7 := { stood := { row := dialerTimeExtremesRow, standIns := [], harness := (true, "9d63c86be96879783bc57c7648363f50903f451c38cf0ff1179b8df42fc8e596"), looks := false }, kinds := [], alts := [], laidByText := true, laidKinds := [.data, .pinned], laidTests := true, laidLooks := .later }
def DialerTimeExtremesCardSaid : Prop := Claim7.holds Tryz.pinned (.plain (OpenSpec.ofChange dialerTimeExtremesSpec)) dialerTimeExtremesCard

/-- THE SECOND FORM's CARD OF 'ginnellaw29.DialerConcurrencyLimit'. -/
def dialerConcurrencyLimitUptoCard : Claim7 := { stood := { row := dialerConcurrencyLimitUptoRow, standIns := [], harness := (true, "9d63c86be96879783bc57c7648363f50903f451c38cf0ff1179b8df42fc8e596"), looks := false }, kinds := [], alts := [], laidByText := true, laidKinds := [.data, .pinned], laidTests := true, laidLooks := .later }
def DialerConcurrencyLimitUptoCardSaid : Prop := Claim7.holds Tryz.pinned (.plain (OpenSpec.upto dialerConcurrencyLimitSpec)) dialerConcurrencyLimitUptoCard

/-- THE SECOND FORM's CARD OF 'ginnellaw29.DialerMatchesModel'. -/
def dialerMatchesModelUptoCard : Claim7 := { stood := { row := dialerMatchesModelUptoRow, standIns := [], harness := (true, "9d63c86be96879783bc57c7648363f50903f451c38cf0ff1179b8df42fc8e596"), looks := false }, kinds := [], alts := [], laidByText := true, laidKinds := [.data, .pinned], laidTests := true, laidLooks := .later }
def DialerMatchesModelUptoCardSaid : Prop := Claim7.holds Tryz.pinned (.plain (OpenSpec.upto dialerMatchesModelSpec)) dialerMatchesModelUptoCard

/-- THE SECOND FORM's CARD OF 'ginnellaw29.DialerTimeExtremes'. -/
def dialerTimeExtremesUptoCard : Claim7 := { stood := { row := dialerTimeExtremesUptoRow, standIns := [], harness := (true, "9d63c86be96879783bc57c7648363f50903f451c38cf0ff1179b8df42fc8e596"), looks := false }, kinds := [], alts := [], laidByText := true, laidKinds := [.data, .pinned], laidTests := true, laidLooks := .later }
def DialerTimeExtremesUptoCardSaid : Prop := Claim7.holds Tryz.pinned (.plain (OpenSpec.upto dialerTimeExtremesSpec)) dialerTimeExtremesUptoCard
end Rows
end Go.Proofs.YtiklhaajhdephaaGreatDoor
