/-
  DERIVED. GIVEN WITH THE SEED: THE CARDS: each row of YtgkfdlpijefgkaaGreatDoorRows.lean that lists a variable, with what it lists TIED to the program's text (the seventh form; the later family's looks); each row that meets fmt, with fmt's text TOLD by the authors' own Lean function (tested against real Go, not proved from fmt's source: count such statements apart). THE CARD IS WHAT COUNTS. Prove the row's statement (the work); the ties are given (YtgkfdlpijefgkaaGreatDoorTie.lean); close each card by the builder's one call (the guide's Derived/Test/ToyasCard.lean, 'card_holds'). Laid BY PROGRAM, IN A SANDBOX (cutbox-door.mjs). By AI agents, Wed Nov 11 2026. No macro, syntax, notation, axiom, sorry.
-/
import Derived.Test.YtgkfdlpijefgkaaGreatDoorRows
import GoSem.ClaimSeven
namespace Go.Proofs.YtgkfdlpijefgkaaGreatDoor
namespace Rows

/-- THE TIED CARD OF 'vintnerlaw14.CatalogRows'. -/
def catalogRowsCard : Claim7 := { stood := { row := catalogRowsRow, standIns := [], harness := (true, "603fcbb38fa754e3430b911f271fae0729c2c59748bde41a6f04f18db3180938"), looks := true }, kinds := [], alts := [], laidByText := true, laidKinds := [.data, .funcs, .pinned], laidTests := true, laidLooks := .later }
def CatalogRowsCardSaid : Prop := Claim7.holds Tryz.pinned (.plain (OpenSpec.ofChange catalogRowsSpec)) catalogRowsCard

/-- THE TIED CARD OF 'vintnerlaw14.CatalogPlays'. -/
def catalogPlaysCard : Claim7 := { stood := { row := catalogPlaysRow, standIns := [], harness := (true, "603fcbb38fa754e3430b911f271fae0729c2c59748bde41a6f04f18db3180938"), looks := true }, kinds := [], alts := [], laidByText := true, laidKinds := [.funcs], laidTests := true, laidLooks := .later }
def CatalogPlaysCardSaid : Prop := Claim7.holds Tryz.pinned (.plain (OpenSpec.ofChange catalogPlaysSpec)) catalogPlaysCard

/-- THE TIED CARD OF 'vintnerlaw14.CatalogReads'. -/
def catalogReadsCard : Claim7 := { stood := { row := catalogReadsRow, standIns := [], harness := (true, "603fcbb38fa754e3430b911f271fae0729c2c59748bde41a6f04f18db3180938"), looks := true }, kinds := [], alts := [], laidByText := true, laidKinds := [.funcs], laidTests := true, laidLooks := .later }
def CatalogReadsCardSaid : Prop := Claim7.holds Tryz.pinned (.plain (OpenSpec.ofChange catalogReadsSpec)) catalogReadsCard

/-- THE SECOND FORM's CARD OF 'vintnerlaw14.CatalogRows'. -/
def catalogRowsUptoCard : Claim7 := { stood := { row := catalogRowsUptoRow, standIns := [], harness := (true, "603fcbb38fa754e3430b911f271fae0729c2c59748bde41a6f04f18db3180938"), looks := true }, kinds := [], alts := [], laidByText := true, laidKinds := [.data, .funcs, .pinned], laidTests := true, laidLooks := .later }
def CatalogRowsUptoCardSaid : Prop := Claim7.holds Tryz.pinned (.plain (OpenSpec.upto catalogRowsSpec)) catalogRowsUptoCard

/-- THE SECOND FORM's CARD OF 'vintnerlaw14.CatalogPlays'. -/
def catalogPlaysUptoCard : Claim7 := { stood := { row := catalogPlaysUptoRow, standIns := [], harness := (true, "603fcbb38fa754e3430b911f271fae0729c2c59748bde41a6f04f18db3180938"), looks := true }, kinds := [], alts := [], laidByText := true, laidKinds := [.funcs], laidTests := true, laidLooks := .later }
def CatalogPlaysUptoCardSaid : Prop := Claim7.holds Tryz.pinned (.plain (OpenSpec.upto catalogPlaysSpec)) catalogPlaysUptoCard

/-- THE SECOND FORM's CARD OF 'vintnerlaw14.CatalogReads'. -/
def catalogReadsUptoCard : Claim7 := { stood := { row := catalogReadsUptoRow, standIns := [], harness := (true, "603fcbb38fa754e3430b911f271fae0729c2c59748bde41a6f04f18db3180938"), looks := true }, kinds := [], alts := [], laidByText := true, laidKinds := [.funcs], laidTests := true, laidLooks := .later }
def CatalogReadsUptoCardSaid : Prop := Claim7.holds Tryz.pinned (.plain (OpenSpec.upto catalogReadsSpec)) catalogReadsUptoCard
end Rows
end Go.Proofs.YtgkfdlpijefgkaaGreatDoor
