/-
  DERIVED. GIVEN WITH THE SEED: THE CARDS: each row of YtgkfdlpijefgkaaDoorRows.lean that lists a variable, with what it lists TIED to the program's text (the seventh form; the later family's looks); each row that meets fmt, with fmt's text TOLD by the authors' own Lean function (tested against real Go, not proved from fmt's source: count such statements apart). THE CARD IS WHAT COUNTS. Prove the row's statement (the work); the ties are given (YtgkfdlpijefgkaaDoorTie.lean); close each card by the builder's one call (the guide's Derived/Test/ToyasCard.lean, 'card_holds'). Laid BY PROGRAM, IN A SANDBOX (cutbox-door.mjs). By AI agents, Wed Nov 11 2026. No macro, syntax, notation, axiom, sorry.
-/
import Derived.Test.YtgkfdlpijefgkaaDoorRows
import GoSem.ClaimSeven
namespace Go.Proofs.YtgkfdlpijefgkaaDoor
namespace Rows

/-- THE TIED CARD OF 'vintnerlaw14.CatalogChecks'. -/
def catalogChecksCard : Claim7 := { stood := { row := catalogChecksRow, standIns := [], harness := (true, "8afb6adc6ef82af89e4e7c605d799c469448f25894a8910a8126788714656553"), looks := false }, kinds := [], alts := [], laidByText := true, laidKinds := [.funcs], laidTests := true, laidLooks := .later }
def CatalogChecksCardSaid : Prop := Claim7.holds Tryd.pinned (.plain (OpenSpec.ofChange catalogChecksSpec)) catalogChecksCard

/-- THE TIED CARD OF 'vintnerlaw14.CatalogKeeps'. -/
def catalogKeepsCard : Claim7 := { stood := { row := catalogKeepsRow, standIns := [], harness := (true, "8afb6adc6ef82af89e4e7c605d799c469448f25894a8910a8126788714656553"), looks := false }, kinds := [], alts := [], laidByText := true, laidKinds := [.funcs], laidTests := true, laidLooks := .later }
def CatalogKeepsCardSaid : Prop := Claim7.holds Tryd.pinned (.plain (OpenSpec.ofChange catalogKeepsSpec)) catalogKeepsCard

/-- THE TIED CARD OF 'vintnerlaw14.CatalogBackwards'. -/
def catalogBackwardsCard : Claim7 := { stood := { row := catalogBackwardsRow, standIns := [], harness := (true, "8afb6adc6ef82af89e4e7c605d799c469448f25894a8910a8126788714656553"), looks := false }, kinds := [], alts := [], laidByText := true, laidKinds := [.funcs], laidTests := true, laidLooks := .later }
def CatalogBackwardsCardSaid : Prop := Claim7.holds Tryd.pinned (.plain (OpenSpec.ofChange catalogBackwardsSpec)) catalogBackwardsCard

/-- THE TIED CARD OF 'vintnerlaw14.CatalogCounts'. -/
def catalogCountsCard : Claim7 := { stood := { row := catalogCountsRow, standIns := [], harness := (true, "8afb6adc6ef82af89e4e7c605d799c469448f25894a8910a8126788714656553"), looks := false }, kinds := [], alts := [], laidByText := true, laidKinds := [.funcs], laidTests := true, laidLooks := .later }
def CatalogCountsCardSaid : Prop := Claim7.holds Tryd.pinned (.plain (OpenSpec.ofChange catalogCountsSpec)) catalogCountsCard

/-- THE TIED CARD OF 'vintnerlaw14.CatalogLimits'. -/
def catalogLimitsCard : Claim7 := { stood := { row := catalogLimitsRow, standIns := [], harness := (true, "8afb6adc6ef82af89e4e7c605d799c469448f25894a8910a8126788714656553"), looks := false }, kinds := [], alts := [], laidByText := true, laidKinds := [.funcs], laidTests := true, laidLooks := .later }
def CatalogLimitsCardSaid : Prop := Claim7.holds Tryd.pinned (.plain (OpenSpec.ofChange catalogLimitsSpec)) catalogLimitsCard

/-- THE TIED CARD OF 'vintnerlaw14.CatalogBack'. -/
def catalogBackCard : Claim7 := { stood := { row := catalogBackRow, standIns := [], harness := (true, "8afb6adc6ef82af89e4e7c605d799c469448f25894a8910a8126788714656553"), looks := false }, kinds := [], alts := [], laidByText := true, laidKinds := [.funcs], laidTests := true, laidLooks := .later }
def CatalogBackCardSaid : Prop := Claim7.holds Tryd.pinned (.plain (OpenSpec.ofChange catalogBackSpec)) catalogBackCard

/-- THE TIED CARD OF 'vintnerlaw14.CatalogOwn'. -/
def catalogOwnCard : Claim7 := { stood := { row := catalogOwnRow, standIns := [], harness := (true, "8afb6adc6ef82af89e4e7c605d799c469448f25894a8910a8126788714656553"), looks := false }, kinds := [], alts := [], laidByText := true, laidKinds := [.funcs], laidTests := true, laidLooks := .later }
def CatalogOwnCardSaid : Prop := Claim7.holds Tryd.pinned (.plain (OpenSpec.ofChange catalogOwnSpec)) catalogOwnCard

/-- THE SECOND FORM's CARD OF 'vintnerlaw14.CatalogChecks'. -/
def catalogChecksUptoCard : Claim7 := { stood := { row := catalogChecksUptoRow, standIns := [], harness := (true, "8afb6adc6ef82af89e4e7c605d799c469448f25894a8910a8126788714656553"), looks := false }, kinds := [], alts := [], laidByText := true, laidKinds := [.funcs], laidTests := true, laidLooks := .later }
def CatalogChecksUptoCardSaid : Prop := Claim7.holds Tryd.pinned (.plain (OpenSpec.upto catalogChecksSpec)) catalogChecksUptoCard

/-- THE SECOND FORM's CARD OF 'vintnerlaw14.CatalogKeeps'. -/
def catalogKeepsUptoCard : Claim7 := { stood := { row := catalogKeepsUptoRow, standIns := [], harness := (true, "8afb6adc6ef82af89e4e7c605d799c469448f25894a8910a8126788714656553"), looks := false }, kinds := [], alts := [], laidByText := true, laidKinds := [.funcs], laidTests := true, laidLooks := .later }
def CatalogKeepsUptoCardSaid : Prop := Claim7.holds Tryd.pinned (.plain (OpenSpec.upto catalogKeepsSpec)) catalogKeepsUptoCard

/-- THE SECOND FORM's CARD OF 'vintnerlaw14.CatalogBackwards'. -/
def catalogBackwardsUptoCard : Claim7 := { stood := { row := catalogBackwardsUptoRow, standIns := [], harness := (true, "8afb6adc6ef82af89e4e7c605d799c469448f25894a8910a8126788714656553"), looks := false }, kinds := [], alts := [], laidByText := true, laidKinds := [.funcs], laidTests := true, laidLooks := .later }
def CatalogBackwardsUptoCardSaid : Prop := Claim7.holds Tryd.pinned (.plain (OpenSpec.upto catalogBackwardsSpec)) catalogBackwardsUptoCard

/-- THE SECOND FORM's CARD OF 'vintnerlaw14.CatalogCounts'. -/
def catalogCountsUptoCard : Claim7 := { stood := { row := catalogCountsUptoRow, standIns := [], harness := (true, "8afb6adc6ef82af89e4e7c605d799c469448f25894a8910a8126788714656553"), looks := false }, kinds := [], alts := [], laidByText := true, laidKinds := [.funcs], laidTests := true, laidLooks := .later }
def CatalogCountsUptoCardSaid : Prop := Claim7.holds Tryd.pinned (.plain (OpenSpec.upto catalogCountsSpec)) catalogCountsUptoCard

/-- THE SECOND FORM's CARD OF 'vintnerlaw14.CatalogLimits'. -/
def catalogLimitsUptoCard : Claim7 := { stood := { row := catalogLimitsUptoRow, standIns := [], harness := (true, "8afb6adc6ef82af89e4e7c605d799c469448f25894a8910a8126788714656553"), looks := false }, kinds := [], alts := [], laidByText := true, laidKinds := [.funcs], laidTests := true, laidLooks := .later }
def CatalogLimitsUptoCardSaid : Prop := Claim7.holds Tryd.pinned (.plain (OpenSpec.upto catalogLimitsSpec)) catalogLimitsUptoCard

/-- THE SECOND FORM's CARD OF 'vintnerlaw14.CatalogBack'. -/
def catalogBackUptoCard : Claim7 := { stood := { row := catalogBackUptoRow, standIns := [], harness := (true, "8afb6adc6ef82af89e4e7c605d799c469448f25894a8910a8126788714656553"), looks := false }, kinds := [], alts := [], laidByText := true, laidKinds := [.funcs], laidTests := true, laidLooks := .later }
def CatalogBackUptoCardSaid : Prop := Claim7.holds Tryd.pinned (.plain (OpenSpec.upto catalogBackSpec)) catalogBackUptoCard

/-- THE SECOND FORM's CARD OF 'vintnerlaw14.CatalogOwn'. -/
def catalogOwnUptoCard : Claim7 := { stood := { row := catalogOwnUptoRow, standIns := [], harness := (true, "8afb6adc6ef82af89e4e7c605d799c469448f25894a8910a8126788714656553"), looks := false }, kinds := [], alts := [], laidByText := true, laidKinds := [.funcs], laidTests := true, laidLooks := .later }
def CatalogOwnUptoCardSaid : Prop := Claim7.holds Tryd.pinned (.plain (OpenSpec.upto catalogOwnSpec)) catalogOwnUptoCard
end Rows
end Go.Proofs.YtgkfdlpijefgkaaDoor
