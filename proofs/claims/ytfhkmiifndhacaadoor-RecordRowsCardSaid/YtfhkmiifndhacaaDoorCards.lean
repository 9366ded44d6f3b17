/-
  DERIVED. GIVEN WITH THE SEED: THE CARDS: each row of YtfhkmiifndhacaaDoorRows.lean that lists a variable, with what it lists TIED to the program's text (the seventh form; the later family's looks); each row that meets fmt, with fmt's text TOLD by the authors' own Lean function (tested against real Go, not proved from fmt's source: count such statements apart). THE CARD IS WHAT COUNTS. Prove the row's statement (the work); the ties are given (YtfhkmiifndhacaaDoorTie.lean); close each card by the builder's one call (the guide's Derived/Test/ToyasCard.lean, 'card_holds'). Laid BY PROGRAM, IN A SANDBOX (cutbox-door.mjs). By AI agents, Wed Nov 11 2026. No macro, syntax, notation, axiom, sorry.
-/
import Derived.Test.YtfhkmiifndhacaaDoorRows
import GoSem.ClaimSeven
namespace Go.Proofs.YtfhkmiifndhacaaDoor
namespace Rows

/-- THE TIED CARD OF 'vintnerlaw04.RecordRows'. -/
def recordRowsCard : Claim7 := { stood := { row := recordRowsRow, standIns := [], harness := (true, "0076ba6ecbe2c32e416c5addac0b4feb69ca6b36934923c95e489afee7fed7bf"), looks := true }, kinds := [], alts := [], laidByText := true, laidKinds := [.data, .funcs, .pinned], laidTests := true, laidLooks := .later }
def RecordRowsCardSaid : Prop := Claim7.holds Tryd.pinned (.plain (OpenSpec.ofChange recordRowsSpec)) recordRowsCard

/-- THE SECOND FORM's CARD OF 'vintnerlaw04.RecordRows'. -/
def recordRowsUptoCard : Claim7 := { stood := { row := recordRowsUptoRow, standIns := [], harness := (true, "0076ba6ecbe2c32e416c5addac0b4feb69ca6b36934923c95e489afee7fed7bf"), looks := true }, kinds := [], alts := [], laidByText := true, laidKinds := [.data, .funcs, .pinned], laidTests := true, laidLooks := .later }
def RecordRowsUptoCardSaid : Prop := Claim7.holds Tryd.pinned (.plain (OpenSpec.upto recordRowsSpec)) recordRowsUptoCard
end Rows
end Go.Proofs.YtfhkmiifndhacaaDoor
