/-
  DERIVED. GIVEN WITH THE SEED: THE CARDS: each row of YtknpncpoojjbfaaDoorRows.lean that lists a variable, with what it lists TIED to the program's text (the seventh form; the later family's looks); each row that meets fmt, with fmt's text TOLD by the authors' own Lean function (tested against real Go, not proved from fmt's source: count such statements apart). THE CARD IS WHAT COUNTS. Prove the row's statement (the work); the ties are given (YtknpncpoojjbfaaDoorTie.lean); close each card by the builder's one call (the guide's Derived/Test/ToyasCard.lean, 'card_holds'). Laid BY PROGRAM, IN A SANDBOX (cutbox-door.mjs). By AI agents, Wed Nov 11 2026. No macro, syntax, notation, axiom, sorry.
-/
import Derived.Test.YtknpncpoojjbfaaDoorRows
import GoSem.ClaimSeven
namespace Go.Proofs.YtknpncpoojjbfaaDoor
namespace Rows

/-- THE TIED CARD OF 'vintnerlaw02.ValueOrder'. -/
def valueOrderCard : Claim7 := { stood := { row := valueOrderRow, standIns := [], harness := (true, "27a0c0d3f5b6554ededdcdc9db0ae62182df4cf2925ebac229fa370ec37ad2cf"), looks := true }, kinds := [], alts := [], laidByText := true, laidKinds := [.data, .data, .data, .data, .funcs, .pinned], laidTests := true, laidLooks := .later }
def ValueOrderCardSaid : Prop := Claim7.holds Tryd.pinned (.plain (OpenSpec.ofChange valueOrderSpec)) valueOrderCard

/-- THE TIED CARD OF 'vintnerlaw02.ValueBytes'. -/
def valueBytesCard : Claim7 := { stood := { row := valueBytesRow, standIns := [], harness := (true, "27a0c0d3f5b6554ededdcdc9db0ae62182df4cf2925ebac229fa370ec37ad2cf"), looks := true }, kinds := [], alts := [], laidByText := true, laidKinds := [.data, .data, .data, .data, .funcs, .pinned], laidTests := true, laidLooks := .later }
def ValueBytesCardSaid : Prop := Claim7.holds Tryd.pinned (.plain (OpenSpec.ofChange valueBytesSpec)) valueBytesCard

/-- THE TIED CARD OF 'vintnerlaw02.ValueReads'. -/
def valueReadsCard : Claim7 := { stood := { row := valueReadsRow, standIns := [], harness := (true, "27a0c0d3f5b6554ededdcdc9db0ae62182df4cf2925ebac229fa370ec37ad2cf"), looks := true }, kinds := [], alts := [], laidByText := true, laidKinds := [.data, .data, .data, .data, .funcs, .pinned], laidTests := true, laidLooks := .later }
def ValueReadsCardSaid : Prop := Claim7.holds Tryd.pinned (.plain (OpenSpec.ofChange valueReadsSpec)) valueReadsCard

/-- THE TIED CARD OF 'vintnerlaw02.ValueBack'. -/
def valueBackCard : Claim7 := { stood := { row := valueBackRow, standIns := [], harness := (true, "27a0c0d3f5b6554ededdcdc9db0ae62182df4cf2925ebac229fa370ec37ad2cf"), looks := true }, kinds := [], alts := [], laidByText := true, laidKinds := [.data, .data, .data, .data, .funcs, .pinned], laidTests := true, laidLooks := .later }
def ValueBackCardSaid : Prop := Claim7.holds Tryd.pinned (.plain (OpenSpec.ofChange valueBackSpec)) valueBackCard

/-- THE TIED CARD OF 'vintnerlaw02.ValueKeys'. -/
def valueKeysCard : Claim7 := { stood := { row := valueKeysRow, standIns := [], harness := (true, "27a0c0d3f5b6554ededdcdc9db0ae62182df4cf2925ebac229fa370ec37ad2cf"), looks := true }, kinds := [], alts := [], laidByText := true, laidKinds := [.data, .data, .data, .data, .funcs, .pinned], laidTests := true, laidLooks := .later }
def ValueKeysCardSaid : Prop := Claim7.holds Tryd.pinned (.plain (OpenSpec.ofChange valueKeysSpec)) valueKeysCard

/-- THE TIED CARD OF 'vintnerlaw02.ValueTotal'. -/
def valueTotalCard : Claim7 := { stood := { row := valueTotalRow, standIns := [], harness := (true, "27a0c0d3f5b6554ededdcdc9db0ae62182df4cf2925ebac229fa370ec37ad2cf"), looks := true }, kinds := [], alts := [], laidByText := true, laidKinds := [.data, .data, .data, .data, .funcs, .pinned], laidTests := true, laidLooks := .later }
def ValueTotalCardSaid : Prop := Claim7.holds Tryd.pinned (.plain (OpenSpec.ofChange valueTotalSpec)) valueTotalCard

/-- THE TIED CARD OF 'vintnerlaw02.ValueFits'. -/
def valueFitsCard : Claim7 := { stood := { row := valueFitsRow, standIns := [], harness := (true, "27a0c0d3f5b6554ededdcdc9db0ae62182df4cf2925ebac229fa370ec37ad2cf"), looks := true }, kinds := [], alts := [], laidByText := true, laidKinds := [.data, .data, .data, .data, .funcs, .pinned], laidTests := true, laidLooks := .later }
def ValueFitsCardSaid : Prop := Claim7.holds Tryd.pinned (.plain (OpenSpec.ofChange valueFitsSpec)) valueFitsCard

/-- THE TIED CARD OF 'vintnerlaw02.ValueText'. -/
def valueTextCard : Claim7 := { stood := { row := valueTextRow, standIns := [], harness := (true, "27a0c0d3f5b6554ededdcdc9db0ae62182df4cf2925ebac229fa370ec37ad2cf"), looks := true }, kinds := [], alts := [], laidByText := true, laidKinds := [.data, .data, .data, .data, .funcs, .pinned], laidTests := true, laidLooks := .later }
def ValueTextCardSaid : Prop := Claim7.holds Tryd.pinned (.plain (OpenSpec.ofChange valueTextSpec)) valueTextCard

/-- THE TIED CARD OF 'vintnerlaw02.ValueInts'. -/
def valueIntsCard : Claim7 := { stood := { row := valueIntsRow, standIns := [], harness := (true, "27a0c0d3f5b6554ededdcdc9db0ae62182df4cf2925ebac229fa370ec37ad2cf"), looks := true }, kinds := [], alts := [], laidByText := true, laidKinds := [.data, .data, .data, .data, .funcs, .pinned], laidTests := true, laidLooks := .later }
def ValueIntsCardSaid : Prop := Claim7.holds Tryd.pinned (.plain (OpenSpec.ofChange valueIntsSpec)) valueIntsCard

/-- THE TIED CARD OF 'vintnerlaw02.ValueParts'. -/
def valuePartsCard : Claim7 := { stood := { row := valuePartsRow, standIns := [], harness := (true, "27a0c0d3f5b6554ededdcdc9db0ae62182df4cf2925ebac229fa370ec37ad2cf"), looks := true }, kinds := [], alts := [], laidByText := true, laidKinds := [.data, .data, .data, .data, .funcs, .pinned], laidTests := true, laidLooks := .later }
def ValuePartsCardSaid : Prop := Claim7.holds Tryd.pinned (.plain (OpenSpec.ofChange valuePartsSpec)) valuePartsCard

/-- THE SECOND FORM's CARD OF 'vintnerlaw02.ValueOrder'. -/
def valueOrderUptoCard : Claim7 := { stood := { row := valueOrderUptoRow, standIns := [], harness := (true, "27a0c0d3f5b6554ededdcdc9db0ae62182df4cf2925ebac229fa370ec37ad2cf"), looks := true }, kinds := [], alts := [], laidByText := true, laidKinds := [.data, .data, .data, .data, .funcs, .pinned], laidTests := true, laidLooks := .later }
def ValueOrderUptoCardSaid : Prop := Claim7.holds Tryd.pinned (.plain (OpenSpec.upto valueOrderSpec)) valueOrderUptoCard

/-- THE SECOND FORM's CARD OF 'vintnerlaw02.ValueBytes'. -/
def valueBytesUptoCard : Claim7 := { stood := { row := valueBytesUptoRow, standIns := [], harness := (true, "27a0c0d3f5b6554ededdcdc9db0ae62182df4cf2925ebac229fa370ec37ad2cf"), looks := true }, kinds := [], alts := [], laidByText := true, laidKinds := [.data, .data, .data, .data, .funcs, .pinned], laidTests := true, laidLooks := .later }
def ValueBytesUptoCardSaid : Prop := Claim7.holds Tryd.pinned (.plain (OpenSpec.upto valueBytesSpec)) valueBytesUptoCard

/-- THE SECOND FORM's CARD OF 'vintnerlaw02.ValueReads'. -/
def valueReadsUptoCard : Claim7 := { stood := { row := valueReadsUptoRow, standIns := [], harness := (true, "27a0c0d3f5b6554ededdcdc9db0ae62182df4cf2925ebac229fa370ec37ad2cf"), looks := true }, kinds := [], alts := [], laidByText := true, laidKinds := [.data, .data, .data, .data, .funcs, .pinned], laidTests := true, laidLooks := .later }
def ValueReadsUptoCardSaid : Prop := Claim7.holds Tryd.pinned (.plain (OpenSpec.upto valueReadsSpec)) valueReadsUptoCard

/-- THE SECOND FORM's CARD OF 'vintnerlaw02.ValueBack'. -/
def valueBackUptoCard : Claim7 := { stood := { row := valueBackUptoRow, standIns := [], harness := (true, "27a0c0d3f5b6554ededdcdc9db0ae62182df4cf2925ebac229fa370ec37ad2cf"), looks := true }, kinds := [], alts := [], laidByText := true, laidKinds := [.data, .data, .data, .data, .funcs, .pinned], laidTests := true, laidLooks := .later }
def ValueBackUptoCardSaid : Prop := Claim7.holds Tryd.pinned (.plain (OpenSpec.upto valueBackSpec)) valueBackUptoCard

/-- THE SECOND FORM's CARD OF 'vintnerlaw02.ValueKeys'. -/
def valueKeysUptoCard : Claim7 := { stood := { row := valueKeysUptoRow, standIns := [], harness := (true, "27a0c0d3f5b6554ededdcdc9db0ae62182df4cf2925ebac229fa370ec37ad2cf"), looks := true }, kinds := [], alts := [], laidByText := true, laidKinds := [.data, .data, .data, .data, .funcs, .pinned], laidTests := true, laidLooks := .later }
def ValueKeysUptoCardSaid : Prop := Claim7.holds Tryd.pinned (.plain (OpenSpec.upto valueKeysSpec)) valueKeysUptoCard

/-- THE SECOND FORM's CARD OF 'vintnerlaw02.ValueTotal'. -/
def valueTotalUptoCard : Claim7 := { stood := { row := valueTotalUptoRow, standIns := [], harness := (true, "27a0c0d3f5b6554ededdcdc9db0ae62182df4cf2925ebac229fa370ec37ad2cf"), looks := true }, kinds := [], alts := [], laidByText := true, laidKinds := [.data, .data, .data, .data, .funcs, .pinned], laidTests := true, laidLooks := .later }
def ValueTotalUptoCardSaid : Prop := Claim7.holds Tryd.pinned (.plain (OpenSpec.upto valueTotalSpec)) valueTotalUptoCard

/-- THE SECOND FORM's CARD OF 'vintnerlaw02.ValueFits'. -/
def valueFitsUptoCard : Claim7 := { stood := { row := valueFitsUptoRow, standIns := [], harness := (true, "27a0c0d3f5b6554ededdcdc9db0ae62182df4cf2925ebac229fa370ec37ad2cf"), looks := true }, kinds := [], alts := [], laidByText := true, laidKinds := [.data, .data, .data, .data, .funcs, .pinned], laidTests := true, laidLooks := .later }
def ValueFitsUptoCardSaid : Prop := Claim7.holds Tryd.pinned (.plain (OpenSpec.upto valueFitsSpec)) valueFitsUptoCard

/-- THE SECOND FORM's CARD OF 'vintnerlaw02.ValueText'. -/
def valueTextUptoCard : Claim7 := { stood := { row := valueTextUptoRow, standIns := [], harness := (true, "27a0c0d3f5b6554ededdcdc9db0ae62182df4cf2925ebac229fa370ec37ad2cf"), looks := true }, kinds := [], alts := [], laidByText := true, laidKinds := [.data, .data, .data, .data, .funcs, .pinned], laidTests := true, laidLooks := .later }
def ValueTextUptoCardSaid : Prop := Claim7.holds Tryd.pinned (.plain (OpenSpec.upto valueTextSpec)) valueTextUptoCard

/-- THE SECOND FORM's CARD OF 'vintnerlaw02.ValueInts'. -/
def valueIntsUptoCard : Claim7 := { stood := { row := valueIntsUptoRow, standIns := [], harness := (true, "27a0c0d3f5b6554ededdcdc9db0ae62182df4cf2925ebac229fa370ec37ad2cf"), looks := true }, kinds := [], alts := [], laidByText := true, laidKinds := [.data, .data, .data, .data, .funcs, .pinned], laidTests := true, laidLooks := .later }
def ValueIntsUptoCardSaid : Prop := Claim7.holds Tryd.pinned (.plain (OpenSpec.upto valueIntsSpec)) valueIntsUptoCard

/-- THE SECOND FORM's CARD OF 'vintnerlaw02.ValueParts'. -/
def valuePartsUptoCard : Claim7 := { stood := { row := valuePartsUptoRow, standIns := [], harness := (true, "27a0c0d3f5b6554ededdcdc9db0ae62182df4cf2925ebac229fa370ec37ad2cf"), looks := true }, kinds := [], alts := [], laidByText := true, laidKinds := [.data, .data, .data, .data, .funcs, .pinned], laidTests := true, laidLooks := .later }
def ValuePartsUptoCardSaid : Prop := Claim7.holds Tryd.pinned (.plain (OpenSpec.upto valuePartsSpec)) valuePartsUptoCard
end Rows
end Go.Proofs.YtknpncpoojjbfaaDoor
