import Derived.Test.YtknpncpoojjbfaaDoorVPc
/- A value as a law's argument. -/
set_option linter.unusedVariables false
namespace Go.Proofs.YtknpncpoojjbfaaDoor
open Go.RowKit Go.VB Go.VB.Oct Go.VB.Rec
section
variable {H : Type} {enc : TypeId × Value → H} {w : World} {base : Nat} {sp : Nat → Bool} {held : Bool}
set_option maxRecDepth 100000 in
theorem open_val {w0 : World} {r : Reach} {b0 : Nat} {v : Value} {d : DataW H} {ps : List MemPlace} (hval : Value.okWide Tryd.prog w0 r b0 28 v) (h : DataW.Trod enc Tryd.prog w base sp held 28 v d ps) :
    ∃ p : V, v = vagg p ∧ V.In2 p := by
  obtain ⟨fuel, h⟩ := h
  simp only [Value.okWide, Tryd.underlying28] at hval
  obtain ⟨cs, rfl, hs, -⟩ := hval
  rw [cells_val] at hs
  have hs2 : (Value.agg cs).cells.toList.length = 3 := by simpa [Value.cells] using hs
  have hcs : (Value.agg cs).cells.toList = cs.toList := by simp [Value.cells]
  obtain ⟨p, hp, hi⟩ := elem_val _ _ _ hs2 h
  rw [hcs] at hp
  refine ⟨p, ?_, hi⟩
  unfold vagg
  congr 1
  apply Array.ext'
  rw [hp]
end
end Go.Proofs.YtknpncpoojjbfaaDoor
