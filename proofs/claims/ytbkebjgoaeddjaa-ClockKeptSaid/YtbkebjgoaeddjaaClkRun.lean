import Derived.Test.YtbkebjgoaeddjaaClkArgs
/- Loads of whole structs, at a step of a drawn region or under a guard; calls in a slice. -/
set_option linter.unusedVariables false
namespace Go.Proofs.Ytbkebjgoaeddjaa
open Go.RowKit Go.VB Go.VB.Clk
theorem run_load_mid {P : Program} {op : Oper} {a : Act} {w : World} (ty : TypeId) (x : Operand) (ho : op.op = .load ty x) (b o : Nat) (hx : a.eval x = .pointer (some ⟨b, o, none⟩)) (cs : List Value) (d : TypeDesc) (hc : w.rangeAt b o cs)
    (hu : P.underlying ty = some d) (hd : d.isRow = true) (hi : (P.info? ty).map (·.size) = some cs.length) : (execOp a.eval op).run P w = .ok (.value (.agg cs.toArray)) w := by
  unfold execOp
  simp only [ho, hx, Instr.loadAt, Instr.sureAddr, Sem.run_bind, Sem.run_pure, Result.andThen_ok, run_loadVar_mid w b o ty cs d hc hu hd hi]
theorem ccl_at {R : Nat → Prop} {w : World} {a : Option Addr} {l : List Cl} (h : l.flatMap ccl ≠ [] → ∃ g o, a = some ⟨g, o, none⟩ ∧ R g ∧ w.rangeAt g o (l.flatMap ccl)) {j : Nat} (hj : j < l.length) : ∃ g o, a = some ⟨g, o, none⟩ ∧ w.rangeAt g (o + j * 3) (ccl l[j]) := by
  obtain ⟨g, o, rfl, -, hr⟩ := h (by cases l with | nil => simp at hj | cons p l => simp [ccl])
  refine ⟨g, o, rfl, fun i u hi => ?_⟩
  have hi3 : i < 3 := (List.getElem?_eq_some_iff.1 hi).1
  have := hr (j * 3 + i) u (by rw [flatMap_at ccl 3 (fun _ => rfl) l j hj i hi3]; exact hi)
  rwa [← Nat.add_assoc] at this
end Go.Proofs.Ytbkebjgoaeddjaa
