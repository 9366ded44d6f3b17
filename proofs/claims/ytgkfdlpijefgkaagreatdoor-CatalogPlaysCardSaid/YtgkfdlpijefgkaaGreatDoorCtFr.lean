import Derived.Test.YtgkfdlpijefgkaaGreatDoorCtZ
import Derived.Test.YtgkfdlpijefgkaaGreatDoorRows
import Derived.Test.YtgkfdlpijefgkaaGreatDoorLaw
import Derived.ProofKit
import Derived.OpenShut
import Derived.LaidMore
import Derived.HandedShaped
import Derived.Shelf.Vars
import Derived.Stop.LaidErr
import Derived.Stop.Joined
/- The frame of a law whose row lists variables: a start that meets the condition, and what the condition gives the walks. -/
set_option linter.unusedVariables false
namespace Go
variable {H : Type} {enc : TypeId × Value → H}
/-- the wrap of a law with a condition on memory, the world's shape kept -/
theorem handed_and_shaped {a : Assume} {C : Checked} {os : Os} {f : FuncId} {fn : Func} {s : ChangeSpec} {conds : List PathCond} {apart fresh handsOn again : Bool} {X : World → Array Value → Prop}
    (hX : ∀ (w w' : World) (args : Array Value), w.heap = w'.heap → X w args → X w' args)
    (own : ownKnob C.prog.godebug = none) (started : os.Started) (noInit : C.prog.inits.idxOf? f = none) (hfn : C.prog.funcs[f]? = some fn)
    (witness : ∃ (w : World) (tape : Tape) (i : Input), w.os = os ∧ (w.forCall tape i).Shaped C.prog ∧ i.vars = [] ∧ Input.okWide C.prog (w.forCall tape i) .any w.heap.size f i ∧
      ((s.pre enc C.prog fn conds apart (w.forCall tape i).memory i.args ∧ X (w.forCall tape i).memory i.args) ∧ sizedMet enc C.prog fn (OpenSpec.ofChange s) apart (w.forCall tape i).memory i.args) ∧ a.holds C.prog (lone (Frame.enter C.prog f i.args .normal) [] (w.forCall tape i)))
    (contract : ∀ (W : World) (base : Nat) (args : Array Value) (ds gs : List (DataW H)) (before : List MemPlace),
      (∀ (j : Nat) t v, fn.params[j]? = some t → args[j]? = some v → Value.okWide C.prog W .any base t v) →
      DataW.Whole enc C.prog fn.params.toList s.vars apart W args.toList ds gs before → X W args → W.ShapedOpen C.prog →
      Calls C.prog f args W fun e W' => ∃ v, e = .returned v ∧ s.post enc C.prog fn apart fresh handsOn again W args v W') :
    ReturnsInHanded a C os f .any (fun w args => (s.pre enc C.prog fn conds apart w args ∧ X w args) ∧ sizedMet enc C.prog fn (OpenSpec.ofChange s) apart w args) (s.post enc C.prog fn apart fresh handsOn again) := by
  refine returnsInHanded_of_calls own started noInit witness ?_
  intro w tape i _ hsh _ hok hpre _
  obtain ⟨_, _, _, fn', hfn', _, _, _, _, hval⟩ := hok
  have e : fn' = fn := Option.some.inj (hfn'.symm.trans hfn)
  subst e
  obtain ⟨⟨⟨ds, gs, before, hw, _⟩, hx⟩, _⟩ := hpre
  have hw' := DataW.Whole.of_heap (w' := w.forCall tape i) (by rfl) hw
  refine (contract (w.forCall tape i) w.heap.size i.args ds gs before hval hw' (hX _ _ _ (by rfl) hx) hsh).mono fun e W' ⟨v, he, hp⟩ => ?_
  subst he
  exact ChangeSpec.post_blind hp
end Go
namespace Go.Proofs.YtgkfdlpijefgkaaGreatDoor
open Go.ChangeShapes Go.WideShapes Go.ChangeAt Go.RowKit Go.VB Go.VB.Rec
theorem own : ownKnob Tryz.prog.godebug = none := by kernel_rfl
theorem sound : soundB Tryz.prog = true := by kernel_rfl
/-- the list of variables that each row of this seat bears -/
def laidL : List (String × DataW Unit) := Rows.catalogPlaysRow.laid
/-- a start that meets the condition: what the door's own run leaves -/
noncomputable def startW (os : Os) : World := World.doorLaid Tryz.prog 600 os
set_option maxRecDepth 100000 in
theorem start_met (os : Os) (args : Array Value) : laidMetH Tryz.prog laidL ((startW os).forCall (fun _ _ => 0) ⟨#[], args, []⟩).memory :=
  laidMetH_of_parts3 (fuel := 8) (laidMet_of_run' 8 (by kernel_rfl) (by kernel_rfl)) (by kernel_rfl) (by kernel_rfl)
theorem start_shaped (os : Os) (args : Array Value) : ((startW os).forCall (fun _ _ => 0) ⟨#[], args, []⟩).Shaped Tryz.prog := World.shaped_of_RefB (by kernel_rfl) (by kernel_rfl)
theorem gKinds : Tryz.prog.globalNamed "vintner/value.kinds" = some 0 := by kernel_rfl
theorem tKinds : (Tryz.prog.globals[0]?).map (·.type) = some 129 := by kernel_rfl
theorem cellsF : Tryz.prog.cellsOf 100 = 1 := by kernel_rfl
theorem cellsT : Tryz.prog.cellsOf 129 = 3 := by kernel_rfl
set_option maxRecDepth 100000 in
/-- the table of functions, out of the condition -/
theorem kn_of_laid {W : World} (h : laidMetH Tryz.prog laidL W) : Kn W := by
  obtain ⟨g, t, cs, fuel, p, hg, ht, hv, hd⟩ := h.funcs (n := "vintner/value.kinds") (List.mem_of_getElem? (i := 0) rfl)
  obtain rfl := Option.some.inj (gKinds.symm.trans hg)
  obtain rfl := Option.some.inj (tKinds.symm.trans ht)
  obtain ⟨xs, m, _, ex, hlen, hl, hel⟩ := DataW.trod_array Tryz.underlying129 hd
  rw [cellsT] at hlen
  have e3 : xs.map (·.1) = [.held [118, 105, 110, 116, 110, 101, 114, 47, 118, 97, 108, 117, 101, 46, 107, 105, 110, 100, 115, 36, 49], .held [118, 105, 110, 116, 110, 101, 114, 47, 118, 97, 108, 117, 101, 46, 107, 105, 110, 100, 115, 36, 50], .held [118, 105, 110, 116, 110, 101, 114, 47, 118, 97, 108, 117, 101, 46, 107, 105, 110, 100, 115, 36, 51]] := (DataW.agg.inj (Prod.mk.inj ex).1).symm
  match xs, hl, e3 with
  | [x0, x1, x2], _, e3 =>
  simp only [List.map_cons, List.map_nil, List.cons.injEq, and_true] at e3
  obtain ⟨a0, a1, a2⟩ := e3
  match hcs : cs.toList, hlen with
  | [c0, c1, c2], _ =>
  rw [hcs] at hel
  have h0 := hel 0 (by omega)
  have h1 := hel 1 (by omega)
  have h2 := hel 2 (by omega)
  rw [cellsF] at h0 h1 h2
  obtain ⟨y0, z0⟩ := x0
  obtain ⟨y1, z1⟩ := x1
  obtain ⟨y2, z2⟩ := x2
  dsimp only at a0 a1 a2
  subst a0 a1 a2
  obtain rfl := func_of_trod (f0 := 160) Tryz.underlying100 (by kernel_rfl) h0
  obtain rfl := func_of_trod (f0 := 161) Tryz.underlying100 (by kernel_rfl) h1
  obtain rfl := func_of_trod (f0 := 163) Tryz.underlying100 (by kernel_rfl) h2
  have hc : ∀ i, W.cell? ⟨0, i, none⟩ = cs[i]? := fun i => World.var?_cell hg hv i
  have e : ∀ i : Nat, cs[i]? = cs.toList[i]? := fun i => (Array.getElem?_toList).symm
  exact ⟨by rw [hc, e, hcs]; rfl, by rw [hc, e, hcs]; rfl, by rw [hc, e, hcs]; rfl⟩
/-- what the condition gives the walks -/
structure Gv (w : World) : Prop where
  kn : Kn w
theorem Gv.fre {w w' : World} (h : Gv w) (f : Fr (fun _ => False) w w') : Gv w' := ⟨h.kn.fre f⟩
theorem gv_of {W : World} (h : laidMetH Tryz.prog laidL W) (_k : W.ShapedOpen Tryz.prog) : Gv W := ⟨kn_of_laid h⟩
end Go.Proofs.YtgkfdlpijefgkaaGreatDoor
