import Derived.Test.YtgkfdlpijefgkaaGreatDoorCtRv
import Derived.Test.YtgkfdlpijefgkaaGreatDoorCards
import Derived.Test.YtgkfdlpijefgkaaGreatDoorTie
import Derived.SevenTiedAt
import Derived.Test.YtgkfdlpijefgkaaGreatDoorRows
import Derived.Test.YtgkfdlpijefgkaaGreatDoorLaw
import Derived.ProofKit
import Derived.OpenShut
import Derived.LaidMore
import Derived.HandedShaped
import Derived.Shelf.Vars
import Derived.Stop.LaidErr
import Derived.Stop.Joined
/-
For every list of integer lists and every two rows accepted rows survive value encoding, and index keys sort as the indexed columns do (CatalogRows).
Conditions: none beyond the row's own, a tied card.
-/
/- The frame of a law whose row lists variables: a start that meets the condition, and what the condition gives the walks. -/
set_option linter.unusedVariables false
namespace Go
variable {H : Type} {enc : TypeId × Value → H}
/-- the wrap of a law with a condition on memory, the world's shape kept -/
theorem handed_and_shaped {a : Assume} {C : Checked} {os : Os} {f : FuncId} {fn : Func} {s : ChangeSpec} {conds : List PathCond} {apart fresh handsOn again : Bool} {X : World → Array Value → Prop}
    (hX : ∀ (w w' : World) (args : Array Value), w.heap = w'.heap → X w args → X w' args)
    (own : ownKnob C.prog.godebug = none) (started : os.Started) (noInit : C.prog.inits.idxOf? f = none) (hfn : C.prog.funcs[f]? = some fn)
    (witness : ∃ (w : World) (tape : Tape) (i : Input), w.os = os ∧ (w.forCall tape i).Shaped C.prog ∧ i.vars = [] ∧ Input.okWide C.prog (w.forCall tape i) .any w.heap.size f i ∧
      ((s.pre enc C.prog fn conds apart (w.forCall tape i).memory i.args ∧ X (w.forCall tape i).memory i.args) ∧ sizedMet enc C.prog fn (OpenSpec.ofChange s) apart (w.forCall tape i).memory i.args) ∧ a.holds C.prog (lone (Frame.enter C.prog f i.args .normal) [] (w.forCall tape i)))
    (contract : ∀ (W : World) (base : Nat) (args : Array Value) (ds gs : List (DataW H)) (before : List MemPlace),
      (∀ (j : Nat) t v, fn.params[j]? = some t → args[j]? = some v → Value.okWide C.prog W .any base t v) →
      DataW.Whole enc C.prog fn.params.toList s.vars apart W args.toList ds gs before → X W args → W.ShapedOpen C.prog →
      Calls C.prog f args W fun e W' => ∃ v, e = .returned v ∧ s.post enc C.prog fn apart fresh handsOn again W args v W') :
    ReturnsInHanded a C os f .any (fun w args => (s.pre enc C.prog fn conds apart w args ∧ X w args) ∧ sizedMet enc C.prog fn (OpenSpec.ofChange s) apart w args) (s.post enc C.prog fn apart fresh handsOn again) := by
  refine returnsInHanded_of_calls own started noInit witness ?_
  intro w tape i _ hsh _ hok hpre _
  obtain ⟨_, _, _, fn', hfn', _, _, _, _, hval⟩ := hok
  have e : fn' = fn := Option.some.inj (hfn'.symm.trans hfn)
  subst e
  obtain ⟨⟨⟨ds, gs, before, hw, _⟩, hx⟩, _⟩ := hpre
  have hw' := DataW.Whole.of_heap (w' := w.forCall tape i) (by rfl) hw
  refine (contract (w.forCall tape i) w.heap.size i.args ds gs before hval hw' (hX _ _ _ (by rfl) hx) hsh).mono fun e W' ⟨v, he, hp⟩ => ?_
  subst he
  exact ChangeSpec.post_blind hp
end Go
namespace Go.Proofs.YtgkfdlpijefgkaaGreatDoor
open Go.ChangeShapes Go.WideShapes Go.ChangeAt Go.RowKit Go.VB
theorem own : ownKnob Tryz.prog.godebug = none := by kernel_rfl
theorem sound : soundB Tryz.prog = true := by kernel_rfl
/-- the list of variables that each row of this seat bears -/
def laidL : List (String × DataW Unit) := Rows.catalogRowsRow.laid
/-- cells of a table of plain integers -/
def tabCells : DataW Unit → Array Value
  | .agg l => (l.map fun d => match d with | .lit (.int k z) => Value.int k z | _ => Value.int .u8 0).toArray
  | _ => #[]
/-- a start that meets the condition: what the door's own run leaves, the pinned table laid -/
noncomputable def startW (os : Os) : World :=
  let w0 := World.doorLaid Tryz.prog 600 os
  { w0 with heap := w0.heap.modify 2 fun
      | .cells _ t frozen => .cells (tabCells Go.Pinned.utf8First) t frozen
      | o => o }
set_option maxRecDepth 100000 in
theorem start_met (os : Os) (args : Array Value) : laidMetH Tryz.prog laidL ((startW os).forCall (fun _ _ => 0) ⟨#[], args, []⟩).memory :=
  laidMetH_of_parts3 (fuel := 8) (laidMet_of_run' 8 (by kernel_rfl) (by kernel_rfl)) (by kernel_rfl) (by kernel_rfl)
theorem start_shaped (os : Os) (args : Array Value) : ((startW os).forCall (fun _ _ => 0) ⟨#[], args, []⟩).Shaped Tryz.prog := World.shaped_of_RefB (by kernel_rfl) (by kernel_rfl)
theorem gKinds : Tryz.prog.globalNamed "vintner/value.kinds" = some 0 := by kernel_rfl
theorem tKinds : (Tryz.prog.globals[0]?).map (·.type) = some 129 := by kernel_rfl
theorem cellsF : Tryz.prog.cellsOf 100 = 1 := by kernel_rfl
theorem cellsT : Tryz.prog.cellsOf 129 = 3 := by kernel_rfl
set_option maxRecDepth 100000 in
/-- the table of functions, out of the condition -/
theorem kn_of_laid {W : World} (h : laidMetH Tryz.prog laidL W) : Kn W := by
  obtain ⟨g, t, cs, fuel, p, hg, ht, hv, hd⟩ := h.funcs (n := "vintner/value.kinds") (List.mem_of_getElem? (i := 1) rfl)
  obtain rfl := Option.some.inj (gKinds.symm.trans hg)
  obtain rfl := Option.some.inj (tKinds.symm.trans ht)
  obtain ⟨xs, m, _, ex, hlen, hl, hel⟩ := DataW.trod_array Tryz.underlying129 hd
  rw [cellsT] at hlen
  have e3 : xs.map (·.1) = [.held [118, 105, 110, 116, 110, 101, 114, 47, 118, 97, 108, 117, 101, 46, 107, 105, 110, 100, 115, 36, 49], .held [118, 105, 110, 116, 110, 101, 114, 47, 118, 97, 108, 117, 101, 46, 107, 105, 110, 100, 115, 36, 50], .held [118, 105, 110, 116, 110, 101, 114, 47, 118, 97, 108, 117, 101, 46, 107, 105, 110, 100, 115, 36, 51]] := (DataW.agg.inj (Prod.mk.inj ex).1).symm
  match xs, hl, e3 with
  | [x0, x1, x2], _, e3 =>
  simp only [List.map_cons, List.map_nil, List.cons.injEq, and_true] at e3
  obtain ⟨a0, a1, a2⟩ := e3
  match hcs : cs.toList, hlen with
  | [c0, c1, c2], _ =>
  rw [hcs] at hel
  have h0 := hel 0 (by omega)
  have h1 := hel 1 (by omega)
  have h2 := hel 2 (by omega)
  rw [cellsF] at h0 h1 h2
  obtain ⟨y0, z0⟩ := x0
  obtain ⟨y1, z1⟩ := x1
  obtain ⟨y2, z2⟩ := x2
  dsimp only at a0 a1 a2
  subst a0 a1 a2
  obtain rfl := func_of_trod (f0 := 160) Tryz.underlying100 (by kernel_rfl) h0
  obtain rfl := func_of_trod (f0 := 161) Tryz.underlying100 (by kernel_rfl) h1
  obtain rfl := func_of_trod (f0 := 163) Tryz.underlying100 (by kernel_rfl) h2
  have hc : ∀ i, W.cell? ⟨0, i, none⟩ = cs[i]? := fun i => World.var?_cell hg hv i
  have e : ∀ i : Nat, cs[i]? = cs.toList[i]? := fun i => (Array.getElem?_toList).symm
  exact ⟨by rw [hc, e, hcs]; rfl, by rw [hc, e, hcs]; rfl, by rw [hc, e, hcs]; rfl⟩
theorem ml_of_shaped {W : World} (h : W.ShapedOpen Tryz.prog) : Ml W :=
  cell_of_shapedOpen_int (zero := #[.int .i64 0]) (t := 3) h (of_decide_eq_true (by kernel_rfl)) (by kernel_rfl) rfl (by kernel_rfl) (by kernel_rfl) Tryz.underlying3
/-- what the law's calls need of the variables -/
structure Gv (w : World) : Prop where
  kn : Kn w
  ml : Ml w
theorem Gv.fre {w w' : World} (h : Gv w) (f : Fr (fun _ => False) w w') : Gv w' := ⟨h.kn.fre f, h.ml.fre f⟩
theorem gv_of {W : World} (h : laidMetH Tryz.prog laidL W) (k : W.ShapedOpen Tryz.prog) : Gv W := ⟨kn_of_laid h, ml_of_shaped k⟩
end Go.Proofs.YtgkfdlpijefgkaaGreatDoor
namespace Go.Proofs.YtgkfdlpijefgkaaGreatDoor
open Go.RowKit Go.VB Go.VB.Oct Go.VB.Cat Go.VB.Rec Go.WideShapes Go.ChangeShapes
/-- a 64-bit integer -/
def I64 (x : Int) : Prop := -9223372036854775808 ≤ x ∧ x ≤ 9223372036854775807
theorem wf_in {x : Int} (h : (Lit.int .i64 x).wf = true) : I64 x := by
  simp [Lit.wf, IntKind.min, IntKind.max, IntKind.bits, IntKind.signed] at h
  unfold I64
  omega
/-- a value of an argument -/
def VIn (v : V) : Prop := I64 v.1 ∧ I64 v.2
section
variable {H : Type} {enc : TypeId × Value → H} {w : World} {base : Nat} {sp : Nat → Bool} {held : Bool}
theorem cells_int : Tryz.prog.cellsOf 3 = 1 := by kernel_rfl
theorem cells_i64 : Tryz.prog.cellsOf 2 = 1 := by kernel_rfl
theorem cells_str : Tryz.prog.cellsOf 9 = 1 := by kernel_rfl
theorem cells_row : Tryz.prog.cellsOf 24 = 1 := by kernel_rfl
theorem cells_val : Tryz.prog.cellsOf 46 = 3 := by kernel_rfl
theorem cells_col : Tryz.prog.cellsOf 80 = 2 := by kernel_rfl
theorem cells_tab : Tryz.prog.cellsOf 34 = 4 := by kernel_rfl
theorem cells_cols : Tryz.prog.cellsOf 31 = 1 := by kernel_rfl
theorem cells_ixs : Tryz.prog.cellsOf 32 = 1 := by kernel_rfl
set_option maxRecDepth 100000 in
theorem elem_val : ∀ fuel cs (r : DataW H × List MemPlace), cs.length = 3 → DataW.trod enc Tryz.prog w base sp held fuel 46 cs = some r → ∃ p : V, cs = p.cells ∧ VIn p := by
  intro fuel cs r hl h
  match cs, hl with
  | [a, b, c], _ =>
    cases fuel with
    | zero => simp [DataW.trod] at h
    | succ m =>
      unfold DataW.trod at h
      rw [Tryz.underlying46] at h
      dsimp only at h
      rw [if_pos (by rw [cells_val]; rfl)] at h
      simp only [Option.map_eq_some_iff, List.mapM_cons, List.mapM_nil, Option.bind_eq_bind, Option.bind_eq_some_iff, Option.pure_def, Option.some.injEq, cells_int, cells_i64, cells_str] at h
      obtain ⟨xs, ⟨y0, h0, x1, ⟨y1, h1, x2, ⟨y2, h2, -⟩, -⟩, -⟩, -⟩ := h
      obtain ⟨i0, e0, g0⟩ := elem_int Tryz.underlying3 _ _ _ h0
      obtain ⟨i1, e1, g1⟩ := elem_int Tryz.underlying2 _ _ _ h1
      obtain ⟨s2, e2, g2⟩ := elem_string Tryz.underlying9 _ _ _ h2
      obtain rfl : a = .int .i64 i0 := by simpa using e0
      obtain rfl : b = .int .i64 i1 := by simpa using e1
      obtain rfl : c = .string (bs s2) := by simpa using e2
      exact ⟨⟨i0, i1, s2⟩, rfl, wf_in g0, wf_in g1⟩
set_option maxRecDepth 100000 in
theorem open_rowV {w0 : World} {r : Reach} {b0 : Nat} {v : Value} {d : DataW H} {ps : List MemPlace} (hval : Value.okWide Tryz.prog w0 r b0 24 v) (h : DataW.Trod enc Tryz.prog w base sp held 24 v d ps) :
    ∃ L : List V, Sl (fun k => k < w.heap.size) w v L.length (L.flatMap V.cells) ∧ ∀ x ∈ L, x.In := by
  obtain ⟨L, h1, h2, h3⟩ := open_sl Tryz.underlying24 (k := 3) cells_val (by omega) hval h V.cells VIn (fun _ => rfl) (fun fuel cs r hc h => elem_val fuel cs r hc h)
  exact ⟨L, h1, fun x hx => by
    have := (h2 x hx).2
    unfold I64 at this
    unfold V.In
    exact this⟩
end
end Go.Proofs.YtgkfdlpijefgkaaGreatDoor
namespace Go.Proofs.YtgkfdlpijefgkaaGreatDoor.catalogRows
open Go.ChangeShapes Go.WideShapes Go.ChangeAt Go.RowKit Go.VB Go.VB.Rec
set_option maxHeartbeats 400000 in
set_option maxRecDepth 100000 in
theorem lifted (os : Os) (started : os.Started) (H : Type) (enc : TypeId × Value → H) :
    ReturnsInHanded {} Tryz.checked os 3 .any (fun w args => (Rows.catalogRowsSpec.pre enc Tryz.prog Tryz.f3 Rows.catalogRowsRow.domain false w args ∧ laidMetH Tryz.prog Rows.catalogRowsRow.laid w) ∧ sizedMet enc Tryz.prog Tryz.f3 (OpenSpec.ofChange Rows.catalogRowsSpec) false w args) (Rows.catalogRowsSpec.post enc Tryz.prog Tryz.f3 false true false false) := by
  refine handed_and_shaped (C := Tryz.checked) (X := fun w _ => laidMetH Tryz.prog Rows.catalogRowsRow.laid w) (fun _ _ _ hh h => h.of_heap hh) own started (by kernel_rfl) Tryz.func3
    (ChangeSpec.witness_shaped (enc := enc) (C := Tryz.checked) (os := os) (X := fun w _ => laidMetH Tryz.prog Rows.catalogRowsRow.laid w) false (startW os) #[.slice none 0 0, .slice none 0 0, .slice none 0 0] 8 rfl (start_shaped os _) (by kernel_rfl) (by kernel_rfl) (by kernel_rfl) (start_met os _)) ?_
  intro W base args ds gs before hval0 hW hL hsh
  have GV : Hid (Gv W) := hid (gv_of hL hsh)
  clear hL hsh
  have hval : ∀ (j : Nat) t v, Tryz.f3.params[j]? = some t → args[j]? = some v → Value.okWide Tryz.prog W .any base t v := hval0
  have hW' := hW
  obtain ⟨p, q, hA0, hV, rfl, hfz, hnd⟩ := hW
  have hA : DataW.TrodAll enc Tryz.prog W 0 (fun _ => true) true Tryz.f3.params.toList args.toList ds p := hA0
  rw [Tryz.params3] at hA hval
  obtain ⟨v0, vs0, d0, ds0, p0, q0, hargs, rfl, rfl, h0, r0⟩ := trodAll_cons hA
  obtain ⟨v1, vs1, d1, ds1, p1, q1, rfl, rfl, rfl, h1, r1⟩ := trodAll_cons r0
  obtain ⟨v2, vs2, d2, ds2, p2, q2, rfl, rfl, rfl, h2, r2⟩ := trodAll_cons r1
  obtain ⟨rfl, rfl, rfl⟩ := trodAll_nil r2
  obtain rfl : args = #[v0, v1, v2] := by cases args; simp_all
  obtain ⟨rfl, rfl⟩ := trodVars_none hV
  clear hA0 hval0
  refine Calls.mono (R := fun e w' => e = .returned (.bool true) ∧ Fr (fun _ => False) W w') ?_ fun e W' ⟨he, hf⟩ => ⟨_, he, post_law sound (by decide +kernel) rfl rfl (ht := Tryz.underlying4) (by rfl) hW' hf⟩
  obtain ⟨L, hL⟩ := open_ints2 (hval 0 22 v0 rfl rfl) h0
  obtain ⟨a, sa, ia⟩ := open_rowV (hval 1 24 v1 rfl rfl) h1
  obtain ⟨b, sb, ib⟩ := open_rowV (hval 2 24 v2 rfl rfl) h2
  obtain ⟨al, cl, rfl, -, -⟩ := id hL.s
  exact Rows_walk GV.out.kn GV.out.ml hL sa sb ia ib
theorem row_holds : Rows.CatalogRowsSaid :=
  OpenClaim.holds_of_wide 3 Tryz.f3 rfl rfl rfl rfl rfl rfl rfl ⟨rfl, rfl, rfl, rfl, rfl⟩ rfl rfl rfl rfl rfl (by kernel_rfl) Tryz.func3 (by kernel_rfl)
    (of_decide_eq_true (by kernel_rfl)) (by unfold Func.isWrapper; first | (rw [if_pos (by decide +kernel)]; kernel_rfl) | (rw [if_neg (by decide +kernel)]; exact ⟨rfl, rfl⟩))
    (fun os started H enc _ => lifted os started H enc)
theorem proved : Rows.CatalogRowsCardSaid :=
  Claim7.holds_tied_plain_at .later [] Rows.catalogRowsCard.laidKinds true Rows.catalogRowsCard.stood.harness Rows.catalogRowsCard.stood.looks row_holds (fun _ h => by cases h) (by kernel_rfl) (fun _ h => by cases h) catalogRows_row_tie rfl ⟨rfl, rfl⟩ (by kernel_rfl) rfl
    (fun f fn hf hfn => by
      obtain rfl : f = 3 := Option.some.inj ((show Tryz.prog.funcNamed "vintner/vintnerlaw14.CatalogRows" = some 3 by kernel_rfl).symm.trans hf) |>.symm
      obtain rfl : fn = Tryz.f3 := (Option.some.inj (Tryz.func3.symm.trans hfn)).symm
      exact ⟨by kernel_rfl, fun j t ht => by
        rw [Tryz.params3] at ht
        have hm : t ∈ [22, 24] := by simpa using Array.mem_of_getElem? ht
        have hall : ([22, 24].all fun u => !Tryz.prog.wantsStandIn u) = true := by kernel_rfl
        exact (show Tryz.prog.wantsStandIn t = false by simpa using List.all_eq_true.1 hall t hm)⟩)
    (by kernel_rfl)
end Go.Proofs.YtgkfdlpijefgkaaGreatDoor.catalogRows
