import Derived.Test.YtgkfdlpijefgkaaDoorCtCk
import Derived.Test.YtgkfdlpijefgkaaDoorCards
import Derived.Test.YtgkfdlpijefgkaaDoorTie
import Derived.SevenTiedAt
import Derived.ChangeMaps5
/-
For every table, every name and every list of rows the program's Check, Col and Count agree with the reference's (CatalogChecks).
Conditions: none beyond the row's own.
-/
set_option linter.unusedVariables false
namespace Go.Proofs.YtgkfdlpijefgkaaDoor.catalogChecks
open Go.ChangeShapes Go.WideShapes Go.ChangeAt Go.ChangeMaps Go.RowKit Go.VB Go.VB.Rec
set_option maxHeartbeats 400000 in
set_option maxRecDepth 100000 in
theorem lifted (os : Os) (started : os.Started) (H : Type) (enc : TypeId × Value → H) :
    ReturnsInHanded {} Tryd.checked os 3 .any (fun w args => (Rows.catalogChecksSpec.pre enc Tryd.prog Tryd.f3 Rows.catalogChecksRow.domain false w args ∧ laidMetH Tryd.prog Rows.catalogChecksRow.laid w) ∧ sizedMet enc Tryd.prog Tryd.f3 (OpenSpec.ofChange Rows.catalogChecksSpec) false w args) (Rows.catalogChecksSpec.post enc Tryd.prog Tryd.f3 false true false false) := by
  refine handed_and_shaped (C := Tryd.checked) (X := fun w _ => laidMetH Tryd.prog Rows.catalogChecksRow.laid w) (fun _ _ _ hh h => h.of_heap hh) own started (by kernel_rfl) Tryd.func3
    (ChangeSpec.witness_shaped (enc := enc) (C := Tryd.checked) (os := os) (X := fun w _ => laidMetH Tryd.prog Rows.catalogChecksRow.laid w) false (startW os) #[.agg #[.int .i64 0, .string .empty, .slice none 0 0, .slice none 0 0], .string .empty, .slice none 0 0] 8 rfl (start_shaped os _) (by kernel_rfl) (by kernel_rfl) (by kernel_rfl) (start_met os _)) ?_
  intro W base args ds gs before hval0 hW hL hsh
  have GV : Hid (Gv W) := hid (gv_of hL hsh)
  clear hL hsh
  have hval : ∀ (j : Nat) t v, Tryd.f3.params[j]? = some t → args[j]? = some v → Value.okWide Tryd.prog W .any base t v := hval0
  have hW' := hW
  obtain ⟨p, q, hA0, hV, rfl, hfz, hnd⟩ := hW
  have hA : DataW.TrodAll enc Tryd.prog W 0 (fun _ => true) true Tryd.f3.params.toList args.toList ds p := hA0
  rw [Tryd.params3] at hA hval
  obtain ⟨v0, vs0, d0, ds0, p0, q0, hargs, rfl, rfl, h0, r0⟩ := trodAll_cons hA
  obtain ⟨v1, vs1, d1, ds1, p1, q1, rfl, rfl, rfl, h1, r1⟩ := trodAll_cons r0
  obtain ⟨v2, vs2, d2, ds2, p2, q2, rfl, rfl, rfl, h2, r2⟩ := trodAll_cons r1
  obtain ⟨rfl, rfl, rfl⟩ := trodAll_nil r2
  obtain rfl : args = #[v0, v1, v2] := by cases args; simp_all
  obtain ⟨rfl, rfl⟩ := trodVars_none hV
  clear hA0 hval0
  refine Calls.mono (R := fun e w' => e = .returned (.bool true) ∧ Fr (fun _ => False) W w') ?_ fun e W' ⟨he, hf⟩ => ⟨_, he, post_law sound (by decide +kernel) rfl rfl (ht := Tryd.underlying4) (by rfl) hW' hf⟩
  obtain ⟨id, name, ac, ai, cols, cc, ni, ci, rfl, hc, -, -⟩ := open_tab (hval 0 25 v0 rfl rfl) h0
  obtain ⟨s0, rfl, -, -, -⟩ := open_string Tryd.underlying9 (hval 1 9 v1 rfl rfl) h1
  obtain ⟨nm, rfl⟩ : ∃ nm : List UInt8, s0 = bs nm := ⟨s0.data.toList, (bs_toList s0).symm⟩
  obtain ⟨A, hA, hS⟩ := open_rowsB (hval 2 26 v2 rfl rfl) h2
  exact Checks_walk id name nm GV.out hc hA (fun x hx v hv => by have := hS x hx v hv; unfold maxLen at this; omega)
theorem row_holds : Rows.CatalogChecksSaid :=
  OpenClaim.holds_of_wide 3 Tryd.f3 rfl rfl rfl rfl rfl rfl rfl ⟨rfl, rfl, rfl, rfl, rfl⟩ rfl rfl rfl rfl rfl (by kernel_rfl) Tryd.func3 (by kernel_rfl)
    (of_decide_eq_true (by kernel_rfl)) (by unfold Func.isWrapper; first | (rw [if_pos (by decide +kernel)]; kernel_rfl) | (rw [if_neg (by decide +kernel)]; exact ⟨rfl, rfl⟩))
    (fun os started H enc _ => lifted os started H enc)
theorem proved : Rows.CatalogChecksCardSaid :=
  Claim7.holds_tied_plain_at .later [] Rows.catalogChecksCard.laidKinds true Rows.catalogChecksCard.stood.harness Rows.catalogChecksCard.stood.looks row_holds (fun _ h => by cases h) (by kernel_rfl) (fun _ h => by cases h) catalogChecks_row_tie rfl ⟨rfl, rfl⟩ (by kernel_rfl) rfl
    (fun f fn hf hfn => by
      obtain rfl : f = 3 := Option.some.inj ((show Tryd.prog.funcNamed "vintner/vintnerlaw14.CatalogChecks" = some 3 by kernel_rfl).symm.trans hf) |>.symm
      obtain rfl : fn = Tryd.f3 := (Option.some.inj (Tryd.func3.symm.trans hfn)).symm
      exact ⟨by kernel_rfl, fun j t ht => by
        rw [Tryd.params3] at ht
        have hm : t ∈ [25, 9, 26] := by simpa using Array.mem_of_getElem? ht
        have hall : ([25, 9, 26].all fun u => !Tryd.prog.wantsStandIn u) = true := by kernel_rfl
        exact (show Tryd.prog.wantsStandIn t = false by simpa using List.all_eq_true.1 hall t hm)⟩)
    (by kernel_rfl)
end Go.Proofs.YtgkfdlpijefgkaaDoor.catalogChecks
