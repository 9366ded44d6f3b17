/- Proved: for every three rows the law ValueTotal of chapter 02 returns true, and its arguments read afterwards as before. Conditions: none beyond the given statement, a tied card. -/
import Derived.Test.YtknpncpoojjbfaaDoorVF
import Derived.Test.YtknpncpoojjbfaaDoorVO
import Derived.Test.YtknpncpoojjbfaaDoorCards
import Derived.Test.YtknpncpoojjbfaaDoorTie
import Derived.SevenTiedAt
set_option linter.unusedVariables false
namespace Go.Proofs.YtknpncpoojjbfaaDoor
open Go.RowKit Go.VB Go.VB.Oct Go.VB.Rec
theorem cutRow_len (l : List V) : (cutRow l).length ≤ 8 := by unfold cutRow; rw [List.length_map, List.length_take]; omega
set_option maxRecDepth 20000 in
set_option maxHeartbeats 4000000 in
theorem Total_walk {P : Nat → Prop} {w : World} (G : Gv w) {va vb vc : Value} {a b c : List V} (ha : Sl P w va a.length (a.flatMap V.cells)) (hb : Sl P w vb b.length (b.flatMap V.cells)) (hc : Sl P w vc c.length (c.flatMap V.cells))
    (la : a.length ≤ 9223372036854775807) (lb : b.length ≤ 9223372036854775807) (lc : c.length ≤ 9223372036854775807) :
    Calls Tryd.prog 8 #[va, vb, vc] w fun e w' => e = .returned (.bool true) ∧ Fr (fun _ => False) w w' := by
  have HG := hid G
  have HSA := hid (sanity_go G)
  have HFA := hid (fun w' (f : Fr (fun _ => False) w w') => few2_go (ha.fr f (fun _ _ h => h)) la)
  have HFB := hid (fun w' (f : Fr (fun _ => False) w w') => few2_go (hb.fr f (fun _ _ h => h)) lb)
  have HFC := hid (fun w' (f : Fr (fun _ => False) w w') => few2_go (hc.fr f (fun _ _ h => h)) lc)
  have hla := cutRow_len a
  have hlb := cutRow_len b
  have hlc := cutRow_len c
  obtain ⟨ax, cx, rfl, -⟩ := ha
  obtain ⟨ay, cy, rfl, -⟩ := hb
  obtain ⟨az, cz, rfl, -⟩ := hc
  clear G la lb lc
  generalize cutRow a = ra at *
  generalize cutRow b = rb at *
  generalize cutRow c = rc at *
  go_enter Tryd.func8, Tryd.ntmps8
  go_wp2_with (fail)
  refine HSA.out.mono ?_
  rintro e w1 ⟨rfl, f⟩
  have F1 := hid f
  clear f HSA
  go_wp2_with (fail)
  refine (HFA.out _ F1.out).mono ?_
  rintro e w2 ⟨a1, c1, rfl, hr, f⟩
  have F2 := hid (F1.out.trans f (fun _ h _ => h))
  have R1 := hid (own_sl hr.own (fun k hk => hr.lt hk) : Sl (fun k => k < w2.heap.size) w2 _ _ _)
  clear f HFA F1 hr
  go_wp2_with (fail)
  refine (HFB.out _ F2.out).mono ?_
  rintro e w3 ⟨a2, c2, rfl, hr, f⟩
  have F3 := hid (F2.out.trans f (fun _ h _ => h))
  have R2 := hid (own_sl hr.own (fun k hk => hr.lt hk) : Sl (fun k => k < w3.heap.size) w3 _ _ _)
  replace R1 := hid (R1.out.fr f (fun _ _ h => h))
  clear f HFB F2 hr
  go_wp2_with (fail)
  refine (HFC.out _ F3.out).mono ?_
  rintro e w4 ⟨a3, c3, rfl, hr, f⟩
  have F4 := hid (F3.out.trans f (fun _ h _ => h))
  have R3 := hid (own_sl hr.own (fun k hk => hr.lt hk) : Sl (fun k => k < w4.heap.size) w4 _ _ _)
  replace R1 := hid (R1.out.fr f (fun _ _ h => h))
  replace R2 := hid (R2.out.fr f (fun _ _ h => h))
  clear f HFC F3 hr
  have HRR := hid (fun w' (f : Fr (fun _ => False) w4 w') => VRows_go (R1.out.fr f (fun _ _ h => h)) (R2.out.fr f (fun _ _ h => h)) (by omega) (by omega) ((HG.out.fre (F4.out.trans f (fun _ h _ => h))).kn))
  have HSS := hid (fun w' (f : Fr (fun _ => False) w4 w') => VRows_go (R2.out.fr f (fun _ _ h => h)) (R3.out.fr f (fun _ _ h => h)) (by omega) (by omega) ((HG.out.fre (F4.out.trans f (fun _ h _ => h))).kn))
  have HTT := hid (fun w' (f : Fr (fun _ => False) w4 w') => VRows_go (R1.out.fr f (fun _ _ h => h)) (R3.out.fr f (fun _ _ h => h)) (by omega) (by omega) ((HG.out.fre (F4.out.trans f (fun _ h _ => h))).kn))
  have HUU := hid (fun w' (f : Fr (fun _ => False) w4 w') => VRows_go (R2.out.fr f (fun _ _ h => h)) (R1.out.fr f (fun _ _ h => h)) (by omega) (by omega) ((HG.out.fre (F4.out.trans f (fun _ h _ => h))).kn))
  have HVV := hid (fun w' (f : Fr (fun _ => False) w4 w') => VRows_go (R1.out.fr f (fun _ _ h => h)) (R1.out.fr f (fun _ _ h => h)) (by omega) (by omega) ((HG.out.fre (F4.out.trans f (fun _ h _ => h))).kn))
  have hx := ord_rows.rng ra rb
  have hy := ord_rows.rng rb rc
  have hz := ord_rows.rng ra rc
  have o1 := ord_rows.tr ra rb rc
  have o2 := ord_rows.lt1 (a := ra) (b := rb) (d := rc)
  have o3 := ord_rows.ge (a := ra) (b := rb) (d := rc)
  have o4 := ord_rows.eq0 (a := ra) (b := rb) (d := rc)
  rw [ord_rows.anti ra rb] at HUU
  rw [ord_rows.refl ra] at HVV
  generalize rowsCmp ra rb = x at *
  generalize rowsCmp rb rc = y at *
  generalize rowsCmp ra rc = z at *
  have HO := hid (And.intro hx (And.intro hy (And.intro hz (And.intro o1 (And.intro o2 (And.intro o3 o4))))))
  clear hx hy hz o1 o2 o3 o4 R1 R2 R3
  have FZ := hid (Fr.refl (fun _ => False) w4)
  go_wp2_with (fail)
  refine (HRR.out _ FZ.out).mono ?_
  rintro e w5 ⟨rfl, f⟩
  have F5 := hid f
  clear f FZ HRR
  go_wp2_with (fail)
  refine (HSS.out _ F5.out).mono ?_
  rintro e w6 ⟨rfl, f⟩
  have F6 := hid (F5.out.trans f (fun _ h _ => h))
  clear f F5 HSS
  go_wp2_with (fail)
  refine (HTT.out _ F6.out).mono ?_
  rintro e w7 ⟨rfl, f⟩
  have F7 := hid (F6.out.trans f (fun _ h _ => h))
  clear f F6 HTT
  go_wp2_with (fail)
  refine (HUU.out _ F7.out).mono ?_
  rintro e w8 ⟨rfl, f⟩
  have F8 := hid (F7.out.trans f (fun _ h _ => h))
  clear f F7 HUU
  have hx := HO.out.1
  have hy := HO.out.2.1
  have hz := HO.out.2.2.1
  rcases hx with rfl | rfl | rfl
  all_goals
    go_wp2_with (fail)
    refine (HVV.out _ F8.out).mono ?_
    rintro e w9 ⟨rfl, f⟩
    have F9 := hid (F4.out.trans (F8.out.trans f (fun _ h _ => h)) (fun _ h _ => h))
    clear f
    rcases hy with rfl | rfl | rfl
    all_goals
      rcases hz with rfl | rfl | rfl
      all_goals
        first
        | (exfalso; have := HO.out; omega)
        | (go_wp2_with (fail); go_ret; exact ⟨rfl, F9.out⟩)
end Go.Proofs.YtknpncpoojjbfaaDoor
namespace Go.Proofs.YtknpncpoojjbfaaDoor.valueTotal
open Go.ChangeShapes Go.WideShapes Go.ChangeAt Go.RowKit Go.VB Go.VB.Rec
set_option maxHeartbeats 400000 in
set_option maxRecDepth 100000 in
theorem lifted (os : Os) (started : os.Started) (H : Type) (enc : TypeId × Value → H) :
    ReturnsInHanded {} Tryd.checked os 8 .any (fun w args => (Rows.valueTotalSpec.pre enc Tryd.prog Tryd.f8 Rows.valueTotalRow.domain false w args ∧ laidMetH Tryd.prog Rows.valueTotalRow.laid w) ∧ sizedMet enc Tryd.prog Tryd.f8 (OpenSpec.ofChange Rows.valueTotalSpec) false w args) (Rows.valueTotalSpec.post enc Tryd.prog Tryd.f8 false true false false) := by
  refine handed_and_shaped (C := Tryd.checked) (X := fun w _ => laidMetH Tryd.prog Rows.valueTotalRow.laid w) (fun _ _ _ hh h => h.of_heap hh) own started (by kernel_rfl) Tryd.func8
    (ChangeSpec.witness_shaped (enc := enc) (C := Tryd.checked) (os := os) (X := fun w _ => laidMetH Tryd.prog Rows.valueTotalRow.laid w) false (startW os) #[.slice none 0 0, .slice none 0 0, .slice none 0 0] 8 rfl (start_shaped os _) (by kernel_rfl) (by kernel_rfl) (by kernel_rfl) (start_met os _)) ?_
  intro W base args ds gs before hval0 hW hL hsh
  have GV : Hid (Gv W) := hid (gv_of hL hsh)
  clear hL hsh
  have hval : ∀ (j : Nat) t v, Tryd.f8.params[j]? = some t → args[j]? = some v → Value.okWide Tryd.prog W .any base t v := hval0
  have hW' := hW
  obtain ⟨p, q, hA0, hV, rfl, hfz, hnd⟩ := hW
  have hA : DataW.TrodAll enc Tryd.prog W 0 (fun _ => true) true Tryd.f8.params.toList args.toList ds p := hA0
  rw [Tryd.params8] at hA hval
  obtain ⟨v0, vs0, d0, ds0, p0, q0, hargs, rfl, rfl, h0, r0⟩ := trodAll_cons hA
  obtain ⟨v1, vs1, d1, ds1, p1, q1, rfl, rfl, rfl, h1, r1⟩ := trodAll_cons r0
  obtain ⟨v2, vs2, d2, ds2, p2, q2, rfl, rfl, rfl, h2, r2⟩ := trodAll_cons r1
  obtain ⟨rfl, rfl, rfl⟩ := trodAll_nil r2
  obtain rfl : args = #[v0, v1, v2] := by cases args; simp_all
  obtain ⟨rfl, rfl⟩ := trodVars_none hV
  clear hA0 hval0
  refine Calls.mono (R := fun e w' => e = .returned (.bool true) ∧ Fr (fun _ => False) W w') ?_ fun e W' ⟨he, hf⟩ => ⟨_, he, post_law sound (by decide +kernel) rfl rfl (ht := Tryd.underlying4) (by rfl) hW' hf⟩
  obtain ⟨a, sa, -, la⟩ := open_row (hval 0 23 v0 rfl rfl) h0
  obtain ⟨b, sb, -, lb⟩ := open_row (hval 1 23 v1 rfl rfl) h1
  obtain ⟨c, sc, -, lc⟩ := open_row (hval 2 23 v2 rfl rfl) h2
  exact Total_walk GV.out sa sb sc (Nat.le_trans la (by decide)) (Nat.le_trans lb (by decide)) (Nat.le_trans lc (by decide))
theorem row_holds : Rows.ValueTotalSaid :=
  OpenClaim.holds_of_wide 8 Tryd.f8 rfl rfl rfl rfl rfl rfl rfl ⟨rfl, rfl, rfl, rfl, rfl⟩ rfl rfl rfl rfl rfl (by kernel_rfl) Tryd.func8 (by kernel_rfl)
    (of_decide_eq_true (by kernel_rfl)) (by unfold Func.isWrapper; first | (rw [if_pos (by decide +kernel)]; kernel_rfl) | (rw [if_neg (by decide +kernel)]; exact ⟨rfl, rfl⟩))
    (fun os started H enc _ => lifted os started H enc)
theorem proved : Rows.ValueTotalCardSaid :=
  Claim7.holds_tied_plain_at .later [] Rows.valueTotalCard.laidKinds true Rows.valueTotalCard.stood.harness true row_holds (fun _ h => by cases h) (by kernel_rfl) (fun _ h => by cases h) valueTotal_row_tie rfl ⟨rfl, rfl⟩ (by kernel_rfl) rfl
    (fun f fn hf hfn => by
      obtain rfl : f = 8 := Option.some.inj ((show Tryd.prog.funcNamed "vintner/vintnerlaw02.ValueTotal" = some 8 by kernel_rfl).symm.trans hf) |>.symm
      obtain rfl : fn = Tryd.f8 := (Option.some.inj (Tryd.func8.symm.trans hfn)).symm
      exact ⟨by kernel_rfl, fun j t ht => by
        rw [Tryd.params8] at ht
        have hm : t ∈ [23] := by simpa using Array.mem_of_getElem? ht
        have hall : ([23].all fun u => !Tryd.prog.wantsStandIn u) = true := by kernel_rfl
        exact (show Tryd.prog.wantsStandIn t = false by simpa using List.all_eq_true.1 hall t hm)⟩)
    (by kernel_rfl)
end Go.Proofs.YtknpncpoojjbfaaDoor.valueTotal
