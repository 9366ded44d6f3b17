/- Proved: for every row the law ValueBytes of chapter 02 returns true, and its argument reads afterwards as before. Conditions: none beyond the given statement, a tied card. -/
import Derived.Test.YtknpncpoojjbfaaDoorVF
import Derived.Test.YtknpncpoojjbfaaDoorVR3
import Derived.Test.YtknpncpoojjbfaaDoorCards
import Derived.Test.YtknpncpoojjbfaaDoorTie
import Derived.SevenTiedAt
set_option linter.unusedVariables false
namespace Go.Proofs.YtknpncpoojjbfaaDoor
open Go.RowKit Go.VB Go.VB.Oct Go.VB.Rec
theorem cutRow_len (l : List V) : (cutRow l).length ≤ 8 := by unfold cutRow; rw [List.length_map, List.length_take]; omega
theorem rowKey_le (r : List V) : (rowKey r).length ≤ 498 := by
  unfold rowKey
  split
  · rename_i h
    unfold row at h
    simp only [Bool.and_eq_true, decide_eq_true_eq, List.all_eq_true] at h
    exact ksum_le r h.2 h.1
  · simp
set_option maxRecDepth 20000 in
set_option maxHeartbeats 4000000 in
theorem Bytes_walk {P : Nat → Prop} {w : World} (G : Gv w) {va : Value} {a : List V} (ha : Sl P w va a.length (a.flatMap V.cells)) (la : a.length ≤ 9223372036854775807) :
    Calls Tryd.prog 4 #[va] w fun e w' => e = .returned (.bool true) ∧ Fr (fun _ => False) w w' := by
  have HG := hid G
  have HSA := hid (sanity_go G)
  have HFA := hid (fun w' (f : Fr (fun _ => False) w w') => few2_go (ha.fr f (fun _ _ h => h)) la)
  have hla := cutRow_len a
  obtain ⟨ax, cx, rfl, -⟩ := ha
  clear G la
  generalize cutRow a = ra at *
  have HKL := hid (rowKey_le ra)
  go_enter Tryd.func4, Tryd.ntmps4
  go_wp2_with (fail)
  refine HSA.out.mono ?_
  rintro e w1 ⟨rfl, f⟩
  have F1 := hid f
  clear f HSA
  go_wp2_with (fail)
  refine (HFA.out _ F1.out).mono ?_
  rintro e w2 ⟨a1, c1, rfl, hr, f⟩
  have F2 := hid (F1.out.trans f (fun _ h _ => h))
  have R1 := hid (own_sl hr.own (fun k hk => hr.lt hk) : Sl (fun k => k < w2.heap.size) w2 _ _ _)
  clear f HFA F1 hr
  have H1 := hid (fun w' (f : Fr (fun _ => False) w2 w') => VBytes_go (R1.out.fr f (fun _ _ h => h)) (fun k hk => Nat.lt_of_lt_of_le hk f.size) (by omega))
  have H2 := hid (fun w' (f : Fr (fun _ => False) w2 w') => r2Bytes_go (R1.out.fr f (fun _ _ h => h)) (by omega))
  have H3 := hid (fun w' (f : Fr (fun _ => False) w2 w') => VKey_go (R1.out.fr f (fun _ _ h => h)) (fun k hk => Nat.lt_of_lt_of_le hk f.size) (by omega) ((HG.out.fre (F2.out.trans f (fun _ h _ => h))).ml))
  have H4 := hid (fun w' (f : Fr (fun _ => False) w2 w') => r2Key_go (R1.out.fr f (fun _ _ h => h)) (by omega))
  generalize rowBytes ra = B at *
  generalize rowKey ra = K at *
  have H5 := hid (fun w => VCut_go K (Nat.le_trans HKL.out (by decide)) w)
  have H6 := hid (fun w => r2Cut_go K (Nat.le_trans HKL.out (by decide)) w)
  generalize K.take 16 = C at *
  have FZ := hid (Fr.refl (fun _ => False) w2)
  clear R1 HKL hla
  go_wp2_with (fail)
  refine (H4.out _ FZ.out).mono ?_
  rintro e w3 ⟨rfl, f⟩
  have F3 := hid f
  clear f FZ H4
  go_wp2_with (fail)
  refine (H1.out _ F3.out).mono ?_
  rintro e w4 ⟨rfl, f⟩
  have F4 := hid (F3.out.trans f (fun _ h _ => h))
  clear f F3 H1
  go_wp2_with (fail)
  refine (H2.out _ F4.out).mono ?_
  rintro e w5 ⟨rfl, f⟩
  have F5 := hid (F4.out.trans f (fun _ h _ => h))
  clear f F4 H2
  go_wp2_with (fail)
  refine (H3.out _ F5.out).mono ?_
  rintro e w6 ⟨rfl, f⟩
  have F6 := hid (F5.out.trans f (fun _ h _ => h))
  clear f F5 H3
  go_wp2_with (fail)
  refine (H5.out _).mono ?_
  rintro e w7 ⟨rfl, f⟩
  have F7 := hid (F6.out.trans f (fun _ h _ => h))
  clear f F6 H5
  go_wp2_with (fail)
  refine (H6.out _).mono ?_
  rintro e w8 ⟨rfl, f⟩
  have F8 := hid (F2.out.trans (F7.out.trans f (fun _ h _ => h)) (fun _ h _ => h))
  clear f F7 H6
  go_wp2_with (fail)
  go_ret
  exact ⟨rfl, F8.out⟩
end Go.Proofs.YtknpncpoojjbfaaDoor
namespace Go.Proofs.YtknpncpoojjbfaaDoor.valueBytes
open Go.ChangeShapes Go.WideShapes Go.ChangeAt Go.RowKit Go.VB Go.VB.Rec
set_option maxHeartbeats 400000 in
set_option maxRecDepth 100000 in
theorem lifted (os : Os) (started : os.Started) (H : Type) (enc : TypeId × Value → H) :
    ReturnsInHanded {} Tryd.checked os 4 .any (fun w args => (Rows.valueBytesSpec.pre enc Tryd.prog Tryd.f4 Rows.valueBytesRow.domain false w args ∧ laidMetH Tryd.prog Rows.valueBytesRow.laid w) ∧ sizedMet enc Tryd.prog Tryd.f4 (OpenSpec.ofChange Rows.valueBytesSpec) false w args) (Rows.valueBytesSpec.post enc Tryd.prog Tryd.f4 false true false false) := by
  refine handed_and_shaped (C := Tryd.checked) (X := fun w _ => laidMetH Tryd.prog Rows.valueBytesRow.laid w) (fun _ _ _ hh h => h.of_heap hh) own started (by kernel_rfl) Tryd.func4
    (ChangeSpec.witness_shaped (enc := enc) (C := Tryd.checked) (os := os) (X := fun w _ => laidMetH Tryd.prog Rows.valueBytesRow.laid w) false (startW os) #[.slice none 0 0] 8 rfl (start_shaped os _) (by kernel_rfl) (by kernel_rfl) (by kernel_rfl) (start_met os _)) ?_
  intro W base args ds gs before hval0 hW hL hsh
  have GV : Hid (Gv W) := hid (gv_of hL hsh)
  clear hL hsh
  have hval : ∀ (j : Nat) t v, Tryd.f4.params[j]? = some t → args[j]? = some v → Value.okWide Tryd.prog W .any base t v := hval0
  have hW' := hW
  obtain ⟨p, q, hA0, hV, rfl, hfz, hnd⟩ := hW
  have hA : DataW.TrodAll enc Tryd.prog W 0 (fun _ => true) true Tryd.f4.params.toList args.toList ds p := hA0
  rw [Tryd.params4] at hA hval
  obtain ⟨v0, vs0, d0, ds0, p0, q0, hargs, rfl, rfl, h0, r0⟩ := trodAll_cons hA
  obtain ⟨rfl, rfl, rfl⟩ := trodAll_nil r0
  obtain rfl : args = #[v0] := by cases args; simp_all
  obtain ⟨rfl, rfl⟩ := trodVars_none hV
  clear hA0 hval0
  refine Calls.mono (R := fun e w' => e = .returned (.bool true) ∧ Fr (fun _ => False) W w') ?_ fun e W' ⟨he, hf⟩ => ⟨_, he, post_law sound (by decide +kernel) rfl rfl (ht := Tryd.underlying4) (by rfl) hW' hf⟩
  obtain ⟨a, sa, -, la⟩ := open_row (hval 0 23 v0 rfl rfl) h0
  exact Bytes_walk GV.out sa (Nat.le_trans la (by decide))
theorem row_holds : Rows.ValueBytesSaid :=
  OpenClaim.holds_of_wide 4 Tryd.f4 rfl rfl rfl rfl rfl rfl rfl ⟨rfl, rfl, rfl, rfl, rfl⟩ rfl rfl rfl rfl rfl (by kernel_rfl) Tryd.func4 (by kernel_rfl)
    (of_decide_eq_true (by kernel_rfl)) (by unfold Func.isWrapper; first | (rw [if_pos (by decide +kernel)]; kernel_rfl) | (rw [if_neg (by decide +kernel)]; exact ⟨rfl, rfl⟩))
    (fun os started H enc _ => lifted os started H enc)
theorem proved : Rows.ValueBytesCardSaid :=
  Claim7.holds_tied_plain_at .later [] Rows.valueBytesCard.laidKinds true Rows.valueBytesCard.stood.harness true row_holds (fun _ h => by cases h) (by kernel_rfl) (fun _ h => by cases h) valueBytes_row_tie rfl ⟨rfl, rfl⟩ (by kernel_rfl) rfl
    (fun f fn hf hfn => by
      obtain rfl : f = 4 := Option.some.inj ((show Tryd.prog.funcNamed "vintner/vintnerlaw02.ValueBytes" = some 4 by kernel_rfl).symm.trans hf) |>.symm
      obtain rfl : fn = Tryd.f4 := (Option.some.inj (Tryd.func4.symm.trans hfn)).symm
      exact ⟨by kernel_rfl, fun j t ht => by
        rw [Tryd.params4] at ht
        have hm : t ∈ [23] := by simpa using Array.mem_of_getElem? ht
        have hall : ([23].all fun u => !Tryd.prog.wantsStandIn u) = true := by kernel_rfl
        exact (show Tryd.prog.wantsStandIn t = false by simpa using List.all_eq_true.1 hall t hm)⟩)
    (by kernel_rfl)
end Go.Proofs.YtknpncpoojjbfaaDoor.valueBytes
