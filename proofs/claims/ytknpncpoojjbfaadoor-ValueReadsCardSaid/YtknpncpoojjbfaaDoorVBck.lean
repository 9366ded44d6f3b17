/- Proved: for every row and every string the law ValueBack of chapter 02 returns true, and its arguments read afterwards as before. Conditions: none beyond the given statement, a tied card. -/
import Derived.Test.YtknpncpoojjbfaaDoorVF2
import Derived.Test.YtknpncpoojjbfaaDoorCards
import Derived.Test.YtknpncpoojjbfaaDoorTie
import Derived.SevenTiedAt
set_option linter.unusedVariables false
namespace Go.VB.Rec
theorem readV_err (s : List UInt8) (h : (readV s).2 ≠ 0) : (readV s).1 = [] := by
  unfold readV at h ⊢
  split at h <;> (try rfl)
  split at h
  · rename_i h6; rw [if_pos h6]
  · rename_i h6
    rw [if_neg h6]
    split at h
    · rfl
    · exact absurd rfl h
    · rfl
theorem rightRow_in {l : List V} (h : ∀ x ∈ l, V.In2 x) : ∀ v ∈ rightRow l, v.In := by
  intro v hv
  unfold rightRow mayRow at hv
  obtain ⟨x, hx, rfl⟩ := List.mem_map.1 hv
  obtain ⟨y, hy, rfl⟩ := List.mem_map.1 hx
  have := (h y (List.mem_of_mem_take hy)).2
  unfold V.may V.plain V.In
  unfold in64 at this
  dsimp only
  split <;> omega
theorem rowBytes_le2 (r : List V) : (rowBytes r).length ≤ 253 := by
  unfold rowBytes
  split
  · rename_i h
    unfold row at h
    simp only [Bool.and_eq_true, decide_eq_true_eq, List.all_eq_true] at h
    have := Go.Proofs.YtknpncpoojjbfaaDoor.vsum_le r h.2 h.1
    rw [List.length_cons]; omega
  · simp
end Go.VB.Rec
namespace Go.Proofs.YtknpncpoojjbfaaDoor
open Go.RowKit Go.VB Go.VB.Oct Go.VB.Rec
set_option maxRecDepth 20000 in
set_option maxHeartbeats 4000000 in
theorem Back_walk {P : Nat → Prop} {w : World} (G : Gv w) {va : Value} {a : List V} (ha : Sl P w va a.length (a.flatMap V.cells)) (la : a.length ≤ 9223372036854775807) (hin : ∀ x ∈ a, V.In2 x) (s : List UInt8) :
    Calls Tryd.prog 6 #[va, .string (bs s)] w fun e w' => e = .returned (.bool true) ∧ Fr (fun _ => False) w w' := by
  have HG := hid G
  have HSA := hid (sanity_go G)
  have HFA := hid (fun w' (f : Fr (fun _ => False) w w') => right2_go (ha.fr f (fun _ _ h => h)) la)
  have hla := rightRow_len a
  have HRW := hid (rightRow_row a)
  have HRP := hid (rightRow_plain a)
  have HRI := hid (rightRow_in hin)
  obtain ⟨ax, cx, rfl, -⟩ := ha
  have e1 := bs_size s
  obtain ⟨qs, hms, es, hqs⟩ := cut_str s 300
  obtain ⟨hms1, hms2⟩ := hms 300 rfl
  have hqs0 : (0 : Int) ≤ (qs : Int) := by omega
  have hsl := hid (show (s.take 300).length ≤ 300 by rw [List.length_take]; omega)
  generalize s.take 300 = sc at *
  clear hms G la hin
  generalize rightRow a = ra at *
  have HBL := hid (rowBytes_le2 ra)
  have hrd := readV_bytes HRW.out HRI.out
  rw [show ra.map V.plain = ra from by
    conv => rhs; rw [← List.map_id ra]
    exact List.map_congr_left fun v hv => HRP.out v hv] at hrd
  have HRD := hid hrd
  clear hrd
  go_enter Tryd.func6, Tryd.ntmps6
  go_wp2_with (fail)
  refine HSA.out.mono ?_
  rintro e w1 ⟨rfl, f⟩
  have F1 := hid f
  clear f HSA
  go_wp2_with (fail)
  refine (HFA.out _ F1.out).mono ?_
  rintro e w2 ⟨a1, c1, rfl, hr, f⟩
  have F2 := hid (F1.out.trans f (fun _ h _ => h))
  have R1 := hid (own_sl hr.own (fun k hk => hr.lt hk) : Sl (fun k => k < w2.heap.size) w2 _ _ _)
  clear f HFA F1 hr
  have H1 := hid (VBytes_go R1.out (fun k hk => hk) (by omega))
  go_wp2_with (fail)
  refine H1.out.mono ?_
  rintro e w3 ⟨rfl, f⟩
  have F3 := hid (F2.out.trans f (fun _ h _ => h))
  replace R1 := hid (R1.out.fr f (fun _ _ h => h))
  clear f F2 H1
  have H2 := hid (VRead_go (rowBytes ra) (Nat.le_trans HBL.out (by decide)) w3)
  rw [HRD.out] at H2
  generalize rowBytes ra = B at *
  go_wp2_with (fail)
  refine H2.out.mono ?_
  rintro e w4 ⟨vb, rfl, hr, f⟩
  have F4 := hid (F3.out.trans f (fun _ h _ => h))
  replace R1 := hid (R1.out.fr f (fun _ _ h => h))
  have R2 := hid (own_sl hr.own (fun k hk => hr.lt hk) : Sl (fun k => k < w4.heap.size) w4 vb ra.length (ra.flatMap V.cells))
  clear f F3 H2 hr
  have H3 := hid (VRead_go sc (Nat.le_trans hsl.out (by decide)) w4)
  have HLE := hid (readV_len sc)
  go_wp2_with (fail)
  refine H3.out.mono ?_
  rintro e w5 ⟨vc, rfl, hr, f⟩
  have F5 := hid (F4.out.trans f (fun _ h _ => h))
  replace R1 := hid (R1.out.fr f (fun _ _ h => h))
  replace R2 := hid (R2.out.fr f (fun _ _ h => h))
  have R3 := hid (own_sl hr.own (fun k hk => hr.lt hk) : Sl (fun k => k < w5.heap.size) w5 _ _ _)
  obtain ⟨a3, c3, rfl, _⟩ := hr.slice
  clear f F4 H3 hr
  have H4 := hid (rfSame_go R2.out R1.out (by omega) (by omega))
  rw [decide_eq_true (rfl : ra = ra)] at H4
  by_cases hx : (readV sc).2 = 0
  · have hb := readV_back (s := sc) (l := (readV sc).1) (by rw [← hx])
    have HB := hid hb.1
    clear hb
    rw [hx]
    generalize (readV sc).1 = l at *
    clear hx
    go_wp2_with (fail)
    refine H4.out.mono ?_
    rintro e w6 ⟨rfl, f⟩
    have F6 := hid (F5.out.trans f (fun _ h _ => h))
    have H5 := hid (VBytes_go (R3.out.fr f (fun _ _ h => h)) (fun k hk => Nat.lt_of_lt_of_le hk f.size) (by have := HLE.out; omega))
    rw [HB.out] at H5
    clear f F5 H4
    go_wp2_with (fail)
    refine H5.out.mono ?_
    rintro e w7 ⟨rfl, f⟩
    have F7 := hid (F6.out.trans f (fun _ h _ => h))
    clear f F6 H5
    go_wp2_with (fail)
    go_ret
    exact ⟨rfl, F7.out⟩
  · have HN := hid (readV_err sc hx)
    rw [HN.out] at *
    have hxb : ((readV sc).2 != 0) = true := by simpa using hx
    have hxc : ((readV sc).2 == 0) = false := by simpa using hx
    generalize (readV sc).2 = x at *
    go_wp2_with (fail)
    refine H4.out.mono ?_
    rintro e w6 ⟨rfl, f⟩
    have F6 := hid (F5.out.trans f (fun _ h _ => h))
    clear f F5 H4
    go_wp2_with (fail)
    go_ret
    exact ⟨rfl, F6.out⟩
end Go.Proofs.YtknpncpoojjbfaaDoor
namespace Go.Proofs.YtknpncpoojjbfaaDoor.valueBack
open Go.ChangeShapes Go.WideShapes Go.ChangeAt Go.ChangeMaps Go.RowKit Go.VB Go.VB.Rec
set_option maxHeartbeats 400000 in
set_option maxRecDepth 100000 in
theorem lifted (os : Os) (started : os.Started) (H : Type) (enc : TypeId × Value → H) :
    ReturnsInHanded {} Tryd.checked os 6 .any (fun w args => (Rows.valueBackSpec.pre enc Tryd.prog Tryd.f6 Rows.valueBackRow.domain false w args ∧ laidMetH Tryd.prog Rows.valueBackRow.laid w) ∧ sizedMet enc Tryd.prog Tryd.f6 (OpenSpec.ofChange Rows.valueBackSpec) false w args) (Rows.valueBackSpec.post enc Tryd.prog Tryd.f6 false true false false) := by
  refine handed_and_shaped (C := Tryd.checked) (X := fun w _ => laidMetH Tryd.prog Rows.valueBackRow.laid w) (fun _ _ _ hh h => h.of_heap hh) own started (by kernel_rfl) Tryd.func6
    (ChangeSpec.witness_shaped (enc := enc) (C := Tryd.checked) (os := os) (X := fun w _ => laidMetH Tryd.prog Rows.valueBackRow.laid w) false (startW os) #[.slice none 0 0, .string ⟨#[]⟩] 8 rfl (start_shaped os _) (by kernel_rfl) (by kernel_rfl) (by kernel_rfl) (start_met os _)) ?_
  intro W base args ds gs before hval0 hW hL hsh
  have GV : Hid (Gv W) := hid (gv_of hL hsh)
  clear hL hsh
  have hval : ∀ (j : Nat) t v, Tryd.f6.params[j]? = some t → args[j]? = some v → Value.okWide Tryd.prog W .any base t v := hval0
  have hW' := hW
  obtain ⟨p, q, hA0, hV, rfl, hfz, hnd⟩ := hW
  have hA : DataW.TrodAll enc Tryd.prog W 0 (fun _ => true) true Tryd.f6.params.toList args.toList ds p := hA0
  rw [Tryd.params6] at hA hval
  obtain ⟨v0, vs0, d0, ds0, p0, q0, hargs, rfl, rfl, h0, r0⟩ := trodAll_cons hA
  obtain ⟨v1, vs1, d1, ds1, p1, q1, rfl, rfl, rfl, h1, r1⟩ := trodAll_cons r0
  obtain ⟨rfl, rfl, rfl⟩ := trodAll_nil r1
  obtain rfl : args = #[v0, v1] := by cases args; simp_all
  obtain ⟨rfl, rfl⟩ := trodVars_none hV
  clear hA0 hval0
  refine Calls.mono (R := fun e w' => e = .returned (.bool true) ∧ Fr (fun _ => False) W w') ?_ fun e W' ⟨he, hf⟩ => ⟨_, he, post_law sound (by decide +kernel) rfl rfl (ht := Tryd.underlying4) (by rfl) hW' hf⟩
  obtain ⟨a, sa, ia, la⟩ := open_row (hval 0 23 v0 rfl rfl) h0
  obtain ⟨s, rfl, -, -, -⟩ := open_string Tryd.underlying9 (hval 1 9 v1 rfl rfl) h1
  rw [← bs_toList s]
  exact Back_walk GV.out sa (Nat.le_trans la (by decide)) ia s.data.toList
theorem row_holds : Rows.ValueBackSaid :=
  OpenClaim.holds_of_wide 6 Tryd.f6 rfl rfl rfl rfl rfl rfl rfl ⟨rfl, rfl, rfl, rfl, rfl⟩ rfl rfl rfl rfl rfl (by kernel_rfl) Tryd.func6 (by kernel_rfl)
    (of_decide_eq_true (by kernel_rfl)) (by unfold Func.isWrapper; first | (rw [if_pos (by decide +kernel)]; kernel_rfl) | (rw [if_neg (by decide +kernel)]; exact ⟨rfl, rfl⟩))
    (fun os started H enc _ => lifted os started H enc)
theorem proved : Rows.ValueBackCardSaid :=
  Claim7.holds_tied_plain_at .later [] Rows.valueBackCard.laidKinds true Rows.valueBackCard.stood.harness true row_holds (fun _ h => by cases h) (by kernel_rfl) (fun _ h => by cases h) valueBack_row_tie rfl ⟨rfl, rfl⟩ (by kernel_rfl) rfl
    (fun f fn hf hfn => by
      obtain rfl : f = 6 := Option.some.inj ((show Tryd.prog.funcNamed "vintner/vintnerlaw02.ValueBack" = some 6 by kernel_rfl).symm.trans hf) |>.symm
      obtain rfl : fn = Tryd.f6 := (Option.some.inj (Tryd.func6.symm.trans hfn)).symm
      exact ⟨by kernel_rfl, fun j t ht => by
        rw [Tryd.params6] at ht
        have hm : t ∈ [23, 9] := by simpa using Array.mem_of_getElem? ht
        have hall : ([23, 9].all fun u => !Tryd.prog.wantsStandIn u) = true := by kernel_rfl
        exact (show Tryd.prog.wantsStandIn t = false by simpa using List.all_eq_true.1 hall t hm)⟩)
    (by kernel_rfl)
end Go.Proofs.YtknpncpoojjbfaaDoor.valueBack
