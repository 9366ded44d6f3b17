/- Proved: for every two rows the law ValueOrder of chapter 02 returns true, and its arguments read afterwards as before. Conditions: none beyond the given statement, a tied card. -/
import Derived.Test.YtknpncpoojjbfaaDoorVF
import Derived.Test.YtknpncpoojjbfaaDoorCards
import Derived.Test.YtknpncpoojjbfaaDoorTie
import Derived.SevenTiedAt
set_option linter.unusedVariables false
namespace Go.Proofs.YtknpncpoojjbfaaDoor
open Go.RowKit Go.VB Go.VB.Oct Go.VB.Rec
theorem cutRow_len (l : List V) : (cutRow l).length ≤ 8 := by unfold cutRow; rw [List.length_map, List.length_take]; omega
theorem cutRow_s (l : List V) : ∀ x ∈ cutRow l, x.s.length ≤ 60 := by
  intro x hx
  unfold cutRow at hx
  obtain ⟨y, _, rfl⟩ := List.mem_map.1 hx
  unfold V.cut
  dsimp only
  rw [List.length_take]; omega
set_option maxRecDepth 20000 in
set_option maxHeartbeats 4000000 in
theorem Order_walk {P : Nat → Prop} {w : World} (G : Gv w) {va vb : Value} {a b : List V} (ha : Sl P w va a.length (a.flatMap V.cells)) (hb : Sl P w vb b.length (b.flatMap V.cells))
    (la : a.length ≤ 9223372036854775807) (lb : b.length ≤ 9223372036854775807) :
    Calls Tryd.prog 3 #[va, vb] w fun e w' => e = .returned (.bool true) ∧ Fr (fun _ => False) w w' := by
  have HG := hid G
  have HSA := hid (sanity_go G)
  have HFA := hid (fun w' (f : Fr (fun _ => False) w w') => few2_go (ha.fr f (fun _ _ h => h)) la)
  have HFB := hid (fun w' (f : Fr (fun _ => False) w w') => few2_go (hb.fr f (fun _ _ h => h)) lb)
  have hla := cutRow_len a
  have hlb := cutRow_len b
  have HSTA := hid (cutRow_s a)
  have HSTB := hid (cutRow_s b)
  obtain ⟨ax, cx, rfl, -⟩ := ha
  obtain ⟨ay, cy, rfl, -⟩ := hb
  clear G la lb
  generalize cutRow a = ra at *
  generalize cutRow b = rb at *
  go_enter Tryd.func3, Tryd.ntmps3
  go_wp2_with (fail)
  refine HSA.out.mono ?_
  rintro e w1 ⟨rfl, f⟩
  have F1 := hid f
  clear f HSA
  go_wp2_with (fail)
  refine (HFA.out _ F1.out).mono ?_
  rintro e w2 ⟨a1, c1, rfl, hr, f⟩
  have F2 := hid (F1.out.trans f (fun _ h _ => h))
  have R1 := hid (own_sl hr.own (fun k hk => hr.lt hk) : Sl (fun k => k < w2.heap.size) w2 _ _ _)
  clear f HFA F1 hr
  go_wp2_with (fail)
  refine (HFB.out _ F2.out).mono ?_
  rintro e w3 ⟨a2, c2, rfl, hr, f⟩
  have F3 := hid (F2.out.trans f (fun _ h _ => h))
  have R2 := hid (own_sl hr.own (fun k hk => hr.lt hk) : Sl (fun k => k < w3.heap.size) w3 _ _ _)
  replace R1 := hid (R1.out.fr f (fun _ _ h => h))
  clear f HFB F2 hr
  have HRR := hid (fun w' (f : Fr (fun _ => False) w3 w') => VRows_go (R1.out.fr f (fun _ _ h => h)) (R2.out.fr f (fun _ _ h => h)) (by omega) (by omega) ((HG.out.fre (F3.out.trans f (fun _ h _ => h))).kn))
  have HSS := hid (fun w' (f : Fr (fun _ => False) w3 w') => VRows_go (R2.out.fr f (fun _ _ h => h)) (R1.out.fr f (fun _ _ h => h)) (by omega) (by omega) ((HG.out.fre (F3.out.trans f (fun _ h _ => h))).kn))
  have HRQ := hid (fun w' (f : Fr (fun _ => False) w3 w') => r2Rows_go (R1.out.fr f (fun _ _ h => h)) (R2.out.fr f (fun _ _ h => h)) (by omega) (by omega) (fun x hx => Nat.le_trans (HSTA.out x hx) (by decide)) (fun x hx => Nat.le_trans (HSTB.out x hx) (by decide)))
  have HSQ := hid (fun w' (f : Fr (fun _ => False) w3 w') => r2Rows_go (R2.out.fr f (fun _ _ h => h)) (R1.out.fr f (fun _ _ h => h)) (by omega) (by omega) (fun x hx => Nat.le_trans (HSTB.out x hx) (by decide)) (fun x hx => Nat.le_trans (HSTA.out x hx) (by decide)))
  have FZ := hid (Fr.refl (fun _ => False) w3)
  go_wp2_with (fail)
  go_loopw [6] (fun i wr => ∃ j : Nat, j ≤ ra.length ∧ i = .int .i64 j ∧ Fr (fun _ => False) w3 wr) (fun i _ => ra.length - (intOf i).toNat)
  case atStart => exact ⟨0, by omega, rfl, FZ.out⟩
  case round =>
    obtain ⟨j, hj, rfl, fr⟩ := hrel
    have FR := hid fr
    clear fr FZ
    by_cases hja : j < ra.length
    · obtain ⟨g, o, rfl, hg, q0, q1, q2⟩ := sl_three (f := V.cells) vcells_len (R1.out.fr FR.out (fun _ _ h => h)) hja
      have i1 : (0 : Int) ≤ (j : Int) := by omega
      have i2 : (j : Int) < ra.length := by omega
      simp only [V.cells, List.getElem?_cons_zero, List.getElem?_cons_succ] at q0 q1 q2
      have HXS := hid (HSTA.out _ (List.getElem_mem hja))
      generalize ra[j] = x at *
      have FD := hid (FR.out.trans ((Fr.refl (fun _ => False) wr).drew) (fun _ h _ => h))
      have RX := hid (fun i u hu => cell_fr (range3 q0 q1 q2 i u hu) ((Fr.refl (fun _ => False) wr).drew) (fun h => h) : wr.drew.rangeAt g (o + j * 3) (V.cells x))
      have HV1 := hid (fun w => VRight_go x w)
      have HV2 := hid (fun w => rfRight_go x w)
      clear q0 q1 q2
      generalize x.right = xr at *
      have hxx : (xr != xr) = false := bne_self_eq_false _
      go_upto_region 7 with fail
      refine wp_region_scr (.take 0 (.take 1 (.take 2 (.take 3 (.take 5 (.take 6 (.take 7 (.take 8 (.op 4 (.op 9 (.take 10 .done))))))))))) (fun kz w => (kz ≤ 11 → w.rangeAt g (o + j * 3) (V.cells x)) ∧ True) (by kernel_rfl) (by kernel_rfl) (by intro c a d v w h; cases d <;> exact h) ?_
      repeat
        first
        | (refine wpT_pure rfl rfl rfl ?_; apply Exists.intro; refine ⟨?_, ?_⟩; intro w; (first | (first | exact run_load_mid _ _ rfl g _ rfl _ _ qa Tryd.underlying28 rfl size_V | (go_simp; rw [if_pos ⟨i1, i2⟩]; done)) | (go_simp <;> rfl)); simp only [Act.put, List.setIfInBounds_toArray, List.set_cons_zero, List.set_cons_succ])
        | (refine wpT_take 11 rfl rfl (by decide +kernel) ⟨fun _ => RX.out, trivial⟩ ?_; apply Exists.intro; refine ⟨?_, ?_⟩; intro w hw; (have qa := hw.1 (Nat.le_refl _); have qb := hw.2); (first | (first | exact run_load_mid _ _ rfl g _ rfl _ _ qa Tryd.underlying28 rfl size_V | (go_simp; rw [if_pos ⟨i1, i2⟩]; done)) | (go_simp <;> rfl)); simp only [Act.put, List.setIfInBounds_toArray, List.set_cons_zero, List.set_cons_succ])
        | (refine wpT_skip rfl rfl ?_; simp only [Act.put, List.setIfInBounds_toArray, List.set_cons_zero, List.set_cons_succ])
      refine wpT_op rfl ?_
      go_wp2_with ((go_at_call 15; refine (HV1.out _).mono ?_; rintro e w8 ⟨rfl, f⟩; replace FD := hid (FD.out.trans f (fun _ h _ => h)); replace RX := hid (fun i u hu => cell_fr (RX.out i u hu) f (fun h => h) : w8.rangeAt g (o + j * 3) (V.cells x)); clear f))
      (refine ⟨?_, ?_⟩; focus (intro kz hk hk2 hh; first | (exfalso; simp at hk2; omega) | exact hh | exact (fun h => absurd h (by omega)) | obtain ⟨qa, qb⟩ := hh; first | exact ⟨qa, qb⟩ | (refine ⟨fun h => absurd h (by omega), ?_⟩; first | exact qb | (exact RX.out)) | (refine ⟨fun h => ?_, ?_⟩; (have qa := qa h); all_goals (first | exact qa | exact qb | (exact RX.out)))))
      refine wpT_op rfl ?_
      go_wp2_with ((go_at_call 16; refine (HV2.out _).mono ?_; rintro e w9 ⟨rfl, f⟩; replace FD := hid (FD.out.trans f (fun _ h _ => h)); replace RX := hid (fun i u hu => cell_fr (RX.out i u hu) f (fun h => h) : w9.rangeAt g (o + j * 3) (V.cells x)); clear f))
      (refine ⟨?_, ?_⟩; focus (intro kz hk hk2 hh; first | (exfalso; simp at hk2; omega) | exact hh | exact (fun h => absurd h (by omega)) | obtain ⟨qa, qb⟩ := hh; first | exact ⟨qa, qb⟩ | (refine ⟨fun h => absurd h (by omega), ?_⟩; first | exact qb | (exact RX.out)) | (refine ⟨fun h => ?_, ?_⟩; (have qa := qa h); all_goals (first | exact qa | exact qb | (exact RX.out)))))
      repeat
        first
        | (refine wpT_pure rfl rfl rfl ?_; apply Exists.intro; refine ⟨?_, ?_⟩; intro w; ((go_simp <;> rfl)); simp only [Act.put, List.setIfInBounds_toArray, List.set_cons_zero, List.set_cons_succ])
        | (refine wpT_take 11 rfl rfl (by decide +kernel) ⟨fun _ => RX.out, trivial⟩ ?_; apply Exists.intro; refine ⟨?_, ?_⟩; intro w hw; (have qa := hw.1 (Nat.le_refl _); have qb := hw.2); ((go_simp <;> rfl)); simp only [Act.put, List.setIfInBounds_toArray, List.set_cons_zero, List.set_cons_succ])
        | (refine wpT_skip rfl rfl ?_; simp only [Act.put, List.setIfInBounds_toArray, List.set_cons_zero, List.set_cons_succ])
      refine wpT_nil ?_
      go_wp2_with (fail)
      clear FR hxx HV1 HV2
      obtain ⟨wo, rfl⟩ : ∃ wo : World, wo = w9 := ⟨_, rfl⟩
      have FY := hid (Fr.refl (fun _ => False) wo)
      go_loopw [7] (fun i wr => ∃ k : Nat, k ≤ rb.length ∧ i = .int .i64 k ∧ Fr (fun _ => False) wo wr) (fun i _ => rb.length - (intOf i).toNat)
      case atStart => exact ⟨0, by omega, rfl, FY.out⟩
      case round =>
        obtain ⟨k, hk, rfl, fr⟩ := hrel
        have FR := hid fr
        clear fr FY
        by_cases hkb : k < rb.length
        · obtain ⟨g', o', rfl, hg', r0, r1, r2⟩ := sl_three (f := V.cells) vcells_len (R2.out.fr (FD.out.trans FR.out (fun _ h _ => h)) (fun _ _ h => h)) hkb
          have i3 : (0 : Int) ≤ (k : Int) := by omega
          have i4 : (k : Int) < rb.length := by omega
          simp only [V.cells, List.getElem?_cons_zero, List.getElem?_cons_succ] at r0 r1 r2
          have HYS := hid (HSTB.out _ (List.getElem_mem hkb))
          generalize rb[k] = y at *
          have FE := hid (FR.out.trans ((Fr.refl (fun _ => False) wr).drew) (fun _ h _ => h))
          have RY := hid (fun i u hu => cell_fr (range3 r0 r1 r2 i u hu) ((Fr.refl (fun _ => False) wr).drew) (fun h => h) : wr.drew.rangeAt g' (o' + k * 3) (V.cells y))
          have RZ := hid (fun i u hu => cell_fr (RX.out i u hu) FE.out (fun h => h) : wr.drew.rangeAt g (o + j * 3) (V.cells x))
          have HC1 := hid (fun w' (f : Fr (fun _ => False) wo w') => VCompare_go x y ((HG.out.fre (F3.out.trans (FD.out.trans f (fun _ h _ => h)) (fun _ h _ => h))).kn))
          have HC2 := hid (fun w => r2Compare_go x y (Nat.le_trans HXS.out (by decide)) (Nat.le_trans HYS.out (by decide)) w)
          have HC3 := hid (fun w' (f : Fr (fun _ => False) wo w') => VCompare_go y x ((HG.out.fre (F3.out.trans (FD.out.trans f (fun _ h _ => h)) (fun _ h _ => h))).kn))
          have HC4 := hid (fun w => r2Compare_go y x (Nat.le_trans HYS.out (by decide)) (Nat.le_trans HXS.out (by decide)) w)
          clear r0 r1 r2
          generalize V.cmp x y = cxy at *
          generalize V.cmp y x = cyx at *
          have h1 : (cxy != cxy) = false := bne_self_eq_false _
          have h2 : (cyx != cyx) = false := bne_self_eq_false _
          go_upto_region 12 with fail
          refine wp_region_scr (.take 0 (.take 1 (.take 2 (.take 3 (.take 4 (.take 5 (.take 6 (.take 7 (.take 9 (.take 10 (.take 11 (.take 12 (.take 13 (.take 14 (.take 15 (.take 16 (.op 8 (.op 17 (.take 18 (.take 19 (.take 20 (.take 21 (.take 22 (.take 23 (.take 24 (.take 25 (.take 26 (.take 27 (.take 29 (.take 30 (.take 31 (.take 32 (.take 33 (.take 34 (.take 35 (.take 36 (.op 28 (.op 37 (.take 38 (.take 39 .done)))))))))))))))))))))))))))))))))))))))) (fun kz w => (kz ≤ 40 → w.rangeAt g (o + j * 3) (V.cells x) ∧ w.rangeAt g' (o' + k * 3) (V.cells y)) ∧ True) (by kernel_rfl) (by kernel_rfl) (by intro c a d v w h; cases d <;> exact h) ?_
          repeat
            first
            | (refine wpT_pure rfl rfl rfl ?_; apply Exists.intro; refine ⟨?_, ?_⟩; intro w; (first | (first | exact run_load_mid _ _ rfl g _ rfl _ _ qa.1 Tryd.underlying28 rfl size_V | exact run_load_mid _ _ rfl g' _ rfl _ _ qa.2 Tryd.underlying28 rfl size_V | (go_simp; rw [if_pos ⟨i1, i2⟩]; done) | (go_simp; rw [if_pos ⟨i3, i4⟩]; done)) | (go_simp <;> rfl)); simp only [Act.put, List.setIfInBounds_toArray, List.set_cons_zero, List.set_cons_succ])
            | (refine wpT_take 40 rfl rfl (by decide +kernel) ⟨fun _ => ⟨RZ.out, RY.out⟩, trivial⟩ ?_; apply Exists.intro; refine ⟨?_, ?_⟩; intro w hw; (have qa := hw.1 (Nat.le_refl _); have qb := hw.2); (first | (first | exact run_load_mid _ _ rfl g _ rfl _ _ qa.1 Tryd.underlying28 rfl size_V | exact run_load_mid _ _ rfl g' _ rfl _ _ qa.2 Tryd.underlying28 rfl size_V | (go_simp; rw [if_pos ⟨i1, i2⟩]; done) | (go_simp; rw [if_pos ⟨i3, i4⟩]; done)) | (go_simp <;> rfl)); simp only [Act.put, List.setIfInBounds_toArray, List.set_cons_zero, List.set_cons_succ])
            | (refine wpT_skip rfl rfl ?_; simp only [Act.put, List.setIfInBounds_toArray, List.set_cons_zero, List.set_cons_succ])
          refine wpT_op rfl ?_
          go_wp2_with ((go_at_call 17; refine (HC1.out _ FE.out).mono ?_; rintro e w_ ⟨rfl, f⟩; replace FE := hid (FE.out.trans f (fun _ h _ => h)); replace RZ := hid (fun i u hu => cell_fr (RZ.out i u hu) f (fun h => h) : w_.rangeAt g (o + j * 3) (V.cells x)); replace RY := hid (fun i u hu => cell_fr (RY.out i u hu) f (fun h => h) : w_.rangeAt g' (o' + k * 3) (V.cells y)); clear f))
          (refine ⟨?_, ?_⟩; focus (intro kz hk hk2 hh; first | (exfalso; simp at hk2; omega) | exact hh | exact (fun h => absurd h (by omega)) | obtain ⟨qa, qb⟩ := hh; first | exact ⟨qa, qb⟩ | (refine ⟨fun h => absurd h (by omega), ?_⟩; first | exact qb | (exact ⟨RZ.out, RY.out⟩)) | (refine ⟨fun h => ?_, ?_⟩; (have qa := qa h); all_goals (first | exact qa | exact qb | (exact ⟨RZ.out, RY.out⟩)))))
          refine wpT_op rfl ?_
          go_wp2_with ((go_at_call 18; refine (HC2.out _).mono ?_; rintro e w_ ⟨rfl, f⟩; replace FE := hid (FE.out.trans f (fun _ h _ => h)); replace RZ := hid (fun i u hu => cell_fr (RZ.out i u hu) f (fun h => h) : w_.rangeAt g (o + j * 3) (V.cells x)); replace RY := hid (fun i u hu => cell_fr (RY.out i u hu) f (fun h => h) : w_.rangeAt g' (o' + k * 3) (V.cells y)); clear f))
          (refine ⟨?_, ?_⟩; focus (intro kz hk hk2 hh; first | (exfalso; simp at hk2; omega) | exact hh | exact (fun h => absurd h (by omega)) | obtain ⟨qa, qb⟩ := hh; first | exact ⟨qa, qb⟩ | (refine ⟨fun h => absurd h (by omega), ?_⟩; first | exact qb | (exact ⟨RZ.out, RY.out⟩)) | (refine ⟨fun h => ?_, ?_⟩; (have qa := qa h); all_goals (first | exact qa | exact qb | (exact ⟨RZ.out, RY.out⟩)))))
          repeat
            first
            | (refine wpT_pure rfl rfl rfl ?_; apply Exists.intro; refine ⟨?_, ?_⟩; intro w; (first | (first | exact run_load_mid _ _ rfl g _ rfl _ _ qa.1 Tryd.underlying28 rfl size_V | exact run_load_mid _ _ rfl g' _ rfl _ _ qa.2 Tryd.underlying28 rfl size_V | (go_simp; rw [if_pos ⟨i1, i2⟩]; done) | (go_simp; rw [if_pos ⟨i3, i4⟩]; done)) | (go_simp <;> rfl)); simp only [Act.put, List.setIfInBounds_toArray, List.set_cons_zero, List.set_cons_succ])
            | (refine wpT_take 40 rfl rfl (by decide +kernel) ⟨fun _ => ⟨RZ.out, RY.out⟩, trivial⟩ ?_; apply Exists.intro; refine ⟨?_, ?_⟩; intro w hw; (have qa := hw.1 (Nat.le_refl _); have qb := hw.2); (first | (first | exact run_load_mid _ _ rfl g _ rfl _ _ qa.1 Tryd.underlying28 rfl size_V | exact run_load_mid _ _ rfl g' _ rfl _ _ qa.2 Tryd.underlying28 rfl size_V | (go_simp; rw [if_pos ⟨i1, i2⟩]; done) | (go_simp; rw [if_pos ⟨i3, i4⟩]; done)) | (go_simp <;> rfl)); simp only [Act.put, List.setIfInBounds_toArray, List.set_cons_zero, List.set_cons_succ])
            | (refine wpT_skip rfl rfl ?_; simp only [Act.put, List.setIfInBounds_toArray, List.set_cons_zero, List.set_cons_succ])
          refine wpT_op rfl ?_
          go_wp2_with ((go_at_call 17; refine (HC3.out _ FE.out).mono ?_; rintro e w_ ⟨rfl, f⟩; replace FE := hid (FE.out.trans f (fun _ h _ => h)); replace RZ := hid (fun i u hu => cell_fr (RZ.out i u hu) f (fun h => h) : w_.rangeAt g (o + j * 3) (V.cells x)); replace RY := hid (fun i u hu => cell_fr (RY.out i u hu) f (fun h => h) : w_.rangeAt g' (o' + k * 3) (V.cells y)); clear f))
          (refine ⟨?_, ?_⟩; focus (intro kz hk hk2 hh; first | (exfalso; simp at hk2; omega) | exact hh | exact (fun h => absurd h (by omega)) | obtain ⟨qa, qb⟩ := hh; first | exact ⟨qa, qb⟩ | (refine ⟨fun h => absurd h (by omega), ?_⟩; first | exact qb | (exact ⟨RZ.out, RY.out⟩)) | (refine ⟨fun h => ?_, ?_⟩; (have qa := qa h); all_goals (first | exact qa | exact qb | (exact ⟨RZ.out, RY.out⟩)))))
          refine wpT_op rfl ?_
          go_wp2_with ((go_at_call 18; refine (HC4.out _).mono ?_; rintro e w_ ⟨rfl, f⟩; replace FE := hid (FE.out.trans f (fun _ h _ => h)); replace RZ := hid (fun i u hu => cell_fr (RZ.out i u hu) f (fun h => h) : w_.rangeAt g (o + j * 3) (V.cells x)); replace RY := hid (fun i u hu => cell_fr (RY.out i u hu) f (fun h => h) : w_.rangeAt g' (o' + k * 3) (V.cells y)); clear f))
          (refine ⟨?_, ?_⟩; focus (intro kz hk hk2 hh; first | (exfalso; simp at hk2; omega) | exact hh | exact (fun h => absurd h (by omega)) | obtain ⟨qa, qb⟩ := hh; first | exact ⟨qa, qb⟩ | (refine ⟨fun h => absurd h (by omega), ?_⟩; first | exact qb | (exact ⟨RZ.out, RY.out⟩)) | (refine ⟨fun h => ?_, ?_⟩; (have qa := qa h); all_goals (first | exact qa | exact qb | (exact ⟨RZ.out, RY.out⟩)))))
          repeat
            first
            | (refine wpT_pure rfl rfl rfl ?_; apply Exists.intro; refine ⟨?_, ?_⟩; intro w; (first | (first | exact run_load_mid _ _ rfl g _ rfl _ _ qa.1 Tryd.underlying28 rfl size_V | exact run_load_mid _ _ rfl g' _ rfl _ _ qa.2 Tryd.underlying28 rfl size_V | (go_simp; rw [if_pos ⟨i1, i2⟩]; done) | (go_simp; rw [if_pos ⟨i3, i4⟩]; done)) | (go_simp <;> rfl)); simp only [Act.put, List.setIfInBounds_toArray, List.set_cons_zero, List.set_cons_succ])
            | (refine wpT_take 40 rfl rfl (by decide +kernel) ⟨fun _ => ⟨RZ.out, RY.out⟩, trivial⟩ ?_; apply Exists.intro; refine ⟨?_, ?_⟩; intro w hw; (have qa := hw.1 (Nat.le_refl _); have qb := hw.2); (first | (first | exact run_load_mid _ _ rfl g _ rfl _ _ qa.1 Tryd.underlying28 rfl size_V | exact run_load_mid _ _ rfl g' _ rfl _ _ qa.2 Tryd.underlying28 rfl size_V | (go_simp; rw [if_pos ⟨i1, i2⟩]; done) | (go_simp; rw [if_pos ⟨i3, i4⟩]; done)) | (go_simp <;> rfl)); simp only [Act.put, List.setIfInBounds_toArray, List.set_cons_zero, List.set_cons_succ])
            | (refine wpT_skip rfl rfl ?_; simp only [Act.put, List.setIfInBounds_toArray, List.set_cons_zero, List.set_cons_succ])
          refine wpT_nil ?_
          go_wp2_with (fail)
          go_roundw
          case rel => exact ⟨k + 1, by omega, by simp, FE.out⟩
          case measure => simp [intOf]; omega
        · have hkn : k = rb.length := by omega
          have i4 : ¬ (k : Int) < rb.length := by omega
          clear hkn
          go_wp2_with (fail)
          go_roundw
          case rel => exact ⟨j + 1, by omega, by simp, FD.out.trans FR.out (fun _ h _ => h)⟩
          case measure => simp [intOf]; omega
    · have i2 : ¬ (j : Int) < ra.length := by omega
      generalize rowsCmp ra rb = x at *
      generalize rowsCmp rb ra = y at *
      have h1 : (x == x) = true := beq_self_eq_true _
      have h2 : (y == y) = true := beq_self_eq_true _
      go_wp2_with (fail)
      refine (HRR.out _ FR.out).mono ?_
      rintro e w5 ⟨rfl, f⟩
      have F5 := hid (FR.out.trans f (fun _ h _ => h))
      clear f FR HRR
      go_wp2_with (fail)
      refine (HRQ.out _ F5.out).mono ?_
      rintro e w6 ⟨rfl, f⟩
      have F6 := hid (F5.out.trans f (fun _ h _ => h))
      clear f F5 HRQ
      go_wp2_with (fail)
      refine (HSS.out _ F6.out).mono ?_
      rintro e w7 ⟨rfl, f⟩
      have F7 := hid (F6.out.trans f (fun _ h _ => h))
      clear f F6 HSS
      go_wp2_with (fail)
      refine (HSQ.out _ F7.out).mono ?_
      rintro e w8 ⟨rfl, f⟩
      have F8 := hid (F3.out.trans (F7.out.trans f (fun _ h _ => h)) (fun _ h _ => h))
      clear f F7 HSQ
      go_wp2_with (fail)
      go_ret
      exact ⟨rfl, F8.out⟩
end Go.Proofs.YtknpncpoojjbfaaDoor
namespace Go.Proofs.YtknpncpoojjbfaaDoor.valueOrder
open Go.ChangeShapes Go.WideShapes Go.ChangeAt Go.RowKit Go.VB Go.VB.Rec
set_option maxHeartbeats 400000 in
set_option maxRecDepth 100000 in
theorem lifted (os : Os) (started : os.Started) (H : Type) (enc : TypeId × Value → H) :
    ReturnsInHanded {} Tryd.checked os 3 .any (fun w args => (Rows.valueOrderSpec.pre enc Tryd.prog Tryd.f3 Rows.valueOrderRow.domain false w args ∧ laidMetH Tryd.prog Rows.valueOrderRow.laid w) ∧ sizedMet enc Tryd.prog Tryd.f3 (OpenSpec.ofChange Rows.valueOrderSpec) false w args) (Rows.valueOrderSpec.post enc Tryd.prog Tryd.f3 false true false false) := by
  refine handed_and_shaped (C := Tryd.checked) (X := fun w _ => laidMetH Tryd.prog Rows.valueOrderRow.laid w) (fun _ _ _ hh h => h.of_heap hh) own started (by kernel_rfl) Tryd.func3
    (ChangeSpec.witness_shaped (enc := enc) (C := Tryd.checked) (os := os) (X := fun w _ => laidMetH Tryd.prog Rows.valueOrderRow.laid w) false (startW os) #[.slice none 0 0, .slice none 0 0] 8 rfl (start_shaped os _) (by kernel_rfl) (by kernel_rfl) (by kernel_rfl) (start_met os _)) ?_
  intro W base args ds gs before hval0 hW hL hsh
  have GV : Hid (Gv W) := hid (gv_of hL hsh)
  clear hL hsh
  have hval : ∀ (j : Nat) t v, Tryd.f3.params[j]? = some t → args[j]? = some v → Value.okWide Tryd.prog W .any base t v := hval0
  have hW' := hW
  obtain ⟨p, q, hA0, hV, rfl, hfz, hnd⟩ := hW
  have hA : DataW.TrodAll enc Tryd.prog W 0 (fun _ => true) true Tryd.f3.params.toList args.toList ds p := hA0
  rw [Tryd.params3] at hA hval
  obtain ⟨v0, vs0, d0, ds0, p0, q0, hargs, rfl, rfl, h0, r0⟩ := trodAll_cons hA
  obtain ⟨v1, vs1, d1, ds1, p1, q1, rfl, rfl, rfl, h1, r1⟩ := trodAll_cons r0
  obtain ⟨rfl, rfl, rfl⟩ := trodAll_nil r1
  obtain rfl : args = #[v0, v1] := by cases args; simp_all
  obtain ⟨rfl, rfl⟩ := trodVars_none hV
  clear hA0 hval0
  refine Calls.mono (R := fun e w' => e = .returned (.bool true) ∧ Fr (fun _ => False) W w') ?_ fun e W' ⟨he, hf⟩ => ⟨_, he, post_law sound (by decide +kernel) rfl rfl (ht := Tryd.underlying4) (by rfl) hW' hf⟩
  obtain ⟨a, sa, -, la⟩ := open_row (hval 0 23 v0 rfl rfl) h0
  obtain ⟨b, sb, -, lb⟩ := open_row (hval 1 23 v1 rfl rfl) h1
  exact Order_walk GV.out sa sb (Nat.le_trans la (by decide)) (Nat.le_trans lb (by decide))
theorem row_holds : Rows.ValueOrderSaid :=
  OpenClaim.holds_of_wide 3 Tryd.f3 rfl rfl rfl rfl rfl rfl rfl ⟨rfl, rfl, rfl, rfl, rfl⟩ rfl rfl rfl rfl rfl (by kernel_rfl) Tryd.func3 (by kernel_rfl)
    (of_decide_eq_true (by kernel_rfl)) (by unfold Func.isWrapper; first | (rw [if_pos (by decide +kernel)]; kernel_rfl) | (rw [if_neg (by decide +kernel)]; exact ⟨rfl, rfl⟩))
    (fun os started H enc _ => lifted os started H enc)
theorem proved : Rows.ValueOrderCardSaid :=
  Claim7.holds_tied_plain_at .later [] Rows.valueOrderCard.laidKinds true Rows.valueOrderCard.stood.harness true row_holds (fun _ h => by cases h) (by kernel_rfl) (fun _ h => by cases h) valueOrder_row_tie rfl ⟨rfl, rfl⟩ (by kernel_rfl) rfl
    (fun f fn hf hfn => by
      obtain rfl : f = 3 := Option.some.inj ((show Tryd.prog.funcNamed "vintner/vintnerlaw02.ValueOrder" = some 3 by kernel_rfl).symm.trans hf) |>.symm
      obtain rfl : fn = Tryd.f3 := (Option.some.inj (Tryd.func3.symm.trans hfn)).symm
      exact ⟨by kernel_rfl, fun j t ht => by
        rw [Tryd.params3] at ht
        have hm : t ∈ [23] := by simpa using Array.mem_of_getElem? ht
        have hall : ([23].all fun u => !Tryd.prog.wantsStandIn u) = true := by kernel_rfl
        exact (show Tryd.prog.wantsStandIn t = false by simpa using List.all_eq_true.1 hall t hm)⟩)
    (by kernel_rfl)
end Go.Proofs.YtknpncpoojjbfaaDoor.valueOrder
