import Derived.Test.YtgkfdlpijefgkaaGreatDoorCtT
import Derived.Test.YtgkfdlpijefgkaaGreatDoorCtN
/- Check. -/
set_option linter.unusedVariables false
namespace Go.VB.Cat
open Go.VB.Oct Go.VB.Rec
def badV (v : V) (c : Col) : Bool := !v.right || (v.k != 0 && v.k != c.kind)
def checkM (cols : List Col) (r : List V) : Int := if r.length ≠ cols.length then 2 else if (r.zip cols).any (fun p => badV p.1 p.2) = true then 52 else 0
theorem check_bad {cols : List Col} {r : List V} (h : r.length = cols.length) {i : Nat} (hi : i < r.length) (hb : badV r[i] (cols[i]'(by omega)) = true) : checkM cols r = 52 := by
  unfold checkM
  rw [if_neg (by simp [h]), if_pos]
  rw [List.any_eq_true]
  exact ⟨(r[i], cols[i]'(by omega)), by
    rw [show (r[i], cols[i]'(by omega)) = (r.zip cols)[i]'(by rw [List.length_zip]; omega) from by rw [List.getElem_zip]]
    exact List.getElem_mem _, hb⟩
theorem check_good {cols : List Col} {r : List V} (h : r.length = cols.length) (hg : ∀ i (hi : i < r.length), badV r[i] (cols[i]'(by omega)) = false) : checkM cols r = 0 := by
  unfold checkM
  rw [if_neg (by simp [h]), if_neg]
  refine any_false' ?_
  intro p hp
  obtain ⟨i, hi, rfl⟩ := List.getElem_of_mem hp
  rw [List.length_zip] at hi
  rw [List.getElem_zip]
  exact hg i (by omega)
where any_false' {α : Type} {p : α → Bool} {l : List α} (h : ∀ x ∈ l, p x = false) : ¬ l.any p = true := any_false h
end Go.VB.Cat
namespace Go.Proofs.YtgkfdlpijefgkaaGreatDoor
open Go.RowKit Go.VB Go.VB.Oct Go.VB.Cat Go.VB.Rec
theorem v_len3 (v : V) : v.cells.length = 3 := rfl
theorem size_V3 : (Tryz.prog.info? 46).map (·.size) = some 3 := by kernel_rfl
set_option maxRecDepth 20000 in
theorem Check_go {R R' : Nat → Prop} {w : World} {cols : List Col} {ac ai : Option Addr} {cc ni ci : Nat} (id : Int) (name : Bs) (hc : Sl R w (.slice ac cols.length cc) cols.length (cols.flatMap Col.cells)) (hcl : cols.length ≤ 1048576) {r : List V} {vr : Value} (hr : Sl R' w vr r.length (r.flatMap V.cells)) (hrl : r.length ≤ 1048576) :
    Calls Tryz.prog 11 #[.agg #[.int .i64 id, .string (bs name), .slice ac cols.length cc, .slice ai ni ci], vr] w fun e w' => e = .returned (.int .i64 (checkM cols r)) ∧ Fr (fun _ => False) w w' := by
  obtain ⟨a, c, rfl, hrc, hrx⟩ := hr
  have HV := hid (show Sl R' w (.slice a r.length c) r.length (r.flatMap V.cells) from ⟨a, c, rfl, hrc, hrx⟩)
  clear hrx
  have HC := hid hc
  have F0 := hid ((Fr.refl (fun _ => False) w).alloc (.cells #[.int .i64 id, .string (bs name), .slice ac cols.length cc, .slice ai ni ci] 34))
  have B0 := hid (Blk.new w [.int .i64 id, .string (bs name), .slice ac cols.length cc, .slice ai ni ci] 34)
  obtain ⟨z, hz⟩ : ∃ z, checkM cols r = z := ⟨_, rfl⟩
  rw [hz]
  have HZ := hid hz
  clear hz hc
  by_cases hne : r.length = cols.length
  · have hne2 : ((r.length : Int) != (cols.length : Int)) = false := by simp [hne]
    have HNE := hid hne
    clear hne
    go_enter Tryz.func11, Tryz.ntmps11
    go_upto_region 1 with fail
    generalize hd : w.heap.size = d at *
    generalize w.alloc _ = W0 at *
    have q2 : W0.cell? ⟨d, 2, none⟩ = some (.slice ac cols.length cc) := B0.out.cell 2
    go_wp2_with (fail)
    go_loopw [15] (fun i wr => ∃ j : Nat, j ≤ r.length ∧ i = .int .i64 j ∧ (∀ k (hk : k < j) (hr : k < r.length) (hc : k < cols.length), badV r[k] cols[k] = false) ∧ Fr (fun _ => False) W0 wr) (fun i _ => r.length - (intOf i).toNat)
    case atStart => exact ⟨0, by omega, rfl, fun k hk => by omega, Fr.refl _ _⟩
    case round =>
      obtain ⟨j, hj, rfl, hall, fr⟩ := hrel
      have HA := hid hall
      have FR := hid fr
      clear hall fr
      by_cases hjl : j < r.length
      · have hjc : j < cols.length := by have := HNE.out; omega
        have HBAD := hid (fun hb => check_bad HNE.out hjl hb)
        have HGOOD := hid (fun (hb : badV r[j] cols[j] = false) => (fun k (hk : k < j + 1) (hr : k < r.length) (hc : k < cols.length) => by
          by_cases e : k = j
          · subst e; exact hb
          · exact HA.out k (by omega) hr hc : ∀ k (hk : k < j + 1) (hr : k < r.length) (hc : k < cols.length), badV r[k] cols[k] = false))
        obtain ⟨g, o, rfl, -, q⟩ := slK (k := 3) (f := V.cells) (by decide) v_len3 (HV.out.fr (F0.out.trans FR.out (fun _ h _ => h)) (fun _ _ h => h)) hjl
        obtain ⟨gc, oc, rfl, -, qc⟩ := slK (k := 2) (f := Col.cells) (by decide) col_len (HC.out.fr (F0.out.trans FR.out (fun _ h _ => h)) (fun _ _ h => h)) hjc
        have q0 := q 0 (by decide)
        have q1 := q 1 (by decide)
        have q3 := q 2 (by decide)
        have qk := qc 1 (by decide)
        have i1 : (0 : Int) ≤ (j : Int) := by omega
        have i2 : (j : Int) < r.length := by omega
        have i3 : (j : Int) < cols.length := by omega
        obtain ⟨v, hv⟩ : ∃ v, v = r[j] := ⟨_, rfl⟩
        obtain ⟨cl, hcl2⟩ : ∃ v, v = cols[j] := ⟨_, rfl⟩
        rw [← hv] at q0 q1 q3 HBAD HGOOD
        rw [← hcl2] at qk HBAD HGOOD
        clear hv hcl2 q qc
        obtain ⟨k, n, s⟩ := v
        obtain ⟨cn, kd⟩ := cl
        simp only [V.cells, Col.cells, Nat.add_zero, List.getElem?_cons_zero, List.getElem?_cons_succ] at q0 q1 q3 qk
        have HQK := hid qk
        clear qk
        go_upto_region 6 with fail
        have fa := (Fr.refl (fun _ => False) wr).alloc (.cells #[.int .i64 k, .int .i64 n, .string (bs s)] 46)
        have HB6 := hid ((Blk.new wr [.int .i64 k, .int .i64 n, .string (bs s)] 46).drew)
        replace HQK := hid (cell_fr HQK.out fa.drew (fun h => h))
        have HB0 := hid (Blk.fr B0.out (FR.out.trans fa.drew (fun _ h _ => h)) (fun h => h))
        replace FR := hid (FR.out.trans fa.drew (fun _ h _ => h))
        clear fa q0 q1 q3
        generalize wr.heap.size = d6 at *
        generalize wr.alloc _ = W6 at *
        have HRT := hid (VRight_go ⟨k, n, s⟩)
        have HBV := hid (show badV ⟨k, n, s⟩ ⟨cn, kd⟩ = (!V.right ⟨k, n, s⟩ || ((k != 0) && (k != kd))) from rfl)
        obtain ⟨rt, hrt⟩ : ∃ b, V.right ⟨k, n, s⟩ = b := ⟨_, rfl⟩
        rw [hrt] at HRT HBV
        clear hrt
        unfold vagg V.cells at HRT
        dsimp only at HRT
        cases rt with
        | false =>
          have HX := hid (HBAD.out (by rw [HBV.out]; rfl))
          clear HBAD HGOOD HBV
          refine wp_region_scr (.take 0 (.op 1 (.take 2 (.take 3 (.take 4 (.take 5 (.take 6 (.take 7 (.take 8 (.take 9 (.take 10 (.take 11 (.take 12 (.take 13 (.take 14 (.take 15 (.take 16 (.take 17 (.take 18 .done))))))))))))))))))) (fun kz w => (kz ≤ 19 → w.rangeAt d6 0 [.int .i64 k, .int .i64 n, .string (bs s)]) ∧ (w.cell? ⟨d6, 0, none⟩ = some (.int .i64 k) ∧ w.cell? ⟨d, 2, none⟩ = some (.slice (some ⟨gc, oc, none⟩) cols.length cc) ∧ w.cell? ⟨gc, oc + j * 2 + 1, none⟩ = some (.int .i64 kd))) (by kernel_rfl) (by kernel_rfl) (by intro c a d v w h; cases d <;> exact h) ?_
          repeat
            first
            | (refine wpT_pure rfl rfl rfl ?_; apply Exists.intro; refine ⟨?_, ?_⟩; intro w; (first | (first | exact run_load_mid _ _ rfl d6 _ rfl _ _ qa Tryz.underlying46 rfl size_V3 | (obtain ⟨qb1, qb2, qb3⟩ := qb; go_simp <;> rfl)) | (go_simp <;> rfl)); simp only [Act.put, List.setIfInBounds_toArray, List.set_cons_zero, List.set_cons_succ])
            | (refine wpT_take 19 rfl rfl (by decide +kernel) ⟨fun _ => HB6.out.all, HB6.out.cell 0, HB0.out.cell 2, HQK.out⟩ ?_; apply Exists.intro; refine ⟨?_, ?_⟩; intro w hw; (have qa := hw.1 (Nat.le_refl _); have qb := hw.2); (first | (first | exact run_load_mid _ _ rfl d6 _ rfl _ _ qa Tryz.underlying46 rfl size_V3 | (obtain ⟨qb1, qb2, qb3⟩ := qb; go_simp <;> rfl)) | (go_simp <;> rfl)); simp only [Act.put, List.setIfInBounds_toArray, List.set_cons_zero, List.set_cons_succ])
            | (refine wpT_skip rfl rfl ?_; simp only [Act.put, List.setIfInBounds_toArray, List.set_cons_zero, List.set_cons_succ])
          generalize W6.drew = W7 at *
          refine wpT_op rfl ?_
          go_wp2_with ((go_at_call 39; refine (HRT.out _).mono ?_; rintro e w9 ⟨rfl, f⟩; have HB7 := hid (Blk.fr HB6.out f (fun h => h)); have HB01 := hid (Blk.fr HB0.out f (fun h => h)); have HQK7 := hid (cell_fr HQK.out f (fun h => h)); have FR7 := hid (FR.out.trans f (fun _ h _ => h)); clear f))
          (refine ⟨?_, ?_⟩; focus (intro kz hk hk2 hh; first | (exfalso; simp at hk2; omega) | exact hh | exact (fun h => absurd h (by omega)) | obtain ⟨qa, qb⟩ := hh; first | exact ⟨qa, qb⟩ | (refine ⟨fun h => absurd h (by omega), ?_⟩; first | exact qb | (first | exact HB7.out.all | exact ⟨HB7.out.cell 0, HB01.out.cell 2, HQK7.out⟩)) | (refine ⟨fun h => ?_, ?_⟩; (have qa := qa h); all_goals (first | exact qa | exact qb | (first | exact HB7.out.all | exact ⟨HB7.out.cell 0, HB01.out.cell 2, HQK7.out⟩)))))
          clear HB6 HB0 HQK FR HRT
          repeat
            first
            | (refine wpT_pure rfl rfl rfl ?_; apply Exists.intro; refine ⟨?_, ?_⟩; intro w; (first | (first | (obtain ⟨qb1, qb2, qb3⟩ := qb; go_simp <;> rfl)) | (go_simp <;> rfl)); simp only [Act.put, List.setIfInBounds_toArray, List.set_cons_zero, List.set_cons_succ])
            | (refine wpT_take 19 rfl rfl (by decide +kernel) ⟨fun _ => HB7.out.all, HB7.out.cell 0, HB01.out.cell 2, HQK7.out⟩ ?_; apply Exists.intro; refine ⟨?_, ?_⟩; intro w hw; (have qa := hw.1 (Nat.le_refl _); have qb := hw.2); (first | (first | (obtain ⟨qb1, qb2, qb3⟩ := qb; go_simp <;> rfl)) | (go_simp <;> rfl)); simp only [Act.put, List.setIfInBounds_toArray, List.set_cons_zero, List.set_cons_succ])
            | (refine wpT_skip rfl rfl ?_; simp only [Act.put, List.setIfInBounds_toArray, List.set_cons_zero, List.set_cons_succ])
          refine wpT_nil ?_
          go_wp2_with (fail)
          go_ret
          exact ⟨by rw [← HZ.out, HX.out]; rfl, F0.out.trans FR7.out (fun _ h _ => h)⟩
        | true =>
          obtain ⟨e1, he1⟩ : ∃ b, (k != 0) = b := ⟨_, rfl⟩
          rw [he1] at HBV
          cases e1 with
          | false =>
            have HX := hid (HGOOD.out (by rw [HBV.out]; rfl))
            clear HBAD HGOOD HBV
            refine wp_region_scr (.take 0 (.op 1 (.take 2 (.take 3 (.take 4 (.take 5 (.take 6 (.take 7 (.take 8 (.take 9 (.take 10 (.take 11 (.take 12 (.take 13 (.take 14 (.take 15 (.take 16 (.take 17 (.take 18 .done))))))))))))))))))) (fun kz w => (kz ≤ 19 → w.rangeAt d6 0 [.int .i64 k, .int .i64 n, .string (bs s)]) ∧ (w.cell? ⟨d6, 0, none⟩ = some (.int .i64 k) ∧ w.cell? ⟨d, 2, none⟩ = some (.slice (some ⟨gc, oc, none⟩) cols.length cc) ∧ w.cell? ⟨gc, oc + j * 2 + 1, none⟩ = some (.int .i64 kd))) (by kernel_rfl) (by kernel_rfl) (by intro c a d v w h; cases d <;> exact h) ?_
            repeat
              first
              | (refine wpT_pure rfl rfl rfl ?_; apply Exists.intro; refine ⟨?_, ?_⟩; intro w; (first | (first | exact run_load_mid _ _ rfl d6 _ rfl _ _ qa Tryz.underlying46 rfl size_V3 | (obtain ⟨qb1, qb2, qb3⟩ := qb; go_simp <;> rfl)) | (go_simp <;> rfl)); simp only [Act.put, List.setIfInBounds_toArray, List.set_cons_zero, List.set_cons_succ])
              | (refine wpT_take 19 rfl rfl (by decide +kernel) ⟨fun _ => HB6.out.all, HB6.out.cell 0, HB0.out.cell 2, HQK.out⟩ ?_; apply Exists.intro; refine ⟨?_, ?_⟩; intro w hw; (have qa := hw.1 (Nat.le_refl _); have qb := hw.2); (first | (first | exact run_load_mid _ _ rfl d6 _ rfl _ _ qa Tryz.underlying46 rfl size_V3 | (obtain ⟨qb1, qb2, qb3⟩ := qb; go_simp <;> rfl)) | (go_simp <;> rfl)); simp only [Act.put, List.setIfInBounds_toArray, List.set_cons_zero, List.set_cons_succ])
              | (refine wpT_skip rfl rfl ?_; simp only [Act.put, List.setIfInBounds_toArray, List.set_cons_zero, List.set_cons_succ])
            generalize W6.drew = W7 at *
            refine wpT_op rfl ?_
            go_wp2_with ((go_at_call 39; refine (HRT.out _).mono ?_; rintro e w9 ⟨rfl, f⟩; have HB7 := hid (Blk.fr HB6.out f (fun h => h)); have HB01 := hid (Blk.fr HB0.out f (fun h => h)); have HQK7 := hid (cell_fr HQK.out f (fun h => h)); have FR7 := hid (FR.out.trans f (fun _ h _ => h)); clear f))
            (refine ⟨?_, ?_⟩; focus (intro kz hk hk2 hh; first | (exfalso; simp at hk2; omega) | exact hh | exact (fun h => absurd h (by omega)) | obtain ⟨qa, qb⟩ := hh; first | exact ⟨qa, qb⟩ | (refine ⟨fun h => absurd h (by omega), ?_⟩; first | exact qb | (first | exact HB7.out.all | exact ⟨HB7.out.cell 0, HB01.out.cell 2, HQK7.out⟩)) | (refine ⟨fun h => ?_, ?_⟩; (have qa := qa h); all_goals (first | exact qa | exact qb | (first | exact HB7.out.all | exact ⟨HB7.out.cell 0, HB01.out.cell 2, HQK7.out⟩)))))
            clear HB6 HB0 HQK FR HRT
            repeat
              first
              | (refine wpT_pure rfl rfl rfl ?_; apply Exists.intro; refine ⟨?_, ?_⟩; intro w; (first | (first | (obtain ⟨qb1, qb2, qb3⟩ := qb; go_simp <;> rfl)) | (go_simp <;> rfl)); simp only [Act.put, List.setIfInBounds_toArray, List.set_cons_zero, List.set_cons_succ])
              | (refine wpT_take 19 rfl rfl (by decide +kernel) ⟨fun _ => HB7.out.all, HB7.out.cell 0, HB01.out.cell 2, HQK7.out⟩ ?_; apply Exists.intro; refine ⟨?_, ?_⟩; intro w hw; (have qa := hw.1 (Nat.le_refl _); have qb := hw.2); (first | (first | (obtain ⟨qb1, qb2, qb3⟩ := qb; go_simp <;> rfl)) | (go_simp <;> rfl)); simp only [Act.put, List.setIfInBounds_toArray, List.set_cons_zero, List.set_cons_succ])
              | (refine wpT_skip rfl rfl ?_; simp only [Act.put, List.setIfInBounds_toArray, List.set_cons_zero, List.set_cons_succ])
            refine wpT_nil ?_
            go_wp2_with (fail)
            go_roundw
            case rel => exact ⟨j + 1, by omega, by go_num, HX.out, FR7.out⟩
            case measure => simp [intOf]; omega
          | true =>
            obtain ⟨e2, he2⟩ : ∃ b, (k != kd) = b := ⟨_, rfl⟩
            rw [he2] at HBV
            cases e2 with
            | false =>
              have HX := hid (HGOOD.out (by rw [HBV.out]; rfl))
              clear HBAD HGOOD HBV
              refine wp_region_scr (.take 0 (.op 1 (.take 2 (.take 3 (.take 4 (.take 5 (.take 6 (.take 7 (.take 8 (.take 9 (.take 10 (.take 11 (.take 12 (.take 13 (.take 14 (.take 15 (.take 16 (.take 17 (.take 18 .done))))))))))))))))))) (fun kz w => (kz ≤ 19 → w.rangeAt d6 0 [.int .i64 k, .int .i64 n, .string (bs s)]) ∧ (w.cell? ⟨d6, 0, none⟩ = some (.int .i64 k) ∧ w.cell? ⟨d, 2, none⟩ = some (.slice (some ⟨gc, oc, none⟩) cols.length cc) ∧ w.cell? ⟨gc, oc + j * 2 + 1, none⟩ = some (.int .i64 kd))) (by kernel_rfl) (by kernel_rfl) (by intro c a d v w h; cases d <;> exact h) ?_
              repeat
                first
                | (refine wpT_pure rfl rfl rfl ?_; apply Exists.intro; refine ⟨?_, ?_⟩; intro w; (first | (first | exact run_load_mid _ _ rfl d6 _ rfl _ _ qa Tryz.underlying46 rfl size_V3 | (obtain ⟨qb1, qb2, qb3⟩ := qb; go_simp <;> rfl)) | (go_simp <;> rfl)); simp only [Act.put, List.setIfInBounds_toArray, List.set_cons_zero, List.set_cons_succ])
                | (refine wpT_take 19 rfl rfl (by decide +kernel) ⟨fun _ => HB6.out.all, HB6.out.cell 0, HB0.out.cell 2, HQK.out⟩ ?_; apply Exists.intro; refine ⟨?_, ?_⟩; intro w hw; (have qa := hw.1 (Nat.le_refl _); have qb := hw.2); (first | (first | exact run_load_mid _ _ rfl d6 _ rfl _ _ qa Tryz.underlying46 rfl size_V3 | (obtain ⟨qb1, qb2, qb3⟩ := qb; go_simp <;> rfl)) | (go_simp <;> rfl)); simp only [Act.put, List.setIfInBounds_toArray, List.set_cons_zero, List.set_cons_succ])
                | (refine wpT_skip rfl rfl ?_; simp only [Act.put, List.setIfInBounds_toArray, List.set_cons_zero, List.set_cons_succ])
              generalize W6.drew = W7 at *
              refine wpT_op rfl ?_
              go_wp2_with ((go_at_call 39; refine (HRT.out _).mono ?_; rintro e w9 ⟨rfl, f⟩; have HB7 := hid (Blk.fr HB6.out f (fun h => h)); have HB01 := hid (Blk.fr HB0.out f (fun h => h)); have HQK7 := hid (cell_fr HQK.out f (fun h => h)); have FR7 := hid (FR.out.trans f (fun _ h _ => h)); clear f))
              (refine ⟨?_, ?_⟩; focus (intro kz hk hk2 hh; first | (exfalso; simp at hk2; omega) | exact hh | exact (fun h => absurd h (by omega)) | obtain ⟨qa, qb⟩ := hh; first | exact ⟨qa, qb⟩ | (refine ⟨fun h => absurd h (by omega), ?_⟩; first | exact qb | (first | exact HB7.out.all | exact ⟨HB7.out.cell 0, HB01.out.cell 2, HQK7.out⟩)) | (refine ⟨fun h => ?_, ?_⟩; (have qa := qa h); all_goals (first | exact qa | exact qb | (first | exact HB7.out.all | exact ⟨HB7.out.cell 0, HB01.out.cell 2, HQK7.out⟩)))))
              clear HB6 HB0 HQK FR HRT
              repeat
                first
                | (refine wpT_pure rfl rfl rfl ?_; apply Exists.intro; refine ⟨?_, ?_⟩; intro w; (first | (first | (obtain ⟨qb1, qb2, qb3⟩ := qb; go_simp <;> rfl)) | (go_simp <;> rfl)); simp only [Act.put, List.setIfInBounds_toArray, List.set_cons_zero, List.set_cons_succ])
                | (refine wpT_take 19 rfl rfl (by decide +kernel) ⟨fun _ => HB7.out.all, HB7.out.cell 0, HB01.out.cell 2, HQK7.out⟩ ?_; apply Exists.intro; refine ⟨?_, ?_⟩; intro w hw; (have qa := hw.1 (Nat.le_refl _); have qb := hw.2); (first | (first | (obtain ⟨qb1, qb2, qb3⟩ := qb; go_simp <;> rfl)) | (go_simp <;> rfl)); simp only [Act.put, List.setIfInBounds_toArray, List.set_cons_zero, List.set_cons_succ])
                | (refine wpT_skip rfl rfl ?_; simp only [Act.put, List.setIfInBounds_toArray, List.set_cons_zero, List.set_cons_succ])
              refine wpT_nil ?_
              go_wp2_with (fail)
              go_roundw
              case rel => exact ⟨j + 1, by omega, by go_num, HX.out, FR7.out⟩
              case measure => simp [intOf]; omega
            | true =>
              have HX := hid (HBAD.out (by rw [HBV.out]; rfl))
              clear HBAD HGOOD HBV
              refine wp_region_scr (.take 0 (.op 1 (.take 2 (.take 3 (.take 4 (.take 5 (.take 6 (.take 7 (.take 8 (.take 9 (.take 10 (.take 11 (.take 12 (.take 13 (.take 14 (.take 15 (.take 16 (.take 17 (.take 18 .done))))))))))))))))))) (fun kz w => (kz ≤ 19 → w.rangeAt d6 0 [.int .i64 k, .int .i64 n, .string (bs s)]) ∧ (w.cell? ⟨d6, 0, none⟩ = some (.int .i64 k) ∧ w.cell? ⟨d, 2, none⟩ = some (.slice (some ⟨gc, oc, none⟩) cols.length cc) ∧ w.cell? ⟨gc, oc + j * 2 + 1, none⟩ = some (.int .i64 kd))) (by kernel_rfl) (by kernel_rfl) (by intro c a d v w h; cases d <;> exact h) ?_
              repeat
                first
                | (refine wpT_pure rfl rfl rfl ?_; apply Exists.intro; refine ⟨?_, ?_⟩; intro w; (first | (first | exact run_load_mid _ _ rfl d6 _ rfl _ _ qa Tryz.underlying46 rfl size_V3 | (obtain ⟨qb1, qb2, qb3⟩ := qb; go_simp <;> rfl)) | (go_simp <;> rfl)); simp only [Act.put, List.setIfInBounds_toArray, List.set_cons_zero, List.set_cons_succ])
                | (refine wpT_take 19 rfl rfl (by decide +kernel) ⟨fun _ => HB6.out.all, HB6.out.cell 0, HB0.out.cell 2, HQK.out⟩ ?_; apply Exists.intro; refine ⟨?_, ?_⟩; intro w hw; (have qa := hw.1 (Nat.le_refl _); have qb := hw.2); (first | (first | exact run_load_mid _ _ rfl d6 _ rfl _ _ qa Tryz.underlying46 rfl size_V3 | (obtain ⟨qb1, qb2, qb3⟩ := qb; go_simp <;> rfl)) | (go_simp <;> rfl)); simp only [Act.put, List.setIfInBounds_toArray, List.set_cons_zero, List.set_cons_succ])
                | (refine wpT_skip rfl rfl ?_; simp only [Act.put, List.setIfInBounds_toArray, List.set_cons_zero, List.set_cons_succ])
              generalize W6.drew = W7 at *
              refine wpT_op rfl ?_
              go_wp2_with ((go_at_call 39; refine (HRT.out _).mono ?_; rintro e w9 ⟨rfl, f⟩; have HB7 := hid (Blk.fr HB6.out f (fun h => h)); have HB01 := hid (Blk.fr HB0.out f (fun h => h)); have HQK7 := hid (cell_fr HQK.out f (fun h => h)); have FR7 := hid (FR.out.trans f (fun _ h _ => h)); clear f))
              (refine ⟨?_, ?_⟩; focus (intro kz hk hk2 hh; first | (exfalso; simp at hk2; omega) | exact hh | exact (fun h => absurd h (by omega)) | obtain ⟨qa, qb⟩ := hh; first | exact ⟨qa, qb⟩ | (refine ⟨fun h => absurd h (by omega), ?_⟩; first | exact qb | (first | exact HB7.out.all | exact ⟨HB7.out.cell 0, HB01.out.cell 2, HQK7.out⟩)) | (refine ⟨fun h => ?_, ?_⟩; (have qa := qa h); all_goals (first | exact qa | exact qb | (first | exact HB7.out.all | exact ⟨HB7.out.cell 0, HB01.out.cell 2, HQK7.out⟩)))))
              clear HB6 HB0 HQK FR HRT
              repeat
                first
                | (refine wpT_pure rfl rfl rfl ?_; apply Exists.intro; refine ⟨?_, ?_⟩; intro w; (first | (first | (obtain ⟨qb1, qb2, qb3⟩ := qb; go_simp <;> rfl)) | (go_simp <;> rfl)); simp only [Act.put, List.setIfInBounds_toArray, List.set_cons_zero, List.set_cons_succ])
                | (refine wpT_take 19 rfl rfl (by decide +kernel) ⟨fun _ => HB7.out.all, HB7.out.cell 0, HB01.out.cell 2, HQK7.out⟩ ?_; apply Exists.intro; refine ⟨?_, ?_⟩; intro w hw; (have qa := hw.1 (Nat.le_refl _); have qb := hw.2); (first | (first | (obtain ⟨qb1, qb2, qb3⟩ := qb; go_simp <;> rfl)) | (go_simp <;> rfl)); simp only [Act.put, List.setIfInBounds_toArray, List.set_cons_zero, List.set_cons_succ])
                | (refine wpT_skip rfl rfl ?_; simp only [Act.put, List.setIfInBounds_toArray, List.set_cons_zero, List.set_cons_succ])
              refine wpT_nil ?_
              go_wp2_with (fail)
              go_ret
              exact ⟨by rw [← HZ.out, HX.out]; rfl, F0.out.trans FR7.out (fun _ h _ => h)⟩
      · obtain rfl : j = r.length := by omega
        have HX := hid (check_good HNE.out (fun i hi => HA.out i hi hi (by have := HNE.out; omega)))
        have FF := hid (F0.out.trans FR.out (fun _ h _ => h))
        go_wp2_with (fail)
        go_ret
        exact ⟨by rw [← HZ.out, HX.out]; rfl, FF.out⟩
  · have hne2 : ((r.length : Int) != (cols.length : Int)) = true := by simp; omega
    have HX := hid (show checkM cols r = 2 from by unfold checkM; rw [if_pos hne])
    clear hne
    go_enter Tryz.func11, Tryz.ntmps11
    go_upto_region 1 with fail
    generalize hd : w.heap.size = d at *
    generalize w.alloc _ = W0 at *
    have q2 : W0.cell? ⟨d, 2, none⟩ = some (.slice ac cols.length cc) := B0.out.cell 2
    go_wp2_with (fail)
    go_ret
    exact ⟨by rw [← HZ.out, HX.out]; rfl, F0.out⟩
end Go.Proofs.YtgkfdlpijefgkaaGreatDoor
