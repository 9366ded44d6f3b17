import Derived.Test.YtgkfdlpijefgkaaDoorCtRc
/- The reference's Check, Col and Count. -/
set_option linter.unusedVariables false
namespace Go.Proofs.YtgkfdlpijefgkaaDoor
open Go.RowKit Go.VB Go.VB.Oct Go.VB.Cat Go.VB.Rec
set_option maxRecDepth 20000 in
theorem rfCheck_go {R R' : Nat → Prop} {w : World} {cols : List Col} {ac ai : Option Addr} {cc ni ci : Nat} (id : Int) (name : Bs) (hc : Sl R w (.slice ac cols.length cc) cols.length (cols.flatMap Col.cells)) (hcl : cols.length ≤ 1048576) {r : List V} {vr : Value} (hr : Sl R' w vr r.length (r.flatMap V.cells)) (hrl : r.length ≤ 1048576) :
    Calls Tryd.prog 14 #[.agg #[.int .i64 id, .string (bs name), .slice ac cols.length cc, .slice ai ni ci], vr] w fun e w' => e = .returned (.int .i64 (checkM cols r)) ∧ Fr (fun _ => False) w w' := by
  obtain ⟨a, c, rfl, hrc, hrx⟩ := hr
  have HV := hid (show Sl R' w (.slice a r.length c) r.length (r.flatMap V.cells) from ⟨a, c, rfl, hrc, hrx⟩)
  clear hrx
  have HC := hid hc
  have F0 := hid ((Fr.refl (fun _ => False) w).alloc (.cells #[.int .i64 id, .string (bs name), .slice ac cols.length cc, .slice ai ni ci] 25))
  have B0 := hid (Blk.new w [.int .i64 id, .string (bs name), .slice ac cols.length cc, .slice ai ni ci] 25)
  obtain ⟨z, hz⟩ : ∃ z, checkM cols r = z := ⟨_, rfl⟩
  rw [hz]
  have HZ := hid hz
  clear hz hc
  by_cases hne : r.length = cols.length
  · have hne2 : ((r.length : Int) != (cols.length : Int)) = false := by simp [hne]
    have HNE := hid hne
    clear hne
    go_enter Tryd.func14, Tryd.ntmps14
    go_upto_region 1 with fail
    generalize hd : w.heap.size = d at *
    generalize w.alloc _ = W0 at *
    have q2 : W0.cell? ⟨d, 2, none⟩ = some (.slice ac cols.length cc) := B0.out.cell 2
    go_wp2_with (fail)
    go_loopw [5] (fun i wr => ∃ j : Nat, j ≤ r.length ∧ i = .int .i64 j ∧ (∀ k (hk : k < j) (hr : k < r.length) (hc : k < cols.length), badV r[k] cols[k] = false) ∧ Fr (fun _ => False) W0 wr) (fun i _ => r.length - (intOf i).toNat)
    case atStart => exact ⟨0, by omega, rfl, fun k hk => by omega, Fr.refl _ _⟩
    case round =>
      obtain ⟨j, hj, rfl, hall, fr⟩ := hrel
      have HA := hid hall
      have FR := hid fr
      clear hall fr
      by_cases hjl : j < r.length
      · have hjc : j < cols.length := by have := HNE.out; omega
        have HBAD := hid (fun hb => check_bad HNE.out hjl hb)
        have HGOOD := hid (fun (hb : badV r[j] cols[j] = false) => (fun k (hk : k < j + 1) (hr : k < r.length) (hc : k < cols.length) => by
          by_cases e : k = j
          · subst e; exact hb
          · exact HA.out k (by omega) hr hc : ∀ k (hk : k < j + 1) (hr : k < r.length) (hc : k < cols.length), badV r[k] cols[k] = false))
        obtain ⟨g, o, rfl, -, q⟩ := slK (k := 3) (f := V.cells) (by decide) v_len3 (HV.out.fr (F0.out.trans FR.out (fun _ h _ => h)) (fun _ _ h => h)) hjl
        obtain ⟨gc, oc, rfl, -, qc⟩ := slK (k := 2) (f := Col.cells) (by decide) col_len (HC.out.fr (F0.out.trans FR.out (fun _ h _ => h)) (fun _ _ h => h)) hjc
        have q0 := q 0 (by decide)
        have q1 := q 1 (by decide)
        have q3 := q 2 (by decide)
        have qk := qc 1 (by decide)
        have i1 : (0 : Int) ≤ (j : Int) := by omega
        have i2 : (j : Int) < r.length := by omega
        have i3 : (j : Int) < cols.length := by omega
        obtain ⟨v, hv⟩ : ∃ v, v = r[j] := ⟨_, rfl⟩
        obtain ⟨cl, hcl2⟩ : ∃ v, v = cols[j] := ⟨_, rfl⟩
        rw [← hv] at q0 q1 q3 HBAD HGOOD
        rw [← hcl2] at qk HBAD HGOOD
        clear hv hcl2 q qc
        obtain ⟨k, n, s⟩ := v
        obtain ⟨cn, kd⟩ := cl
        simp only [V.cells, Col.cells, Nat.add_zero, List.getElem?_cons_zero, List.getElem?_cons_succ] at q0 q1 q3 qk
        have HQK := hid qk
        clear qk
        have HRT := hid (rfRight_go ⟨k, n, s⟩)
        have HBV := hid (show badV ⟨k, n, s⟩ ⟨cn, kd⟩ = (!V.right ⟨k, n, s⟩ || ((k != 0) && (k != kd))) from rfl)
        obtain ⟨rt, hrt⟩ : ∃ b, V.right ⟨k, n, s⟩ = b := ⟨_, rfl⟩
        rw [hrt] at HRT HBV
        clear hrt
        unfold vagg V.cells at HRT
        dsimp only at HRT
        have HQ0 := hid q0
        go_upto_region 7 with (go_at_call 36; refine (HRT.out _).mono ?_; rintro e w9 ⟨rfl, f⟩; have FX := hid f; clear f)
        have fx := FX.out.trans ((Fr.refl (fun _ => False) w9).drew) (fun _ h _ => h)
        have HK9 := hid (cell_fr HQ0.out fx (fun h => h))
        have HD9 := hid (Blk.fr B0.out (FR.out.trans fx (fun _ h _ => h)) (fun h => h))
        have HC9 := hid (cell_fr HQK.out fx (fun h => h))
        have FR9 := hid (FR.out.trans fx (fun _ h _ => h))
        clear fx q0 q1 q3 HQ0 HQK FX
        cases rt with
        | false =>
          have HX := hid (HBAD.out (by rw [HBV.out]; rfl))
          clear HBAD HGOOD HBV
          refine wp_region_scr (.take 0 (.take 1 (.take 2 (.take 3 (.take 4 (.take 5 (.take 6 (.take 7 (.take 8 (.take 9 (.take 10 (.take 11 (.take 12 (.take 13 (.take 14 (.take 15 (.take 16 (.take 17 (.take 18 (.take 19 (.take 20 (.take 21 (.take 22 (.take 23 .done)))))))))))))))))))))))) (fun kz w => (kz ≤ 24 → w.cell? ⟨g, o + j * 3, none⟩ = some (.int .i64 k) ∧ w.cell? ⟨d, 2, none⟩ = some (.slice (some ⟨gc, oc, none⟩) cols.length cc) ∧ w.cell? ⟨gc, oc + j * 2 + 1, none⟩ = some (.int .i64 kd)) ∧ Hid True) (by kernel_rfl) (by kernel_rfl) (by intro c a d v w h; cases d <;> exact h) ?_
          repeat
            first
            | (refine wpT_pure rfl rfl rfl ?_; apply Exists.intro; refine ⟨?_, ?_⟩; intro w; (first | ((obtain ⟨qa1, qa2, qa3⟩ := qa; go_simp <;> rfl)) | (go_simp <;> rfl)); simp only [Act.put, List.setIfInBounds_toArray, List.set_cons_zero, List.set_cons_succ])
            | (refine wpT_take 24 rfl rfl (by decide +kernel) ⟨fun _ => ⟨HK9.out, HD9.out.cell 2, HC9.out⟩, hid trivial⟩ ?_; apply Exists.intro; refine ⟨?_, ?_⟩; intro w hw; (have qa := hw.1 (Nat.le_refl _); have qb := hw.2); (first | ((obtain ⟨qa1, qa2, qa3⟩ := qa; go_simp <;> rfl)) | (go_simp <;> rfl)); simp only [Act.put, List.setIfInBounds_toArray, List.set_cons_zero, List.set_cons_succ])
            | (refine wpT_skip rfl rfl ?_; simp only [Act.put, List.setIfInBounds_toArray, List.set_cons_zero, List.set_cons_succ])
          refine wpT_nil ?_
          generalize w9.drew = wn at *
          go_wp2_with (fail)
          go_ret
          exact ⟨by rw [← HZ.out, HX.out]; rfl, F0.out.trans FR9.out (fun _ h _ => h)⟩
        | true =>
          obtain ⟨e1, he1⟩ : ∃ b, (k != 0) = b := ⟨_, rfl⟩
          rw [he1] at HBV
          cases e1 with
          | false =>
            have HX := hid (HGOOD.out (by rw [HBV.out]; rfl))
            clear HBAD HGOOD HBV
            refine wp_region_scr (.take 0 (.take 1 (.take 2 (.take 3 (.take 4 (.take 5 (.take 6 (.take 7 (.take 8 (.take 9 (.take 10 (.take 11 (.take 12 (.take 13 (.take 14 (.take 15 (.take 16 (.take 17 (.take 18 (.take 19 (.take 20 (.take 21 (.take 22 (.take 23 .done)))))))))))))))))))))))) (fun kz w => (kz ≤ 24 → w.cell? ⟨g, o + j * 3, none⟩ = some (.int .i64 k) ∧ w.cell? ⟨d, 2, none⟩ = some (.slice (some ⟨gc, oc, none⟩) cols.length cc) ∧ w.cell? ⟨gc, oc + j * 2 + 1, none⟩ = some (.int .i64 kd)) ∧ Hid True) (by kernel_rfl) (by kernel_rfl) (by intro c a d v w h; cases d <;> exact h) ?_
            repeat
              first
              | (refine wpT_pure rfl rfl rfl ?_; apply Exists.intro; refine ⟨?_, ?_⟩; intro w; (first | ((obtain ⟨qa1, qa2, qa3⟩ := qa; go_simp <;> rfl)) | (go_simp <;> rfl)); simp only [Act.put, List.setIfInBounds_toArray, List.set_cons_zero, List.set_cons_succ])
              | (refine wpT_take 24 rfl rfl (by decide +kernel) ⟨fun _ => ⟨HK9.out, HD9.out.cell 2, HC9.out⟩, hid trivial⟩ ?_; apply Exists.intro; refine ⟨?_, ?_⟩; intro w hw; (have qa := hw.1 (Nat.le_refl _); have qb := hw.2); (first | ((obtain ⟨qa1, qa2, qa3⟩ := qa; go_simp <;> rfl)) | (go_simp <;> rfl)); simp only [Act.put, List.setIfInBounds_toArray, List.set_cons_zero, List.set_cons_succ])
              | (refine wpT_skip rfl rfl ?_; simp only [Act.put, List.setIfInBounds_toArray, List.set_cons_zero, List.set_cons_succ])
            refine wpT_nil ?_
            generalize w9.drew = wn at *
            go_wp2_with (fail)
            go_roundw
            case rel => exact ⟨j + 1, by omega, by go_num, HX.out, FR9.out⟩
            case measure => simp [intOf]; omega
          | true =>
            obtain ⟨e2, he2⟩ : ∃ b, (k != kd) = b := ⟨_, rfl⟩
            rw [he2] at HBV
            cases e2 with
            | false =>
              have HX := hid (HGOOD.out (by rw [HBV.out]; rfl))
              clear HBAD HGOOD HBV
              refine wp_region_scr (.take 0 (.take 1 (.take 2 (.take 3 (.take 4 (.take 5 (.take 6 (.take 7 (.take 8 (.take 9 (.take 10 (.take 11 (.take 12 (.take 13 (.take 14 (.take 15 (.take 16 (.take 17 (.take 18 (.take 19 (.take 20 (.take 21 (.take 22 (.take 23 .done)))))))))))))))))))))))) (fun kz w => (kz ≤ 24 → w.cell? ⟨g, o + j * 3, none⟩ = some (.int .i64 k) ∧ w.cell? ⟨d, 2, none⟩ = some (.slice (some ⟨gc, oc, none⟩) cols.length cc) ∧ w.cell? ⟨gc, oc + j * 2 + 1, none⟩ = some (.int .i64 kd)) ∧ Hid True) (by kernel_rfl) (by kernel_rfl) (by intro c a d v w h; cases d <;> exact h) ?_
              repeat
                first
                | (refine wpT_pure rfl rfl rfl ?_; apply Exists.intro; refine ⟨?_, ?_⟩; intro w; (first | ((obtain ⟨qa1, qa2, qa3⟩ := qa; go_simp <;> rfl)) | (go_simp <;> rfl)); simp only [Act.put, List.setIfInBounds_toArray, List.set_cons_zero, List.set_cons_succ])
                | (refine wpT_take 24 rfl rfl (by decide +kernel) ⟨fun _ => ⟨HK9.out, HD9.out.cell 2, HC9.out⟩, hid trivial⟩ ?_; apply Exists.intro; refine ⟨?_, ?_⟩; intro w hw; (have qa := hw.1 (Nat.le_refl _); have qb := hw.2); (first | ((obtain ⟨qa1, qa2, qa3⟩ := qa; go_simp <;> rfl)) | (go_simp <;> rfl)); simp only [Act.put, List.setIfInBounds_toArray, List.set_cons_zero, List.set_cons_succ])
                | (refine wpT_skip rfl rfl ?_; simp only [Act.put, List.setIfInBounds_toArray, List.set_cons_zero, List.set_cons_succ])
              refine wpT_nil ?_
              generalize w9.drew = wn at *
              go_wp2_with (fail)
              go_roundw
              case rel => exact ⟨j + 1, by omega, by go_num, HX.out, FR9.out⟩
              case measure => simp [intOf]; omega
            | true =>
              have HX := hid (HBAD.out (by rw [HBV.out]; rfl))
              clear HBAD HGOOD HBV
              refine wp_region_scr (.take 0 (.take 1 (.take 2 (.take 3 (.take 4 (.take 5 (.take 6 (.take 7 (.take 8 (.take 9 (.take 10 (.take 11 (.take 12 (.take 13 (.take 14 (.take 15 (.take 16 (.take 17 (.take 18 (.take 19 (.take 20 (.take 21 (.take 22 (.take 23 .done)))))))))))))))))))))))) (fun kz w => (kz ≤ 24 → w.cell? ⟨g, o + j * 3, none⟩ = some (.int .i64 k) ∧ w.cell? ⟨d, 2, none⟩ = some (.slice (some ⟨gc, oc, none⟩) cols.length cc) ∧ w.cell? ⟨gc, oc + j * 2 + 1, none⟩ = some (.int .i64 kd)) ∧ Hid True) (by kernel_rfl) (by kernel_rfl) (by intro c a d v w h; cases d <;> exact h) ?_
              repeat
                first
                | (refine wpT_pure rfl rfl rfl ?_; apply Exists.intro; refine ⟨?_, ?_⟩; intro w; (first | ((obtain ⟨qa1, qa2, qa3⟩ := qa; go_simp <;> rfl)) | (go_simp <;> rfl)); simp only [Act.put, List.setIfInBounds_toArray, List.set_cons_zero, List.set_cons_succ])
                | (refine wpT_take 24 rfl rfl (by decide +kernel) ⟨fun _ => ⟨HK9.out, HD9.out.cell 2, HC9.out⟩, hid trivial⟩ ?_; apply Exists.intro; refine ⟨?_, ?_⟩; intro w hw; (have qa := hw.1 (Nat.le_refl _); have qb := hw.2); (first | ((obtain ⟨qa1, qa2, qa3⟩ := qa; go_simp <;> rfl)) | (go_simp <;> rfl)); simp only [Act.put, List.setIfInBounds_toArray, List.set_cons_zero, List.set_cons_succ])
                | (refine wpT_skip rfl rfl ?_; simp only [Act.put, List.setIfInBounds_toArray, List.set_cons_zero, List.set_cons_succ])
              refine wpT_nil ?_
              generalize w9.drew = wn at *
              go_wp2_with (fail)
              go_ret
              exact ⟨by rw [← HZ.out, HX.out]; rfl, F0.out.trans FR9.out (fun _ h _ => h)⟩
      · obtain rfl : j = r.length := by omega
        have HX := hid (check_good HNE.out (fun i hi => HA.out i hi hi (by have := HNE.out; omega)))
        have FF := hid (F0.out.trans FR.out (fun _ h _ => h))
        go_wp2_with (fail)
        go_ret
        exact ⟨by rw [← HZ.out, HX.out]; rfl, FF.out⟩
  · have hne2 : ((r.length : Int) != (cols.length : Int)) = true := by simp; omega
    have HX := hid (show checkM cols r = 2 from by unfold checkM; rw [if_pos hne])
    clear hne
    go_enter Tryd.func14, Tryd.ntmps14
    go_upto_region 1 with fail
    generalize hd : w.heap.size = d at *
    generalize w.alloc _ = W0 at *
    have q2 : W0.cell? ⟨d, 2, none⟩ = some (.slice ac cols.length cc) := B0.out.cell 2
    go_wp2_with (fail)
    go_ret
    exact ⟨by rw [← HZ.out, HX.out]; rfl, F0.out⟩
set_option maxRecDepth 20000 in
theorem rfCol_go {R : Nat → Prop} {w : World} (id : Int) (nm : Bs) {ac : Option Addr} {cc : Nat} {vi : Value} {l : List Col} (n : Bs) (h : Sl R w (.slice ac l.length cc) l.length (l.flatMap Col.cells)) (hl : l.length ≤ 1048576) :
    Calls Tryd.prog 16 #[.agg #[.int .i64 id, .string (bs nm), .slice ac l.length cc, vi], .string (bs n)] w fun e w' => e = .returned (.int .i64 (colOf l n)) ∧ Fr (fun _ => False) w w' := by
  have HC := hid h
  have F0 := hid ((Fr.refl (fun _ => False) w).alloc (.cells #[.int .i64 id, .string (bs nm), .slice ac l.length cc, vi] 25))
  have B0 := hid (Blk.new w [.int .i64 id, .string (bs nm), .slice ac l.length cc, vi] 25)
  obtain ⟨z, hz⟩ : ∃ z, colOf l n = z := ⟨_, rfl⟩
  rw [hz]
  have HZ := hid hz
  clear hz h
  go_enter Tryd.func16, Tryd.ntmps16
  go_upto_region 1 with fail
  generalize hd : w.heap.size = d at *
  generalize w.alloc _ = W0 at *
  go_wp2_with (fail)
  go_loopw [5] (fun i wr => ∃ j : Nat, j ≤ l.length ∧ i = .int .i64 j ∧ (∀ k (hk : k < j) (hr : k < l.length), (l[k].name == n) = false) ∧ Fr (fun _ => False) W0 wr) (fun i _ => l.length - (intOf i).toNat)
  case atStart => exact ⟨0, by omega, rfl, fun k hk => by omega, Fr.refl _ _⟩
  case round =>
    obtain ⟨j, hj, rfl, hall, fr⟩ := hrel
    have HA := hid hall
    have FR := hid fr
    clear hall fr
    have q2 : wr.cell? ⟨d, 2, none⟩ = some (.slice ac l.length cc) := (Blk.fr B0.out FR.out (fun h => h)).cell 2
    have FF := hid (F0.out.trans FR.out (fun _ h _ => h))
    by_cases hjl : j < l.length
    · obtain ⟨gc, oc, rfl, -, qc⟩ := slK (k := 2) (f := Col.cells) (by decide) col_len (HC.out.fr FF.out (fun _ _ h => h)) hjl
      have qk := qc 0 (by decide)
      have i1 : (0 : Int) ≤ (j : Int) := by omega
      have i2 : (j : Int) < l.length := by omega
      have i3 : IntKind.i64.wrap ((j : Int) + 1) = (j : Int) + 1 := IntWalk.i64_in _ (by omega)
      have HHIT := hid (fun (hb : (l[j].name == n) = true) => (pos_at (p := fun c : Col => c.name == n) hjl hb (fun k hk => HA.out k hk (by omega)) : colOf l n = (j : Int)))
      have HMISS := hid (fun (hb : (l[j].name == n) = false) => (fun k (hk : k < j + 1) (hr : k < l.length) => by
        by_cases e : k = j
        · subst e; exact hb
        · exact HA.out k (by omega) hr : ∀ k (hk : k < j + 1) (hr : k < l.length), (l[k].name == n) = false))
      obtain ⟨cl, hcl2⟩ : ∃ v, v = l[j] := ⟨_, rfl⟩
      rw [← hcl2] at qk HHIT HMISS
      clear hcl2 qc
      obtain ⟨cn, kd⟩ := cl
      simp only [Col.cells, Nat.add_zero, List.getElem?_cons_zero] at qk
      dsimp only at HHIT HMISS
      by_cases hb : cn = n
      · subst hb
        have HX := hid (HHIT.out (by simp))
        clear HHIT HMISS
        go_wp2_with (fail)
        go_ret
        exact ⟨by rw [← HZ.out, show colOf l cn = (j : Int) from HX.out]; rfl, FF.out⟩
      · have HX := hid (HMISS.out (by simpa using hb))
        have hne : ((bs cn).toList == (bs n).toList) = false := by rw [beq_bs]; simpa using hb
        clear HHIT HMISS
        have HB := hid hb
        clear hb
        go_wp2_with (fail)
        exact ⟨⟨j + 1, by omega, rfl, HX.out, FR.out⟩, by simp only [intOf, Int.toNat_natCast]; omega⟩
    · obtain rfl : j = l.length := by omega
      have i2 : ¬ ((l.length : Nat) : Int) < (l.length : Int) := by omega
      have HX := hid (show colOf l n = -1 from pos_none (fun x hx => by obtain ⟨i, hi, rfl⟩ := List.getElem_of_mem hx; exact HA.out i hi hi))
      go_wp2_with (fail)
      go_ret
      exact ⟨by rw [← HZ.out, HX.out]; rfl, FF.out⟩
end Go.Proofs.YtgkfdlpijefgkaaDoor
