import Derived.Test.YtiimomgbklgicaaGreatPkRsM
import Derived.Test.YtiimomgbklgicaaGreatPkRsN
set_option linter.unusedVariables false
namespace Go.Proofs.YtiimomgbklgicaaGreat
open Go.RowKit Go.VB Go.VB.Oct Go.VB.Cat Go.VB.Rec
theorem own_new0 {g k n c : Nat} (h : (Value.slice (some ⟨g, 0, none⟩) n c).ownBlock = some k) : k = g := by simp [Value.ownBlock] at h; exact h.symm
theorem col_flat (x : TabV) : ∀ (l : List TabV) (i : Nat) (hi : i < l.length), x.t.id = l[i].t.id → x.t.name = l[i].t.name → x.vi = l[i].vi → (l.set i x).flatMap TabV.cells = (l.flatMap TabV.cells).set (i * 4 + 2) x.vc
  | [], i, h, _, _, _ => by simp at h
  | t :: l, 0, h, h1, h2, h3 => by
    simp only [List.getElem_cons_zero] at h1 h2 h3
    simp [TabV.cells, h1, h2, h3]
  | t :: l, i + 1, h, h1, h2, h3 => by
    have ih := col_flat x l i (by simpa using h) (by simpa using h1) (by simpa using h2) (by simpa using h3)
    rw [List.set_cons_succ, List.flatMap_cons, List.flatMap_cons, ih, show (i + 1) * 4 + 2 = i * 4 + 2 + 1 + 1 + 1 + 1 by omega]
    simp [TabV.cells]
theorem map_set_tab {ts : List TabV} {i : Nat} (x : TabV) {f : Tab → Tab} (hi : i < ts.length) (hx : x.t = f ts[i].t) : (ts.set i x).map TabV.t = setT (ts.map TabV.t) i f := by
  apply List.ext_getElem
  · rw [List.length_map, List.length_set, setT_len, List.length_map]
  · intro j h1 h2
    rw [List.getElem_map, List.getElem_set, setT_get h2]
    split
    · rename_i e; subst e; rw [hx, List.getElem_map]
    · rw [List.getElem_map]
/-- the end of the reference's rename -/
theorem rename_endR {S : Nat → Prop} {w w8 : World} {c : Nat} {v : Value} {ts : List TabV} {s : St} (h : CRv 83 S w c v ts) (he : renameE (ts.map TabV.t) s = 0) (f1 : Fr (fun _ => False) w w8) {i n g : Nat} (hi : i < ts.length) (hf : find (ts.map TabV.t) s.table = (i : Int))
    (hn : colOf ts[i].t.cols s.name = (n : Int)) (hg : v.ownBlock = some g) {vc' : Value} (rc : Row 171 2 w.heap.size w8 vc' ts[i].t.cols.length ((renCol ts[i].t.cols n s.join).flatMap Col.cells)) :
    CR 83 (Ext S w (w8.setCell ⟨g, i * 4 + 2, none⟩ vc')) (w8.setCell ⟨g, i * 4 + 2, none⟩ vc') c (rename (ts.map TabV.t) s).1 ∧ Fr S w (w8.setCell ⟨g, i * 4 + 2, none⟩ vc') := by
  have T0 := (h.t _ (List.getElem_mem hi)).fr f1 (fun _ _ h => h)
  obtain ⟨x, hx⟩ : ∃ x : TabV, x = ⟨{ ts[i].t with cols := renCol ts[i].t.cols n s.join }, vc', ts[i].vi, ts[i].ix⟩ := ⟨_, rfl⟩
  have hcells : (ts.set i x).flatMap TabV.cells = (ts.flatMap TabV.cells).set (i * 4 + 2) vc' := by
    rw [col_flat x ts i hi (by rw [hx]) (by rw [hx]) (by rw [hx]), show x.vc = vc' by rw [hx]]
  have hxo : TabO (fun k => S k ∨ w.heap.size ≤ k) w8 x := by
    rw [hx]
    exact ⟨(rc.low (Nat.zero_le _)).cast (by dsimp only; rw [ren_len]) rfl, fun k hk => .inr (rc.new k hk), T0.i, fun k hk => .inl (T0.iS k hk), T0.e, fun y hy => ⟨(T0.x y hy).1, fun k hk => .inl ((T0.x y hy).2 k hk)⟩⟩
  have hp := put_tab (tc := 83) (by decide) h f1 hi hg x hcells hxo (.inr (fun k hk => rc.new k (by rw [hx] at hk; exact hk))) (.inl (by rw [hx]))
  have hm : (rename (ts.map TabV.t) s).1 = (ts.set i x).map TabV.t := by
    unfold rename
    rw [if_pos he, hf, Int.toNat_natCast]
    exact (map_set_tab x hi (by rw [hx, hn, Int.toNat_natCast])).symm
  rw [hm]
  exact ⟨⟨v, ts.set i x, hp.1, rfl⟩, hp.2⟩
set_option maxRecDepth 20000 in
set_option maxHeartbeats 4000000 in
theorem rrename_go {S : Nat → Prop} {w : World} {c : Nat} {v : Value} {ts : List TabV} (h : CRv 83 S w c v ts) (hl : ts.length ≤ 8) (hcl : ∀ t ∈ ts, t.t.cols.length ≤ 6) (t : StV) :
    Calls Tryz.prog 95 #[.pointer (some ⟨c, 0, none⟩), .agg t.cells.toArray] w fun e w' => e = .returned (.int .i64 (rename (ts.map TabV.t) t.s).2) ∧ CR 83 (Ext S w w') w' c (rename (ts.map TabV.t) t.s).1 ∧ Fr S w w' := by
  obtain ⟨⟨kind, table, name, cols, names, join⟩, oc, cc, on, cn, a5, n5, c5, a6, n6, c6, a7, n7, c7, y9, y10, i11, a12, n12, c12, i13, i14⟩ := t
  have HC := hid h
  have HCL := hid hcl
  obtain ⟨s, hs⟩ : ∃ s : St, s = ⟨kind, table, name, cols, names, join⟩ := ⟨_, rfl⟩
  have hst : s.table = table := by rw [hs]
  have hsn : s.name = name := by rw [hs]
  have hsj : s.join = join := by rw [hs]
  unfold StV.cells
  dsimp only
  rw [← hs]
  have HE1 := hid (fun h => renameE_no (m := ts.map TabV.t) (s := s) h)
  have HE2 := hid (fun h1 h2 => renameE_none (m := ts.map TabV.t) (s := s) h1 h2)
  have HE3 := hid (fun h1 i hi hf => renameE_at (m := ts.map TabV.t) (s := s) h1 (i := i) hi hf)
  have HER := hid (fun e h he => rename_err (m := ts.map TabV.t) (s := s) (e := e) h he)
  rw [hst] at HE2 HE3
  rw [hsj] at HE1 HE2 HE3
  rw [hsn] at HE3
  have HSE := hid (And.intro hst (And.intro hsn hsj))
  clear h hcl hs hst hsn hsj
  have F1 := hid ((Fr.refl (fun _ => False) w).alloc (.cells #[.int .i64 kind, .string (bs table), .string (bs name), .slice oc cols.length cc, .slice on names.length cn, .slice a5 n5 c5, .slice a6 n6 c6, .slice a7 n7 c7, .string (bs join), .string y9, .string y10, .int .i64 i11, .slice a12 n12 c12, .int .i64 i13, .int .i64 i14] 90))
  have B1 := hid (Blk.new w [.int .i64 kind, .string (bs table), .string (bs name), .slice oc cols.length cc, .slice on names.length cn, .slice a5 n5 c5, .slice a6 n6 c6, .slice a7 n7 c7, .string (bs join), .string y9, .string y10, .int .i64 i11, .slice a12 n12 c12, .int .i64 i13, .int .i64 i14] 90)
  go_enter Tryz.func95, Tryz.ntmps95
  go_upto_region 1 with fail
  generalize hd : w.heap.size = d at *
  have HD := hid hd
  clear hd
  generalize w.alloc _ = W1 at *
  obtain ⟨q1, q8⟩ : W1.cell? ⟨d, 1, none⟩ = some (.string (bs table)) ∧ W1.cell? ⟨d, 8, none⟩ = some (.string (bs join)) := ⟨B1.out.cell 1, B1.out.cell 8⟩
  have HNM := hid (rnamed_go join)
  cases hnj : named join with
  | false =>
    have HX := hid (HER.out 1 (HE1.out hnj) (by decide))
    rw [hnj] at HNM
    clear HE1 HE2 HE3 HER hnj
    go_wp2_with (go_at_call 135; refine (HNM.out _).mono ?_; rintro e w3 ⟨rfl, rfl⟩)
    go_ret
    exact err_finR HC.out HX.out F1.out
  | true =>
    have HE2' := hid (HE2.out hnj)
    have HE3' := hid (HE3.out hnj)
    rw [hnj] at HNM
    clear HE1 HE2 HE3 hnj
    have HFI := hid (rFind_go (HC.out.fre F1.out) (by omega) table)
    obtain ⟨z, hz⟩ : ∃ z, find (ts.map TabV.t) table = z := ⟨_, rfl⟩
    have hzc := find_cases (ts.map TabV.t) table
    rw [hz] at HFI HE2' HE3' hzc
    have HZ := hid hz
    clear hz
    rcases hzc with hz0 | ⟨i, hi, rfl⟩
    · have HX := hid (HER.out 50 (HE2'.out hz0) (by decide))
      clear HE2' HE3' HER
      go_wp2_with (first
        | (go_at_call 135; refine (HNM.out _).mono ?_; rintro e w3 ⟨rfl, rfl⟩)
        | (go_at_call 136; refine HFI.out.mono ?_; rintro e w4 ⟨rfl, f⟩; have F2 := hid (F1.out.trans f (fun _ h _ => h)); clear f))
      go_ret
      exact err_finR HC.out HX.out F2.out
    · have HE4 := hid (HE3'.out i hi rfl)
      have hit : i < ts.length := by simpa using hi
      clear HE2' HE3'
      go_upto_region 7 with (first
        | (go_at_call 135; refine (HNM.out _).mono ?_; rintro e w3 ⟨rfl, rfl⟩)
        | (go_at_call 136; refine HFI.out.mono ?_; rintro e w4 ⟨rfl, f⟩; have F2 := hid (F1.out.trans f (fun _ h _ => h)); have B2 := hid (Blk.fr B1.out f (fun h => h)); clear f))
      clear HNM HFI q1 q8 B1 F1
      have HC4 := hid (HC.out.fre F2.out)
      obtain ⟨av, cv, rfl, hcap⟩ := HC.out.r.slice
      obtain ⟨g, rfl, -, hr⟩ := tab_at HC4.out.r hit
      have HXT := hid (HC.out.t _ (List.getElem_mem hit))
      have hxl := HCL.out _ (List.getElem_mem hit)
      rw [List.getElem_map] at HE4
      obtain ⟨x, hx⟩ : ∃ x, x = ts[i] := ⟨_, rfl⟩
      have HXI := hid hx
      rw [← hx] at hr HXT hxl HE4
      clear hx
      obtain ⟨ac, ccap, hvc, hle⟩ := HXT.out.c.slice
      obtain ⟨⟨id, nm0, cols0, ixs0⟩, vc, vi, ix⟩ := x
      dsimp only at hvc hxl HE4 hle
      subst hvc
      have j1 : (0 : Int) ≤ (i : Int) := by omega
      have j2 : (i : Int) < (ts.length : Int) := by omega
      have fd := (Fr.refl (fun _ => False) w4).drew
      have F3 := hid (F2.out.trans fd (fun _ h _ => h))
      have HCO := hid (fun (W : World) (f : Fr (fun _ => False) w W) (n : Bs) => rfCol_go id nm0 (vi := vi) n ((HXT.out.fr f (fun _ _ h => h)).c.sl' (R := fun _ => True) (fun _ _ => trivial)) (by omega))
      have HS := hid (fun (W : World) (f : Fr (fun _ => False) w4 W) => (⟨fun j u hu => cell_fr (hr j u hu) f (fun h => h), (HC4.out.fre f).b.cell 0, Blk.fr B2.out f (fun h => h)⟩ : W.rangeAt g (i * 4) [.int .i64 id, .string (bs nm0), .slice ac cols0.length ccap, vi] ∧ W.cell? ⟨c, 0, none⟩ = some (.slice (some ⟨g, 0, none⟩) ts.length cv) ∧ Blk W d [.int .i64 kind, .string (bs table), .string (bs name), .slice oc cols.length cc, .slice on names.length cn, .slice a5 n5 c5, .slice a6 n6 c6, .slice a7 n7 c7, .string (bs join), .string y9, .string y10, .int .i64 i11, .slice a12 n12 c12, .int .i64 i13, .int .i64 i14] 90))
      clear hr B2 F2 HC4
      have HS3 := hid (HS.out _ fd)
      have HFD := hid fd
      clear fd
      obtain ⟨z1, hz1⟩ : ∃ z, colOf cols0 name = z := ⟨_, rfl⟩
      obtain ⟨z2, hz2⟩ : ∃ z, colOf cols0 join = z := ⟨_, rfl⟩
      have HL1 := hid (HCO.out w4.drew F3.out name)
      rw [hz1] at HL1 HE4
      rw [hz2] at HE4
      have HZ1 := hid hz1
      have HZ2 := hid hz2
      clear hz1 hz2
      refine wp_region_scr (.take 0 (.take 1 (.take 2 (.take 3 (.take 4 (.take 5 (.take 6 (.take 7 (.take 8 (.op 9 (.take 10 .done))))))))))) (fun kz w => (kz ≤ 11 → (w.rangeAt g (i * 4) [.int .i64 id, .string (bs nm0), .slice ac cols0.length ccap, vi] ∧ w.cell? ⟨c, 0, none⟩ = some (.slice (some ⟨g, 0, none⟩) ts.length cv) ∧ w.cell? ⟨d, 2, none⟩ = some (.string (bs name)))) ∧ Hid True) (by kernel_rfl) (by kernel_rfl) (by intro c a d v w h; cases d <;> exact h) ?_
      repeat
        first
        | (refine wpT_pure rfl rfl rfl ?_; apply Exists.intro; refine ⟨?_, ?_⟩; intro w; (first | (first | exact run_load_mid _ _ rfl g _ rfl _ _ qa.1 Tryz.underlying175 rfl size_tab | (obtain ⟨q1, q2, q3⟩ := qa; go_simp <;> rfl)) | (go_simp <;> rfl)); simp only [Act.put, List.setIfInBounds_toArray, List.set_cons_zero, List.set_cons_succ])
        | (refine wpT_take 11 rfl rfl (by decide +kernel) ⟨fun _ => ⟨HS3.out.1, HS3.out.2.1, HS3.out.2.2.cell 2⟩, hid trivial⟩ ?_; apply Exists.intro; refine ⟨?_, ?_⟩; intro w hw; (have qa := hw.1 (Nat.le_refl _); have qb := hw.2); (first | (first | exact run_load_mid _ _ rfl g _ rfl _ _ qa.1 Tryz.underlying175 rfl size_tab | (obtain ⟨q1, q2, q3⟩ := qa; go_simp <;> rfl)) | (go_simp <;> rfl)); simp only [Act.put, List.setIfInBounds_toArray, List.set_cons_zero, List.set_cons_succ])
        | (refine wpT_skip rfl rfl ?_; simp only [Act.put, List.setIfInBounds_toArray, List.set_cons_zero, List.set_cons_succ])
      refine wpT_op rfl ?_
      go_wp2_with ((go_at_call 137; refine HL1.out.mono ?_; rintro e w5 ⟨rfl, f⟩; have F4 := hid (F3.out.trans f (fun _ h _ => h)); have FD4 := hid (HFD.out.trans f (fun _ h _ => h)); have HS4 := hid (HS.out _ FD4.out); clear f))
      (refine ⟨?_, ?_⟩; focus (intro kz hk hk2 hh; first | (exfalso; simp at hk2; omega) | exact hh | exact (fun h => absurd h (by omega)) | obtain ⟨qa, qb⟩ := hh; first | exact ⟨qa, qb⟩ | (refine ⟨fun h => absurd h (by omega), ?_⟩; first | exact qb | (exact ⟨HS4.out.1, HS4.out.2.1, HS4.out.2.2.cell 2⟩)) | (refine ⟨fun h => ?_, ?_⟩; (have qa := qa h); all_goals (first | exact qa | exact qb | (exact ⟨HS4.out.1, HS4.out.2.1, HS4.out.2.2.cell 2⟩)))))
      repeat
        first
        | (refine wpT_pure rfl rfl rfl ?_; apply Exists.intro; refine ⟨?_, ?_⟩; intro w; (first | ((obtain ⟨q1, q2, q3⟩ := qa; go_simp <;> rfl)) | (go_simp <;> rfl)); simp only [Act.put, List.setIfInBounds_toArray, List.set_cons_zero, List.set_cons_succ])
        | (refine wpT_take 11 rfl rfl (by decide +kernel) ⟨fun _ => ⟨HS4.out.1, HS4.out.2.1, HS4.out.2.2.cell 2⟩, hid trivial⟩ ?_; apply Exists.intro; refine ⟨?_, ?_⟩; intro w hw; (have qa := hw.1 (Nat.le_refl _); have qb := hw.2); (first | ((obtain ⟨q1, q2, q3⟩ := qa; go_simp <;> rfl)) | (go_simp <;> rfl)); simp only [Act.put, List.setIfInBounds_toArray, List.set_cons_zero, List.set_cons_succ])
        | (refine wpT_skip rfl rfl ?_; simp only [Act.put, List.setIfInBounds_toArray, List.set_cons_zero, List.set_cons_succ])
      refine wpT_nil ?_
      clear HL1 HS3 F3 HFD
      go_upto_region 8 with fail
      have fd := (Fr.refl (fun _ => False) w5).drew
      have F5 := hid (F4.out.trans fd (fun _ h _ => h))
      have FD5 := hid (FD4.out.trans fd (fun _ h _ => h))
      have HS5 := hid (HS.out _ FD5.out)
      have HL2 := hid (HCO.out w5.drew F5.out join)
      rw [HZ2.out] at HL2
      clear fd F4 FD4 HS4 HCO
      refine wp_region_scr (.take 0 (.take 1 (.take 2 (.take 3 (.take 4 (.take 5 (.take 6 (.take 7 (.take 8 (.op 9 (.take 10 .done))))))))))) (fun kz w => (kz ≤ 11 → (w.rangeAt g (i * 4) [.int .i64 id, .string (bs nm0), .slice ac cols0.length ccap, vi] ∧ w.cell? ⟨c, 0, none⟩ = some (.slice (some ⟨g, 0, none⟩) ts.length cv) ∧ w.cell? ⟨d, 8, none⟩ = some (.string (bs join)))) ∧ Hid True) (by kernel_rfl) (by kernel_rfl) (by intro c a d v w h; cases d <;> exact h) ?_
      repeat
        first
        | (refine wpT_pure rfl rfl rfl ?_; apply Exists.intro; refine ⟨?_, ?_⟩; intro w; (first | (first | exact run_load_mid _ _ rfl g _ rfl _ _ qa.1 Tryz.underlying175 rfl size_tab | (obtain ⟨q1, q2, q3⟩ := qa; go_simp <;> rfl)) | (go_simp <;> rfl)); simp only [Act.put, List.setIfInBounds_toArray, List.set_cons_zero, List.set_cons_succ])
        | (refine wpT_take 11 rfl rfl (by decide +kernel) ⟨fun _ => ⟨HS5.out.1, HS5.out.2.1, HS5.out.2.2.cell 8⟩, hid trivial⟩ ?_; apply Exists.intro; refine ⟨?_, ?_⟩; intro w hw; (have qa := hw.1 (Nat.le_refl _); have qb := hw.2); (first | (first | exact run_load_mid _ _ rfl g _ rfl _ _ qa.1 Tryz.underlying175 rfl size_tab | (obtain ⟨q1, q2, q3⟩ := qa; go_simp <;> rfl)) | (go_simp <;> rfl)); simp only [Act.put, List.setIfInBounds_toArray, List.set_cons_zero, List.set_cons_succ])
        | (refine wpT_skip rfl rfl ?_; simp only [Act.put, List.setIfInBounds_toArray, List.set_cons_zero, List.set_cons_succ])
      refine wpT_op rfl ?_
      go_wp2_with ((go_at_call 137; refine HL2.out.mono ?_; rintro e w6 ⟨rfl, f⟩; have F6 := hid (F5.out.trans f (fun _ h _ => h)); have FD6 := hid (FD5.out.trans f (fun _ h _ => h)); have HS6 := hid (HS.out _ FD6.out); clear f))
      (refine ⟨?_, ?_⟩; focus (intro kz hk hk2 hh; first | (exfalso; simp at hk2; omega) | exact hh | exact (fun h => absurd h (by omega)) | obtain ⟨qa, qb⟩ := hh; first | exact ⟨qa, qb⟩ | (refine ⟨fun h => absurd h (by omega), ?_⟩; first | exact qb | (exact ⟨HS6.out.1, HS6.out.2.1, HS6.out.2.2.cell 8⟩)) | (refine ⟨fun h => ?_, ?_⟩; (have qa := qa h); all_goals (first | exact qa | exact qb | (exact ⟨HS6.out.1, HS6.out.2.1, HS6.out.2.2.cell 8⟩)))))
      repeat
        first
        | (refine wpT_pure rfl rfl rfl ?_; apply Exists.intro; refine ⟨?_, ?_⟩; intro w; (first | ((obtain ⟨q1, q2, q3⟩ := qa; go_simp <;> rfl)) | (go_simp <;> rfl)); simp only [Act.put, List.setIfInBounds_toArray, List.set_cons_zero, List.set_cons_succ])
        | (refine wpT_take 11 rfl rfl (by decide +kernel) ⟨fun _ => ⟨HS6.out.1, HS6.out.2.1, HS6.out.2.2.cell 8⟩, hid trivial⟩ ?_; apply Exists.intro; refine ⟨?_, ?_⟩; intro w hw; (have qa := hw.1 (Nat.le_refl _); have qb := hw.2); (first | ((obtain ⟨q1, q2, q3⟩ := qa; go_simp <;> rfl)) | (go_simp <;> rfl)); simp only [Act.put, List.setIfInBounds_toArray, List.set_cons_zero, List.set_cons_succ])
        | (refine wpT_skip rfl rfl ?_; simp only [Act.put, List.setIfInBounds_toArray, List.set_cons_zero, List.set_cons_succ])
      refine wpT_nil ?_
      clear HL2 HS5 F5 FD5
      by_cases hz1 : z1 < 0
      · have HX := hid (HER.out 50 (HE4.out.trans (if_pos hz1)) (by decide))
        clear HE4 HER
        go_wp2_with (fail)
        go_ret
        exact err_finR HC.out HX.out F6.out
      · have HE5 := hid (HE4.out.trans (if_neg hz1))
        clear HE4
        by_cases hz2 : 0 ≤ z2
        · have HX := hid (HER.out 51 (HE5.out.trans (if_pos hz2)) (by decide))
          clear HE5 HER
          go_wp2_with (fail)
          go_ret
          exact err_finR HC.out HX.out F6.out
        · have HX := hid (HE5.out.trans (if_neg hz2))
          clear HE5 HER
          go_upto_region 13 with fail
          obtain ⟨n, rfl⟩ : ∃ n : Nat, z1 = (n : Int) := ⟨z1.toNat, by omega⟩
          have hnl : n < cols0.length := by
            have := (col_ge cols0 name).2
            rw [HZ1.out] at this
            omega
          have j3 : (0 : Int) ≤ (n : Int) := by omega
          have j4 : (n : Int) < (cols0.length : Int) := by omega
          have HR1 := hid (Row.built (e := 171) (n := 0) (size := 2) (B := w6.heap.size) w6 (l := []) rfl (by decide) (Nat.le_refl _))
          have fa := (Fr.refl (fun _ => False) w6).alloc (.cells #[] 171)
          have F7 := hid (F6.out.trans fa (fun _ h _ => h))
          have HS7 := hid (HS.out _ (FD6.out.trans fa (fun _ h _ => h)))
          have HSR := hid (Sl.srcK (P := Tryz.prog) (size := 2) ((HXT.out.fr F7.out (fun _ _ h => h)).c.sl' (R := fun _ => True) (fun _ _ => trivial)) (flat_len (k := 2) (fun _ => rfl) _) (by decide) (col_one _))
          dsimp only at HSR
          have p0 := HS7.out.2.1
          have p2 := HS7.out.1 2 _ rfl
          clear fa hz1 hz2
          go_upto_region 14 with (at_builtin; refine wpList_appS rfl (s := .tmp 45) (x := .tmp 53) (t := 86) (tx := 86) rfl Tryz.underlying86 Tryz.underlying86 (.inr ⟨_, rfl⟩) info_col rfl rfl rfl HR1.out (by rw [World.size_alloc]; omega) HSR.out (by omega) (by omega) ?_; intro ab2 ac2 wg APP; simp only [Nat.zero_add] at APP ⊢; have F10 := hid (F7.out.trans APP.fr (fun k hk hl => by have h1 := HR1.out.new k hk; have h2 := F6.out.size; omega)); have HRC := hid (APP.row.cast (m := cols0.length) (ys := cols0.flatMap Col.cells) (Nat.zero_add _) rfl); have FDA := hid (((Fr.refl (fun _ => False) w6).alloc (.cells #[] 171)).trans APP.fr (fun k hk hl => by have h1 := HR1.out.new k hk; have h2 := own_new0 hk; omega)); clear APP)
          clear p0 p2 HR1 HSR F7 HS7
          have FDG := hid (FD6.out.trans FDA.out (fun _ h _ => h))
          have HS8 := hid (HS.out _ FDG.out)
          obtain ⟨gl, rfl, hgB, hcell⟩ := row_cells HRC.out (by
            intro e
            have := congrArg List.length e
            rw [flat_len (k := 2) (fun _ => rfl)] at this
            simp only [List.length_nil] at this
            omega)
          obtain ⟨l2, hb2⟩ := row_blk HRC.out (k := gl) rfl
          have hc2 : wg.cell? ⟨gl, n * 2, none⟩ = some (.string (bs cols0[n].name)) := hcell (n * 2) _ (by
            have := flatK (k := 2) Col.cells (fun _ => rfl) cols0 n hnl 0 (by omega)
            rw [Nat.add_zero] at this
            rw [this]; rfl)
          have hz3 := hb2.frozen (n * 2)
          have q8 : wg.cell? ⟨d, 8, none⟩ = some (.string (bs join)) := HS8.out.2.2.cell 8
          have HRD := hid ((row_set HRC.out (g := gl) rfl (n * 2) (.string (bs join))).cast rfl (ren_flat cols0 n join hnl).symm)
          have fs := (Fr.refl (fun k => k = gl) wg).setCell ⟨gl, n * 2, none⟩ (.string (bs join)) (fun _ => rfl)
          have F11 := hid (F10.out.trans fs (fun k hk hl => by have := F6.out.size; omega))
          have FDH := hid (FDG.out.trans fs (fun k hk hl => by have := FD6.out.size; omega))
          clear hb2 hcell fs HRC HS8 F10 FDG FDA
          go_upto_region 15 with fail
          clear q8 hc2 hz3
          generalize wg.setCell _ _ = W12 at *
          have HS9 := hid (HS.out _ FDH.out)
          have HCW := hid (HC.out.fre F11.out)
          have p0 := HS9.out.2.1
          have p2 := HS9.out.1 2 _ rfl
          obtain ⟨lg, hbg⟩ := row_blk HCW.out.r (k := g) rfl
          have z2 := hbg.frozen (i * 4 + 2)
          have HEND := hid (rename_endR (s := s) HC.out HX.out F11.out hit (by rw [HSE.out.1]; exact HZ.out) (n := n) (g := g) (by rw [HSE.out.2.1, ← HXI.out]; exact HZ1.out) rfl (vc' := .slice (some ⟨gl, 0, none⟩) cols0.length ac2) (by rw [HSE.out.2.2, ← HXI.out]; exact HRD.out.low F6.out.size))
          have HQ := hid (show (0 : Int) = (rename (ts.map TabV.t) s).2 from by unfold rename; rw [if_pos HX.out])
          clear hbg HCW HS9 HRD
          go_wp2_with (fail)
          go_ret
          exact ⟨ret_int HQ.out, HEND.out.1, HEND.out.2⟩
end Go.Proofs.YtiimomgbklgicaaGreat
namespace Go.Proofs.YtiimomgbklgicaaGreat
open Go.RowKit Go.VB Go.VB.Oct Go.VB.Cat Go.VB.Rec
/-- what a statement does to the reference, by its kind -/
theorem rdoers_do {S P : Nat → Prop} {w : World} {c : Nat} {m : List Tab} (h : CR 83 S w c m) (ok : Ok m) {t : StV} (hs : StR P w t) (root : Int) :
    (t.s.kind = 1 → Calls Tryz.prog 93 #[.pointer (some ⟨c, 0, none⟩), .agg t.cells.toArray] w fun e w' => e = .returned (.int .i64 (doM m t.s root).2) ∧ CR 83 (Ext S w w') w' c (doM m t.s root).1 ∧ Fr S w w')
    ∧ (t.s.kind = 2 → Calls Tryz.prog 94 #[.pointer (some ⟨c, 0, none⟩), .agg t.cells.toArray, .int .i64 root] w fun e w' => e = .returned (.int .i64 (doM m t.s root).2) ∧ CR 83 (Ext S w w') w' c (doM m t.s root).1 ∧ Fr S w w')
    ∧ (t.s.kind = 3 → Calls Tryz.prog 95 #[.pointer (some ⟨c, 0, none⟩), .agg t.cells.toArray] w fun e w' => e = .returned (.int .i64 (doM m t.s root).2) ∧ CR 83 (Ext S w w') w' c (doM m t.s root).1 ∧ Fr S w w') := by
  obtain ⟨v, ts, h, rfl⟩ := h
  have hl : ts.length ≤ 8 := by simpa using ok.len
  have hc : ∀ t ∈ ts, t.t.cols.length ≤ 6 := fun t ht => (ok.tab t.t (List.mem_map_of_mem ht)).le
  have hi : ∀ t ∈ ts, t.ix.length ≤ 4 := fun t ht => by
    have := (ok.tab t.t (List.mem_map_of_mem ht)).ixs
    rw [(h.t t ht).e, List.length_map] at this
    exact this
  refine ⟨fun hk => ?_, fun hk => ?_, fun hk => ?_⟩
  · unfold doM; rw [if_pos hk]; exact rcreate_go h hl hs
  · unfold doM; rw [if_neg (by omega), if_pos hk]; exact rindex_go h hl hc hi hs root
  · unfold doM; rw [if_neg (by omega), if_neg (by omega), if_pos hk]; exact rrename_go h hl hc t
set_option maxRecDepth 20000 in
theorem rDo_go {S P : Nat → Prop} {w : World} {c : Nat} {m : List Tab} (h : CR 83 S w c m) (ok : Ok m) {t : StV} (hs : StR P w t) (root : Int) :
    Calls Tryz.prog 40 #[.pointer (some ⟨c, 0, none⟩), .agg t.cells.toArray, .int .i64 root] w fun e w' => e = .returned (.int .i64 (doM m t.s root).2) ∧ CR 83 (Ext S w w') w' c (doM m t.s root).1 ∧ Fr S w w' := by
  have HD := hid (fun (W : World) (f : Fr (fun _ => False) w W) => rdoers_do (h.fre f) ok (hs.fre f) root)
  have HS := hid (fun w1 w2 m (f : Fr (fun _ => False) w w1) (hc : CR 83 (Ext S w1 w2) w2 c m) (g : Fr S w1 w2) => ext_fin (fun k hk => h.lt hk) f hc g)
  have HC := hid h
  have HNO := hid (show ¬ t.s.kind = 1 → ¬ t.s.kind = 2 → ¬ t.s.kind = 3 → doM m t.s root = (m, 1) from fun h1 h2 h3 => by unfold doM; rw [if_neg h1, if_neg h2, if_neg h3])
  obtain ⟨p, hp⟩ : ∃ p, doM m t.s root = p := ⟨_, rfl⟩
  rw [hp] at HD HNO ⊢
  have HP := hid hp
  clear hp h hs ok
  rw [StV.eta] at HD ⊢
  obtain ⟨⟨kind, table, name, cols, names, join⟩, oc, cc, on, cn, a5, n5, c5, a6, n6, c6, a7, n7, c7, y9, y10, i11, a12, n12, c12, i13, i14⟩ := t
  dsimp only at HD HNO ⊢
  generalize cols.length = lcs at *
  generalize names.length = lns at *
  have F1 := hid ((Fr.refl (fun _ => False) w).alloc (.cells #[.int .i64 kind, .string (bs table), .string (bs name), .slice oc lcs cc, .slice on lns cn, .slice a5 n5 c5, .slice a6 n6 c6, .slice a7 n7 c7, .string (bs join), .string y9, .string y10, .int .i64 i11, .slice a12 n12 c12, .int .i64 i13, .int .i64 i14] 90))
  have B1 := hid (Blk.new w [.int .i64 kind, .string (bs table), .string (bs name), .slice oc lcs cc, .slice on lns cn, .slice a5 n5 c5, .slice a6 n6 c6, .slice a7 n7 c7, .string (bs join), .string y9, .string y10, .int .i64 i11, .slice a12 n12 c12, .int .i64 i13, .int .i64 i14] 90)
  go_enter Tryz.func40, Tryz.ntmps40
  go_upto_region 1 with fail
  generalize w.heap.size = d at *
  generalize w.alloc _ = W1 at *
  have q0 : W1.cell? ⟨d, 0, none⟩ = some (.int .i64 kind) := B1.out.cell 0
  have R3 := hid B1.out.all
  have HX := hid (HD.out W1 F1.out)
  clear HD
  by_cases h1 : kind = 1
  · subst h1
    have HCALL := hid (HX.out.1 rfl)
    clear HX HNO
    go_wp2_with (first
      | (refine wpList_load_mid rfl 90 (.tmp 4) rfl d 0 rfl _ _ R3.out Tryz.underlying90 rfl size_st ?_)
      | (go_at_call 93; refine HCALL.out.mono ?_; rintro e w4 ⟨rfl, hc, f⟩; have HR := hid (HS.out _ _ _ F1.out hc f); clear hc f))
    go_ret
    exact ⟨rfl, HR.out.1, HR.out.2⟩
  · have e1 : (kind == 1) = false := beq_eq_false_iff_ne.2 h1
    by_cases h2 : kind = 2
    · subst h2
      have HCALL := hid (HX.out.2.1 rfl)
      clear HX HNO h1
      go_wp2_with (first
        | (refine wpList_load_mid rfl 90 (.tmp 4) rfl d 0 rfl _ _ R3.out Tryz.underlying90 rfl size_st ?_)
        | (go_at_call 94; refine HCALL.out.mono ?_; rintro e w4 ⟨rfl, hc, f⟩; have HR := hid (HS.out _ _ _ F1.out hc f); clear hc f))
      go_ret
      exact ⟨rfl, HR.out.1, HR.out.2⟩
    · have e2 : (kind == 2) = false := beq_eq_false_iff_ne.2 h2
      by_cases h3 : kind = 3
      · subst h3
        have HCALL := hid (HX.out.2.2 rfl)
        clear HX HNO h1 h2
        go_wp2_with (first
          | (refine wpList_load_mid rfl 90 (.tmp 4) rfl d 0 rfl _ _ R3.out Tryz.underlying90 rfl size_st ?_)
          | (go_at_call 95; refine HCALL.out.mono ?_; rintro e w4 ⟨rfl, hc, f⟩; have HR := hid (HS.out _ _ _ F1.out hc f); clear hc f))
        go_ret
        exact ⟨rfl, HR.out.1, HR.out.2⟩
      · have e3 : (kind == 3) = false := beq_eq_false_iff_ne.2 h3
        have HP1 := hid (HNO.out h1 h2 h3)
        clear HX HNO h1 h2 h3
        go_wp2_with (fail)
        go_ret
        rw [HP1.out]
        exact ⟨rfl, (HC.out.ext F1.out), F1.out.mono (fun _ h _ => h.elim)⟩
/-- a catalog of the reference's, of the call's own -/
structure OR (w0 : World) (S : Nat → Prop) (W : World) (c : Nat) (m : List Tab) : Prop where
  fr : Fr (fun _ => False) w0 W
  cr : CR 83 S W c m
  ge : ∀ k, S k → w0.heap.size ≤ k
  ok : Ok m
namespace OR
variable {w0 W W' : World} {S : Nat → Prop} {c : Nat} {m : List Tab}
theorem fre (h : OR w0 S W c m) (f : Fr (fun _ => False) W W') : OR w0 S W' c m := ⟨h.fr.trans f (fun _ h _ => h), h.cr.fre f, h.ge, h.ok⟩
theorem keep {U : Nat → Prop} (h : OR w0 S W c m) (f : Fr U W W') (hU : ∀ k, U k → ¬ S k ∧ w0.heap.size ≤ k) : OR w0 S W' c m :=
  ⟨h.fr.trans f (fun k hk hl => by have := (hU k hk).2; omega), h.cr.fr f (fun k hs hu => (hU k hu).1 hs), h.ge, h.ok⟩
theorem lt (h : OR w0 S W c m) {k : Nat} (hk : S k) : k < W.heap.size := h.cr.lt hk
theorem did {m' : List Tab} (h : OR w0 S W c m) (hc : CR 83 (Ext S W W') W' c m') (f : Fr S W W') (ok : Ok m') : OR w0 (Ext S W W') W' c m' := by
  have z1 := h.fr.size
  refine ⟨h.fr.trans f (fun k hk hl => by have := h.ge k hk; omega), hc, fun k hk => ?_, ok⟩
  rcases hk with hk | hk
  · exact h.ge k hk
  · omega
/-- a new one -/
theorem new (w : World) : OR w (fun k => k = w.heap.size) (w.alloc (.cells #[.slice none 0 0] 83)) w.heap.size [] := by
  have b := Blk.new w [.slice none 0 0] 83
  exact ⟨(Fr.refl _ w).alloc _, ⟨_, [], ⟨b, rfl, Row.nil, fun k hk => by simp [Value.ownBlock] at hk, fun t ht => by simp at ht, List.Pairwise.nil, List.Pairwise.nil, fun k hk => by subst hk; exact b.lt⟩, rfl⟩, fun k hk => Nat.le_of_eq hk.symm, ok_nil⟩
/-- a statement that Made gave, done -/
theorem madeDo (h : OR w0 S W c m) {B d : Nat} {s : St} {oc on : Option Addr} {cc cn : Nat} {root : Int} (hk : MK B W d s (.slice oc s.cols.length cc) (.slice on s.names.length cn) root) :
    Calls Tryz.prog 40 #[.pointer (some ⟨c, 0, none⟩), .agg (scells s (.slice oc s.cols.length cc) (.slice on s.names.length cn)).toArray, .int .i64 root] W fun e w' =>
      e = .returned (.int .i64 (doM m s root).2) ∧ OR w0 (Ext S W w') w' c (doM m s root).1 ∧ Fr S W w' := by
  have g := hk.g
  have := rDo_go h.cr h.ok (t := ⟨s, oc, cc, on, cn, none, 0, 0, none, 0, 0, none, 0, 0, ⟨#[]⟩, ⟨#[]⟩, 0, none, 0, 0, 0, 0⟩) (P := fun _ => True) ⟨hk.c.sl' (fun _ _ => trivial), hk.n.sl' (fun _ _ => trivial), by have := g.cols; dsimp only; omega, by have := g.names; dsimp only; omega, fun c hc => by have := (g.col c hc).1; omega, fun n hn => by have := (g.nam n hn).1; omega⟩ root
  refine this.mono ?_
  rintro e w' ⟨rfl, hc, f⟩
  exact ⟨rfl, h.did hc f (ok_do h.ok _ _), f⟩
end OR
end Go.Proofs.YtiimomgbklgicaaGreat
namespace Go.VB.Oct
theorem ofNat_mod (n : Nat) : UInt8.ofNat (n % 256) = UInt8.ofNat n := by
  apply UInt8.toNat_inj.1
  simp
end Go.VB.Oct
namespace Go.Proofs.YtiimomgbklgicaaGreat
open Go.RowKit Go.VB Go.VB.Oct Go.VB.Cat Go.VB.Rec
theorem and_8 (n : Int) : bits .and .i64 n 255 = n % 256 := by
  rw [and_mask 8 255 n (by decide) (by omega)]
  rfl
set_option maxRecDepth 20000 in
theorem rNum_go (n k : Nat) (hn : n ≤ 9223372036854775807) (hk : k ≤ 8) (w : World) : Calls Tryz.prog 98 #[.int .i64 n, .int .i64 k] w fun e w' => e = .returned (.string (bs (be k n))) ∧ Fr (fun _ => False) w w' := by
  have F0 := hid (Fr.refl (fun _ => False) w)
  go_enter Tryz.func98, Tryz.ntmps98
  go_wp2_with (fail)
  go_loopw [0, 5, 6] (fun n0 s5 i wr => ∃ j : Nat, j ≤ k ∧ n0 = .int .i64 ((n / 256 ^ j : Nat) : Int) ∧ s5 = .string (bs (be j n)) ∧ i = .int .i64 j ∧ Fr (fun _ => False) w wr) (fun _ _ i _ => k - (intOf i).toNat)
  case atStart => exact ⟨0, by omega, by simp, by rfl, rfl, F0.out⟩
  case round =>
    obtain ⟨j, hj, rfl, rfl, rfl, fr⟩ := hrel
    have FR := hid fr
    clear fr F0
    by_cases hjk : j < k
    · have hle : n / 256 ^ j ≤ n := Nat.div_le_self _ _
      have hdd : n / 256 ^ (j + 1) = n / 256 ^ j / 256 := by rw [Nat.pow_succ, Nat.div_div_eq_div_mul]
      have HBS := hid (be_succ n (k := j) (by omega))
      rw [← ofNat_mod] at HBS
      obtain ⟨x, hx⟩ : ∃ x, x = n / 256 ^ j := ⟨_, rfl⟩
      rw [← hx] at hle hdd HBS ⊢
      clear hx
      have hand : bits .and .i64 (x : Int) 255 = ((x % 256 : Nat) : Int) := by rw [and_8]; omega
      have hw8 : IntKind.u8.wrap ((x % 256 : Nat) : Int) = ((x % 256 : Nat) : Int) := by rw [IntKind.wrap_u8]; omega
      have hcell : bv [UInt8.ofNat (x % 256)] = [.int .u8 ((x % 256 : Nat) : Int)] := by simp [bv]
      have hcv := run_bytes_string (P := Tryz.prog) (w := wr.alloc (.cells #[.int .u8 ((x % 256 : Nat) : Int)] 5)) (l := [UInt8.ofNat (x % 256)]) (by rw [hcell]; exact Blk.all _ (Blk.new wr [.int .u8 ((x % 256 : Nat) : Int)] 5)) (src := 74) (dst := 9) Tryz.underlying74 Tryz.underlying5 Tryz.underlying9 1 1 rfl
      have hadd := fun w => run_add_bs (P := Tryz.prog) w [UInt8.ofNat (x % 256)] (be j n) (by rw [be_length _ _ (by omega)]; simp; omega)
      have i1 : (j : Int) < (k : Int) := by omega
      have HDD := hid hdd
      have F1 := hid (FR.out.alloc (.cells #[.int .u8 ((x % 256 : Nat) : Int)] 5))
      clear hcell hdd
      generalize x % 256 = z at *
      go_wp2_with (fail)
      go_roundw
      case rel => exact ⟨j + 1, by omega, by rw [HDD.out]; simp, by rw [HBS.out], by simp, F1.out⟩
      case measure => simp [intOf]; omega
    · obtain rfl : j = k := by omega
      go_wp2_with (fail)
      go_ret
      exact ⟨rfl, FR.out⟩
theorem r14one_go (n : Nat) (hn : n ≤ 9223372036854775807) (w : World) : Calls Tryz.prog 96 #[.int .i64 n] w fun e w' => e = .returned (.string (bs (be 1 n))) ∧ Fr (fun _ => False) w w' := by
  have HN := hid (fun w => rNum_go n 1 hn (by omega) w)
  go_enter Tryz.func96, Tryz.ntmps96
  go_wp2_with (go_at_call 98; refine (HN.out _).mono ?_; rintro e w1 ⟨rfl, f⟩; have F1 := hid f; clear f)
  go_ret
  exact ⟨rfl, F1.out⟩
theorem r14text_go (s : List UInt8) (hs : s.length ≤ 1099511627776) (w : World) : Calls Tryz.prog 97 #[.string (bs s)] w fun e w' => e = .returned (.string (bs (text s))) ∧ Fr (fun _ => False) w w' := by
  have HN := hid (fun w => rNum_go s.length 2 (by omega) (by omega) w)
  have e1 := bs_size s
  have hadd := fun w => run_add_bs (P := Tryz.prog) w (be 2 s.length) s (by rw [be_length _ _ (by omega)]; omega)
  unfold text
  go_enter Tryz.func97, Tryz.ntmps97
  go_wp2_with (go_at_call 98; refine (HN.out _).mono ?_; rintro e w1 ⟨rfl, f⟩; have F1 := hid f; clear f)
  go_ret
  exact ⟨rfl, F1.out⟩
end Go.Proofs.YtiimomgbklgicaaGreat
