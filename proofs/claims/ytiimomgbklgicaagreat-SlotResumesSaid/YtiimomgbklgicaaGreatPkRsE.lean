import Derived.Test.YtiimomgbklgicaaGreatPkRsD
set_option linter.unusedVariables false
namespace Go.VB.Cat
open Go.VB Go.VB.Oct
theorem renameE_no {m : List Tab} {s : St} (h : named s.join = false) : renameE m s = 1 := by unfold renameE; rw [if_pos h]
theorem renameE_none {m : List Tab} {s : St} (h : named s.join = true) (hf : find m s.table < 0) : renameE m s = 50 := by
  unfold renameE
  rw [if_neg (by rw [h]; decide)]
  cases m[(find m s.table).toNat]? with
  | none => rfl
  | some t => dsimp only; rw [if_pos hf]
theorem renameE_at {m : List Tab} {s : St} (h : named s.join = true) {i : Nat} (hi : i < m.length) (hf : find m s.table = (i : Int)) :
    renameE m s = if colOf m[i].cols s.name < 0 then 50 else if 0 ≤ colOf m[i].cols s.join then 51 else 0 := by
  unfold renameE
  rw [if_neg (by rw [h]; decide)]
  have e : (find m s.table).toNat = i := by omega
  rw [e, List.getElem?_eq_getElem hi]
  dsimp only
  rw [if_neg (by omega)]
theorem rename_err {m : List Tab} {s : St} {e : Int} (h : renameE m s = e) (he : e ≠ 0) : rename m s = (m, e) := by
  unfold rename
  rw [h, if_neg he]
theorem find_cases (m : List Tab) (n : Bs) : find m n < 0 ∨ ∃ i, ∃ _ : i < m.length, find m n = (i : Int) := by
  rcases pos_cases (fun t : Tab => t.name == n) m with ⟨h, _⟩ | ⟨i, hi, h, _⟩
  · left; unfold find; omega
  · right; exact ⟨i, hi, h⟩
end Go.VB.Cat
namespace Go.Proofs.YtiimomgbklgicaaGreat
open Go.RowKit Go.VB Go.VB.Oct Go.VB.Cat Go.VB.Rec
theorem size_tab : (Tryz.prog.info? 175).map (·.size) = some 4 := by kernel_rfl
/-- an end with an error -/
theorem err_fin {S : Nat → Prop} {w w' : World} {c : Nat} {v : Value} {ts : List TabV} (h : CRv 225 S w c v ts) {p : List Tab × Int} {e : Int} (he : p = (ts.map TabV.t, e)) (f : Fr (fun _ => False) w w') :
    Ending.returned (.int .i64 e) = .returned (.int .i64 p.2) ∧ CR 225 (Ext S w w') w' c p.1 ∧ Fr S w w' := by
  rw [he]
  exact ⟨rfl, CR.ext ⟨v, ts, h, rfl⟩ f, f.mono (fun _ h _ => h.elim)⟩
/-- the cells of table i -/
theorem tab_at {B : Nat} {W : World} {a : Option Addr} {c : Nat} {ts : List TabV} (h : Row 175 4 B W (.slice a ts.length c) ts.length (ts.flatMap TabV.cells)) {i : Nat} (hi : i < ts.length) :
    ∃ g, a = some ⟨g, 0, none⟩ ∧ B ≤ g ∧ W.rangeAt g (i * 4) (TabV.cells ts[i]) := by
  obtain ⟨g, h1, h2, h3⟩ := row_cells h (by
    intro e
    have := congrArg List.length e
    rw [flat_len (k := 4) (fun _ => rfl)] at this
    simp at this
    omega)
  refine ⟨g, h1, h2, fun j u hu => ?_⟩
  have hj : j < 4 := (List.getElem?_eq_some_iff.1 hu).1
  exact h3 _ u (by rw [flatK (k := 4) TabV.cells (fun _ => rfl) ts i hi j hj]; exact hu)
theorem row_set {e : TypeId} {size B n : Nat} {W : World} {v : Value} {xs : List Value} (h : Row e size B W v n xs) {g : Nat} (hg : v.ownBlock = some g) (j : Nat) (u : Value) : Row e size B (W.setCell ⟨g, j, none⟩ u) v n (xs.set j u) := by
  refine ⟨⟨by rw [List.length_set]; exact h.own.1, ?_⟩, h.new⟩
  rcases h.own.2 with ⟨rfl, _⟩ | ⟨g', cap, cur, rfl, hb, hgg, h1, h2, h3, h4⟩
  · simp [Value.ownBlock] at hg
  · simp [Value.ownBlock] at hg
    subst hg
    refine .inr ⟨g', cap, cur.setIfInBounds j u, rfl, hb, heap_setCell_same W g' j cur e u hgg, h1, h2, by simpa using h3, ?_⟩
    rw [Array.toList_setIfInBounds, List.take_set, h4]
theorem ren_flat : ∀ (l : List Col) (n : Nat) (nm : Bs), n < l.length → (renCol l n nm).flatMap Col.cells = (l.flatMap Col.cells).set (n * 2) (.string (bs nm))
  | [], n, nm, h => by simp at h
  | c :: l, 0, nm, h => by simp [renCol, Col.cells]
  | c :: l, n + 1, nm, h => by
    have ih := ren_flat l n nm (by simpa using h)
    unfold renCol at ih ⊢
    rw [List.modify_succ_cons, List.flatMap_cons, List.flatMap_cons, ih, show (n + 1) * 2 = n * 2 + 1 + 1 by omega]
    simp [Col.cells]
/-- the end of rename -/
theorem rename_end {S : Nat → Prop} {w w8 : World} {c : Nat} {v : Value} {ts : List TabV} {s : St} (h : CRv 225 S w c v ts) (he : renameE (ts.map TabV.t) s = 0) (f1 : Fr (fun _ => False) w w8) {i n g : Nat} (hi : i < ts.length) (hf : find (ts.map TabV.t) s.table = (i : Int))
    (hn : colOf ts[i].t.cols s.name = (n : Int)) (hg : ts[i].vc.ownBlock = some g) :
    CR 225 (Ext S w (w8.setCell ⟨g, n * 2, none⟩ (.string (bs s.join)))) (w8.setCell ⟨g, n * 2, none⟩ (.string (bs s.join))) c (rename (ts.map TabV.t) s).1 ∧ Fr S w (w8.setCell ⟨g, n * 2, none⟩ (.string (bs s.join))) := by
  have h8 := h.fre f1
  have T0 := h8.t _ (List.getElem_mem hi)
  have hgS : S g := T0.cS g hg
  obtain ⟨lg, hbg⟩ := row_blk T0.c hg
  have fs := (Fr.refl (fun k => k = g) w8).setCell ⟨g, n * 2, none⟩ (.string (bs s.join)) (fun _ => rfl)
  have z1 := f1.size
  have z2 := fs.size
  have hnl : n < ts[i].t.cols.length := by
    have := (col_ge ts[i].t.cols s.name).2
    rw [hn] at this
    omega
  have hF : Fr S w (w8.setCell ⟨g, n * 2, none⟩ (.string (bs s.join))) := (f1.mono (fun _ h _ => h.elim)).trans fs (fun k hk _ => by rw [hk]; exact hgS)
  obtain ⟨x, hx⟩ : ∃ x : TabV, x = ⟨{ ts[i].t with cols := renCol ts[i].t.cols n s.join }, ts[i].vc, ts[i].vi, ts[i].ix⟩ := ⟨_, rfl⟩
  have hxc : x.cells = ts[i].cells := by rw [hx]; rfl
  have hxv : x.vc = ts[i].vc := by rw [hx]
  have hxi : x.vi = ts[i].vi := by rw [hx]
  have dcp := List.pairwise_iff_getElem.1 h.dc
  have dip := List.pairwise_iff_getElem.1 h.di
  have hcells : (ts.set i x).flatMap TabV.cells = ts.flatMap TabV.cells := by
    rw [List.flatMap_def, List.flatMap_def, List.map_set, hxc]
    congr 1
    rw [show ts[i].cells = (ts.map TabV.cells)[i]'(by simpa using hi) by rw [List.getElem_map], List.set_getElem_self]
  have hbc : ∀ k, k = g → ¬ c = g := fun _ _ e => by
    subst e
    have := (h8.b.uniq hbg).2
    exact absurd this (by decide)
  refine ⟨⟨v, ts.set i x, ⟨h8.b.fr fs (fun e => hbc g rfl e), .inl h.bS, ?_, fun k hk => .inl (h.rS k hk), ?_, ?_, ?_, ?_⟩, ?_⟩, hF⟩
  · exact (h8.r.cast (by rw [List.length_set]) hcells.symm).fr fs (fun k hk e => h8.r.ne hbg (by decide) k hk e)
  · intro t ht
    obtain ⟨j, hj, rfl⟩ := List.getElem_of_mem ht
    have hj2 : j < ts.length := by rwa [List.length_set] at hj
    rw [List.getElem_set]
    split
    · rw [hx]
      refine ⟨?_, fun k hk => .inl (T0.cS k hk), T0.i.fr fs (fun k hk e => T0.i.ne hbg (by decide) k hk e), fun k hk => .inl (T0.iS k hk), T0.e, fun y hy => ⟨(T0.x y hy).1.fr fs (fun k hk e => (T0.x y hy).1.ne hbg (by decide) k hk e), fun k hk => .inl ((T0.x y hy).2 k hk)⟩⟩
      exact (row_set T0.c hg (n * 2) (.string (bs s.join))).cast (by rw [ren_len]) (ren_flat _ _ _ hnl).symm
    · rename_i hij
      have T1 := h8.t _ (List.getElem_mem hj2)
      have hne : ∀ k, (ts[j]).vc.ownBlock = some k → ¬ k = g := by
        intro k hk e
        subst e
        rcases Nat.lt_or_gt_of_ne hij with q | q
        · exact dcp i j hi hj2 q k hg hk
        · exact dcp j i hj2 hi q k hk hg
      exact ⟨T1.c.fr fs (fun k hk e => hne k hk e), fun k hk => .inl (T1.cS k hk), T1.i.fr fs (fun k hk e => T1.i.ne hbg (by decide) k hk e), fun k hk => .inl (T1.iS k hk), T1.e, fun y hy => ⟨(T1.x y hy).1.fr fs (fun k hk e => (T1.x y hy).1.ne hbg (by decide) k hk e), fun k hk => .inl ((T1.x y hy).2 k hk)⟩⟩
  · rw [List.pairwise_iff_getElem]
    intro a b ha hb hab
    have ha2 : a < ts.length := by rwa [List.length_set] at ha
    have hb2 : b < ts.length := by rwa [List.length_set] at hb
    have := dcp a b ha2 hb2 hab
    rw [List.getElem_set, List.getElem_set]
    split <;> split
    · omega
    · rename_i e _; subst e; rw [hxv]; exact this
    · rename_i e; subst e; rw [hxv]; exact this
    · exact this
  · rw [List.pairwise_iff_getElem]
    intro a b ha hb hab
    have ha2 : a < ts.length := by rwa [List.length_set] at ha
    have hb2 : b < ts.length := by rwa [List.length_set] at hb
    have := dip a b ha2 hb2 hab
    rw [List.getElem_set, List.getElem_set]
    split <;> split
    · omega
    · rename_i e _; subst e; rw [hxi]; exact this
    · rename_i e; subst e; rw [hxi]; exact this
    · exact this
  · intro k hk
    rcases hk with q | q
    · have := h.lt k q; omega
    · exact q.2
  · unfold rename
    rw [if_pos he]
    have e1 : (find (ts.map TabV.t) s.table).toNat = i := by omega
    rw [e1]
    dsimp only
    apply List.ext_getElem
    · simp
    · intro a h1 h2
      have ha : a < ts.length := by simpa using h1
      rw [List.getElem_map, List.getElem_set, List.getElem_modify]
      split
      · rename_i e
        subst e
        rw [hx, List.getElem_map]
        dsimp only
        rw [hn]
        rfl
      · rw [List.getElem_map]
set_option maxRecDepth 20000 in
set_option maxHeartbeats 4000000 in
theorem rename_go {S : Nat → Prop} {w : World} {c : Nat} {v : Value} {ts : List TabV} (h : CRv 225 S w c v ts) (hl : ts.length ≤ 8) (hcl : ∀ t ∈ ts, t.t.cols.length ≤ 6) (t : StV) (root : Int) :
    Calls Tryz.prog 169 #[.pointer (some ⟨c, 0, none⟩), .agg t.cells.toArray, .int .i64 root] w fun e w' => e = .returned (.int .i64 (rename (ts.map TabV.t) t.s).2) ∧ CR 225 (Ext S w w') w' c (rename (ts.map TabV.t) t.s).1 ∧ Fr S w w' := by
  obtain ⟨⟨kind, table, name, cols, names, join⟩, oc, cc, on, cn, a5, n5, c5, a6, n6, c6, a7, n7, c7, y9, y10, i11, a12, n12, c12, i13, i14⟩ := t
  have HC := hid h
  have HCL := hid hcl
  obtain ⟨s, hs⟩ : ∃ s : St, s = ⟨kind, table, name, cols, names, join⟩ := ⟨_, rfl⟩
  have hst : s.table = table := by rw [hs]
  have hsn : s.name = name := by rw [hs]
  have hsj : s.join = join := by rw [hs]
  unfold StV.cells
  dsimp only
  rw [← hs]
  have HE1 := hid (fun h => renameE_no (m := ts.map TabV.t) (s := s) h)
  have HE2 := hid (fun h1 h2 => renameE_none (m := ts.map TabV.t) (s := s) h1 h2)
  have HE3 := hid (fun h1 i hi hf => renameE_at (m := ts.map TabV.t) (s := s) h1 (i := i) hi hf)
  have HER := hid (fun e h he => rename_err (m := ts.map TabV.t) (s := s) (e := e) h he)
  rw [hst] at HE2 HE3
  rw [hsj] at HE1 HE2 HE3
  rw [hsn] at HE3
  have HSE := hid (And.intro hst (And.intro hsn hsj))
  clear h hcl hs hst hsn hsj
  have F1 := hid ((Fr.refl (fun _ => False) w).alloc (.cells #[.int .i64 kind, .string (bs table), .string (bs name), .slice oc cols.length cc, .slice on names.length cn, .slice a5 n5 c5, .slice a6 n6 c6, .slice a7 n7 c7, .string (bs join), .string y9, .string y10, .int .i64 i11, .slice a12 n12 c12, .int .i64 i13, .int .i64 i14] 90))
  have B1 := hid (Blk.new w [.int .i64 kind, .string (bs table), .string (bs name), .slice oc cols.length cc, .slice on names.length cn, .slice a5 n5 c5, .slice a6 n6 c6, .slice a7 n7 c7, .string (bs join), .string y9, .string y10, .int .i64 i11, .slice a12 n12 c12, .int .i64 i13, .int .i64 i14] 90)
  go_enter Tryz.func169, Tryz.ntmps169
  go_upto_region 1 with fail
  generalize hd : w.heap.size = d at *
  have HD := hid hd
  clear hd
  generalize w.alloc _ = W1 at *
  obtain ⟨q1, q8⟩ : W1.cell? ⟨d, 1, none⟩ = some (.string (bs table)) ∧ W1.cell? ⟨d, 8, none⟩ = some (.string (bs join)) := ⟨B1.out.cell 1, B1.out.cell 8⟩
  have HNM := hid (named_go join)
  cases hnj : named join with
  | false =>
    have HX := hid (HER.out 1 (HE1.out hnj) (by decide))
    rw [hnj] at HNM
    clear HE1 HE2 HE3 HER hnj
    go_wp2_with (go_at_call 178; refine (HNM.out _).mono ?_; rintro e w3 ⟨rfl, rfl⟩)
    go_ret
    exact err_fin HC.out HX.out F1.out
  | true =>
    have HE2' := hid (HE2.out hnj)
    have HE3' := hid (HE3.out hnj)
    rw [hnj] at HNM
    clear HE1 HE2 HE3 hnj
    have HFI := hid (find_go (HC.out.fre F1.out) (by omega) table)
    obtain ⟨z, hz⟩ : ∃ z, find (ts.map TabV.t) table = z := ⟨_, rfl⟩
    have hzc := find_cases (ts.map TabV.t) table
    rw [hz] at HFI HE2' HE3' hzc
    have HZ := hid hz
    clear hz
    rcases hzc with hz0 | ⟨i, hi, rfl⟩
    · have HX := hid (HER.out 50 (HE2'.out hz0) (by decide))
      clear HE2' HE3' HER
      go_wp2_with (first
        | (go_at_call 178; refine (HNM.out _).mono ?_; rintro e w3 ⟨rfl, rfl⟩)
        | (go_at_call 184; refine HFI.out.mono ?_; rintro e w4 ⟨rfl, f⟩; have F2 := hid (F1.out.trans f (fun _ h _ => h)); clear f))
      go_ret
      exact err_fin HC.out HX.out F2.out
    · have HE4 := hid (HE3'.out i hi rfl)
      have hit : i < ts.length := by simpa using hi
      clear HE2' HE3'
      go_upto_region 6 with (first
        | (go_at_call 178; refine (HNM.out _).mono ?_; rintro e w3 ⟨rfl, rfl⟩)
        | (go_at_call 184; refine HFI.out.mono ?_; rintro e w4 ⟨rfl, f⟩; have F2 := hid (F1.out.trans f (fun _ h _ => h)); have B2 := hid (Blk.fr B1.out f (fun h => h)); clear f))
      clear HNM HFI q1 q8 B1 F1
      have HC4 := hid (HC.out.fre F2.out)
      obtain ⟨av, cv, rfl, hcap⟩ := HC.out.r.slice
      obtain ⟨g, rfl, -, hr⟩ := tab_at HC4.out.r hit
      have HXT := hid (HC.out.t _ (List.getElem_mem hit))
      have hxl := HCL.out _ (List.getElem_mem hit)
      rw [List.getElem_map] at HE4
      obtain ⟨x, hx⟩ : ∃ x, x = ts[i] := ⟨_, rfl⟩
      have HXI := hid hx
      rw [← hx] at hr HXT hxl HE4
      have k0 : w4.cell? ⟨c, 0, none⟩ = some (.slice (some ⟨g, 0, none⟩) ts.length cv) := HC4.out.b.cell 0
      have j1 : (0 : Int) ≤ (i : Int) := by omega
      have j2 : (i : Int) < (ts.length : Int) := by omega
      clear hx
      go_upto_region 7 with fail
      have fd := (Fr.refl (fun _ => False) w4).drew
      have F3 := hid (F2.out.trans fd (fun _ h _ => h))
      have B3 := hid (Blk.fr B2.out fd (fun h => h))
      have HR3 := hid (fun j u hu => cell_fr (hr j u hu) fd (fun h => h) : w4.drew.rangeAt g (i * 4) [.int .i64 x.t.id, .string (bs x.t.name), x.vc, x.vi])
      have HCO := hid (fun (W : World) (f : Fr (fun _ => False) w W) (n : Bs) => Col_go x.t.id x.t.name (vi := x.vi) n ((HXT.out.fr f (fun _ _ h => h)).c.sl' (R := fun _ => True) (fun _ _ => trivial)) (by omega))
      clear hr k0 fd B2 F2 HC4
      obtain ⟨z1, hz1⟩ : ∃ z, colOf x.t.cols name = z := ⟨_, rfl⟩
      obtain ⟨z2, hz2⟩ : ∃ z, colOf x.t.cols join = z := ⟨_, rfl⟩
      have HL1 := hid (HCO.out w4.drew F3.out name)
      rw [hz1] at HL1 HE4
      rw [hz2] at HE4
      have HZ1 := hid hz1
      have HZ2 := hid hz2
      clear hz1 hz2
      refine wp_region_scr (.take 0 (.take 1 (.take 2 (.take 3 (.take 4 (.op 5 (.take 6 .done))))))) (fun kz w => (kz ≤ 6 → w.rangeAt g (i * 4) [.int .i64 x.t.id, .string (bs x.t.name), x.vc, x.vi]) ∧ w.cell? ⟨d, 2, none⟩ = some (.string (bs name))) (by kernel_rfl) (by kernel_rfl) (by intro c a d v w h; cases d <;> exact h) ?_
      repeat
        first
        | (refine wpT_pure rfl rfl rfl ?_; apply Exists.intro; refine ⟨?_, ?_⟩; intro w; (first | (first | exact run_load_mid _ _ rfl g _ rfl _ _ qa Tryz.underlying175 rfl size_tab | (go_simp <;> rfl)) | (go_simp <;> rfl)); simp only [Act.put, List.setIfInBounds_toArray, List.set_cons_zero, List.set_cons_succ])
        | (refine wpT_take 6 rfl rfl (by decide +kernel) ⟨fun _ => HR3.out, B3.out.cell 2⟩ ?_; apply Exists.intro; refine ⟨?_, ?_⟩; intro w hw; (have qa := hw.1 (Nat.le_refl _); have qb := hw.2); (first | (first | exact run_load_mid _ _ rfl g _ rfl _ _ qa Tryz.underlying175 rfl size_tab | (go_simp <;> rfl)) | (go_simp <;> rfl)); simp only [Act.put, List.setIfInBounds_toArray, List.set_cons_zero, List.set_cons_succ])
        | (refine wpT_skip rfl rfl ?_; simp only [Act.put, List.setIfInBounds_toArray, List.set_cons_zero, List.set_cons_succ])
      refine wpT_op rfl ?_
      go_wp2_with ((go_at_call 185; refine HL1.out.mono ?_; rintro e w5 ⟨rfl, f⟩; have F4 := hid (F3.out.trans f (fun _ h _ => h)); have B4 := hid (Blk.fr B3.out f (fun h => h)); have HR4 := hid (fun j u hu => cell_fr (HR3.out j u hu) f (fun h => h) : w5.rangeAt g (i * 4) [.int .i64 x.t.id, .string (bs x.t.name), x.vc, x.vi]); clear f))
      (refine ⟨?_, ?_⟩; focus (intro kz hk hk2 hh; first | (exfalso; simp at hk2; omega) | exact hh | exact (fun h => absurd h (by omega)) | obtain ⟨qa, qb⟩ := hh; first | exact ⟨qa, qb⟩ | (refine ⟨fun h => absurd h (by omega), ?_⟩; first | exact qb | (first | exact HR4.out | exact B4.out.cell 2)) | (refine ⟨fun h => ?_, ?_⟩; (have qa := qa h); all_goals (first | exact qa | exact qb | (first | exact HR4.out | exact B4.out.cell 2)))))
      repeat
        first
        | (refine wpT_pure rfl rfl rfl ?_; apply Exists.intro; refine ⟨?_, ?_⟩; intro w; (first | (first | exact run_load_mid _ _ rfl g _ rfl _ _ qa Tryz.underlying175 rfl size_tab | (go_simp <;> rfl)) | (go_simp <;> rfl)); simp only [Act.put, List.setIfInBounds_toArray, List.set_cons_zero, List.set_cons_succ])
        | (refine wpT_take 6 rfl rfl (by decide +kernel) ⟨fun _ => HR4.out, B4.out.cell 2⟩ ?_; apply Exists.intro; refine ⟨?_, ?_⟩; intro w hw; (have qa := hw.1 (Nat.le_refl _); have qb := hw.2); (first | (first | exact run_load_mid _ _ rfl g _ rfl _ _ qa Tryz.underlying175 rfl size_tab | (go_simp <;> rfl)) | (go_simp <;> rfl)); simp only [Act.put, List.setIfInBounds_toArray, List.set_cons_zero, List.set_cons_succ])
        | (refine wpT_skip rfl rfl ?_; simp only [Act.put, List.setIfInBounds_toArray, List.set_cons_zero, List.set_cons_succ])
      refine wpT_nil ?_
      clear HL1 B3 HR3 F3
      by_cases hz1 : z1 < 0
      · have HX := hid (HER.out 50 (HE4.out.trans (if_pos hz1)) (by decide))
        clear HE4 HER
        go_wp2_with (fail)
        go_ret
        exact err_fin HC.out HX.out F4.out
      · have HE5 := hid (HE4.out.trans (if_neg hz1))
        clear HE4
        go_upto_region 10 with fail
        have fd := (Fr.refl (fun _ => False) w5).drew
        have F5 := hid (F4.out.trans fd (fun _ h _ => h))
        have B5 := hid (Blk.fr B4.out fd (fun h => h))
        have HR5 := hid (fun j u hu => cell_fr (HR4.out j u hu) fd (fun h => h) : w5.drew.rangeAt g (i * 4) [.int .i64 x.t.id, .string (bs x.t.name), x.vc, x.vi])
        have HL2 := hid (HCO.out w5.drew F5.out join)
        rw [HZ2.out] at HL2
        clear fd B4 HR4 F4 HCO
        refine wp_region_scr (.take 0 (.take 1 (.take 2 (.take 3 (.take 4 (.op 5 (.take 6 (.take 7 .done)))))))) (fun kz w => (kz ≤ 8 → w.rangeAt g (i * 4) [.int .i64 x.t.id, .string (bs x.t.name), x.vc, x.vi]) ∧ w.cell? ⟨d, 8, none⟩ = some (.string (bs join))) (by kernel_rfl) (by kernel_rfl) (by intro c a d v w h; cases d <;> exact h) ?_
        repeat
          first
          | (refine wpT_pure rfl rfl rfl ?_; apply Exists.intro; refine ⟨?_, ?_⟩; intro w; (first | (first | exact run_load_mid _ _ rfl g _ rfl _ _ qa Tryz.underlying175 rfl size_tab | (go_simp <;> rfl)) | (go_simp <;> rfl)); simp only [Act.put, List.setIfInBounds_toArray, List.set_cons_zero, List.set_cons_succ])
          | (refine wpT_take 8 rfl rfl (by decide +kernel) ⟨fun _ => HR5.out, B5.out.cell 8⟩ ?_; apply Exists.intro; refine ⟨?_, ?_⟩; intro w hw; (have qa := hw.1 (Nat.le_refl _); have qb := hw.2); (first | (first | exact run_load_mid _ _ rfl g _ rfl _ _ qa Tryz.underlying175 rfl size_tab | (go_simp <;> rfl)) | (go_simp <;> rfl)); simp only [Act.put, List.setIfInBounds_toArray, List.set_cons_zero, List.set_cons_succ])
          | (refine wpT_skip rfl rfl ?_; simp only [Act.put, List.setIfInBounds_toArray, List.set_cons_zero, List.set_cons_succ])
        refine wpT_op rfl ?_
        go_wp2_with ((go_at_call 185; refine HL2.out.mono ?_; rintro e w6 ⟨rfl, f⟩; have F6 := hid (F5.out.trans f (fun _ h _ => h)); have B6 := hid (Blk.fr B5.out f (fun h => h)); have HR6 := hid (fun j u hu => cell_fr (HR5.out j u hu) f (fun h => h) : w6.rangeAt g (i * 4) [.int .i64 x.t.id, .string (bs x.t.name), x.vc, x.vi]); clear f))
        (refine ⟨?_, ?_⟩; focus (intro kz hk hk2 hh; first | (exfalso; simp at hk2; omega) | exact hh | exact (fun h => absurd h (by omega)) | obtain ⟨qa, qb⟩ := hh; first | exact ⟨qa, qb⟩ | (refine ⟨fun h => absurd h (by omega), ?_⟩; first | exact qb | (first | exact HR6.out | exact B6.out.cell 8)) | (refine ⟨fun h => ?_, ?_⟩; (have qa := qa h); all_goals (first | exact qa | exact qb | (first | exact HR6.out | exact B6.out.cell 8)))))
        repeat
          first
          | (refine wpT_pure rfl rfl rfl ?_; apply Exists.intro; refine ⟨?_, ?_⟩; intro w; (first | (first | exact run_load_mid _ _ rfl g _ rfl _ _ qa Tryz.underlying175 rfl size_tab | (go_simp <;> rfl)) | (go_simp <;> rfl)); simp only [Act.put, List.setIfInBounds_toArray, List.set_cons_zero, List.set_cons_succ])
          | (refine wpT_take 8 rfl rfl (by decide +kernel) ⟨fun _ => HR6.out, B6.out.cell 8⟩ ?_; apply Exists.intro; refine ⟨?_, ?_⟩; intro w hw; (have qa := hw.1 (Nat.le_refl _); have qb := hw.2); (first | (first | exact run_load_mid _ _ rfl g _ rfl _ _ qa Tryz.underlying175 rfl size_tab | (go_simp <;> rfl)) | (go_simp <;> rfl)); simp only [Act.put, List.setIfInBounds_toArray, List.set_cons_zero, List.set_cons_succ])
          | (refine wpT_skip rfl rfl ?_; simp only [Act.put, List.setIfInBounds_toArray, List.set_cons_zero, List.set_cons_succ])
        refine wpT_nil ?_
        clear HL2 B5 HR5 F5
        by_cases hz2 : 0 ≤ z2
        · have HX := hid (HER.out 51 (HE5.out.trans (if_pos hz2)) (by decide))
          clear HE5 HER
          go_wp2_with (fail)
          go_ret
          exact err_fin HC.out HX.out F6.out
        · have HX := hid (HE5.out.trans (if_neg hz2))
          clear HE5 HER
          go_upto_region 12 with fail
          obtain ⟨n, rfl⟩ : ∃ n : Nat, z1 = (n : Int) := ⟨z1.toNat, by omega⟩
          have hnl : n < x.t.cols.length := by
            have := (col_ge x.t.cols name).2
            rw [HZ1.out] at this
            omega
          have RC := (HXT.out.fr F6.out (fun _ _ h => h)).c
          obtain ⟨ac, ccap, hvc, hle⟩ := RC.slice
          rw [hvc] at RC HR6 ⊢
          obtain ⟨g2, rfl, -, hcell⟩ := row_cells RC (by
            intro e
            have := congrArg List.length e
            rw [flat_len (k := 2) (fun _ => rfl)] at this
            simp only [List.length_nil] at this
            omega)
          obtain ⟨l2, hb2⟩ := row_blk RC (k := g2) rfl
          have hc2 : w6.cell? ⟨g2, n * 2, none⟩ = some (.string (bs x.t.cols[n].name)) := hcell (n * 2) _ (by
            have := flatK (k := 2) Col.cells (fun _ => rfl) x.t.cols n hnl 0 (by omega)
            rw [Nat.add_zero] at this
            rw [this]; rfl)
          have hz3 := hb2.frozen (n * 2)
          have j3 : (0 : Int) ≤ (n : Int) := by omega
          have j4 : (n : Int) < (x.t.cols.length : Int) := by omega
          have HVO := hid (show x.vc.ownBlock = some g2 by rw [hvc]; rfl)
          clear RC hcell hb2
          have fd := (Fr.refl (fun _ => False) w6).drew
          have F7 := hid (F6.out.trans fd (fun _ h _ => h))
          have B7 := hid (Blk.fr B6.out fd (fun h => h))
          have HR7 := hid (cell_fr (HR6.out 2 _ rfl) fd (fun h => h))
          have k2 : w6.drew.cell? ⟨g2, n * 2, none⟩ = some (.string (bs x.t.cols[n].name)) := cell_fr hc2 fd (fun h => h)
          have z2' : w6.drew.frozen? ⟨g2, n * 2, none⟩ = false := hz3
          clear fd HR6 B6 hc2 hz3 hvc
          have HEND := hid (rename_end (s := s) HC.out HX.out F7.out hit (by rw [HSE.out.1]; exact HZ.out) (n := n) (g := g2) (by rw [HSE.out.2.1, ← HXI.out]; exact HZ1.out) (by rw [← HXI.out]; exact HVO.out))
          rw [HSE.out.2.2] at HEND
          have HQ := hid (show (0 : Int) = (rename (ts.map TabV.t) s).2 from by unfold rename; rw [if_pos HX.out])
          refine wp_region_scr (.take 0 (.take 1 (.take 2 (.take 3 (.take 4 (.take 5 (.take 6 (.take 7 (.take 8 (.op 9 .done)))))))))) (fun kz w => (kz ≤ 9 → w.cell? ⟨g, i * 4 + 2, none⟩ = some (.slice (some ⟨g2, 0, none⟩) x.t.cols.length ccap) ∧ w.cell? ⟨d, 8, none⟩ = some (.string (bs join))) ∧ True) (by kernel_rfl) (by kernel_rfl) (by intro c a d v w h; cases d <;> exact h) ?_
          repeat
            first
            | (refine wpT_pure rfl rfl rfl ?_; apply Exists.intro; refine ⟨?_, ?_⟩; intro w; (first | (obtain ⟨qa1, qa2⟩ := qa; go_simp <;> rfl) | (go_simp <;> rfl)); simp only [Act.put, List.setIfInBounds_toArray, List.set_cons_zero, List.set_cons_succ])
            | (refine wpT_take 9 rfl rfl (by decide +kernel) ⟨fun _ => ⟨HR7.out, B7.out.cell 8⟩, trivial⟩ ?_; apply Exists.intro; refine ⟨?_, ?_⟩; intro w hw; (have qa := hw.1 (Nat.le_refl _); have qb := hw.2); (first | (obtain ⟨qa1, qa2⟩ := qa; go_simp <;> rfl) | (go_simp <;> rfl)); simp only [Act.put, List.setIfInBounds_toArray, List.set_cons_zero, List.set_cons_succ])
            | (refine wpT_skip rfl rfl ?_; simp only [Act.put, List.setIfInBounds_toArray, List.set_cons_zero, List.set_cons_succ])
          refine wpT_op rfl ?_
          go_wp2_with (fail)
          (refine ⟨?_, ?_⟩; focus (intro kz hk hk2 hh; first | (exfalso; simp at hk2; omega) | exact hh | exact (fun h => absurd h (by omega)) | obtain ⟨qa, qb⟩ := hh; first | exact ⟨qa, qb⟩ | (refine ⟨fun h => absurd h (by omega), ?_⟩; first | exact qb | (trivial)) | (refine ⟨fun h => ?_, ?_⟩; (have qa := qa h); all_goals (first | exact qa | exact qb | (trivial)))))
          refine wpT_nil ?_
          go_wp2_with (fail)
          go_ret
          exact ⟨ret_int HQ.out, HEND.out.1, HEND.out.2⟩
end Go.Proofs.YtiimomgbklgicaaGreat
namespace Go.Proofs.YtiimomgbklgicaaGreat
open Go.RowKit Go.VB Go.VB.Oct Go.VB.Cat Go.VB.Rec
theorem index1_go (x : IxV) (s : Bs) (d : Nat) {w : World} (hb : w.cell? ⟨d, 2, none⟩ = some (.string (bs s))) :
    Calls Tryz.prog 186 #[IxV.agg x, .pointer (some ⟨d, 0, none⟩)] w fun e w' => e = .returned (.bool (x.x.name == s)) ∧ Fr (fun _ => False) w w' := by
  obtain ⟨⟨name, cols, root⟩, v⟩ := x
  unfold IxV.agg IxV.cells
  dsimp only
  have F1 := hid ((Fr.refl (fun _ => False) w).alloc (.cells #[.string (bs name), v, .int .i64 root] 177))
  have hb2 := cell_fr hb F1.out (fun h => h)
  have HB := hid (beq_bs name s)
  go_enter Tryz.func186, Tryz.ntmps186
  go_wp2_with (fail)
  go_ret
  exact ⟨ret_bool HB.out, F1.out⟩
set_option maxRecDepth 20000 in
theorem index2_go {R : Nat → Prop} (t : TabV) (s : Bs) (d e : Nat) {w : World} (hb : w.cell? ⟨d, 2, none⟩ = some (.string (bs s))) (he : w.cell? ⟨e, 0, none⟩ = some (.func (.func 186) #[] #[.pointer (some ⟨d, 0, none⟩)]))
    (hs : Sl R w t.vi t.ix.length (t.ix.flatMap IxV.cells)) (hl : t.ix.length ≤ 1048576) :
    Calls Tryz.prog 189 #[TabV.agg t, .pointer (some ⟨e, 0, none⟩)] w fun e w' => e = .returned (.bool (t.ix.any fun x => x.x.name == s)) ∧ Fr (fun _ => False) w w' := by
  obtain ⟨⟨id, name, cols, ixs⟩, vc, vi, ix⟩ := t
  unfold TabV.agg TabV.cells
  dsimp only at hs hl ⊢
  have F1 := hid ((Fr.refl (fun _ => False) w).alloc (.cells #[.int .i64 id, .string (bs name), vc, vi] 175))
  have hb2 := cell_fr hb F1.out (fun h => h)
  have he2 := cell_fr he F1.out (fun h => h)
  have HC := hid (ContainsFunc_ix (cv := .pointer (some ⟨d, 0, none⟩)) (p := fun x : IxV => x.x.name == s) (hs.fr F1.out (fun _ _ h => h)) (by omega) (fun x _ w' f => index1_go x s d (cell_fr hb2 f (fun h => h))))
  generalize (ix.any fun x => x.x.name == s) = b at *
  clear hs hb he hb2
  go_enter Tryz.func189, Tryz.ntmps189
  go_wp2_with (go_at_call 190; refine HC.out.mono ?_; rintro e w1 ⟨rfl, f⟩; have F2 := hid (F1.out.trans f (fun _ h _ => h)); clear f)
  go_ret
  exact ⟨rfl, F2.out⟩
end Go.Proofs.YtiimomgbklgicaaGreat
namespace Go.Proofs.YtiimomgbklgicaaGreat
open Go.RowKit Go.VB Go.VB.Oct Go.VB.Cat Go.VB.Rec
theorem ix_flat (x : TabV) : ∀ (l : List TabV) (i : Nat) (hi : i < l.length), x.t.id = l[i].t.id → x.t.name = l[i].t.name → x.vc = l[i].vc → (l.set i x).flatMap TabV.cells = (l.flatMap TabV.cells).set (i * 4 + 3) x.vi
  | [], i, h, _, _, _ => by simp at h
  | t :: l, 0, h, h1, h2, h3 => by
    simp only [List.getElem_cons_zero] at h1 h2 h3
    simp [TabV.cells, h1, h2, h3]
  | t :: l, i + 1, h, h1, h2, h3 => by
    have ih := ix_flat x l i (by simpa using h) (by simpa using h1) (by simpa using h2) (by simpa using h3)
    rw [List.set_cons_succ, List.flatMap_cons, List.flatMap_cons, ih, show (i + 1) * 4 + 3 = i * 4 + 3 + 1 + 1 + 1 + 1 by omega]
    simp [TabV.cells]
theorem index_end {S : Nat → Prop} {w w8 wg : World} {c : Nat} {v : Value} {ts : List TabV} {s : St} {root : Int} (h : CRv 225 S w c v ts) (he : indexE (ts.map TabV.t) s root = 0) (f1 : Fr (fun _ => False) w w8) {i g : Nat} (hi : i < ts.length) (hf : find (ts.map TabV.t) s.table = (i : Int))
    (hg : v.ownBlock = some g) {vn vi' : Value} {B : Nat} (hB : w.heap.size ≤ B) (rc : Row 3 1 B w8 vn s.names.length ((s.names.map (colOf ts[i].t.cols)).flatMap icell))
    (app : App 177 3 0 w8 wg ts[i].vi vi' ts[i].ix.length (ts[i].ix.flatMap IxV.cells) [.string (bs s.name), vn, .int .i64 root]) :
    CR 225 (Ext S w (wg.setCell ⟨g, i * 4 + 3, none⟩ vi')) (wg.setCell ⟨g, i * 4 + 3, none⟩ vi') c (index (ts.map TabV.t) s root).1 ∧ Fr S w (wg.setCell ⟨g, i * 4 + 3, none⟩ vi') := by
  have h8 := h.fre f1
  have T0 := h8.t _ (List.getElem_mem hi)
  have hgS : S g := h.rS g hg
  have fg := app.fr
  have nig := rows_ne T0.i h8.r (by decide)
  have rg := h8.r.fr fg (fun k hk e => nig k e hk)
  obtain ⟨lg, hbg⟩ := row_blk rg hg
  have fs := (Fr.refl (fun k => k = g) wg).setCell ⟨g, i * 4 + 3, none⟩ vi' (fun _ => rfl)
  have z1 := f1.size
  have z2 := fg.size
  have z3 := fs.size
  have hF : Fr S w (wg.setCell ⟨g, i * 4 + 3, none⟩ vi') := ((f1.mono (fun _ h _ => h.elim)).trans fg (fun k hk _ => (h.t _ (List.getElem_mem hi)).iS k hk)).trans fs (fun k hk _ => by rw [hk]; exact hgS)
  obtain ⟨x, hx⟩ : ∃ x : TabV, x = ⟨{ ts[i].t with ixs := ts[i].t.ixs ++ [s.ix ts[i].t root] }, ts[i].vc, vi', ts[i].ix ++ [⟨s.ix ts[i].t root, vn⟩]⟩ := ⟨_, rfl⟩
  have hxi : x.vi = vi' := by rw [hx]
  have hxv : x.vc = ts[i].vc := by rw [hx]
  have dip := List.pairwise_iff_getElem.1 h.di
  have dcp := List.pairwise_iff_getElem.1 h.dc
  have hcells : (ts.set i x).flatMap TabV.cells = (ts.flatMap TabV.cells).set (i * 4 + 3) vi' := by
    rw [ix_flat x ts i hi (by rw [hx]) (by rw [hx]) hxv, hxi]
  have bg := Blk.fr h8.b fg (fun hk => T0.i.ne h8.b (by decide) c hk rfl)
  have hbc : ¬ c = g := fun e => by
    subst e
    have := (bg.uniq hbg).2
    exact absurd this (by decide)
  have hnew : ∀ k, vi'.ownBlock = some k → ∀ j (hj : j < ts.length), j ≠ i → ts[j].vi.ownBlock ≠ some k := by
    intro k hk j hj hji e
    rcases app.at_ k hk with q | q
    · rcases Nat.lt_or_gt_of_ne hji with r | r
      · exact dip j i hj hi r k e q
      · exact dip i j hi hj r k q e
    · have := h.lt k ((h.t _ (List.getElem_mem hj)).iS k e)
      omega
  refine ⟨⟨v, ts.set i x, ⟨bg.fr fs hbc, .inl h.bS, ?_, fun k hk => .inl (h.rS k hk), ?_, ?_, ?_, ?_⟩, ?_⟩, hF⟩
  · exact (row_set rg hg (i * 4 + 3) vi').cast (by rw [List.length_set]) hcells.symm
  · intro t ht
    obtain ⟨j, hj, rfl⟩ := List.getElem_of_mem ht
    have hj2 : j < ts.length := by rwa [List.length_set] at hj
    rw [List.getElem_set]
    split
    · rw [hx]
      have hc := T0.c.fr fg (rows_ne T0.c T0.i (by decide))
      have hv := (rc.low (Nat.zero_le _)).fr fg (rows_ne rc T0.i (by decide))
      refine ⟨hc.fr fs (fun k hk e => hc.ne hbg (by decide) k hk e), fun k hk => .inl (T0.cS k hk), (app.row.cast (by simp) (by simp [IxV.cells, St.ix])).fr fs (fun k hk e => app.row.ne hbg (by decide) k hk e), ?_, ?_, ?_⟩
      · intro k hk
        rcases app.at_ k hk with q | q
        · exact .inl (T0.iS k q)
        · have := app.row.lt hk
          exact .inr ⟨by omega, by omega⟩
      · simp [T0.e]
      · intro y hy
        rcases List.mem_append.1 hy with q | q
        · have h1 := (T0.x y q).1.fr fg (rows_ne (T0.x y q).1 T0.i (by decide))
          exact ⟨h1.fr fs (fun k hk e => h1.ne hbg (by decide) k hk e), fun k hk => .inl ((T0.x y q).2 k hk)⟩
        · rw [List.mem_singleton.1 q]
          refine ⟨(hv.fr fs (fun k hk e => hv.ne hbg (by decide) k hk e)).cast (by simp [St.ix]) (by simp [St.ix]), fun k hk => .inr ⟨Nat.le_trans hB (rc.new k hk), ?_⟩⟩
          have := rc.lt hk
          omega
    · rename_i hij
      have T1 := h8.t _ (List.getElem_mem hj2)
      have hc := T1.c.fr fg (rows_ne T1.c T0.i (by decide))
      have hi1 := T1.i.fr fg (fun k hk e => by
        rcases Nat.lt_or_gt_of_ne hij with q | q
        · exact dip i j hi hj2 q k e hk
        · exact dip j i hj2 hi q k hk e)
      refine ⟨hc.fr fs (fun k hk e => hc.ne hbg (by decide) k hk e), fun k hk => .inl (T1.cS k hk), hi1.fr fs (fun k hk e => hi1.ne hbg (by decide) k hk e), fun k hk => .inl (T1.iS k hk), T1.e, fun y hy => ?_⟩
      have h1 := (T1.x y hy).1.fr fg (rows_ne (T1.x y hy).1 T0.i (by decide))
      exact ⟨h1.fr fs (fun k hk e => h1.ne hbg (by decide) k hk e), fun k hk => .inl ((T1.x y hy).2 k hk)⟩
  · rw [List.pairwise_iff_getElem]
    intro a b ha hb hab
    have ha2 : a < ts.length := by rwa [List.length_set] at ha
    have hb2 : b < ts.length := by rwa [List.length_set] at hb
    have := dcp a b ha2 hb2 hab
    rw [List.getElem_set, List.getElem_set]
    split <;> split
    · omega
    · rename_i e _; subst e; rw [hxv]; exact this
    · rename_i e; subst e; rw [hxv]; exact this
    · exact this
  · rw [List.pairwise_iff_getElem]
    intro a b ha hb hab
    have ha2 : a < ts.length := by rwa [List.length_set] at ha
    have hb2 : b < ts.length := by rwa [List.length_set] at hb
    have := dip a b ha2 hb2 hab
    rw [List.getElem_set, List.getElem_set]
    split <;> split
    · omega
    · rename_i e _; subst e; rw [hxi]; exact fun k hk => hnew k hk b hb2 (by omega)
    · rename_i e; subst e; rw [hxi]; exact fun k hk hk2 => hnew k hk2 a ha2 (by omega) hk
    · exact this
  · intro k hk
    rcases hk with q | q
    · have := h.lt k q; omega
    · exact q.2
  · unfold index
    rw [if_pos he]
    have e1 : (find (ts.map TabV.t) s.table).toNat = i := by omega
    rw [e1]
    dsimp only
    apply List.ext_getElem
    · simp
    · intro a h1 h2
      have ha : a < ts.length := by simpa using h1
      rw [List.getElem_map, List.getElem_set, List.getElem_modify]
      split
      · rename_i e
        subst e
        rw [hx, List.getElem_map]
      · rw [List.getElem_map]
end Go.Proofs.YtiimomgbklgicaaGreat
