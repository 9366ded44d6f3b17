import Derived.Test.YtiimomgbklgicaaGreatPkRsM
set_option linter.unusedVariables false
namespace Go.Proofs.YtiimomgbklgicaaGreat
open Go.RowKit Go.VB Go.VB.Oct Go.VB.Cat Go.VB.Rec
theorem ixv_one {l : List IxV} (h : ∀ x ∈ l, ∃ a n c, x.v = .slice a n c) : ∀ u ∈ l.flatMap IxV.cells, u.oneCell' = true := by
  intro u hu
  obtain ⟨x, hx, hu2⟩ := List.mem_flatMap.1 hu
  obtain ⟨a, n, c, e⟩ := h x hx
  simp only [IxV.cells, List.mem_cons, List.not_mem_nil, or_false] at hu2
  rcases hu2 with rfl | rfl | rfl
  · rfl
  · rw [e]; rfl
  · rfl
theorem map_set_ix {ts : List TabV} {i : Nat} (x : TabV) {f : Tab → Tab} (hi : i < ts.length) (hx : x.t = f ts[i].t) : (ts.set i x).map TabV.t = setT (ts.map TabV.t) i f := by
  apply List.ext_getElem
  · rw [List.length_map, List.length_set, setT_len, List.length_map]
  · intro j h1 h2
    rw [List.getElem_map, List.getElem_set, setT_get h2]
    split
    · rename_i e; subst e; rw [hx, List.getElem_map]
    · rw [List.getElem_map]
/-- the end of the reference's index -/
theorem index_endR {S : Nat → Prop} {w w8 : World} {c : Nat} {v : Value} {ts : List TabV} {s : St} {root : Int} (h : CRv 83 S w c v ts) (he : indexE (ts.map TabV.t) s root = 0) (f1 : Fr (fun _ => False) w w8) {i g : Nat} (hi : i < ts.length) (hf : find (ts.map TabV.t) s.table = (i : Int))
    (hg : v.ownBlock = some g) {vn vi' : Value} (rc : Row 3 1 w.heap.size w8 vn s.names.length ((s.names.map (colOf ts[i].t.cols)).flatMap icell))
    (ri : Row 177 3 w.heap.size w8 vi' (ts[i].ix.length + 1) (ts[i].ix.flatMap IxV.cells ++ [.string (bs s.name), vn, .int .i64 root])) :
    CR 83 (Ext S w (w8.setCell ⟨g, i * 4 + 3, none⟩ vi')) (w8.setCell ⟨g, i * 4 + 3, none⟩ vi') c (index (ts.map TabV.t) s root).1 ∧ Fr S w (w8.setCell ⟨g, i * 4 + 3, none⟩ vi') := by
  have T0 := (h.t _ (List.getElem_mem hi)).fr f1 (fun _ _ h => h)
  obtain ⟨x, hx⟩ : ∃ x : TabV, x = ⟨{ ts[i].t with ixs := ts[i].t.ixs ++ [s.ix ts[i].t root] }, ts[i].vc, vi', ts[i].ix ++ [⟨s.ix ts[i].t root, vn⟩]⟩ := ⟨_, rfl⟩
  have hcells : (ts.set i x).flatMap TabV.cells = (ts.flatMap TabV.cells).set (i * 4 + 3) vi' := by
    rw [ix_flat x ts i hi (by rw [hx]) (by rw [hx]) (by rw [hx]), show x.vi = vi' by rw [hx]]
  have hxo : TabO (fun k => S k ∨ w.heap.size ≤ k) w8 x := by
    rw [hx]
    refine ⟨T0.c, fun k hk => .inl (T0.cS k hk), (ri.low (Nat.zero_le _)).cast (by simp) (by simp [IxV.cells, St.ix]), fun k hk => .inr (ri.new k hk), ?_, fun y hy => ?_⟩
    · dsimp only
      rw [List.map_append, ← T0.e]
      rfl
    · rcases List.mem_append.1 hy with q | q
      · exact ⟨(T0.x y q).1, fun k hk => .inl ((T0.x y q).2 k hk)⟩
      · rw [List.mem_singleton.1 q]
        exact ⟨(rc.low (Nat.zero_le _)).cast (by simp [St.ix]) rfl, fun k hk => .inr (rc.new k hk)⟩
  have hp := put_tab (tc := 83) (by decide) h f1 hi hg x hcells hxo (.inl (by rw [hx])) (.inr (fun k hk => ri.new k (by rw [hx] at hk; exact hk)))
  have hm : (index (ts.map TabV.t) s root).1 = (ts.set i x).map TabV.t := by
    unfold index
    rw [if_pos he, hf, Int.toNat_natCast]
    exact (map_set_ix x hi (by rw [hx])).symm
  rw [hm]
  exact ⟨⟨v, ts.set i x, hp.1, rfl⟩, hp.2⟩
set_option maxRecDepth 20000 in
set_option maxHeartbeats 4000000 in
theorem rindex_go {S P : Nat → Prop} {w : World} {c : Nat} {v : Value} {ts : List TabV} (h : CRv 83 S w c v ts) (hl : ts.length ≤ 8) (hcl : ∀ t ∈ ts, t.t.cols.length ≤ 6) (hil : ∀ t ∈ ts, t.ix.length ≤ 4) {t : StV} (hs : StR P w t) (root : Int) :
    Calls Tryz.prog 94 #[.pointer (some ⟨c, 0, none⟩), .agg t.cells.toArray, .int .i64 root] w fun e w' => e = .returned (.int .i64 (index (ts.map TabV.t) t.s root).2) ∧ CR 83 (Ext S w w') w' c (index (ts.map TabV.t) t.s root).1 ∧ Fr S w w' := by
  obtain ⟨⟨kind, table, name, cols, names, join⟩, oc, cc, on, cn, a5, n5, c5, a6, n6, c6, a7, n7, c7, y9, y10, i11, a12, n12, c12, i13, i14⟩ := t
  have HC := hid h
  have HCL := hid hcl
  have HIL := hid hil
  have HSN := hid hs.n
  have hln := hs.ln
  have HSS := hid hs.sn
  dsimp only at HSN hln HSS
  obtain ⟨s, hs'⟩ : ∃ s : St, s = ⟨kind, table, name, cols, names, join⟩ := ⟨_, rfl⟩
  have hst : s.table = table := by rw [hs']
  have hsn : s.name = name := by rw [hs']
  have hsm : s.names = names := by rw [hs']
  unfold StV.cells
  dsimp only
  rw [← hs']
  have HE1 := hid (fun h => indexE_arg (m := ts.map TabV.t) (s := s) (root := root) h)
  have HE2 := hid (fun h1 h2 => indexE_none (m := ts.map TabV.t) (s := s) (root := root) h1 h2)
  have HE3 := hid (fun h1 i hi hf => indexE_at (m := ts.map TabV.t) (s := s) (root := root) h1 (i := i) hi hf)
  have HER := hid (fun e h he => index_err (m := ts.map TabV.t) (s := s) (root := root) (e := e) h he)
  rw [hst] at HE2 HE3
  rw [hsn, hsm] at HE1 HE2 HE3
  have HSE := hid (And.intro hst (And.intro hsn hsm))
  clear h hcl hil hs hs' hst hsn hsm
  have F1 := hid ((Fr.refl (fun _ => False) w).alloc (.cells #[.int .i64 kind, .string (bs table), .string (bs name), .slice oc cols.length cc, .slice on names.length cn, .slice a5 n5 c5, .slice a6 n6 c6, .slice a7 n7 c7, .string (bs join), .string y9, .string y10, .int .i64 i11, .slice a12 n12 c12, .int .i64 i13, .int .i64 i14] 90))
  have B1 := hid (Blk.new w [.int .i64 kind, .string (bs table), .string (bs name), .slice oc cols.length cc, .slice on names.length cn, .slice a5 n5 c5, .slice a6 n6 c6, .slice a7 n7 c7, .string (bs join), .string y9, .string y10, .int .i64 i11, .slice a12 n12 c12, .int .i64 i13, .int .i64 i14] 90)
  go_enter Tryz.func94, Tryz.ntmps94
  go_upto_region 1 with fail
  generalize hd : w.heap.size = d at *
  have HD := hid hd
  clear hd
  generalize w.alloc _ = W1 at *
  obtain ⟨q1, q2, q4⟩ : W1.cell? ⟨d, 1, none⟩ = some (.string (bs table)) ∧ W1.cell? ⟨d, 2, none⟩ = some (.string (bs name)) ∧ W1.cell? ⟨d, 4, none⟩ = some (.slice on names.length cn) := ⟨B1.out.cell 1, B1.out.cell 2, B1.out.cell 4⟩
  have HNM := hid (rnamed_go name)
  by_cases hbad : named name = false ∨ names.length < 1 ∨ 6 < names.length ∨ root < 0 ∨ 400 ≤ root
  · have HX := hid (HER.out 1 (HE1.out hbad) (by decide))
    clear HE1 HE2 HE3 HER
    cases hnn : named name with
    | false =>
      rw [hnn] at HNM
      clear hbad hnn
      go_wp2_with (go_at_call 135; refine (HNM.out _).mono ?_; rintro e w3 ⟨rfl, rfl⟩)
      go_ret
      exact err_finR HC.out HX.out F1.out
    | true =>
      rw [hnn] at HNM hbad
      have hb2 : (names.length : Int) < 1 ∨ (¬ (names.length : Int) < 1 ∧ (6 : Int) < names.length) ∨ (¬ (names.length : Int) < 1 ∧ ¬ (6 : Int) < names.length ∧ root < 0) ∨ (¬ (names.length : Int) < 1 ∧ ¬ (6 : Int) < names.length ∧ ¬ root < 0 ∧ 400 ≤ root) := by
        rcases hbad with q | q | q | q | q
        · cases q
        all_goals omega
      clear hbad hnn
      rcases hb2 with j1 | ⟨j1, j2⟩ | ⟨j1, j2, j3⟩ | ⟨j1, j2, j3, j4⟩
      all_goals
        go_wp2_with (go_at_call 135; refine (HNM.out _).mono ?_; rintro e w3 ⟨rfl, rfl⟩)
        go_ret
        exact err_finR HC.out HX.out F1.out
  · have hnn : named name = true := by
      cases hq : named name
      · exact absurd (.inl hq) hbad
      · rfl
    rw [hnn] at HNM
    have HE2' := hid (HE2.out hbad)
    have HE3' := hid (HE3.out hbad)
    have j1 : ¬ (names.length : Int) < 1 := by omega
    have j2 : ¬ (6 : Int) < names.length := by omega
    have j3 : ¬ root < 0 := by omega
    have j4 : root < 400 := by omega
    clear HE1 HE2 HE3 hbad hnn
    have HFI := hid (rFind_go (HC.out.fre F1.out) (by omega) table)
    obtain ⟨z, hz⟩ : ∃ z, find (ts.map TabV.t) table = z := ⟨_, rfl⟩
    have hzc := find_cases (ts.map TabV.t) table
    rw [hz] at HFI HE2' HE3' hzc
    have HZ := hid hz
    clear hz
    rcases hzc with hz0 | ⟨i, hi, rfl⟩
    · have HX := hid (HER.out 50 (HE2'.out hz0) (by decide))
      clear HE2' HE3' HER
      go_wp2_with (first
        | (go_at_call 135; refine (HNM.out _).mono ?_; rintro e w3 ⟨rfl, rfl⟩)
        | (go_at_call 136; refine HFI.out.mono ?_; rintro e w4 ⟨rfl, f⟩; have F2 := hid (F1.out.trans f (fun _ h _ => h)); clear f))
      go_ret
      exact err_finR HC.out HX.out F2.out
    · have HE4 := hid (HE3'.out i hi rfl)
      have hit : i < ts.length := by simpa using hi
      clear HE2' HE3'
      go_upto_region 7 with (first
        | (go_at_call 135; refine (HNM.out _).mono ?_; rintro e w3 ⟨rfl, rfl⟩)
        | (go_at_call 136; refine HFI.out.mono ?_; rintro e w4 ⟨rfl, f⟩; have F2 := hid (F1.out.trans f (fun _ h _ => h)); have B2 := hid (Blk.fr B1.out f (fun h => h)); clear f))
      clear HNM HFI q1 q2 q4 B1 F1
      have HC4 := hid (HC.out.fre F2.out)
      obtain ⟨av, cv, rfl, hcap⟩ := HC.out.r.slice
      obtain ⟨g, rfl, -, hr⟩ := tab_at HC4.out.r hit
      have HXT := hid (HC.out.t _ (List.getElem_mem hit))
      have hxl := HCL.out _ (List.getElem_mem hit)
      have hxi := HIL.out _ (List.getElem_mem hit)
      rw [List.getElem_map] at HE4
      obtain ⟨x, hx⟩ : ∃ x, x = ts[i] := ⟨_, rfl⟩
      have HXI := hid hx
      rw [← hx] at hr HXT hxl hxi HE4
      clear hx
      obtain ⟨ac, ccap, hvc, hle⟩ := HXT.out.c.slice
      obtain ⟨ai, ci, hvi, hlei⟩ := HXT.out.i.slice
      obtain ⟨⟨id, nm0, cols0, ixs0⟩, vc, vi, ix⟩ := x
      dsimp only at hvc hvi hxl hxi HE4 hle hlei
      subst hvc hvi
      have j5 : (0 : Int) ≤ (i : Int) := by omega
      have j6 : (i : Int) < (ts.length : Int) := by omega
      have q2 : w4.cell? ⟨d, 2, none⟩ = some (.string (bs name)) := B2.out.cell 2
      go_upto_region 8 with fail
      have fa := (Fr.refl (fun _ => False) w4).alloc (.cells #[.string (bs name), .slice none 0 0, .int .i64 root] 177)
      have E5 := hid (Blk.new w4 [.string (bs name), .slice none 0 0, .int .i64 root] 177)
      have F3 := hid (F2.out.trans fa (fun _ h _ => h))
      have B3 := hid (Blk.fr B2.out fa (fun h => h))
      have HC5 := hid (HC4.out.fre fa)
      have HR3 := hid (fun j u hu => cell_fr (hr j u hu) fa (fun h => h) : (w4.alloc (.cells #[.string (bs name), .slice none 0 0, .int .i64 root] 177)).rangeAt g (i * 4) [.int .i64 id, .string (bs nm0), .slice ac cols0.length ccap, .slice ai ix.length ci])
      have HCO := hid (fun (W : World) (f : Fr (fun _ => False) w W) (n : Bs) => rfCol_go id nm0 (vi := .slice ai ix.length ci) n ((HXT.out.fr f (fun _ _ h => h)).c.sl' (R := fun _ => True) (fun _ _ => trivial)) (by omega))
      have HEW := hid (show w.heap.size ≤ w4.heap.size from F2.out.size)
      have HDX := hid (show d < w4.heap.size ∧ c < w4.heap.size ∧ g < w4.heap.size from ⟨B2.out.lt, HC4.out.b.lt, HC4.out.lt g (HC4.out.rS g rfl)⟩)
      clear hr q2 fa B2 F2 HC4
      generalize w4.heap.size = ex at *
      generalize w4.alloc _ = W5 at *
      have HW5 := hid (show w.heap.size ≤ W5.heap.size from F3.out.size)
      have HS := hid (fun (W : World) (f : Fr (fun k => k = ex) W5 W) => (⟨fun j u hu => cell_fr (HR3.out j u hu) f (fun e => by have h1 := HDX.out.2.2; have h2 : g = ex := e; omega), cell_fr (HC5.out.b.cell 0) f (fun e => by have h1 := HDX.out.2.1; have h2 : c = ex := e; omega), B3.out.fr f (fun e => by have := HDX.out.1; omega), F3.out.trans f (fun k hk hl => by have := HEW.out; omega)⟩ : W.rangeAt g (i * 4) [.int .i64 id, .string (bs nm0), .slice ac cols0.length ccap, .slice ai ix.length ci] ∧ W.cell? ⟨c, 0, none⟩ = some (.slice (some ⟨g, 0, none⟩) ts.length cv) ∧ Blk W d [.int .i64 kind, .string (bs table), .string (bs name), .slice oc cols.length cc, .slice on names.length cn, .slice a5 n5 c5, .slice a6 n6 c6, .slice a7 n7 c7, .string (bs join), .string y9, .string y10, .int .i64 i11, .slice a12 n12 c12, .int .i64 i13, .int .i64 i14] 90 ∧ Fr (fun _ => False) w W))
      have hn6 : names.length ≤ 6 := by omega
      clear B3 HR3 HC5
      go_wp2_with (fail)
      go_loopw [10] (fun s10 wr => ∃ (j : Nat) (vx : Value), j ≤ names.length ∧ s10 = .int .i64 j ∧ (∀ k (hk : k < names.length), k < j → (colOf cols0 names[k] == -1) = false) ∧ Blk wr ex [.string (bs name), vx, .int .i64 root] 177 ∧ Row 3 1 W5.heap.size wr vx j (((names.take j).map (colOf cols0)).flatMap icell) ∧ Fr (fun k => k = ex) W5 wr) (fun s10 _ => names.length - (intOf s10).toNat)
      case atStart => exact ⟨0, _, by omega, rfl, fun k _ hk => by omega, E5.out, Row.nil, Fr.refl _ _⟩
      case round =>
        obtain ⟨j, vx, hj, rfl, hall, hbe, hrow, fr⟩ := hrel
        have HA := hid hall
        have HBE := hid hbe
        have HROW := hid hrow
        have FR := hid fr
        obtain ⟨ax, cx, rfl, hcx⟩ := hrow.slice
        clear hall hbe hrow fr E5
        have HSW := hid (HS.out _ FR.out)
        have q4 : wr.cell? ⟨d, 4, none⟩ = some (.slice on names.length cn) := HSW.out.2.2.1.cell 4
        have m1 : (0 : Int) ≤ (j : Int) := by omega
        have m5 : IntKind.i64.wrap ((j : Int) + 1) = (j : Int) + 1 := IntWalk.i64_in _ (by omega)
        by_cases hjn : j < names.length
        · have m2 : (j : Int) < (names.length : Int) := by omega
          have HSN1 := hid HSN.out
          rw [sv_scell] at HSN1
          obtain ⟨gn, og, rfl, -, hcell⟩ := sl_cell1 (f := scell) scell_len (HSN1.out.fr HSW.out.2.2.2 (fun _ _ h => h)) (by intro e; rw [e] at hjn; simp at hjn)
          have qn := hcell j hjn
          have HT := hid (show (((names.take (j + 1)).map (colOf cols0)).flatMap icell) = (((names.take j).map (colOf cols0)).flatMap icell) ++ [.int .i64 (colOf cols0 names[j])] from by
            rw [List.take_succ_eq_append_getElem hjn, List.map_append, List.flatMap_append]
            rfl)
          have HYES := hid (fun (hb : (colOf cols0 names[j] == -1) = true) => any_at (p := fun n => colOf cols0 n == -1) hjn hb)
          have HNO := hid (fun (hb : (colOf cols0 names[j] == -1) = false) => (fun k (hk : k < names.length) (hkj : k < j + 1) => by
            by_cases e : k = j
            · subst e; exact hb
            · exact HA.out k hk (by omega) : ∀ k (hk : k < names.length), k < j + 1 → (colOf cols0 names[k] == -1) = false))
          have hge := (col_ge cols0 names[j]).1
          have HCJ := hid (fun (W : World) (f : Fr (fun _ => False) w W) => HCO.out W f names[j])
          obtain ⟨nj, hnj⟩ : ∃ nj, nj = names[j] := ⟨_, rfl⟩
          have HQN := hid (show wr.cell? ⟨gn, og + j, none⟩ = some (.string (bs nj)) from by rw [hnj]; exact qn)
          rw [← hnj] at HT HYES HNO hge HCJ
          clear hcell qn hnj HSN1
          obtain ⟨zj, hzj⟩ : ∃ z, colOf cols0 nj = z := ⟨_, rfl⟩
          rw [hzj] at HT HYES HNO hge HCJ
          clear hzj
          go_upto_region 11 with fail
          clear q4
          have fd := (Fr.refl (fun k => k = ex) wr).drew
          have FRD := hid (FR.out.trans fd (fun _ h _ => h))
          have HSD := hid (HS.out _ FRD.out)
          have HBD := hid HBE.out.drew
          have HRD := hid (HROW.out.fre ((Fr.refl (fun _ => False) wr).drew))
          have HCC := hid (HCJ.out wr.drew HSD.out.2.2.2)
          clear fd HCJ HBE HROW HSW
          have HQD := hid (show wr.drew.cell? ⟨gn, og + j, none⟩ = some (.string (bs nj)) from HQN.out)
          clear HQN
          refine wp_region_scr (.take 0 (.take 1 (.take 2 (.take 3 (.take 4 (.take 5 (.take 6 (.take 7 (.take 8 (.take 9 (.take 10 (.take 11 (.op 12 (.take 13 .done)))))))))))))) (fun kz w => (kz ≤ 14 → (w.rangeAt g (i * 4) [.int .i64 id, .string (bs nm0), .slice ac cols0.length ccap, .slice ai ix.length ci] ∧ w.cell? ⟨c, 0, none⟩ = some (.slice (some ⟨g, 0, none⟩) ts.length cv) ∧ w.cell? ⟨d, 4, none⟩ = some (.slice (some ⟨gn, og, none⟩) names.length cn) ∧ w.cell? ⟨gn, og + j, none⟩ = some (.string (bs nj)))) ∧ Hid True) (by kernel_rfl) (by kernel_rfl) (by intro c a d v w h; cases d <;> exact h) ?_
          generalize wr.drew = WD at *
          repeat
            first
            | (refine wpT_pure rfl rfl rfl ?_; apply Exists.intro; refine ⟨?_, ?_⟩; intro w; (first | (first | exact run_load_mid _ _ rfl g _ rfl _ _ qa.1 Tryz.underlying175 rfl size_tab | (obtain ⟨q1, q2, q3, q4⟩ := qa; go_simp <;> rfl)) | (go_simp <;> rfl)); simp only [Act.put, List.setIfInBounds_toArray, List.set_cons_zero, List.set_cons_succ])
            | (refine wpT_take 14 rfl rfl (by decide +kernel) ⟨fun _ => ⟨HSD.out.1, HSD.out.2.1, HSD.out.2.2.1.cell 4, HQD.out⟩, hid trivial⟩ ?_; apply Exists.intro; refine ⟨?_, ?_⟩; intro w hw; (have qa := hw.1 (Nat.le_refl _); have qb := hw.2); (first | (first | exact run_load_mid _ _ rfl g _ rfl _ _ qa.1 Tryz.underlying175 rfl size_tab | (obtain ⟨q1, q2, q3, q4⟩ := qa; go_simp <;> rfl)) | (go_simp <;> rfl)); simp only [Act.put, List.setIfInBounds_toArray, List.set_cons_zero, List.set_cons_succ])
            | (refine wpT_skip rfl rfl ?_; simp only [Act.put, List.setIfInBounds_toArray, List.set_cons_zero, List.set_cons_succ])
          refine wpT_op rfl ?_
          go_wp2_with ((go_at_call 137; refine HCC.out.mono ?_; rintro e w7 ⟨rfl, f⟩; have FR7 := hid (FRD.out.trans f (fun _ h _ => h.elim)); have HS7 := hid (HS.out _ FR7.out); have HB7 := hid (Blk.fr HBD.out f (fun h => h)); have HR7 := hid (HRD.out.fre f); have HQ7 := hid (cell_fr HQD.out f (fun h => h)); clear f))
          (refine ⟨?_, ?_⟩; focus (intro kz hk hk2 hh; first | (exfalso; simp at hk2; omega) | exact hh | exact (fun h => absurd h (by omega)) | obtain ⟨qa, qb⟩ := hh; first | exact ⟨qa, qb⟩ | (refine ⟨fun h => absurd h (by omega), ?_⟩; first | exact qb | (exact ⟨HS7.out.1, HS7.out.2.1, HS7.out.2.2.1.cell 4, HQ7.out⟩)) | (refine ⟨fun h => ?_, ?_⟩; (have qa := qa h); all_goals (first | exact qa | exact qb | (exact ⟨HS7.out.1, HS7.out.2.1, HS7.out.2.2.1.cell 4, HQ7.out⟩)))))
          repeat
            first
            | (refine wpT_pure rfl rfl rfl ?_; apply Exists.intro; refine ⟨?_, ?_⟩; intro w; (first | ((obtain ⟨q1, q2, q3, q4⟩ := qa; go_simp <;> rfl)) | (go_simp <;> rfl)); simp only [Act.put, List.setIfInBounds_toArray, List.set_cons_zero, List.set_cons_succ])
            | (refine wpT_take 14 rfl rfl (by decide +kernel) ⟨fun _ => ⟨HS7.out.1, HS7.out.2.1, HS7.out.2.2.1.cell 4, HQ7.out⟩, hid trivial⟩ ?_; apply Exists.intro; refine ⟨?_, ?_⟩; intro w hw; (have qa := hw.1 (Nat.le_refl _); have qb := hw.2); (first | ((obtain ⟨q1, q2, q3, q4⟩ := qa; go_simp <;> rfl)) | (go_simp <;> rfl)); simp only [Act.put, List.setIfInBounds_toArray, List.set_cons_zero, List.set_cons_succ])
            | (refine wpT_skip rfl rfl ?_; simp only [Act.put, List.setIfInBounds_toArray, List.set_cons_zero, List.set_cons_succ])
          refine wpT_nil ?_
          clear HCC HSD HBD HRD HQD FRD HQ7
          by_cases hz : zj < 0
          · have hz1 : zj = -1 := by omega
            have HX := hid (HER.out 50 (HE4.out.trans (if_pos (HYES.out (by rw [hz1]; rfl)))) (by decide))
            have FF := hid HS7.out.2.2.2
            clear HE4 HER HYES HNO hz1
            go_wp2_with (fail)
            go_ret
            exact err_finR HC.out HX.out FF.out
          · have HN := hid (HNO.out (beq_eq_false_iff_ne.2 (by omega)))
            have b1 : w7.cell? ⟨ex, 1, none⟩ = some (.slice ax j cx) := HB7.out.cell 1
            clear HYES HNO
            go_upto_region 14 with fail
            have HBN := hid (HR7.out.ne HB7.out (by decide))
            go_wp2_with (at_builtin; refine wpList_app1 rfl (s := .tmp 75) (x := .tmp 77) (t := 22) rfl Tryz.underlying22 info_int rfl rfl rfl HR7.out FR7.out.size rfl (by simp [Value.oneCell']) (by omega) (by omega) ?_; intro ab ac7 wg APP; have HR8 := hid (APP.row.cast rfl HT.out.symm); have HB8 := hid (Blk.fr HB7.out APP.fr (fun hk => HBN.out _ hk rfl)); have FR8 := hid (FR7.out.trans APP.fr (fun k hk hl => by have := HR7.out.new k hk; omega)); have k1 : wg.cell? ⟨ex, 1, none⟩ = some (.slice ax j cx) := HB8.out.cell 1; have z1 : wg.frozen? ⟨ex, 1, none⟩ = false := HB8.out.frozen 1; clear APP)
            go_roundw
            case rel =>
              have fs := (Fr.refl (fun k => k = ex) wg).setCell ⟨ex, 1, none⟩ (.slice ab (j + 1) ac7) (fun _ => rfl)
              have hb9 := HB8.out.set 1 (.slice ab (j + 1) ac7)
              exact ⟨j + 1, _, by omega, by go_num, HN.out, hb9, HR8.out.fr fs (fun k hk e => HR8.out.ne HB8.out (by decide) k hk e), FR8.out.trans fs (fun k hk _ => hk)⟩
            case measure => simp [intOf]; omega
        · obtain rfl : j = names.length := by omega
          have m2 : ¬ (names.length : Int) < (names.length : Int) := by omega
          rw [List.take_length] at HROW
          have HE5 := hid (HE4.out.trans (if_neg (any_none (p := fun n => colOf cols0 n == -1) (fun i hi => HA.out i hi hi))))
          clear HE4 HA HCO
          go_upto_region 15 with fail
          clear q4 m1 m5 m2
          go_wp2_with (fail)
          have HWB := hid (HS.out wr FR.out)
          generalize hWB : wr = WB at *
          clear hWB
          go_loopw [12, 13] (fun s12 _ wr => ∃ j : Nat, j ≤ names.length ∧ s12 = .int .i64 j ∧ (∀ i (hi : i < names.length), i < j → ∀ k (hk : k < i), names[i] ≠ (names[k]'(by omega))) ∧ Fr (fun _ => False) WB wr) (fun s12 _ _ => names.length - (intOf s12).toNat)
          case atStart => exact ⟨0, by omega, rfl, fun k _ hk => by omega, Fr.refl _ _⟩
          case round =>
            obtain ⟨a, hi, rfl, hall, hf⟩ := hrel
            have HA := hid hall
            have FQ := hid hf
            clear hall hf
            have q4 : wr.cell? ⟨d, 4, none⟩ = some (.slice on names.length cn) := (Blk.fr HWB.out.2.2.1 FQ.out (fun h => h)).cell 4
            have a1 : (0 : Int) ≤ (a : Int) := by omega
            have a5 : IntKind.i64.wrap ((a : Int) + 1) = (a : Int) + 1 := IntWalk.i64_in _ (by omega)
            by_cases hac : a < names.length
            · have a2 : (a : Int) < (names.length : Int) := by omega
              go_upto_region 18 with fail
              clear q4
              go_wp2_with (fail)
              go_loopw [13] (fun s13 wr => ∃ k : Nat, k ≤ a ∧ s13 = .int .i64 k ∧ (∀ b (hb : b < a), b < k → names[a] ≠ (names[b]'(by omega))) ∧ Fr (fun _ => False) WB wr) (fun s13 _ => a - (intOf s13).toNat)
              case atStart => exact ⟨0, by omega, rfl, fun k _ hk => by omega, FQ.out⟩
              case round =>
                obtain ⟨k, hk, rfl, hin, hf⟩ := hrel
                have HI := hid hin
                replace FQ := hid hf
                clear hin hf
                have k1 : (0 : Int) ≤ (k : Int) := by omega
                have k5 : IntKind.i64.wrap ((k : Int) + 1) = (k : Int) + 1 := IntWalk.i64_in _ (by omega)
                by_cases hki : k < a
                · have k2 : (k : Int) < (a : Int) := by omega
                  have k3 : (k : Int) < (names.length : Int) := by omega
                  have hkc : k < names.length := by omega
                  have BW := hid (Blk.fr HWB.out.2.2.1 FQ.out (fun h => h))
                  have HSN1 := hid HSN.out
                  rw [sv_scell] at HSN1
                  obtain ⟨gn, og, rfl, -, hcell⟩ := sl_cell1 (f := scell) scell_len (HSN1.out.fr (HWB.out.2.2.2.trans FQ.out (fun _ h _ => h)) (fun _ _ h => h)) (by intro e; rw [e] at hac; simp at hac)
                  have HP0 := hid (show wr.cell? ⟨gn, og + a, none⟩ = some (.string (bs names[a])) from hcell a hac)
                  have HP1 := hid (show wr.cell? ⟨gn, og + k, none⟩ = some (.string (bs names[k])) from hcell k hkc)
                  have HYES := hid (fun (hb : names[a] = names[k]) => (dup_yes (l := names) (i := a) (k := k) hac hki hb))
                  have HNO := hid (fun (hb : ¬ names[a] = names[k]) => (fun b (hb2 : b < a) (hbk : b < k + 1) => by
                    by_cases e : b = k
                    · subst e; exact hb
                    · exact HI.out b hb2 (by omega) : ∀ b (hb : b < a), b < k + 1 → names[a] ≠ (names[b]'(by omega))))
                  clear hcell HSN1
                  obtain ⟨x, hx⟩ : ∃ x, x = names[a] := ⟨_, rfl⟩
                  obtain ⟨y, hy⟩ : ∃ y, y = names[k] := ⟨_, rfl⟩
                  rw [← hy] at HP1 HYES
                  rw [← hx] at HP0 HYES
                  have HNO2 := hid (fun (hb : ¬ x = y) => HNO.out (by rw [← hx, ← hy]; exact hb))
                  clear hx hy HNO
                  go_upto_region 21 with fail
                  by_cases hxy : x = y
                  · subst hxy
                    have HX := hid (HER.out 51 (HE5.out.trans (if_pos (.inl (HYES.out rfl)))) (by decide))
                    clear HE5 HER HYES HNO2
                    refine wp_region_scr (.take 0 (.take 1 (.take 2 (.take 3 (.take 4 (.take 5 (.take 6 (.take 7 (.take 8 (.take 9 (.take 10 .done))))))))))) (fun kz w => (kz ≤ 11 → (w.cell? ⟨d, 4, none⟩ = some (.slice (some ⟨gn, og, none⟩) names.length cn) ∧ w.cell? ⟨gn, og + a, none⟩ = some (.string (bs x)) ∧ w.cell? ⟨gn, og + k, none⟩ = some (.string (bs x)))) ∧ Hid True) (by kernel_rfl) (by kernel_rfl) (by intro c a d v w h; cases d <;> exact h) ?_
                    repeat
                      first
                      | (refine wpT_pure rfl rfl rfl ?_; apply Exists.intro; refine ⟨?_, ?_⟩; intro w; (first | ((obtain ⟨q1, q2, q3⟩ := qa; go_simp <;> rfl)) | (go_simp <;> rfl)); simp only [Act.put, List.setIfInBounds_toArray, List.set_cons_zero, List.set_cons_succ])
                      | (refine wpT_take 11 rfl rfl (by decide +kernel) ⟨fun _ => ⟨BW.out.drew.cell 4, HP0.out, HP1.out⟩, hid trivial⟩ ?_; apply Exists.intro; refine ⟨?_, ?_⟩; intro w hw; (have qa := hw.1 (Nat.le_refl _); have qb := hw.2); (first | ((obtain ⟨q1, q2, q3⟩ := qa; go_simp <;> rfl)) | (go_simp <;> rfl)); simp only [Act.put, List.setIfInBounds_toArray, List.set_cons_zero, List.set_cons_succ])
                      | (refine wpT_skip rfl rfl ?_; simp only [Act.put, List.setIfInBounds_toArray, List.set_cons_zero, List.set_cons_succ])
                    refine wpT_nil ?_
                    have FD := hid ((HWB.out.2.2.2.trans FQ.out (fun _ h _ => h)).trans ((Fr.refl (fun _ => False) _).drew) (fun _ h _ => h))
                    clear HP0 HP1
                    go_wp2_with (fail)
                    go_ret
                    exact err_finR HC.out HX.out FD.out
                  · have HN := hid (HNO2.out hxy)
                    have hne : ((bs x).toList == (bs y).toList) = false := by rw [beq_bs]; simpa using hxy
                    clear HYES HNO2 hxy
                    refine wp_region_scr (.take 0 (.take 1 (.take 2 (.take 3 (.take 4 (.take 5 (.take 6 (.take 7 (.take 8 (.take 9 (.take 10 .done))))))))))) (fun kz w => (kz ≤ 11 → (w.cell? ⟨d, 4, none⟩ = some (.slice (some ⟨gn, og, none⟩) names.length cn) ∧ w.cell? ⟨gn, og + a, none⟩ = some (.string (bs x)) ∧ w.cell? ⟨gn, og + k, none⟩ = some (.string (bs y)))) ∧ Hid True) (by kernel_rfl) (by kernel_rfl) (by intro c a d v w h; cases d <;> exact h) ?_
                    repeat
                      first
                      | (refine wpT_pure rfl rfl rfl ?_; apply Exists.intro; refine ⟨?_, ?_⟩; intro w; (first | ((obtain ⟨q1, q2, q3⟩ := qa; go_simp <;> rfl)) | (go_simp <;> rfl)); simp only [Act.put, List.setIfInBounds_toArray, List.set_cons_zero, List.set_cons_succ])
                      | (refine wpT_take 11 rfl rfl (by decide +kernel) ⟨fun _ => ⟨BW.out.drew.cell 4, HP0.out, HP1.out⟩, hid trivial⟩ ?_; apply Exists.intro; refine ⟨?_, ?_⟩; intro w hw; (have qa := hw.1 (Nat.le_refl _); have qb := hw.2); (first | ((obtain ⟨q1, q2, q3⟩ := qa; go_simp <;> rfl)) | (go_simp <;> rfl)); simp only [Act.put, List.setIfInBounds_toArray, List.set_cons_zero, List.set_cons_succ])
                      | (refine wpT_skip rfl rfl ?_; simp only [Act.put, List.setIfInBounds_toArray, List.set_cons_zero, List.set_cons_succ])
                    refine wpT_nil ?_
                    have FD := hid (FQ.out.trans ((Fr.refl (fun _ => False) _).drew) (fun _ h _ => h))
                    clear HP0 HP1
                    go_wp2_with (fail)
                    go_roundw
                    case rel => exact ⟨k + 1, by omega, by go_num, HN.out, FD.out⟩
                    case measure => simp [intOf]; omega
                · obtain rfl : k = a := by omega
                  have k2 : ¬ (k : Int) < (k : Int) := by omega
                  have HN := hid (show ∀ a (ha : a < names.length), a < k + 1 → ∀ b (hb : b < a), names[a] ≠ (names[b]'(by omega)) from fun a ha hak b hb => by
                    by_cases e : a = k
                    · subst e; exact HI.out b hb hb
                    · exact HA.out a ha (by omega) b hb)
                  go_wp2_with (fail)
                  go_roundw
                  case rel => exact ⟨k + 1, by omega, by go_num, HN.out, FQ.out⟩
                  case measure => simp [intOf]; omega
            · obtain rfl : a = names.length := by omega
              have a2 : ¬ (names.length : Int) < (names.length : Int) := by omega
              have HND := hid (dup_not (l := names) (fun a ha b hb => HA.out a ha ha b hb))
              go_upto_region 23 with fail
              clear q4 HA
              go_wp2_with (fail)
              go_loopw [14, 15] (fun s14 _ wr => ∃ j : Nat, j ≤ ts.length ∧ s14 = .int .i64 j ∧ (∀ a (ha : a < ts.length), a < j → (ts[a].t.ixs.any (fun x => x.name == name)) = false) ∧ Fr (fun _ => False) WB wr) (fun s14 _ _ => ts.length - (intOf s14).toNat)
              case atStart => exact ⟨0, by omega, rfl, fun k _ hk => by omega, FQ.out⟩
              case round =>
                obtain ⟨a, hi, rfl, hall, hf⟩ := hrel
                have HA := hid hall
                replace FQ := hid hf
                clear hall hf
                have HCW := hid (HC.out.fre (HWB.out.2.2.2.trans FQ.out (fun _ h _ => h)))
                have p0 : wr.cell? ⟨c, 0, none⟩ = some (.slice (some ⟨g, 0, none⟩) ts.length cv) := HCW.out.b.cell 0
                have a1 : (0 : Int) ≤ (a : Int) := by omega
                have a5 : IntKind.i64.wrap ((a : Int) + 1) = (a : Int) + 1 := IntWalk.i64_in _ (by omega)
                by_cases hac : a < ts.length
                · have a2 : (a : Int) < (ts.length : Int) := by omega
                  have HXE := hid (HC.out.t _ (List.getElem_mem hac)).e
                  have HXW := hid ((HC.out.t _ (List.getElem_mem hac)).fr (HWB.out.2.2.2) (fun _ _ h => h))
                  have hxl2 := HIL.out _ (List.getElem_mem hac)
                  obtain ⟨ga, hga, -, hra⟩ := tab_at (HC.out.fre HWB.out.2.2.2).r hac
                  simp only [Option.some.injEq, Addr.mk.injEq, and_true] at hga
                  subst hga
                  have hq3 := hra 3 _ rfl
                  obtain ⟨ai2, ci2, hvi2, _⟩ := HXW.out.i.slice
                  obtain ⟨xt, hxt⟩ : ∃ xt, xt = ts[a].ix := ⟨_, rfl⟩
                  have HXI2 := hid HXW.out.i
                  rw [hvi2] at HXI2 hq3
                  rw [← hxt] at HXI2 hq3 hxl2
                  have HANY := hid (show ∀ (hall : ∀ b (hb : b < xt.length), (xt[b].x.name == name) = false), (ts[a].t.ixs.any (fun x => x.name == name)) = false from fun hall => by
                    rw [HXE.out, List.any_map, ← hxt]
                    cases hq : (xt.any ((fun x : Ix => x.name == name) ∘ IxV.x)) with
                    | false => rfl
                    | true => exact absurd hq (any_none (p := (fun x : Ix => x.name == name) ∘ IxV.x) hall))
                  have HANT := hid (show ∀ b (hb : b < xt.length), (xt[b].x.name == name) = true → (ts.map TabV.t).any (fun t => t.ixs.any (fun x => x.name == name)) = true from fun b hb he => by
                    refine any_at (i := a) (by simpa using hac) ?_
                    rw [List.getElem_map, HXE.out, List.any_map, ← hxt]
                    exact any_at hb he)
                  have HQ3 := hid hq3
                  clear hra hq3 hvi2 hxt HXE HXW
                  have q3 : wr.cell? ⟨g, a * 4 + 3, none⟩ = some (.slice ai2 xt.length ci2) := cell_fr HQ3.out FQ.out (fun h => h)
                  go_upto_region 26 with fail
                  clear q3 p0
                  go_wp2_with (fail)
                  go_loopw [15] (fun s15 wr => ∃ k : Nat, k ≤ xt.length ∧ s15 = .int .i64 k ∧ (∀ b (hb : b < xt.length), b < k → (xt[b].x.name == name) = false) ∧ Fr (fun _ => False) WB wr) (fun s15 _ => xt.length - (intOf s15).toNat)
                  case atStart => exact ⟨0, by omega, rfl, fun k _ hk => by omega, FQ.out⟩
                  case round =>
                    obtain ⟨k, hk, rfl, hin, hf⟩ := hrel
                    have HI := hid hin
                    replace FQ := hid hf
                    clear hin hf HCW
                    have k1 : (0 : Int) ≤ (k : Int) := by omega
                    have k5 : IntKind.i64.wrap ((k : Int) + 1) = (k : Int) + 1 := IntWalk.i64_in _ (by omega)
                    have HCW := hid (HC.out.fre (HWB.out.2.2.2.trans FQ.out (fun _ h _ => h)))
                    have p0 : wr.cell? ⟨c, 0, none⟩ = some (.slice (some ⟨g, 0, none⟩) ts.length cv) := HCW.out.b.cell 0
                    have q3 : wr.cell? ⟨g, a * 4 + 3, none⟩ = some (.slice ai2 xt.length ci2) := cell_fr HQ3.out FQ.out (fun h => h)
                    by_cases hki : k < xt.length
                    · have k2 : (k : Int) < (xt.length : Int) := by omega
                      obtain ⟨gi, oi, rfl, -, qi⟩ := slK (k := 3) (f := IxV.cells) (by decide) ix_len ((HXI2.out.fre FQ.out).sl' (R := fun _ => True) (fun _ _ => trivial)) hki
                      have HP0 := hid (show wr.cell? ⟨gi, oi + k * 3, none⟩ = some (.string (bs xt[k].x.name)) from qi 0 (by decide))
                      have BW := hid (Blk.fr HWB.out.2.2.1 FQ.out (fun h => h))
                      have HQA := hid (And.intro p0 q3)
                      have HYES := hid (HANT.out k hki)
                      have HNO := hid (fun (hb : (xt[k].x.name == name) = false) => (fun b (hb2 : b < xt.length) (hbk : b < k + 1) => by
                        by_cases e : b = k
                        · subst e; exact hb
                        · exact HI.out b hb2 (by omega) : ∀ b (hb : b < xt.length), b < k + 1 → (xt[b].x.name == name) = false))
                      clear qi
                      generalize xt[k].x.name = y at *
                      go_upto_region 29 with fail
                      clear p0 q3
                      by_cases hxy : y = name
                      · have hne : ((bs y).toList == (bs name).toList) = true := by rw [beq_bs]; simpa using hxy
                        have HX := hid (HER.out 51 (HE5.out.trans (if_pos (.inr (HYES.out (by simpa using hxy))))) (by decide))
                        clear HE5 HER HYES HNO hxy
                        refine wp_region_scr (.take 0 (.take 1 (.take 2 (.take 3 (.take 4 (.take 5 (.take 6 (.take 7 (.take 8 (.take 9 (.take 10 (.take 11 (.take 12 (.take 13 (.take 14 .done))))))))))))))) (fun kz w => (kz ≤ 15 → (w.cell? ⟨c, 0, none⟩ = some (.slice (some ⟨g, 0, none⟩) ts.length cv) ∧ w.cell? ⟨g, a * 4 + 3, none⟩ = some (.slice (some ⟨gi, oi, none⟩) xt.length ci2) ∧ w.cell? ⟨gi, oi + k * 3, none⟩ = some (.string (bs y)) ∧ w.cell? ⟨d, 2, none⟩ = some (.string (bs name)))) ∧ Hid True) (by kernel_rfl) (by kernel_rfl) (by intro c a d v w h; cases d <;> exact h) ?_
                        repeat
                          first
                          | (refine wpT_pure rfl rfl rfl ?_; apply Exists.intro; refine ⟨?_, ?_⟩; intro w; (first | ((obtain ⟨q1, q2, q3, q4⟩ := qa; go_simp <;> rfl)) | (go_simp <;> rfl)); simp only [Act.put, List.setIfInBounds_toArray, List.set_cons_zero, List.set_cons_succ])
                          | (refine wpT_take 15 rfl rfl (by decide +kernel) ⟨fun _ => ⟨HQA.out.1, HQA.out.2, HP0.out, BW.out.drew.cell 2⟩, hid trivial⟩ ?_; apply Exists.intro; refine ⟨?_, ?_⟩; intro w hw; (have qa := hw.1 (Nat.le_refl _); have qb := hw.2); (first | ((obtain ⟨q1, q2, q3, q4⟩ := qa; go_simp <;> rfl)) | (go_simp <;> rfl)); simp only [Act.put, List.setIfInBounds_toArray, List.set_cons_zero, List.set_cons_succ])
                          | (refine wpT_skip rfl rfl ?_; simp only [Act.put, List.setIfInBounds_toArray, List.set_cons_zero, List.set_cons_succ])
                        refine wpT_nil ?_
                        have FD := hid ((HWB.out.2.2.2.trans FQ.out (fun _ h _ => h)).trans ((Fr.refl (fun _ => False) _).drew) (fun _ h _ => h))
                        clear HP0 HQA
                        go_wp2_with (fail)
                        go_ret
                        exact err_finR HC.out HX.out FD.out
                      · have HN := hid (HNO.out (by simpa using hxy))
                        have hne : ((bs y).toList == (bs name).toList) = false := by rw [beq_bs]; simpa using hxy
                        clear HYES HNO hxy
                        refine wp_region_scr (.take 0 (.take 1 (.take 2 (.take 3 (.take 4 (.take 5 (.take 6 (.take 7 (.take 8 (.take 9 (.take 10 (.take 11 (.take 12 (.take 13 (.take 14 .done))))))))))))))) (fun kz w => (kz ≤ 15 → (w.cell? ⟨c, 0, none⟩ = some (.slice (some ⟨g, 0, none⟩) ts.length cv) ∧ w.cell? ⟨g, a * 4 + 3, none⟩ = some (.slice (some ⟨gi, oi, none⟩) xt.length ci2) ∧ w.cell? ⟨gi, oi + k * 3, none⟩ = some (.string (bs y)) ∧ w.cell? ⟨d, 2, none⟩ = some (.string (bs name)))) ∧ Hid True) (by kernel_rfl) (by kernel_rfl) (by intro c a d v w h; cases d <;> exact h) ?_
                        repeat
                          first
                          | (refine wpT_pure rfl rfl rfl ?_; apply Exists.intro; refine ⟨?_, ?_⟩; intro w; (first | ((obtain ⟨q1, q2, q3, q4⟩ := qa; go_simp <;> rfl)) | (go_simp <;> rfl)); simp only [Act.put, List.setIfInBounds_toArray, List.set_cons_zero, List.set_cons_succ])
                          | (refine wpT_take 15 rfl rfl (by decide +kernel) ⟨fun _ => ⟨HQA.out.1, HQA.out.2, HP0.out, BW.out.drew.cell 2⟩, hid trivial⟩ ?_; apply Exists.intro; refine ⟨?_, ?_⟩; intro w hw; (have qa := hw.1 (Nat.le_refl _); have qb := hw.2); (first | ((obtain ⟨q1, q2, q3, q4⟩ := qa; go_simp <;> rfl)) | (go_simp <;> rfl)); simp only [Act.put, List.setIfInBounds_toArray, List.set_cons_zero, List.set_cons_succ])
                          | (refine wpT_skip rfl rfl ?_; simp only [Act.put, List.setIfInBounds_toArray, List.set_cons_zero, List.set_cons_succ])
                        refine wpT_nil ?_
                        have FD := hid (FQ.out.trans ((Fr.refl (fun _ => False) _).drew) (fun _ h _ => h))
                        clear HP0 HQA
                        go_wp2_with (fail)
                        go_roundw
                        case rel => exact ⟨k + 1, by omega, by go_num, HN.out, FD.out⟩
                        case measure => simp [intOf]; omega
                    · obtain rfl : k = xt.length := by omega
                      have k2 : ¬ (xt.length : Int) < (xt.length : Int) := by omega
                      have HALL := hid (HANY.out (fun b hb => HI.out b hb hb))
                      have HN := hid (show ∀ b (hb : b < ts.length), b < a + 1 → (ts[b].t.ixs.any (fun x => x.name == name)) = false from fun b hb hba => by
                        by_cases e : b = a
                        · subst e; exact HALL.out
                        · exact HA.out b hb (by omega))
                      go_wp2_with (fail)
                      go_roundw
                      case rel => exact ⟨a + 1, by omega, by go_num, HN.out, FQ.out⟩
                      case measure => simp [intOf]; omega
                · obtain rfl : a = ts.length := by omega
                  have a2 : ¬ (ts.length : Int) < (ts.length : Int) := by omega
                  have HE6 := hid (HE5.out.trans (if_neg (by
                    rintro (h | h)
                    · exact HND.out h
                    · refine any_none (l := ts.map TabV.t) (p := fun t => t.ixs.any (fun x => x.name == name)) (fun b hb => ?_) h
                      have hb2 : b < ts.length := by simpa using hb
                      rw [List.getElem_map]
                      exact HA.out b hb2 hb2)))
                  clear HE5 HA HND
                  have F0 := hid (HWB.out.2.2.2.trans FQ.out (fun _ h _ => h))
                  have HXL := hid (show ixs0.length = ix.length from by have e := HXT.out.e; dsimp only at e; rw [e, List.length_map])
                  rw [HXL.out] at HE6
                  have q3 : wr.cell? ⟨g, i * 4 + 3, none⟩ = some (.slice ai ix.length ci) := cell_fr (HWB.out.1 3 _ rfl) FQ.out (fun h => h)
                  by_cases h4 : 4 ≤ ix.length
                  · have HX := hid (HER.out 2 (HE6.out.trans (if_pos h4)) (by decide))
                    have i4 : (4 : Int) ≤ (ix.length : Int) := by omega
                    clear HE6 HER
                    go_wp2_with (fail)
                    go_ret
                    exact err_finR HC.out HX.out F0.out
                  · have HX := hid (HE6.out.trans (if_neg h4))
                    have i4 : ¬ (4 : Int) ≤ (ix.length : Int) := by omega
                    clear HE6 HER
                    go_upto_region 33 with fail
                    have HR1 := hid (Row.built (e := 177) (n := 0) (size := 3) (B := wr.heap.size) wr (l := []) rfl (by decide) (Nat.le_refl _))
                    have fa := (Fr.refl (fun _ => False) wr).alloc (.cells #[] 177)
                    have F7 := hid (F0.out.trans fa (fun _ h _ => h))
                    have HSR := hid (Sl.srcK (P := Tryz.prog) (size := 3) ((HXT.out.fr F7.out (fun _ _ h => h)).i.sl' (R := fun _ => True) (fun _ _ => trivial)) (flat_len (k := 3) (fun _ => rfl) _) (by decide) (ixv_one (fun x hx => by obtain ⟨a, c, e, _⟩ := (HXT.out.x x hx).1.slice; exact ⟨_, _, _, e⟩)))
                    dsimp only at HSR
                    have HSIZ := hid F0.out.size
                    clear p0 q3
                    have p0 : (wr.alloc (.cells #[] 177)).cell? ⟨c, 0, none⟩ = some (.slice (some ⟨g, 0, none⟩) ts.length cv) := (HC.out.fre F7.out).b.cell 0
                    have q3 : (wr.alloc (.cells #[] 177)).cell? ⟨g, i * 4 + 3, none⟩ = some (.slice ai ix.length ci) := cell_fr (HWB.out.1 3 _ rfl) (FQ.out.trans fa (fun _ h _ => h)) (fun h => h)
                    go_upto_region 34 with (at_builtin; refine wpList_appS rfl (s := .tmp 150) (x := .tmp 158) (t := 173) (tx := 173) rfl Tryz.underlying173 Tryz.underlying173 (.inr ⟨_, rfl⟩) info_ix2 rfl rfl rfl HR1.out (by rw [World.size_alloc]; omega) HSR.out (by omega) (by omega) ?_; intro ab2 ac2 wg APP; simp only [Nat.zero_add] at APP ⊢; have F10 := hid (F7.out.trans APP.fr (fun k hk hl => by have h1 := HR1.out.new k hk; have h2 := HSIZ.out; omega)); have HRX := hid (APP.row.cast (m := ix.length) (ys := ix.flatMap IxV.cells) (Nat.zero_add _) rfl); have FD2 := hid (((Fr.refl (fun _ => False) wr).alloc (.cells #[] 177)).trans APP.fr (fun k hk hl => by have h1 := HR1.out.new k hk; omega)); clear APP)
                    clear p0 q3 HR1 HSR F7
                    have FD3 := hid (FQ.out.trans FD2.out (fun _ h _ => h))
                    have fd := (Fr.refl (fun _ => False) wg).drew
                    have F11 := hid (F10.out.trans fd (fun _ h _ => h))
                    have FD4 := hid (FD3.out.trans fd (fun _ h _ => h))
                    have HRX4 := hid (HRX.out.fre fd)
                    have HB4 := hid (Blk.fr HBE.out FD4.out (fun h => h))
                    have HRO4 := hid (HROW.out.fre FD4.out)
                    have HG4 := hid (Nat.le_trans FD2.out.size fd.size)
                    clear fd HRX FD2 FD3 F10
                    refine wp_region_scr (.take 0 (.take 1 (.take 2 (.take 3 (.take 4 (.take 5 (.take 6 (.op 7 (.op 8 (.take 9 (.take 10 (.op 11 .done)))))))))))) (fun kz w => (kz ≤ 11 → (w.cell? ⟨c, 0, none⟩ = some (.slice (some ⟨g, 0, none⟩) ts.length cv) ∧ w.rangeAt ex 0 [.string (bs name), .slice ax names.length cx, .int .i64 root])) ∧ Hid True) (by kernel_rfl) (by kernel_rfl) (by intro c a d v w h; cases d <;> exact h) ?_
                    generalize wg.drew = WG at *
                    have HCG := hid (HC.out.fre F11.out)
                    repeat
                      first
                      | (refine wpT_pure rfl rfl rfl ?_; apply Exists.intro; refine ⟨?_, ?_⟩; intro w; (first | (first | exact run_load_mid _ _ rfl ex _ rfl _ _ qa.2 Tryz.underlying177 rfl size_ix2 | (obtain ⟨q1, q2⟩ := qa; go_simp <;> rfl)) | (go_simp <;> rfl)); simp only [Act.put, List.setIfInBounds_toArray, List.set_cons_zero, List.set_cons_succ])
                      | (refine wpT_take 11 rfl rfl (by decide +kernel) ⟨fun _ => ⟨HCG.out.b.cell 0, Blk.all _ HB4.out⟩, hid trivial⟩ ?_; apply Exists.intro; refine ⟨?_, ?_⟩; intro w hw; (have qa := hw.1 (Nat.le_refl _); have qb := hw.2); (first | (first | exact run_load_mid _ _ rfl ex _ rfl _ _ qa.2 Tryz.underlying177 rfl size_ix2 | (obtain ⟨q1, q2⟩ := qa; go_simp <;> rfl)) | (go_simp <;> rfl)); simp only [Act.put, List.setIfInBounds_toArray, List.set_cons_zero, List.set_cons_succ])
                      | (refine wpT_skip rfl rfl ?_; simp only [Act.put, List.setIfInBounds_toArray, List.set_cons_zero, List.set_cons_succ])
                    have FA := hid (fun o => (Fr.refl (fun _ => False) WG).alloc o)
                    refine wpT_op rfl ?_
                    go_wp2_with (fail)
                    (refine ⟨?_, ?_⟩; focus (intro kz hk hk2 hh; first | (exfalso; simp at hk2; omega) | exact hh | exact (fun h => absurd h (by omega)) | obtain ⟨qa, qb⟩ := hh; first | exact ⟨qa, qb⟩ | (refine ⟨fun h => absurd h (by omega), ?_⟩; first | exact qb | (exact ⟨(HCG.out.fre (FA.out _)).b.cell 0, Blk.all _ (Blk.fr HB4.out (FA.out _) (fun h => h))⟩)) | (refine ⟨fun h => ?_, ?_⟩; (have qa := qa h); all_goals (first | exact qa | exact qb | (exact ⟨(HCG.out.fre (FA.out _)).b.cell 0, Blk.all _ (Blk.fr HB4.out (FA.out _) (fun h => h))⟩)))))
                    have HNC := hid (HRX4.out.ne HCG.out.b (by decide))
                    have HXB := hid (show ∀ k, (Value.slice ab2 ix.length ac2).ownBlock = some k → ¬ k = ex from fun k hk e => by have h1 := HRX4.out.new k hk; have h2 := (Blk.lt HBE.out); have h3 := FQ.out.size; omega)
                    refine wpT_op rfl ?_
                    go_wp2_with ((at_builtin; refine wpList_app1 rfl (s := .tmp 165) (x := .tmp 167) (t := 173) rfl Tryz.underlying173 info_ix2 rfl rfl rfl HRX4.out HG4.out rfl (by simp [Value.oneCell']) (by omega) (by omega) ?_; intro ab3 ac3 wh APP; have HRI := hid (APP.row.low (A := w.heap.size) HSIZ.out); have F12 := hid (F11.out.trans APP.fr (fun k hk hl => by have h1 := HRX4.out.new k hk; have h2 := HSIZ.out; omega)); have HBC := hid (Blk.fr HCG.out.b APP.fr (fun hk => HNC.out _ hk rfl)); have HBX := hid (Blk.fr HB4.out APP.fr (fun hk => HXB.out _ hk rfl)); have HRO5 := hid (HRO4.out.fr APP.fr (rows_ne HRO4.out HRX4.out (by decide))); clear APP))
                    (refine ⟨?_, ?_⟩; focus (intro kz hk hk2 hh; first | (exfalso; simp at hk2; omega) | exact hh | exact (fun h => absurd h (by omega)) | obtain ⟨qa, qb⟩ := hh; first | exact ⟨qa, qb⟩ | (refine ⟨fun h => absurd h (by omega), ?_⟩; first | exact qb | (exact ⟨HBC.out.cell 0, Blk.all _ HBX.out⟩)) | (refine ⟨fun h => ?_, ?_⟩; (have qa := qa h); all_goals (first | exact qa | exact qb | (exact ⟨HBC.out.cell 0, Blk.all _ HBX.out⟩)))))
                    repeat
                      first
                      | (refine wpT_pure rfl rfl rfl ?_; apply Exists.intro; refine ⟨?_, ?_⟩; intro w; ((go_simp <;> rfl)); simp only [Act.put, List.setIfInBounds_toArray, List.set_cons_zero, List.set_cons_succ])
                      | (refine wpT_take 11 rfl rfl (by decide +kernel) ⟨fun _ => ⟨HBC.out.cell 0, Blk.all _ HBX.out⟩, hid trivial⟩ ?_; apply Exists.intro; refine ⟨?_, ?_⟩; intro w hw; (have qa := hw.1 (Nat.le_refl _); have qb := hw.2); ((go_simp <;> rfl)); simp only [Act.put, List.setIfInBounds_toArray, List.set_cons_zero, List.set_cons_succ])
                      | (refine wpT_skip rfl rfl ?_; simp only [Act.put, List.setIfInBounds_toArray, List.set_cons_zero, List.set_cons_succ])
                    have HC9 := hid (HC.out.fre F12.out)
                    obtain ⟨g9, hg9, -, hr9⟩ := tab_at HC9.out.r hit
                    simp only [Option.some.injEq, Addr.mk.injEq, and_true] at hg9
                    subst hg9
                    rw [← HXI.out] at hr9
                    have q3 : wh.cell? ⟨g, i * 4 + 3, none⟩ = some (.slice ai ix.length ci) := hr9 3 _ rfl
                    obtain ⟨lg, hbg⟩ := row_blk HC9.out.r (k := g) rfl
                    have z3 := hbg.frozen (i * 4 + 3)
                    have HEND := hid (index_endR (s := s) (root := root) HC.out HX.out F12.out hit (by rw [HSE.out.1]; exact HZ.out) (g := g) rfl (vn := .slice ax names.length cx) (vi' := .slice ab3 (ix.length + 1) ac3) (by rw [HSE.out.2.2, ← HXI.out]; exact (HRO5.out.low HW5.out).cast rfl rfl) (by rw [HSE.out.2.1, ← HXI.out]; exact HRI.out))
                    have HQ := hid (show (0 : Int) = (index (ts.map TabV.t) s root).2 from by unfold index; rw [if_pos HX.out])
                    clear hr9 hbg
                    refine wpT_op rfl ?_
                    go_wp2_with (fail)
                    (refine ⟨?_, ?_⟩; focus (intro kz hk hk2 hh; first | (exfalso; simp at hk2; omega) | exact hh | exact (fun h => absurd h (by omega)) | obtain ⟨qa, qb⟩ := hh; first | exact ⟨qa, qb⟩ | (refine ⟨fun h => absurd h (by omega), ?_⟩; first | exact qb | (exact hid trivial)) | (refine ⟨fun h => ?_, ?_⟩; (have qa := qa h); all_goals (first | exact qa | exact qb | (exact hid trivial)))))
                    refine wpT_nil ?_
                    go_wp2_with (fail)
                    go_ret
                    exact ⟨ret_int HQ.out, HEND.out.1, HEND.out.2⟩
end Go.Proofs.YtiimomgbklgicaaGreat
