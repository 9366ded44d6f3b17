import Derived.Test.YtgkfdlpijefgkaaGreatDoorCtX
/- Two tables compared (the reference's Same). -/
set_option linter.unusedVariables false
namespace Go.Proofs.YtgkfdlpijefgkaaGreatDoor
open Go.RowKit Go.VB Go.VB.Oct Go.VB.Cat Go.VB.Rec
theorem take_eq_step {α : Type} {l m : List α} {j : Nat} (h1 : j < l.length) (h2 : j < m.length) (h : l.take j = m.take j) (he : l[j] = m[j]) : l.take (j + 1) = m.take (j + 1) := by
  rw [List.take_add_one, List.take_add_one, h, List.getElem?_eq_getElem h1, List.getElem?_eq_getElem h2, he]
theorem bs_list_eq (a b : List UInt8) : ((bs a).toList = (bs b).toList) = (a = b) := by
  have := beq_dec a b
  by_cases h : a = b
  · simp [h]
  · rw [decide_eq_false h] at this
    simp only [h, eq_iff_iff, iff_false]
    exact fun e => by rw [e] at this; simp at this
theorem step_neq_Col {op : Oper} {a : Act} {w : World} (xo yo : Operand) (ho : op.op = .binOp .neq 80 xo yo 80) {x y : Col} (hx : a.eval xo = .agg x.cells.toArray) (hy : a.eval yo = .agg y.cells.toArray) : (execOp a.eval op).run Tryz.prog w = .ok (.value (.bool (!decide (x = y)))) w := by
  unfold execOp
  simp only [ho, hx, hy]
  obtain ⟨n, k⟩ := x
  obtain ⟨n', k'⟩ := y
  unfold Col.cells
  go_simp
  simp only [bs_list_eq]
  by_cases h1 : k = k' <;> by_cases h2 : n = n' <;> simp [h1, h2]
theorem size_col : (Tryz.prog.info? 80).map (·.size) = some 2 := by kernel_rfl
/-- a table that is read -/
structure TabS (R : Nat → Prop) (W : World) (t : TabV) : Prop where
  c : Sl R W t.vc t.t.cols.length (t.t.cols.flatMap Col.cells)
  i : Sl R W t.vi t.ix.length (t.ix.flatMap IxV.cells)
  e : t.t.ixs = t.ix.map IxV.x
  x : ∀ x ∈ t.ix, Sl R W x.v x.x.cols.length (x.x.cols.flatMap icell)
  b : TabB t
theorem TabS.fre {R : Nat → Prop} {W W' : World} {t : TabV} (h : TabS R W t) (f : Fr (fun _ => False) W W') : TabS R W' t := ⟨h.c.fr f (fun _ _ h => h), h.i.fr f (fun _ _ h => h), h.e, fun x hx => (h.x x hx).fr f (fun _ _ h => h), h.b⟩
theorem TabO.s {S : Nat → Prop} {W : World} {t : TabV} (h : TabO S W t) (hb : TabB t) : TabS (fun _ => True) W t :=
  ⟨h.c.sl' (fun _ _ => trivial), h.i.sl' (fun _ _ => trivial), h.e, fun x hx => (h.x x hx).1.sl' (fun _ _ => trivial), hb⟩
theorem dec_no {a b : Tab} (h : a ≠ b) : decide (a = b) = false := decide_eq_false h
set_option maxRecDepth 20000 in
set_option maxHeartbeats 4000000 in
theorem Same_go {R R' : Nat → Prop} {w : World} {a b : TabV} (ha : TabS R w a) (hb : TabS R' w b) :
    Calls Tryz.prog 26 #[a.agg, b.agg] w fun e w' => e = .returned (.bool (decide (a.t = b.t))) ∧ Fr (fun _ => False) w w' := by
  obtain ⟨⟨ida, na, ca, xa⟩, va, wa, ia⟩ := a
  obtain ⟨⟨idb, nb, cb, xb⟩, vb, wb, ib⟩ := b
  have HA := hid ha
  have HB := hid hb
  obtain ⟨pa, sa, hva, _, _⟩ := ha.c
  obtain ⟨qa, ta, hwa, _, _⟩ := ha.i
  obtain ⟨pb, sb, hvb, _, _⟩ := hb.c
  obtain ⟨qb, tb, hwb, _, _⟩ := hb.i
  have bca := ha.b.c
  have bia := ha.b.i
  have bcb := hb.b.c
  have bib := hb.b.i
  dsimp only at hva hwa hvb hwb bca bia bcb bib
  subst hva hwa hvb hwb
  clear ha hb
  unfold TabV.agg TabV.cells
  dsimp only
  have F0 := hid (((Fr.refl (fun _ => False) w).alloc (.cells #[.int .i64 ida, .string (bs na), .slice pa ca.length sa, .slice qa ia.length ta] 34)).alloc (.cells #[.int .i64 idb, .string (bs nb), .slice pb cb.length sb, .slice qb ib.length tb] 34))
  have B2 := hid ((Blk.new w [.int .i64 ida, .string (bs na), .slice pa ca.length sa, .slice qa ia.length ta] 34).alloc (.cells #[.int .i64 idb, .string (bs nb), .slice pb cb.length sb, .slice qb ib.length tb] 34))
  have B3 := hid (Blk.new (w.alloc (.cells #[.int .i64 ida, .string (bs na), .slice pa ca.length sa, .slice qa ia.length ta] 34)) [.int .i64 idb, .string (bs nb), .slice pb cb.length sb, .slice qb ib.length tb] 34)
  simp only [World.size_alloc] at B3
  obtain ⟨z, hz⟩ : ∃ z, decide ((⟨ida, na, ca, xa⟩ : Tab) = ⟨idb, nb, cb, xb⟩) = z := ⟨_, rfl⟩
  rw [hz]
  have HZ := hid hz
  clear hz
  have HE1 := hid HA.out.e
  have HE2 := hid HB.out.e
  dsimp only at HE1 HE2
  go_enter Tryz.func26, Tryz.ntmps26
  go_upto_region 1 with fail
  generalize hd : w.heap.size = d at *
  clear hd
  generalize (w.alloc (.cells #[.int .i64 ida, .string (bs na), .slice pa ca.length sa, .slice qa ia.length ta] 34)).alloc _ = W0 at *
  have HA0 := hid (HA.out.fre F0.out)
  have HB0 := hid (HB.out.fre F0.out)
  clear HA HB
  have a0 : W0.cell? ⟨d, 0, none⟩ = some (.int .i64 ida) := B2.out.cell 0
  have a1 : W0.cell? ⟨d, 1, none⟩ = some (.string (bs na)) := B2.out.cell 1
  have a2 : W0.cell? ⟨d, 2, none⟩ = some (.slice pa ca.length sa) := B2.out.cell 2
  have a3 : W0.cell? ⟨d, 3, none⟩ = some (.slice qa ia.length ta) := B2.out.cell 3
  have b0 : W0.cell? ⟨d + 1, 0, none⟩ = some (.int .i64 idb) := B3.out.cell 0
  have b1 : W0.cell? ⟨d + 1, 1, none⟩ = some (.string (bs nb)) := B3.out.cell 1
  have b2 : W0.cell? ⟨d + 1, 2, none⟩ = some (.slice pb cb.length sb) := B3.out.cell 2
  have b3 : W0.cell? ⟨d + 1, 3, none⟩ = some (.slice qb ib.length tb) := B3.out.cell 3
  by_cases h1 : ida = idb
  · subst h1
    have e1 : (ida != ida) = false := by simp
    by_cases h2 : na = nb
    · subst h2
      by_cases h3 : ca.length = cb.length
      · have e3 : ((ca.length : Int) != (cb.length : Int)) = false := by simp [h3]
        by_cases h4 : ia.length = ib.length
        · have e4 : ((ia.length : Int) != (ib.length : Int)) = false := by simp [h4]
          have HL3 := hid h3
          have HL4 := hid h4
          clear h3 h4
          have HEQ := hid (fun (h : ca ≠ cb ∨ xa ≠ xb) => (dec_no fun e => by
            have e1 : ca = cb := by injection e
            have e2 : xa = xb := by injection e
            rcases h with h | h
            · exact h e1
            · exact h e2 : decide ((⟨ida, na, ca, xa⟩ : Tab) = ⟨ida, na, cb, xb⟩) = false))
          go_upto_region 3 with fail
          clear a0 a1 a2 a3 b0 b1 b2 b3
          go_wp2_with (fail)
          go_loopw [5] (fun i wr => ∃ j : Nat, j ≤ ca.length ∧ i = .int .i64 j ∧ ca.take j = cb.take j ∧ Fr (fun _ => False) W0 wr) (fun i _ => ca.length - (intOf i).toNat)
          case atStart => exact ⟨0, by omega, rfl, rfl, Fr.refl _ _⟩
          case round =>
            obtain ⟨j, hj, rfl, hall, fr⟩ := hrel
            have FR := hid fr
            have HAL := hid hall
            clear fr hall
            have HB2 := hid (Blk.fr B2.out FR.out (fun h => h))
            have HB3 := hid (Blk.fr B3.out FR.out (fun h => h))
            have a2 : wr.cell? ⟨d, 2, none⟩ = some (.slice pa ca.length sa) := HB2.out.cell 2
            by_cases hjl : j < ca.length
            · have hjm : j < cb.length := by have := HL3.out; omega
              obtain ⟨g, o, hg, -, q⟩ := slK (k := 2) (f := Col.cells) (by decide) col_len (HA0.out.fre FR.out).c hjl
              obtain ⟨g', o', hg', -, r⟩ := slK (k := 2) (f := Col.cells) (by decide) col_len (HB0.out.fre FR.out).c hjm
              cases hg
              cases hg'
              have i1 : (0 : Int) ≤ (j : Int) := by omega
              have i2 : (j : Int) < ca.length := by omega
              have i3 : (j : Int) < cb.length := by omega
              have RX := hid (fun i u hu => (q i (List.getElem?_eq_some_iff.1 hu).1).trans hu : wr.rangeAt g (o + j * 2) (Col.cells ca[j]))
              have RY := hid (fun i u hu => (r i (List.getElem?_eq_some_iff.1 hu).1).trans hu : wr.rangeAt g' (o' + j * 2) (Col.cells cb[j]))
              obtain ⟨x, hx⟩ : ∃ x, x = ca[j] := ⟨_, rfl⟩
              obtain ⟨y, hy⟩ : ∃ y, y = cb[j] := ⟨_, rfl⟩
              rw [← hx] at RX
              rw [← hy] at RY
              have HXX := hid hx
              have HYY := hid hy
              clear hx hy q r
              go_upto_region 6 with fail
              refine wp_region_scr (.take 0 (.take 1 (.take 2 (.take 3 (.take 4 (.take 5 (.take 6 (.take 7 (.take 8 (.take 9 (.take 10 .done))))))))))) (fun kz w => (kz ≤ 11 → w.rangeAt g (o + j * 2) (Col.cells x) ∧ w.rangeAt g' (o' + j * 2) (Col.cells y)) ∧ w.cell? ⟨d, 2, none⟩ = some (.slice (some ⟨g, o, none⟩) ca.length sa) ∧ w.cell? ⟨d + 1, 2, none⟩ = some (.slice (some ⟨g', o', none⟩) cb.length sb)) (by kernel_rfl) (by kernel_rfl) (by intro c a d v w h; cases d <;> exact h) ?_
              repeat
                first
                | (refine wpT_pure rfl rfl rfl ?_; apply Exists.intro; refine ⟨?_, ?_⟩; intro w; (first | (first | exact run_load_mid _ _ rfl g _ rfl _ _ qa.1 Tryz.underlying80 rfl size_col | exact run_load_mid _ _ rfl g' _ rfl _ _ qa.2 Tryz.underlying80 rfl size_col | exact step_neq_Col _ _ rfl rfl rfl | (obtain ⟨qb1, qb2⟩ := qb; go_simp <;> rfl)) | (go_simp <;> rfl)); simp only [Act.put, List.setIfInBounds_toArray, List.set_cons_zero, List.set_cons_succ])
                | (refine wpT_take 11 rfl rfl (by decide +kernel) ⟨fun _ => ⟨RX.out, RY.out⟩, HB2.out.cell 2, HB3.out.cell 2⟩ ?_; apply Exists.intro; refine ⟨?_, ?_⟩; intro w hw; (have qa := hw.1 (Nat.le_refl _); have qb := hw.2); (first | (first | exact run_load_mid _ _ rfl g _ rfl _ _ qa.1 Tryz.underlying80 rfl size_col | exact run_load_mid _ _ rfl g' _ rfl _ _ qa.2 Tryz.underlying80 rfl size_col | exact step_neq_Col _ _ rfl rfl rfl | (obtain ⟨qb1, qb2⟩ := qb; go_simp <;> rfl)) | (go_simp <;> rfl)); simp only [Act.put, List.setIfInBounds_toArray, List.set_cons_zero, List.set_cons_succ])
                | (refine wpT_skip rfl rfl ?_; simp only [Act.put, List.setIfInBounds_toArray, List.set_cons_zero, List.set_cons_succ])
              refine wpT_nil ?_
              clear a2
              by_cases hxy : x = y
              · have HE := hid (show ca[j] = cb[j] by rw [← HXX.out, ← HYY.out, hxy])
                subst hxy
                go_wp2_with (fail)
                go_roundw
                case rel => exact ⟨j + 1, by omega, by go_num, take_eq_step hjl hjm HAL.out HE.out, FR.out.drew⟩
                case measure => simp [intOf]; omega
              · rw [show (!decide (x = y)) = true by simp [hxy]]
                have HX := hid (HEQ.out (.inl fun e => hxy (by rw [HXX.out, HYY.out]; subst e; rfl)))
                have FF := hid (F0.out.trans FR.out.drew (fun _ h _ => h))
                clear hxy
                go_wp2_with (fail)
                go_ret
                exact ⟨by rw [← HZ.out, HX.out]; rfl, FF.out⟩
            · obtain rfl : j = ca.length := by omega
              have i9 : ¬ ((ca.length : Int) < (ca.length : Int)) := by omega
              have HCC := hid (show ca = cb from by
                have h1 := HAL.out
                rw [List.take_length, HL3.out, List.take_length] at h1
                exact h1)
              go_upto_region 8 with fail
              clear a2 HB2 HB3 HAL
              go_wp2_with (fail)
              go_loopw [6] (fun i wr => ∃ j : Nat, j ≤ ia.length ∧ i = .int .i64 j ∧ (ia.take j).map IxV.x = (ib.take j).map IxV.x ∧ Fr (fun _ => False) W0 wr) (fun i _ => ia.length - (intOf i).toNat)
              case atStart => exact ⟨0, by omega, rfl, rfl, FR.out⟩
              case round =>
                obtain ⟨j, hj, rfl, hall, fr⟩ := hrel
                clear FR
                have FR := hid fr
                have HAL := hid hall
                clear fr hall
                have HB2 := hid (Blk.fr B2.out FR.out (fun h => h))
                have HB3 := hid (Blk.fr B3.out FR.out (fun h => h))
                have a3 : wr.cell? ⟨d, 3, none⟩ = some (.slice qa ia.length ta) := HB2.out.cell 3
                have b3 : wr.cell? ⟨d + 1, 3, none⟩ = some (.slice qb ib.length tb) := HB3.out.cell 3
                by_cases hjl : j < ia.length
                · have hjm : j < ib.length := by have := HL4.out; omega
                  have HAX := hid ((HA0.out.fre FR.out).x _ (List.getElem_mem hjl))
                  have HBX := hid ((HB0.out.fre FR.out).x _ (List.getElem_mem hjm))
                  have HAB := hid ((HA0.out.b).x _ (List.getElem_mem hjl))
                  have HBB := hid ((HB0.out.b).x _ (List.getElem_mem hjm))
                  obtain ⟨g, o, hg, -, q⟩ := slK (k := 3) (f := IxV.cells) (by decide) ix_len (HA0.out.fre FR.out).i hjl
                  obtain ⟨g', o', hg', -, r⟩ := slK (k := 3) (f := IxV.cells) (by decide) ix_len (HB0.out.fre FR.out).i hjm
                  cases hg
                  cases hg'
                  have i1 : (0 : Int) ≤ (j : Int) := by omega
                  have i2 : (j : Int) < ia.length := by omega
                  have i3 : (j : Int) < ib.length := by omega
                  have q0 := q 0 (by decide)
                  have q1 := q 1 (by decide)
                  have q2 := q 2 (by decide)
                  have r0 := r 0 (by decide)
                  have r1 := r 1 (by decide)
                  have r2 := r 2 (by decide)
                  have HT := hid (fun (he : ia[j].x = ib[j].x) => (by
                    rw [List.take_succ_eq_append_getElem hjl, List.take_succ_eq_append_getElem hjm, List.map_append, List.map_append, HAL.out, List.map_singleton, List.map_singleton, he] : (ia.take (j + 1)).map IxV.x = (ib.take (j + 1)).map IxV.x))
                  have HN := hid (fun (he : ia[j].x ≠ ib[j].x) => (HEQ.out (.inr fun e => he (by
                    rw [HE1.out, HE2.out] at e
                    have h1 := congrArg (fun l => l[j]?) e
                    simp only [List.getElem?_map, List.getElem?_eq_getElem hjl, List.getElem?_eq_getElem hjm, Option.map_some, Option.some.injEq] at h1
                    exact h1)) : decide ((⟨ida, na, ca, xa⟩ : Tab) = ⟨ida, na, cb, xb⟩) = false))
                  obtain ⟨x, hx⟩ : ∃ x, x = ia[j] := ⟨_, rfl⟩
                  obtain ⟨y, hy⟩ : ∃ y, y = ib[j] := ⟨_, rfl⟩
                  rw [← hx] at q0 q1 q2 HAX HAB HT HN
                  rw [← hy] at r0 r1 r2 HBX HBB HT HN
                  clear hx hy q r HAL
                  obtain ⟨⟨xn, xc, xr⟩, xv⟩ := x
                  obtain ⟨⟨yn, yc, yr⟩, yv⟩ := y
                  obtain ⟨px, sx, hpx, _, _⟩ := HAX.out
                  obtain ⟨py, sy, hpy, _, _⟩ := HBX.out
                  dsimp only at hpx hpy
                  subst hpx hpy
                  simp only [IxV.cells, Nat.add_zero, List.getElem?_cons_zero, List.getElem?_cons_succ] at q0 q1 q2 r0 r1 r2
                  dsimp only at HT HN HAX HBX HAB HBB
                  have hal := HAB.out
                  have hbl := HBB.out
                  go_upto_region 12 with fail
                  have fa := (Fr.refl (fun _ => False) wr).alloc (.cells #[.string (bs xn), .slice px xc.length sx, .int .i64 xr] 44)
                  have B70 := hid (Blk.new wr [.string (bs xn), .slice px xc.length sx, .int .i64 xr] 44)
                  have HR0 := hid (And.intro (cell_fr r0 fa (fun h => h)) (And.intro (cell_fr r1 fa (fun h => h)) (And.intro (cell_fr r2 fa (fun h => h)) (cell_fr b3 fa (fun h => h)))))
                  have F10 := hid (FR.out.trans fa (fun _ h _ => h))
                  replace HAX := hid (HAX.out.fr fa (fun _ _ h => h))
                  replace HBX := hid (HBX.out.fr fa (fun _ _ h => h))
                  clear fa q0 q1 q2 r0 r1 r2 a3 b3 HB2 HB3
                  generalize wr.heap.size = d7 at *
                  generalize wr.alloc _ = W6 at *
                  obtain ⟨r0, r1, r2, b3⟩ := HR0.out
                  go_upto_region 13 with fail
                  have fa := (Fr.refl (fun _ => False) W6).alloc (.cells #[.string (bs yn), .slice py yc.length sy, .int .i64 yr] 44)
                  have B8 := hid (Blk.new W6 [.string (bs yn), .slice py yc.length sy, .int .i64 yr] 44)
                  have B7 := hid (Blk.fr B70.out fa (fun h => h))
                  have F1 := hid (F10.out.trans fa (fun _ h _ => h))
                  replace HAX := hid (HAX.out.fr fa (fun _ _ h => h))
                  replace HBX := hid (HBX.out.fr fa (fun _ _ h => h))
                  clear fa r0 r1 r2 b3 B70 F10 HR0
                  generalize W6.heap.size = d8 at *
                  generalize W6.alloc _ = W1 at *
                  have a0 : W1.cell? ⟨d7, 0, none⟩ = some (.string (bs xn)) := B7.out.cell 0
                  have a1 : W1.cell? ⟨d7, 1, none⟩ = some (.slice px xc.length sx) := B7.out.cell 1
                  have a2 : W1.cell? ⟨d7, 2, none⟩ = some (.int .i64 xr) := B7.out.cell 2
                  have b0 : W1.cell? ⟨d8, 0, none⟩ = some (.string (bs yn)) := B8.out.cell 0
                  have b1 : W1.cell? ⟨d8, 1, none⟩ = some (.slice py yc.length sy) := B8.out.cell 1
                  have b2 : W1.cell? ⟨d8, 2, none⟩ = some (.int .i64 yr) := B8.out.cell 2
                  by_cases h1 : xn = yn
                  · subst h1
                    by_cases h2 : xr = yr
                    · subst h2
                      have e2 : (xr != xr) = false := by simp
                      by_cases h3 : xc.length = yc.length
                      · have e3 : ((xc.length : Int) != (yc.length : Int)) = false := by simp [h3]
                        have HL5 := hid h3
                        clear h3
                        go_upto_region 15 with fail
                        clear a0 a1 a2 b0 b1 b2
                        go_wp2_with (fail)
                        go_loopw [9] (fun i wr => ∃ k : Nat, k ≤ xc.length ∧ i = .int .i64 k ∧ xc.take k = yc.take k ∧ Fr (fun _ => False) W1 wr) (fun i _ => xc.length - (intOf i).toNat)
                        case atStart => exact ⟨0, by omega, rfl, rfl, Fr.refl _ _⟩
                        case round =>
                          obtain ⟨k, hk, rfl, hall, fr⟩ := hrel
                          have FR2 := hid fr
                          have HAL := hid hall
                          clear fr hall
                          have HB7 := hid (Blk.fr B7.out FR2.out (fun h => h))
                          have HB8 := hid (Blk.fr B8.out FR2.out (fun h => h))
                          have a1 : wr.cell? ⟨d7, 1, none⟩ = some (.slice px xc.length sx) := HB7.out.cell 1
                          by_cases hkl : k < xc.length
                          · have hkm : k < yc.length := by have := HL5.out; omega
                            obtain ⟨g2, o2, hg2, -, q⟩ := slK (k := 1) (f := icell) (by decide) icell_one' (HAX.out.fr FR2.out (fun _ _ h => h)) hkl
                            obtain ⟨g3, o3, hg3, -, r⟩ := slK (k := 1) (f := icell) (by decide) icell_one' (HBX.out.fr FR2.out (fun _ _ h => h)) hkm
                            cases hg2
                            cases hg3
                            have i1 : (0 : Int) ≤ (k : Int) := by omega
                            have i2 : (k : Int) < xc.length := by omega
                            have i3 : (k : Int) < yc.length := by omega
                            have q0 := q 0 (by decide)
                            have r0 := r 0 (by decide)
                            obtain ⟨x, hx⟩ : ∃ x, x = xc[k] := ⟨_, rfl⟩
                            obtain ⟨y, hy⟩ : ∃ y, y = yc[k] := ⟨_, rfl⟩
                            rw [← hx] at q0
                            rw [← hy] at r0
                            simp only [icell, Nat.add_zero, Nat.mul_one, List.getElem?_cons_zero] at q0 r0
                            have HXX := hid hx
                            have HYY := hid hy
                            have HQ0 := hid q0
                            have HR0 := hid r0
                            clear hx hy q r q0 r0
                            go_upto_region 18 with fail
                            refine wp_region_scr (.take 0 (.take 1 (.take 2 (.take 3 (.take 4 (.take 5 (.take 6 (.take 7 (.take 8 (.take 9 (.take 10 .done))))))))))) (fun kz w => (kz ≤ 11 → w.cell? ⟨g2, o2 + k, none⟩ = some (.int .i64 x) ∧ w.cell? ⟨g3, o3 + k, none⟩ = some (.int .i64 y)) ∧ w.cell? ⟨d7, 1, none⟩ = some (.slice (some ⟨g2, o2, none⟩) xc.length sx) ∧ w.cell? ⟨d8, 1, none⟩ = some (.slice (some ⟨g3, o3, none⟩) yc.length sy)) (by kernel_rfl) (by kernel_rfl) (by intro c a d v w h; cases d <;> exact h) ?_
                            repeat
                              first
                              | (refine wpT_pure rfl rfl rfl ?_; apply Exists.intro; refine ⟨?_, ?_⟩; intro w; (first | (first | (obtain ⟨qa1, qa2⟩ := qa; obtain ⟨qb1, qb2⟩ := qb; go_simp <;> rfl)) | (go_simp <;> rfl)); simp only [Act.put, List.setIfInBounds_toArray, List.set_cons_zero, List.set_cons_succ])
                              | (refine wpT_take 11 rfl rfl (by decide +kernel) ⟨fun _ => ⟨HQ0.out, HR0.out⟩, HB7.out.cell 1, HB8.out.cell 1⟩ ?_; apply Exists.intro; refine ⟨?_, ?_⟩; intro w hw; (have qa := hw.1 (Nat.le_refl _); have qb := hw.2); (first | (first | (obtain ⟨qa1, qa2⟩ := qa; obtain ⟨qb1, qb2⟩ := qb; go_simp <;> rfl)) | (go_simp <;> rfl)); simp only [Act.put, List.setIfInBounds_toArray, List.set_cons_zero, List.set_cons_succ])
                              | (refine wpT_skip rfl rfl ?_; simp only [Act.put, List.setIfInBounds_toArray, List.set_cons_zero, List.set_cons_succ])
                            refine wpT_nil ?_
                            clear a1
                            by_cases hxy : x = y
                            · have HE := hid (show xc[k] = yc[k] by rw [← HXX.out, ← HYY.out, hxy])
                              subst hxy
                              have e5 : (x != x) = false := by simp
                              go_wp2_with (fail)
                              go_roundw
                              case rel => exact ⟨k + 1, by omega, by go_num, take_eq_step hkl hkm HAL.out HE.out, FR2.out.drew⟩
                              case measure => simp [intOf]; omega
                            · have e5 : (x != y) = true := by simpa using hxy
                              have HX := hid (HN.out (fun e => hxy (by
                                have : xc = yc := by injection e
                                rw [HXX.out, HYY.out]; subst this; rfl)))
                              have FF := hid (F0.out.trans (F1.out.trans FR2.out.drew (fun _ h _ => h)) (fun _ h _ => h))
                              clear hxy
                              go_wp2_with (fail)
                              go_ret
                              exact ⟨by rw [← HZ.out, HX.out]; rfl, FF.out⟩
                          · obtain rfl : k = xc.length := by omega
                            have i9 : ¬ ((xc.length : Int) < (xc.length : Int)) := by omega
                            have HTT := hid (HT.out (by
                              have h1 := HAL.out
                              rw [List.take_length, HL5.out, List.take_length] at h1
                              rw [h1]))
                            have FF := hid (F1.out.trans FR2.out (fun _ h _ => h))
                            go_wp2_with (fail)
                            go_roundw
                            case rel => exact ⟨j + 1, by omega, by go_num, HTT.out, FF.out⟩
                            case measure => simp [intOf]; omega
                      · have HX := hid (HN.out (fun e => h3 (by
                          have : xc = yc := by injection e
                          rw [this])))
                        have e3 : ((xc.length : Int) != (yc.length : Int)) = true := by simpa using fun h => h3 (by omega)
                        have FF := hid (F0.out.trans F1.out (fun _ h _ => h))
                        clear h3
                        go_wp2_with (fail)
                        go_ret
                        exact ⟨by rw [← HZ.out, HX.out]; rfl, FF.out⟩
                    · have HX := hid (HN.out (fun e => h2 (by injection e)))
                      have e2 : (xr != yr) = true := by simpa using h2
                      have FF := hid (F0.out.trans F1.out (fun _ h _ => h))
                      clear h2
                      go_wp2_with (fail)
                      go_ret
                      exact ⟨by rw [← HZ.out, HX.out]; rfl, FF.out⟩
                  · have HX := hid (HN.out (fun e => h1 (by injection e)))
                    have e2 : ¬ (bs xn).toList = (bs yn).toList := by rw [bs_list_eq]; exact h1
                    have FF := hid (F0.out.trans F1.out (fun _ h _ => h))
                    clear h1
                    go_wp2_with (fail)
                    go_ret
                    exact ⟨by rw [← HZ.out, HX.out]; rfl, FF.out⟩
                · obtain rfl : j = ia.length := by omega
                  have i9 : ¬ ((ia.length : Int) < (ia.length : Int)) := by omega
                  have HX := hid (show decide ((⟨ida, na, ca, xa⟩ : Tab) = ⟨ida, na, cb, xb⟩) = true from by
                    have h1 := HAL.out
                    rw [List.take_length, HL4.out, List.take_length] at h1
                    have e2 : xa = xb := by rw [HE1.out, HE2.out, h1]
                    rw [decide_eq_true_eq, HCC.out, e2])
                  have FF := hid (F0.out.trans FR.out (fun _ h _ => h))
                  go_wp2_with (fail)
                  go_ret
                  exact ⟨by rw [← HZ.out, HX.out]; rfl, FF.out⟩
        · have HX := hid (show decide ((⟨ida, na, ca, xa⟩ : Tab) = ⟨ida, na, cb, xb⟩) = false from dec_no fun e => h4 (by
            have : xa = xb := by injection e
            rw [HE1.out, HE2.out] at this
            simpa using congrArg List.length this))
          have e4 : ((ia.length : Int) != (ib.length : Int)) = true := by simpa using fun h => h4 (by omega)
          clear h3 h4
          go_wp2_with (fail)
          go_ret
          exact ⟨by rw [← HZ.out, HX.out]; rfl, F0.out⟩
      · have HX := hid (show decide ((⟨ida, na, ca, xa⟩ : Tab) = ⟨ida, na, cb, xb⟩) = false from dec_no fun e => h3 (by
          have : ca = cb := by injection e
          rw [this]))
        have e3 : ((ca.length : Int) != (cb.length : Int)) = true := by simpa using fun h => h3 (by omega)
        clear h3
        go_wp2_with (fail)
        go_ret
        exact ⟨by rw [← HZ.out, HX.out]; rfl, F0.out⟩
    · have HX := hid (show decide ((⟨ida, na, ca, xa⟩ : Tab) = ⟨ida, nb, cb, xb⟩) = false from dec_no fun e => h2 (by injection e))
      have e2 : ¬ (bs na).toList = (bs nb).toList := by rw [bs_list_eq]; exact h2
      clear h2
      go_wp2_with (fail)
      go_ret
      exact ⟨by rw [← HZ.out, HX.out]; rfl, F0.out⟩
  · have HX := hid (show decide ((⟨ida, na, ca, xa⟩ : Tab) = ⟨idb, nb, cb, xb⟩) = false from dec_no fun e => h1 (by injection e))
    have e1 : (ida != idb) = true := by simpa using h1
    clear h1
    go_wp2_with (fail)
    go_ret
    exact ⟨by rw [← HZ.out, HX.out]; rfl, F0.out⟩
end Go.Proofs.YtgkfdlpijefgkaaGreatDoor
