import Derived.Test.YtgkfdlpijefgkaaGreatDoorCtW
/- Count. -/
set_option linter.unusedVariables false
namespace Go.VB.Cat
open Go.VB Go.VB.Oct Go.VB.Rec
/-- a row of values with its slice -/
structure RowV where
  v : Value
  r : List V
def RowV.cells (x : RowV) : List Value := [x.v]
theorem rowv_len (x : RowV) : x.cells.length = 1 := rfl
def ncell (n : Nat) : List Value := [.int .i64 n]
theorem ncell_len (n : Nat) : (ncell n).length = 1 := rfl
theorem countM_take (n : Nat) (rows : List (List V)) {j : Nat} (h : j < n) : (countM n rows).take (j + 1) = (countM n rows).take j ++ [dc eqV (colV j rows)] := by
  have hl : (countM n rows).length = n := by unfold countM; simp
  rw [List.take_succ_eq_append_getElem (by rw [hl]; exact h)]
  unfold countM
  simp
theorem countM_len (n : Nat) (rows : List (List V)) : (countM n rows).length = n := by unfold countM; simp
theorem colV_take (i : Nat) {rows : List (List V)} {k : Nat} (h : k < rows.length) : colV i (rows.take (k + 1)) = colV i (rows.take k) ++ (match rows[k][i]? with | some v => [v] | none => []) := by
  unfold colV
  rw [List.take_succ_eq_append_getElem h, List.filterMap_append]
  congr 1
  rw [List.filterMap_cons]
  cases rows[k][i]? <;> rfl
theorem colV_len (i : Nat) (rows : List (List V)) : (colV i rows).length ≤ rows.length := by unfold colV; exact List.length_filterMap_le _ _
end Go.VB.Cat
namespace Go.Proofs.YtgkfdlpijefgkaaGreatDoor
open Go.RowKit Go.VB Go.VB.Oct Go.VB.Cat Go.VB.Rec
theorem size_stats : (Tryz.prog.info? 74).map (·.size) = some 2 := by kernel_rfl
theorem info_val : (Tryz.prog.info? 46).map (fun i => (i.zero, i.size, i.bytes)) = some (some (.agg #[.int .i64 0, .int .i64 0, .string .empty]), 3, 32) := by kernel_rfl
/-- rows of values in memory -/
structure RowsS (R : Nat → Prop) (W : World) (v : Value) (L : List RowV) : Prop where
  s : Sl R W v L.length (L.flatMap RowV.cells)
  x : ∀ x ∈ L, Sl R W x.v x.r.length (x.r.flatMap V.cells) ∧ x.r.length ≤ 1048576
theorem RowsS.fre {R : Nat → Prop} {W W' : World} {v : Value} {L : List RowV} (h : RowsS R W v L) (f : Fr (fun _ => False) W W') : RowsS R W' v L := ⟨h.s.fr f (fun _ _ h => h), fun x hx => ⟨(h.x x hx).1.fr f (fun _ _ h => h), (h.x x hx).2⟩⟩
set_option maxRecDepth 20000 in
set_option maxHeartbeats 4000000 in
theorem Count_go {R : Nat → Prop} {w : World} (id : Int) (name : Bs) {ac ai : Option Addr} {nc cc ni ci : Nat} (hnc : nc ≤ 1048576) {vr : Value} {L : List RowV} (h : RowsS R w vr L) (hL : L.length ≤ 1048576) (K : Kn w) :
    Calls Tryz.prog 25 #[.agg #[.int .i64 id, .string (bs name), .slice ac nc cc, .slice ai ni ci], vr] w fun e w' => ∃ v, e = .returned (.agg #[.int .i64 L.length, v]) ∧ Row 3 1 w.heap.size w' v nc ((countM nc (L.map RowV.r)).flatMap ncell) ∧ Fr (fun _ => False) w w' := by
  obtain ⟨a, c, hvr, hc, hx⟩ := h.s
  subst hvr
  clear hc hx
  have HS := hid h
  have HK := hid K
  have HKL := hid K.lt
  clear h K
  have HI := hid (show ∀ W', W' = (((w.alloc (.cells #[.int .i64 id, .string (bs name), .slice ac nc cc, .slice ai ni ci] 34)).alloc (.cells #[.int .i64 0, .slice none 0 0] 74)).alloc (.cells #[.int .i64 L.length, .slice none 0 0] 74)) →
      Fr (fun _ => False) w W' ∧ Blk W' w.heap.size [.int .i64 id, .string (bs name), .slice ac nc cc, .slice ai ni ci] 34 ∧ Blk W' (w.heap.size + 1) [.int .i64 0, .slice none 0 0] 74 ∧ Blk W' (w.heap.size + 1 + 1) [.int .i64 L.length, .slice none 0 0] 74 from by
    rintro W' rfl
    have b1 := (Blk.new (w.alloc (.cells #[.int .i64 id, .string (bs name), .slice ac nc cc, .slice ai ni ci] 34)) [.int .i64 0, .slice none 0 0] 74).alloc (.cells #[.int .i64 L.length, .slice none 0 0] 74)
    have b2 := Blk.new ((w.alloc (.cells #[.int .i64 id, .string (bs name), .slice ac nc cc, .slice ai ni ci] 34)).alloc (.cells #[.int .i64 0, .slice none 0 0] 74)) [.int .i64 L.length, .slice none 0 0] 74
    simp only [World.size_alloc] at b1 b2
    exact ⟨(((Fr.refl (fun _ => False) w).alloc _).alloc _).alloc _, ((Blk.new w [.int .i64 id, .string (bs name), .slice ac nc cc, .slice ai ni ci] 34).alloc _).alloc _, b1, b2⟩)
  go_enter Tryz.func25, Tryz.ntmps25
  go_upto_region 2 with fail
  replace HI := hid (HI.out _ rfl)
  generalize hd : w.heap.size = d at *
  have HD := hid hd
  clear hd
  generalize (World.alloc _ _).alloc (.cells #[.int .i64 L.length, .slice none 0 0] 74) = W0 at *
  obtain ⟨f0, b0, b4, b5⟩ := HI.out
  have F0 := hid f0
  have B0 := hid b0
  have B4 := hid b4
  have B5 := hid b5
  clear f0 b0 b4 b5 HI
  have q2 : W0.cell? ⟨d, 2, none⟩ = some (.slice ac nc cc) := B0.out.cell 2
  have HR0 := hid (show Row 3 1 d W0 (.slice none 0 0) 0 [] from Row.nil)
  go_wp2_with (fail)
  go_loopw [16] (fun s wr => ∃ (j : Nat) (av : Option Addr) (cv : Nat), j ≤ nc ∧ s = .int .i64 j ∧ Blk wr (d + 1) [.int .i64 0, .slice none 0 0] 74 ∧ Blk wr (d + 1 + 1) [.int .i64 L.length, .slice av j cv] 74 ∧ Row 3 1 d wr (.slice av j cv) j (((countM nc (L.map RowV.r)).take j).flatMap ncell) ∧ Fr (fun _ => False) w wr) (fun s _ => nc - (intOf s).toNat)
  case atStart => exact ⟨0, none, 0, by omega, rfl, B4.out, B5.out, HR0.out, F0.out⟩
  case round =>
    obtain ⟨j, av, cv, hj, rfl, hb4, hb5, hrow, fr⟩ := hrel
    have HB4 := hid hb4
    have HB5 := hid hb5
    have HRW := hid hrow
    have FR := hid fr
    clear hb4 hb5 hrow fr F0 B0 B4 B5 q2 HR0
    by_cases hjn : j < nc
    · have i1 : (0 : Int) ≤ (j : Int) := by omega
      have i2 : (j : Int) < (nc : Int) := by omega
      have HCT := hid (countM_take nc (L.map RowV.r) hjn)
      have HV0 := hid (show Row 46 3 d wr (.slice none 0 0) 0 ([] : List Value) from Row.nil)
      go_upto_region 7 with fail
      go_loopw [7, 21] (fun s7 s wr => ∃ (k : Nat) (ax : Option Addr) (cx : Nat), k ≤ L.length ∧ s = .int .i64 k ∧ s7 = .slice ax (colV j ((L.map RowV.r).take k)).length cx ∧ Row 46 3 d wr (.slice ax (colV j ((L.map RowV.r).take k)).length cx) (colV j ((L.map RowV.r).take k)).length ((colV j ((L.map RowV.r).take k)).flatMap V.cells) ∧
        Blk wr (d + 1) [.int .i64 0, .slice none 0 0] 74 ∧ Blk wr (d + 1 + 1) [.int .i64 L.length, .slice av j cv] 74 ∧ Row 3 1 d wr (.slice av j cv) j (((countM nc (L.map RowV.r)).take j).flatMap ncell) ∧ Fr (fun _ => False) w wr) (fun _ s _ => L.length - (intOf s).toNat)
      case atStart => exact ⟨0, none, 0, by omega, rfl, rfl, HV0.out, HB4.out, HB5.out, HRW.out, FR.out⟩
      case round =>
        obtain ⟨k, ax, cx, hk, rfl, rfl, hval, hb4, hb5, hrow, fr⟩ := hrel
        have HVL := hid hval
        have HB41 := hid hb4
        have HB51 := hid hb5
        have HRW1 := hid hrow
        have FR1 := hid fr
        clear hval hb4 hb5 hrow fr HB4 HB5 HRW FR HV0
        have hcl := colV_len j ((L.map RowV.r).take k)
        rw [List.length_take, List.length_map] at hcl
        by_cases hkl : k < L.length
        · have i3 : (0 : Int) ≤ (k : Int) := by omega
          have i4 : (k : Int) < (L.length : Int) := by omega
          have HCV := hid (colV_take j (rows := L.map RowV.r) (k := k) (by rw [List.length_map]; exact hkl))
          rw [List.getElem_map] at HCV
          have HSX := hid ((HS.out.fre FR1.out).x _ (List.getElem_mem hkl))
          obtain ⟨g, o, hgo, -, q⟩ := slK (k := 1) (f := RowV.cells) (by decide) rowv_len ((HS.out.fre FR1.out).s) hkl
          subst hgo
          have q0 := q 0 (by decide)
          obtain ⟨x, hx⟩ : ∃ x, x = L[k] := ⟨_, rfl⟩
          rw [← hx] at q0 HSX HCV
          clear hx q
          obtain ⟨vv, r⟩ := x
          obtain ⟨av2, cv2, hvv, _, _⟩ := HSX.out.1
          dsimp only at hvv
          subst hvv
          simp only [RowV.cells, Nat.add_zero, Nat.mul_one, List.getElem?_cons_zero] at q0
          dsimp only at HSX HCV
          have hr1 := HSX.out.2
          obtain ⟨l, hl⟩ : ∃ l, colV j ((L.map RowV.r).take k) = l := ⟨_, rfl⟩
          rw [hl] at HVL hcl HCV ⊢
          clear hl
          by_cases hjr : j < r.length
          · have HCV2 := hid (HCV.out.trans (show l ++ (match r[j]? with | some v => [v] | none => []) = l ++ [r[j]] from by rw [List.getElem?_eq_getElem hjr]))
            have i5 : (j : Int) < (r.length : Int) := by omega
            obtain ⟨gv, ov, hgv, -, qv⟩ := slK (k := 3) (f := V.cells) (by decide) v_len3 HSX.out.1 hjr
            subst hgv
            have v0 := qv 0 (by decide)
            have v1 := qv 1 (by decide)
            have v2 := qv 2 (by decide)
            obtain ⟨x, hx⟩ : ∃ x, x = r[j] := ⟨_, rfl⟩
            rw [← hx] at v0 v1 v2 HCV2
            clear hx qv HCV
            obtain ⟨vk, vn, vs⟩ := x
            simp only [V.cells, Nat.add_zero, List.getElem?_cons_zero, List.getElem?_cons_succ] at v0 v1 v2
            have HSZ := hid (show d ≤ wr.heap.size from by have := HB41.out.lt; omega)
            go_wp2_with (at_builtin; refine wpList_app1 rfl (s := .tmp 29) (x := .tmp 34) (t := 23) rfl Tryz.underlying23 info_val rfl rfl rfl HVL.out HSZ.out rfl (by simp [Value.oneCell']) (by omega) (by omega) ?_; intro ab ac2 wg APP; have HVM := hid (APP.row.cast (m := (l ++ [(⟨vk, vn, vs⟩ : V)]).length) (ys := (l ++ [(⟨vk, vn, vs⟩ : V)]).flatMap V.cells) (by rw [List.length_append]; rfl) (by rw [List.flatMap_append]; rfl)); have HFM := hid (And.intro (Blk.fr HB41.out APP.fr (fun hk => HVL.out.ne HB41.out (by decide) _ hk rfl)) (And.intro (Blk.fr HB51.out APP.fr (fun hk => HVL.out.ne HB51.out (by decide) _ hk rfl)) (And.intro (HRW1.out.fr APP.fr (rows_ne HRW1.out HVL.out (by decide))) (FR1.out.trans APP.fr (fun k hk hl => by have := HVL.out.new k hk; have := HD.out; omega))))); clear APP)
            go_roundw
            case rel =>
              refine ⟨k + 1, ab, ac2, by omega, by go_num, ?_⟩
              rw [HCV2.out]
              have e : (l ++ [(⟨vk, vn, vs⟩ : V)]).length = l.length + 1 := by rw [List.length_append]; rfl
              have h1 := HVM.out
              rw [e] at h1 ⊢
              exact ⟨rfl, h1, HFM.out.1, HFM.out.2.1, HFM.out.2.2.1, HFM.out.2.2.2⟩
            case measure => simp [intOf]; omega
          · have HCV2 := hid (HCV.out.trans (show l ++ (match r[j]? with | some v => [v] | none => []) = l from by rw [List.getElem?_eq_none (by omega)]; simp))
            have i5 : ¬ (j : Int) < (r.length : Int) := by omega
            clear HCV
            go_wp2_with (fail)
            go_roundw
            case rel =>
              refine ⟨k + 1, ax, cx, by omega, by go_num, ?_⟩
              rw [HCV2.out]
              exact ⟨rfl, HVL.out, HB41.out, HB51.out, HRW1.out, FR1.out⟩
            case measure => simp [intOf]; omega
        · obtain rfl : k = L.length := by omega
          have i3 : ¬ ((L.length : Int) < (L.length : Int)) := by omega
          have HTL := hid (show (L.map RowV.r).take L.length = L.map RowV.r from List.take_of_length_le (by rw [List.length_map]; exact Nat.le_refl _))
          rw [HTL.out] at HVL hcl ⊢
          obtain ⟨l, hl⟩ : ∃ l, colV j (L.map RowV.r) = l := ⟨_, rfl⟩
          rw [hl] at HVL hcl HCT ⊢
          clear hl HTL
          have HKW := hid (HK.out.fre FR1.out)
          have HSO := hid (SortV_go HVL.out rfl HKW.out (by have := HKL.out; have := HD.out; omega) (by omega))
          go_upto_region 13 with (go_at_call 61; refine HSO.out.mono ?_; rintro e W5 ⟨rfl, l2, hp, hs, hr, f⟩; have HP := hid hp; have HSRT := hid hs; have HVL2 := hid hr; have HB42 := hid (Blk.fr HB41.out f (fun hk => HVL.out.ne HB41.out (by decide) _ hk rfl)); have HB52 := hid (Blk.fr HB51.out f (fun hk => HVL.out.ne HB51.out (by decide) _ hk rfl)); have HRW2 := hid (HRW1.out.fr f (rows_ne HRW1.out HVL.out (by decide))); have FR2 := hid (FR1.out.trans f (fun k hk hl => by have := HVL.out.new k hk; have := HD.out; omega)); clear hp hs hr f)
          clear HB41 HB51 HRW1 FR1 HSO HKW
          have HKW := hid (HK.out.fre FR2.out)
          have HAC := hid (show Cat.ac eqV l2 = dc eqV l from by
            have h1 : dc eqV l2 = Cat.ac eqV l2 := dc_sorted ord_cmp HSRT.out
            rw [← h1]
            exact dc_perm eqv_V HP.out)
          have HPL := hid HP.out.length_eq
          have HCO := hid (CompactV_go HVL2.out HPL.out HKW.out (by have := HKL.out; have := HD.out; omega) (by omega))
          rw [HAC.out] at HCO
          obtain ⟨q, hq⟩ : ∃ q, dc eqV l = q := ⟨_, rfl⟩
          rw [hq] at HCO HCT
          clear hq HAC HP HSRT
          go_upto_region 14 with (go_at_call 62; refine HCO.out.mono ?_; rintro e W6 ⟨a6, c6, rfl, f⟩; have HB43 := hid (Blk.fr HB42.out f (fun hk => HVL2.out.ne HB42.out (by decide) _ hk rfl)); have HB53 := hid (Blk.fr HB52.out f (fun hk => HVL2.out.ne HB52.out (by decide) _ hk rfl)); have HRW3 := hid (HRW2.out.fr f (rows_ne HRW2.out HVL2.out (by decide))); have FR3 := hid (FR2.out.trans f (fun k hk hl => by have := HVL2.out.new k hk; have := HD.out; omega)); clear f)
          clear HB42 HB52 HRW2 FR2 HCO HKW HVL HVL2
          have HSZ := hid (show d ≤ W6.heap.size from by have := HB43.out.lt; omega)
          have k1 : W6.cell? ⟨d + 1 + 1, 1, none⟩ = some (.slice av j cv) := HB53.out.cell 1
          go_upto_region 15 with (at_builtin; refine wpList_app1 rfl (s := .tmp 42) (x := .tmp 45) (t := 42) rfl Tryz.underlying42 info_int rfl rfl rfl HRW3.out HSZ.out rfl (by simp [Value.oneCell']) (by omega) (by omega) ?_; intro ab ac2 wg APP; have HRN := hid (APP.row.cast (m := j + 1) (ys := ((countM nc (L.map RowV.r)).take (j + 1)).flatMap ncell) rfl (by rw [HCT.out, List.flatMap_append]; rfl)); have HB44 := hid (Blk.fr HB43.out APP.fr (fun hk => HRW3.out.ne HB43.out (by decide) _ hk rfl)); have HB54 := hid (Blk.fr HB53.out APP.fr (fun hk => HRW3.out.ne HB53.out (by decide) _ hk rfl)); have FR4 := hid (FR3.out.trans APP.fr (fun k hk hl => by have := HRW3.out.new k hk; have := HD.out; omega)); clear APP k1; have k2 : wg.cell? ⟨d + 1 + 1, 1, none⟩ = some (.slice av j cv) := HB54.out.cell 1; have z2 : wg.frozen? ⟨d + 1 + 1, 1, none⟩ = false := HB54.out.frozen 1)
          have fs := (Fr.refl (fun k => k = d + 1 + 1) wg).setCell ⟨d + 1 + 1, 1, none⟩ (.slice ab (j + 1) ac2) (fun _ => rfl)
          have HB45 := hid (Blk.fr HB44.out fs (by omega))
          have HB55 := hid (HB54.out.set 1 (.slice ab (j + 1) ac2))
          have HRO := hid (HRN.out.fr fs (fun k hk e => HRN.out.ne HB54.out (by decide) k hk e))
          have FR5 := hid (FR4.out.trans fs (fun k hk hl => by have := HD.out; omega))
          clear fs HB44 HB54 HRN FR4 k2 z2
          generalize wg.setCell ⟨d + 1 + 1, 1, none⟩ (.slice ab (j + 1) ac2) = W9 at *
          go_wp2_with (fail)
          go_roundw
          case rel => exact ⟨j + 1, ab, ac2, by omega, by go_num, HB45.out, HB55.out, HRO.out, FR5.out⟩
          case measure => simp [intOf]; omega
    · obtain rfl : j = nc := by omega
      rw [List.take_of_length_le (by rw [countM_len]; exact Nat.le_refl _)] at HRW
      have i1 : ¬ ((j : Int) < (j : Int)) := by omega
      have a0 : wr.cell? ⟨d + 1 + 1, 0, none⟩ = some (.int .i64 L.length) := HB5.out.cell 0
      have a1 : wr.cell? ⟨d + 1 + 1, 1, none⟩ = some (.slice av j cv) := HB5.out.cell 1
      have r0 : wr.cell? ⟨d + 1, 0, none⟩ = some (.int .i64 0) := HB4.out.cell 0
      have r1 : wr.cell? ⟨d + 1, 1, none⟩ = some (.slice none 0 0) := HB4.out.cell 1
      have z0 : wr.frozen? ⟨d + 1, 0, none⟩ = false := HB4.out.frozen 0
      have z1 : wr.frozen? ⟨d + 1, 1, none⟩ = false := HB4.out.frozen 1
      have B2 := hid ((HB4.out.set 0 (.int .i64 L.length)).set 1 (.slice av j cv))
      have F2 := hid (((Fr.refl (fun k => k = d + 1) wr).setCell ⟨d + 1, 0, none⟩ (.int .i64 L.length) (fun _ => rfl)).setCell ⟨d + 1, 1, none⟩ (.slice av j cv) (fun _ => rfl))
      have HRF := hid (HRW.out.fr F2.out (fun k hk e => HRW.out.ne HB4.out (by decide) k hk e))
      go_wp2_with (fail)
      refine bodyPost_ret (agg_ret rfl rfl B2.out Tryz.underlying74 rfl size_stats) rfl ⟨_, rfl, ?_, FR.out.trans F2.out (fun k hk hl => by have := HD.out; omega)⟩
      rw [HD.out]
      exact HRF.out
end Go.Proofs.YtgkfdlpijefgkaaGreatDoor
