import Derived.Test.YtgkfdlpijefgkaaDoorCtRf
/- The reference's Count. -/
set_option linter.unusedVariables false
namespace Go.VB.Cat
open Go.VB Go.VB.Oct Go.VB.Rec
theorem any_step (f : V → Bool) (i : Nat) {rows : List (List V)} {j : Nat} (h : j < rows.length) : (colV i (rows.take (j + 1))).any f = ((colV i (rows.take j)).any f || (match rows[j][i]? with | some v => f v | none => false)) := by
  rw [colV_take i h, List.any_append]
  cases rows[j][i]? <;> simp
end Go.VB.Cat
namespace Go.Proofs.YtgkfdlpijefgkaaDoor
open Go.RowKit Go.VB Go.VB.Oct Go.VB.Cat Go.VB.Rec
theorem size_rstats : (Tryd.prog.info? 34).map (·.size) = some 2 := by kernel_rfl
theorem v_range {w : World} {g o : Nat} {v : V} (h : ∀ i, i < 3 → w.cell? ⟨g, o + i, none⟩ = v.cells[i]?) : w.rangeAt g o v.cells := by
  intro i u hu
  have hi : i < 3 := by have := (List.getElem?_eq_some_iff.1 hu).1; simpa [V.cells] using this
  rw [h i hi]
  exact hu
/-- the inner part: for the value x of row k, whether an earlier row has its like -/
structure RowAt (W : World) (g o k : Nat) (v : Value) : Prop where
  c : W.cell? ⟨g, o + k, none⟩ = some v
set_option maxRecDepth 20000 in
set_option maxHeartbeats 4000000 in
theorem rfCount_go {R : Nat → Prop} {w : World} (id : Int) (name : Bs) {ac ai : Option Addr} {nc cc ni ci : Nat} (hnc : nc ≤ 1048576) {vr : Value} {L : List RowV} (h : RowsS R w vr L) (hL : L.length ≤ 1048576) (hS : ∀ x ∈ L, ∀ v ∈ x.r, v.s.length ≤ 9223372036854775807) :
    Calls Tryd.prog 12 #[.agg #[.int .i64 id, .string (bs name), .slice ac nc cc, .slice ai ni ci], vr] w fun e w' => ∃ v, e = .returned (.agg #[.int .i64 L.length, v]) ∧ Row 3 1 w.heap.size w' v nc ((countM nc (L.map RowV.r)).flatMap ncell) ∧ Fr (fun _ => False) w w' := by
  obtain ⟨a, c, hvr, hc, hx⟩ := h.s
  subst hvr
  clear hc hx
  have HS := hid h
  have HSS := hid hS
  clear h hS
  have HI := hid (show ∀ W', W' = (((w.alloc (.cells #[.int .i64 id, .string (bs name), .slice ac nc cc, .slice ai ni ci] 25)).alloc (.cells #[.int .i64 0, .slice none 0 0] 34)).alloc (.cells #[.int .i64 L.length, .slice none 0 0] 34)) →
      Fr (fun _ => False) w W' ∧ Blk W' w.heap.size [.int .i64 id, .string (bs name), .slice ac nc cc, .slice ai ni ci] 25 ∧ Blk W' (w.heap.size + 1) [.int .i64 0, .slice none 0 0] 34 ∧ Blk W' (w.heap.size + 1 + 1) [.int .i64 L.length, .slice none 0 0] 34 from by
    rintro W' rfl
    have b1 := (Blk.new (w.alloc (.cells #[.int .i64 id, .string (bs name), .slice ac nc cc, .slice ai ni ci] 25)) [.int .i64 0, .slice none 0 0] 34).alloc (.cells #[.int .i64 L.length, .slice none 0 0] 34)
    have b2 := Blk.new ((w.alloc (.cells #[.int .i64 id, .string (bs name), .slice ac nc cc, .slice ai ni ci] 25)).alloc (.cells #[.int .i64 0, .slice none 0 0] 34)) [.int .i64 L.length, .slice none 0 0] 34
    simp only [World.size_alloc] at b1 b2
    exact ⟨(((Fr.refl (fun _ => False) w).alloc _).alloc _).alloc _, ((Blk.new w [.int .i64 id, .string (bs name), .slice ac nc cc, .slice ai ni ci] 25).alloc _).alloc _, b1, b2⟩)
  go_enter Tryd.func12, Tryd.ntmps12
  go_upto_region 2 with fail
  replace HI := hid (HI.out _ rfl)
  generalize hd : w.heap.size = d at *
  have HD := hid hd
  clear hd
  generalize (World.alloc _ _).alloc (.cells #[.int .i64 L.length, .slice none 0 0] 34) = W0 at *
  obtain ⟨f0, b0, b4, b5⟩ := HI.out
  have F0 := hid f0
  have B0 := hid b0
  have B4 := hid b4
  have B5 := hid b5
  clear f0 b0 b4 b5 HI
  have HR0 := hid (show Row 3 1 d W0 (.slice none 0 0) 0 [] from Row.nil)
  go_wp2_with (fail)
  go_loopw [6] (fun s wr => ∃ (i : Nat) (av : Option Addr) (cv : Nat), i ≤ nc ∧ s = .int .i64 i ∧ Blk wr d [.int .i64 id, .string (bs name), .slice ac nc cc, .slice ai ni ci] 25 ∧ Blk wr (d + 1) [.int .i64 0, .slice none 0 0] 34 ∧ Blk wr (d + 1 + 1) [.int .i64 L.length, .slice av i cv] 34 ∧ Row 3 1 d wr (.slice av i cv) i (((countM nc (L.map RowV.r)).take i).flatMap ncell) ∧ Fr (fun _ => False) w wr) (fun s _ => nc - (intOf s).toNat)
  case atStart => exact ⟨0, none, 0, by omega, rfl, B0.out, B4.out, B5.out, HR0.out, F0.out⟩
  case round =>
    obtain ⟨i, av, cv, hi, rfl, hb0, hb4, hb5, hrow, fr⟩ := hrel
    have HB0 := hid hb0
    have HB4 := hid hb4
    have HB5 := hid hb5
    have HRW := hid hrow
    have FR := hid fr
    clear hb0 hb4 hb5 hrow fr F0 B0 B4 B5 HR0
    generalize wr = WO at *
    have q2 : WO.cell? ⟨d, 2, none⟩ = some (.slice ac nc cc) := HB0.out.cell 2
    by_cases hin : i < nc
    · have i1 : (0 : Int) ≤ (i : Int) := by omega
      have i2 : (i : Int) < (nc : Int) := by omega
      have HCT := hid (countM_take nc (L.map RowV.r) hin)
      go_upto_region 7 with fail
      clear q2
      go_loopw [7, 8] (fun s7 s8 wr => ∃ (k : Nat), k ≤ L.length ∧ s8 = .int .i64 k ∧ s7 = .int .i64 ((dc eqV (colV i ((L.map RowV.r).take k)) : Nat) : Int) ∧ Fr (fun _ => False) WO wr) (fun _ s _ => L.length - (intOf s).toNat)
      case atStart => exact ⟨0, by omega, rfl, rfl, Fr.refl _ _⟩
      case round =>
        obtain ⟨k, hk, rfl, rfl, fr⟩ := hrel
        have FK := hid fr
        clear fr
        by_cases hkl : k < L.length
        · have i3 : (0 : Int) ≤ (k : Int) := by omega
          have i4 : (k : Int) < (L.length : Int) := by omega
          have i9 : IntKind.i64.wrap ((k : Int) + 1) = (k : Int) + 1 := IntWalk.i64_in _ (by omega)
          have HCV := hid (colV_take i (rows := L.map RowV.r) (k := k) (by rw [List.length_map]; exact hkl))
          rw [List.getElem_map] at HCV
          have HSX := hid (HS.out.x _ (List.getElem_mem hkl))
          have HSL := hid (HSS.out _ (List.getElem_mem hkl))
          obtain ⟨g, o, hgo, -, hcell⟩ := sl_cell1 (f := RowV.cells) rowv_len HS.out.s (by intro e; rw [e] at hkl; simp at hkl)
          subst hgo
          have HCE := hid hcell
          have q := hcell k hkl
          obtain ⟨x, hx⟩ : ∃ x, x = L[k] := ⟨_, rfl⟩
          rw [← hx] at q HSX HCV HSL
          clear hx hcell
          obtain ⟨vv, r⟩ := x
          obtain ⟨av2, cv2, hvv, _, _⟩ := HSX.out.1
          dsimp only at hvv
          subst hvv
          dsimp only at HSX HCV HSL
          have HQK := hid (show w.cell? ⟨g, o + k, none⟩ = some (.slice av2 r.length cv2) from q)
          clear q
          have FWK := hid (FR.out.trans FK.out (fun _ h _ => h))
          have qk := cell_fr HQK.out FWK.out (fun h => h)
          have hdl : dc eqV (colV i ((L.map RowV.r).take k)) ≤ k := Nat.le_trans (dc_le _ _) (by have := colV_len i ((L.map RowV.r).take k); rw [List.length_take] at this; omega)
          obtain ⟨l, hl⟩ : ∃ l, colV i ((L.map RowV.r).take k) = l := ⟨_, rfl⟩
          rw [hl] at hdl HCV ⊢
          have HLK := hid hl
          clear hl
          by_cases hir : i < r.length
          · have HCV2 := hid (HCV.out.trans (show l ++ (match r[i]? with | some v => [v] | none => []) = l ++ [r[i]] from by rw [List.getElem?_eq_getElem hir]))
            have i5 : ¬ (r.length : Int) ≤ (i : Int) := by omega
            obtain ⟨gk, ok, hgk, -, qx⟩ := slK (k := 3) (f := V.cells) (by decide) v_len3 HSX.out.1 hir
            subst hgk
            obtain ⟨x, hx⟩ : ∃ x, x = r[i] := ⟨_, rfl⟩
            rw [← hx] at qx HCV2
            have HXS := hid (HSL.out x (by rw [hx]; exact List.getElem_mem hir))
            have HXR := hid (v_range (v := x) qx)
            clear hx qx HCV
            have HSN := hid (dc_snoc eqv_V l x)
            have b0 : True := trivial
            go_upto_region 12 with fail
            go_loopw [9, 10] (fun s9 s10 wr => ∃ (j : Nat), j ≤ k ∧ s10 = .int .i64 j ∧ s9 = .bool (!((colV i ((L.map RowV.r).take j)).any (fun y => eqV y x))) ∧ Fr (fun _ => False) WO wr) (fun _ s _ => k - (intOf s).toNat)
            case atStart => exact ⟨0, by omega, rfl, rfl, FK.out⟩
            case round =>
              obtain ⟨j, hj, rfl, rfl, fr⟩ := hrel
              have FJ := hid fr
              clear fr
              by_cases hjk : j < k
              · have hjL : j < L.length := by omega
                have j1 : (0 : Int) ≤ (j : Int) := by omega
                have j2 : (j : Int) < (k : Int) := by omega
                have j3 : (j : Int) < (L.length : Int) := by omega
                have HAS := hid (any_step (fun y => eqV y x) i (rows := L.map RowV.r) (j := j) (by rw [List.length_map]; exact hjL))
                rw [List.getElem_map] at HAS
                have HSJ := hid (HS.out.x _ (List.getElem_mem hjL))
                have HSLJ := hid (HSS.out _ (List.getElem_mem hjL))
                have q := HCE.out j hjL
                obtain ⟨xj, hxj⟩ : ∃ x, x = L[j] := ⟨_, rfl⟩
                rw [← hxj] at q HSJ HAS HSLJ
                clear hxj
                obtain ⟨vj, rj⟩ := xj
                obtain ⟨aj, cj, hvj, _, _⟩ := HSJ.out.1
                dsimp only at hvj
                subst hvj
                dsimp only at HSJ HAS HSLJ
                have HQJ := hid (show w.cell? ⟨g, o + j, none⟩ = some (.slice aj rj.length cj) from q)
                clear q
                obtain ⟨bb, hbb⟩ : ∃ b, (colV i ((L.map RowV.r).take j)).any (fun y => eqV y x) = b := ⟨_, rfl⟩
                rw [hbb] at HAS ⊢
                clear hbb
                by_cases hij : i < rj.length
                · have j5 : (i : Int) < (rj.length : Int) := by omega
                  rw [List.getElem?_eq_getElem hij] at HAS
                  obtain ⟨gj, oj, hgj, -, qy⟩ := slK (k := 3) (f := V.cells) (by decide) v_len3 HSJ.out.1 hij
                  subst hgj
                  obtain ⟨y, hy⟩ : ∃ y, y = rj[i] := ⟨_, rfl⟩
                  rw [← hy] at qy HAS
                  have HYS := hid (HSLJ.out y (by rw [hy]; exact List.getElem_mem hij))
                  have HYR := hid (v_range (v := y) qy)
                  clear hy qy
                  have HCM := hid (fun w => r2Compare_go y x HYS.out HXS.out w)
                  have HEQ := hid (show eqV y x = (V.cmp y x == 0) from rfl)
                  dsimp only at HAS
                  rw [HEQ.out] at HAS
                  clear HYS HEQ
                  generalize V.cmp y x = z at *
                  obtain ⟨xk, xn, xs⟩ := x
                  obtain ⟨yk, yn, ys⟩ := y
                  unfold vagg V.cells at HCM
                  unfold V.cells at HYR HXR
                  dsimp only at HCM HYR HXR
                  go_upto_region 14 with fail
                  have FJD := hid ((FR.out.trans FJ.out (fun _ h _ => h)).trans ((Fr.refl (fun _ => False) wr).drew) (fun _ h _ => h))
                  have FJO := hid (FJ.out.trans ((Fr.refl (fun _ => False) wr).drew) (fun _ h _ => h))
                  clear FJ
                  by_cases hz : z = 0
                  · subst hz
                    rw [show ((0 : Int) == 0) = true from rfl] at HAS
                    refine wp_region_scr (.take 0 (.take 1 (.take 2 (.take 3 (.take 4 (.take 5 (.take 6 (.take 7 (.take 8 (.take 9 (.take 10 (.take 11 (.take 12 (.take 13 (.take 14 (.take 15 (.take 16 (.take 17 (.take 18 (.take 19 (.take 20 (.take 21 (.op 22 (.take 23 (.take 24 .done))))))))))))))))))))))))) (fun kz w => (kz ≤ 25 → w.cell? ⟨g, o + j, none⟩ = some (.slice (some ⟨gj, oj, none⟩) rj.length cj) ∧ w.cell? ⟨g, o + k, none⟩ = some (.slice (some ⟨gk, ok, none⟩) r.length cv2) ∧ w.rangeAt gj (oj + i * 3) [.int .i64 yk, .int .i64 yn, .string (bs ys)] ∧ w.rangeAt gk (ok + i * 3) [.int .i64 xk, .int .i64 xn, .string (bs xs)]) ∧ Hid True) (by kernel_rfl) (by kernel_rfl) (by intro c a d v w h; cases d <;> exact h) ?_
                    have HFF := hid FJD.out
                    repeat
                      first
                      | (refine wpT_pure rfl rfl rfl ?_; apply Exists.intro; refine ⟨?_, ?_⟩; intro w; (first | (first | exact run_load_mid _ _ rfl gj _ rfl _ _ qa.2.2.1 Tryd.underlying77 rfl size_V3 | exact run_load_mid _ _ rfl gk _ rfl _ _ qa.2.2.2 Tryd.underlying77 rfl size_V3 | (obtain ⟨qa1, qa2, qa3, qa4⟩ := qa; go_simp <;> rfl)) | (go_simp <;> rfl)); simp only [Act.put, List.setIfInBounds_toArray, List.set_cons_zero, List.set_cons_succ])
                      | (refine wpT_take 25 rfl rfl (by decide +kernel) ⟨fun _ => ⟨cell_fr HQJ.out HFF.out (fun h => h), cell_fr HQK.out HFF.out (fun h => h), fun m u hu => cell_fr (HYR.out m u hu) HFF.out (fun h => h), fun m u hu => cell_fr (HXR.out m u hu) HFF.out (fun h => h)⟩, hid trivial⟩ ?_; apply Exists.intro; refine ⟨?_, ?_⟩; intro w hw; (have qa := hw.1 (Nat.le_refl _); have qb := hw.2); (first | (first | exact run_load_mid _ _ rfl gj _ rfl _ _ qa.2.2.1 Tryd.underlying77 rfl size_V3 | exact run_load_mid _ _ rfl gk _ rfl _ _ qa.2.2.2 Tryd.underlying77 rfl size_V3 | (obtain ⟨qa1, qa2, qa3, qa4⟩ := qa; go_simp <;> rfl)) | (go_simp <;> rfl)); simp only [Act.put, List.setIfInBounds_toArray, List.set_cons_zero, List.set_cons_succ])
                      | (refine wpT_skip rfl rfl ?_; simp only [Act.put, List.setIfInBounds_toArray, List.set_cons_zero, List.set_cons_succ])
                    clear HFF
                    generalize wr.drew = WD at *
                    refine wpT_op rfl ?_
                    go_wp2_with ((go_at_call 34; refine (HCM.out _).mono ?_; rintro e WE ⟨rfl, f⟩; have HFF := hid (FJD.out.trans f (fun _ h _ => h)); have FJE := hid (FJO.out.trans f (fun _ h _ => h)); clear f))
                    (refine ⟨?_, ?_⟩; focus (intro kz hk hk2 hh; first | (exfalso; simp at hk2; omega) | exact hh | exact (fun h => absurd h (by omega)) | obtain ⟨qa, qb⟩ := hh; first | exact ⟨qa, qb⟩ | (refine ⟨fun h => absurd h (by omega), ?_⟩; first | exact qb | (exact ⟨cell_fr HQJ.out HFF.out (fun h => h), cell_fr HQK.out HFF.out (fun h => h), fun m u hu => cell_fr (HYR.out m u hu) HFF.out (fun h => h), fun m u hu => cell_fr (HXR.out m u hu) HFF.out (fun h => h)⟩)) | (refine ⟨fun h => ?_, ?_⟩; (have qa := qa h); all_goals (first | exact qa | exact qb | (exact ⟨cell_fr HQJ.out HFF.out (fun h => h), cell_fr HQK.out HFF.out (fun h => h), fun m u hu => cell_fr (HYR.out m u hu) HFF.out (fun h => h), fun m u hu => cell_fr (HXR.out m u hu) HFF.out (fun h => h)⟩)))))
                    repeat
                      first
                      | (refine wpT_pure rfl rfl rfl ?_; apply Exists.intro; refine ⟨?_, ?_⟩; intro w; (first | (first | exact run_load_mid _ _ rfl gj _ rfl _ _ qa.2.2.1 Tryd.underlying77 rfl size_V3 | exact run_load_mid _ _ rfl gk _ rfl _ _ qa.2.2.2 Tryd.underlying77 rfl size_V3 | (obtain ⟨qa1, qa2, qa3, qa4⟩ := qa; go_simp <;> rfl)) | (go_simp <;> rfl)); simp only [Act.put, List.setIfInBounds_toArray, List.set_cons_zero, List.set_cons_succ])
                      | (refine wpT_take 25 rfl rfl (by decide +kernel) ⟨fun _ => ⟨cell_fr HQJ.out HFF.out (fun h => h), cell_fr HQK.out HFF.out (fun h => h), fun m u hu => cell_fr (HYR.out m u hu) HFF.out (fun h => h), fun m u hu => cell_fr (HXR.out m u hu) HFF.out (fun h => h)⟩, hid trivial⟩ ?_; apply Exists.intro; refine ⟨?_, ?_⟩; intro w hw; (have qa := hw.1 (Nat.le_refl _); have qb := hw.2); (first | (first | exact run_load_mid _ _ rfl gj _ rfl _ _ qa.2.2.1 Tryd.underlying77 rfl size_V3 | exact run_load_mid _ _ rfl gk _ rfl _ _ qa.2.2.2 Tryd.underlying77 rfl size_V3 | (obtain ⟨qa1, qa2, qa3, qa4⟩ := qa; go_simp <;> rfl)) | (go_simp <;> rfl)); simp only [Act.put, List.setIfInBounds_toArray, List.set_cons_zero, List.set_cons_succ])
                      | (refine wpT_skip rfl rfl ?_; simp only [Act.put, List.setIfInBounds_toArray, List.set_cons_zero, List.set_cons_succ])
                    refine wpT_nil ?_
                    go_wp2_with (fail)
                    go_roundw
                    case rel => exact ⟨j + 1, by omega, by go_num, by rw [HAS.out]; simp, FJE.out⟩
                    case measure => simp [intOf]; omega
                  · have hz2 : (z == 0) = false := by rw [beq_eq_false_iff_ne]; exact hz
                    rw [hz2, Bool.or_false] at HAS
                    clear hz
                    refine wp_region_scr (.take 0 (.take 1 (.take 2 (.take 3 (.take 4 (.take 5 (.take 6 (.take 7 (.take 8 (.take 9 (.take 10 (.take 11 (.take 12 (.take 13 (.take 14 (.take 15 (.take 16 (.take 17 (.take 18 (.take 19 (.take 20 (.take 21 (.op 22 (.take 23 (.take 24 .done))))))))))))))))))))))))) (fun kz w => (kz ≤ 25 → w.cell? ⟨g, o + j, none⟩ = some (.slice (some ⟨gj, oj, none⟩) rj.length cj) ∧ w.cell? ⟨g, o + k, none⟩ = some (.slice (some ⟨gk, ok, none⟩) r.length cv2) ∧ w.rangeAt gj (oj + i * 3) [.int .i64 yk, .int .i64 yn, .string (bs ys)] ∧ w.rangeAt gk (ok + i * 3) [.int .i64 xk, .int .i64 xn, .string (bs xs)]) ∧ Hid True) (by kernel_rfl) (by kernel_rfl) (by intro c a d v w h; cases d <;> exact h) ?_
                    have HFF := hid FJD.out
                    repeat
                      first
                      | (refine wpT_pure rfl rfl rfl ?_; apply Exists.intro; refine ⟨?_, ?_⟩; intro w; (first | (first | exact run_load_mid _ _ rfl gj _ rfl _ _ qa.2.2.1 Tryd.underlying77 rfl size_V3 | exact run_load_mid _ _ rfl gk _ rfl _ _ qa.2.2.2 Tryd.underlying77 rfl size_V3 | (obtain ⟨qa1, qa2, qa3, qa4⟩ := qa; go_simp <;> rfl)) | (go_simp <;> rfl)); simp only [Act.put, List.setIfInBounds_toArray, List.set_cons_zero, List.set_cons_succ])
                      | (refine wpT_take 25 rfl rfl (by decide +kernel) ⟨fun _ => ⟨cell_fr HQJ.out HFF.out (fun h => h), cell_fr HQK.out HFF.out (fun h => h), fun m u hu => cell_fr (HYR.out m u hu) HFF.out (fun h => h), fun m u hu => cell_fr (HXR.out m u hu) HFF.out (fun h => h)⟩, hid trivial⟩ ?_; apply Exists.intro; refine ⟨?_, ?_⟩; intro w hw; (have qa := hw.1 (Nat.le_refl _); have qb := hw.2); (first | (first | exact run_load_mid _ _ rfl gj _ rfl _ _ qa.2.2.1 Tryd.underlying77 rfl size_V3 | exact run_load_mid _ _ rfl gk _ rfl _ _ qa.2.2.2 Tryd.underlying77 rfl size_V3 | (obtain ⟨qa1, qa2, qa3, qa4⟩ := qa; go_simp <;> rfl)) | (go_simp <;> rfl)); simp only [Act.put, List.setIfInBounds_toArray, List.set_cons_zero, List.set_cons_succ])
                      | (refine wpT_skip rfl rfl ?_; simp only [Act.put, List.setIfInBounds_toArray, List.set_cons_zero, List.set_cons_succ])
                    clear HFF
                    generalize wr.drew = WD at *
                    refine wpT_op rfl ?_
                    go_wp2_with ((go_at_call 34; refine (HCM.out _).mono ?_; rintro e WE ⟨rfl, f⟩; have HFF := hid (FJD.out.trans f (fun _ h _ => h)); have FJE := hid (FJO.out.trans f (fun _ h _ => h)); clear f))
                    (refine ⟨?_, ?_⟩; focus (intro kz hk hk2 hh; first | (exfalso; simp at hk2; omega) | exact hh | exact (fun h => absurd h (by omega)) | obtain ⟨qa, qb⟩ := hh; first | exact ⟨qa, qb⟩ | (refine ⟨fun h => absurd h (by omega), ?_⟩; first | exact qb | (exact ⟨cell_fr HQJ.out HFF.out (fun h => h), cell_fr HQK.out HFF.out (fun h => h), fun m u hu => cell_fr (HYR.out m u hu) HFF.out (fun h => h), fun m u hu => cell_fr (HXR.out m u hu) HFF.out (fun h => h)⟩)) | (refine ⟨fun h => ?_, ?_⟩; (have qa := qa h); all_goals (first | exact qa | exact qb | (exact ⟨cell_fr HQJ.out HFF.out (fun h => h), cell_fr HQK.out HFF.out (fun h => h), fun m u hu => cell_fr (HYR.out m u hu) HFF.out (fun h => h), fun m u hu => cell_fr (HXR.out m u hu) HFF.out (fun h => h)⟩)))))
                    repeat
                      first
                      | (refine wpT_pure rfl rfl rfl ?_; apply Exists.intro; refine ⟨?_, ?_⟩; intro w; (first | (first | exact run_load_mid _ _ rfl gj _ rfl _ _ qa.2.2.1 Tryd.underlying77 rfl size_V3 | exact run_load_mid _ _ rfl gk _ rfl _ _ qa.2.2.2 Tryd.underlying77 rfl size_V3 | (obtain ⟨qa1, qa2, qa3, qa4⟩ := qa; go_simp <;> rfl)) | (go_simp <;> rfl)); simp only [Act.put, List.setIfInBounds_toArray, List.set_cons_zero, List.set_cons_succ])
                      | (refine wpT_take 25 rfl rfl (by decide +kernel) ⟨fun _ => ⟨cell_fr HQJ.out HFF.out (fun h => h), cell_fr HQK.out HFF.out (fun h => h), fun m u hu => cell_fr (HYR.out m u hu) HFF.out (fun h => h), fun m u hu => cell_fr (HXR.out m u hu) HFF.out (fun h => h)⟩, hid trivial⟩ ?_; apply Exists.intro; refine ⟨?_, ?_⟩; intro w hw; (have qa := hw.1 (Nat.le_refl _); have qb := hw.2); (first | (first | exact run_load_mid _ _ rfl gj _ rfl _ _ qa.2.2.1 Tryd.underlying77 rfl size_V3 | exact run_load_mid _ _ rfl gk _ rfl _ _ qa.2.2.2 Tryd.underlying77 rfl size_V3 | (obtain ⟨qa1, qa2, qa3, qa4⟩ := qa; go_simp <;> rfl)) | (go_simp <;> rfl)); simp only [Act.put, List.setIfInBounds_toArray, List.set_cons_zero, List.set_cons_succ])
                      | (refine wpT_skip rfl rfl ?_; simp only [Act.put, List.setIfInBounds_toArray, List.set_cons_zero, List.set_cons_succ])
                    refine wpT_nil ?_
                    go_wp2_with (fail)
                    go_roundw
                    case rel => exact ⟨j + 1, by omega, by go_num, by rw [HAS.out], FJE.out⟩
                    case measure => simp [intOf]; omega
                · have j5 : ¬ (i : Int) < (rj.length : Int) := by omega
                  rw [List.getElem?_eq_none (by omega)] at HAS
                  dsimp only at HAS
                  rw [Bool.or_false] at HAS
                  go_upto_region 14 with fail
                  have FJD := hid ((FR.out.trans FJ.out (fun _ h _ => h)).trans ((Fr.refl (fun _ => False) wr).drew) (fun _ h _ => h))
                  have FJO := hid (FJ.out.trans ((Fr.refl (fun _ => False) wr).drew) (fun _ h _ => h))
                  clear FJ
                  refine wp_region_scr (.take 0 (.take 1 (.take 2 (.take 3 (.take 4 (.take 5 (.take 6 (.take 7 (.take 8 (.take 9 (.take 10 (.take 11 (.take 12 (.take 13 (.take 14 (.take 15 (.take 16 (.take 17 (.take 18 (.take 19 (.take 20 (.take 21 (.op 22 (.take 23 (.take 24 .done))))))))))))))))))))))))) (fun kz w => (kz ≤ 25 → w.cell? ⟨g, o + j, none⟩ = some (.slice aj rj.length cj)) ∧ Hid True) (by kernel_rfl) (by kernel_rfl) (by intro c a d v w h; cases d <;> exact h) ?_
                  repeat
                    first
                    | (refine wpT_pure rfl rfl rfl ?_; apply Exists.intro; refine ⟨?_, ?_⟩; intro w; ((go_simp <;> rfl)); simp only [Act.put, List.setIfInBounds_toArray, List.set_cons_zero, List.set_cons_succ])
                    | (refine wpT_take 25 rfl rfl (by decide +kernel) ⟨fun _ => cell_fr HQJ.out FJD.out (fun h => h), hid trivial⟩ ?_; apply Exists.intro; refine ⟨?_, ?_⟩; intro w hw; (have qa := hw.1 (Nat.le_refl _); have qb := hw.2); ((go_simp <;> rfl)); simp only [Act.put, List.setIfInBounds_toArray, List.set_cons_zero, List.set_cons_succ])
                    | (refine wpT_skip rfl rfl ?_; simp only [Act.put, List.setIfInBounds_toArray, List.set_cons_zero, List.set_cons_succ])
                  generalize wr.drew = WD at *
                  refine wpT_op rfl ?_
                  go_wp2_with (fail)
                  (refine ⟨?_, ?_⟩; focus (intro kz hk hk2 hh; first | (exfalso; simp at hk2; omega) | exact hh | exact (fun h => absurd h (by omega)) | obtain ⟨qa, qb⟩ := hh; first | exact ⟨qa, qb⟩ | (refine ⟨fun h => absurd h (by omega), ?_⟩; first | exact qb | (exact cell_fr HQJ.out FJD.out (fun h => h))) | (refine ⟨fun h => ?_, ?_⟩; (have qa := qa h); all_goals (first | exact qa | exact qb | (exact cell_fr HQJ.out FJD.out (fun h => h))))))
                  repeat
                    first
                    | (refine wpT_pure rfl rfl rfl ?_; apply Exists.intro; refine ⟨?_, ?_⟩; intro w; ((go_simp <;> rfl)); simp only [Act.put, List.setIfInBounds_toArray, List.set_cons_zero, List.set_cons_succ])
                    | (refine wpT_take 25 rfl rfl (by decide +kernel) ⟨fun _ => cell_fr HQJ.out FJD.out (fun h => h), hid trivial⟩ ?_; apply Exists.intro; refine ⟨?_, ?_⟩; intro w hw; (have qa := hw.1 (Nat.le_refl _); have qb := hw.2); ((go_simp <;> rfl)); simp only [Act.put, List.setIfInBounds_toArray, List.set_cons_zero, List.set_cons_succ])
                    | (refine wpT_skip rfl rfl ?_; simp only [Act.put, List.setIfInBounds_toArray, List.set_cons_zero, List.set_cons_succ])
                  refine wpT_nil ?_
                  go_wp2_with (fail)
                  go_roundw
                  case rel => exact ⟨j + 1, by omega, by go_num, by rw [HAS.out], FJO.out⟩
                  case measure => simp [intOf]; omega
              · obtain rfl : j = k := by omega
                have j2 : ¬ (j : Int) < (j : Int) := by omega
                rw [HLK.out]
                obtain ⟨bb, hbb⟩ : ∃ b, l.any (fun y => eqV y x) = b := ⟨_, rfl⟩
                rw [hbb] at HSN ⊢
                clear hbb
                have i8 : IntKind.i64.wrap (((dc eqV l : Nat) : Int) + 1) = ((dc eqV l : Nat) : Int) + 1 := IntWalk.i64_in _ (by omega)
                generalize dc eqV l = dn at *
                cases bb with
                | true =>
                  go_wp2_with (fail)
                  exact ⟨⟨j + 1, by omega, rfl, by rw [HCV2.out, HSN.out]; rfl, FJ.out⟩, by simp only [intOf, Int.toNat_natCast]; omega⟩
                | false =>
                  go_wp2_with (fail)
                  exact ⟨⟨j + 1, by omega, rfl, by rw [HCV2.out, HSN.out]; rfl, FJ.out⟩, by simp only [intOf, Int.toNat_natCast]; omega⟩
          · have HCV2 := hid (HCV.out.trans (show l ++ (match r[i]? with | some v => [v] | none => []) = l from by rw [List.getElem?_eq_none (by omega)]; simp))
            have i5 : (r.length : Int) ≤ (i : Int) := by omega
            clear HCV
            go_wp2_with (fail)
            exact ⟨⟨k + 1, by omega, rfl, by rw [HCV2.out], FK.out⟩, by simp only [intOf, Int.toNat_natCast]; omega⟩
        · obtain rfl : k = L.length := by omega
          have i3 : ¬ ((L.length : Int) < (L.length : Int)) := by omega
          have HTL := hid (show (L.map RowV.r).take L.length = L.map RowV.r from List.take_of_length_le (by rw [List.length_map]; exact Nat.le_refl _))
          rw [HTL.out]
          obtain ⟨q, hq⟩ : ∃ q, dc eqV (colV i (L.map RowV.r)) = q := ⟨_, rfl⟩
          rw [hq] at HCT ⊢
          clear hq HTL
          have HB41 := hid (Blk.fr HB4.out FK.out (fun h => h))
          have HB51 := hid (Blk.fr HB5.out FK.out (fun h => h))
          have HB01 := hid (Blk.fr HB0.out FK.out (fun h => h))
          have HRW3 := hid (HRW.out.fre FK.out)
          have FR3 := hid (FR.out.trans FK.out (fun _ h _ => h))
          clear HB4 HB5 HB0 HRW FR FK
          have HSZ := hid (show d ≤ wr.heap.size from by have := HB41.out.lt; omega)
          have k1 : wr.cell? ⟨d + 1 + 1, 1, none⟩ = some (.slice av i cv) := HB51.out.cell 1
          go_upto_region 4 with (at_builtin; refine wpList_app1 rfl (s := .tmp 68) (x := .tmp 70) (t := 30) rfl Tryd.underlying30 info_int rfl rfl rfl HRW3.out HSZ.out rfl (by simp [Value.oneCell']) (by omega) (by omega) ?_; intro ab ac2 wg APP; have HRN := hid (APP.row.cast (m := i + 1) (ys := ((countM nc (L.map RowV.r)).take (i + 1)).flatMap ncell) rfl (by rw [HCT.out, List.flatMap_append]; rfl)); have HB44 := hid (Blk.fr HB41.out APP.fr (fun hk => HRW3.out.ne HB41.out (by decide) _ hk rfl)); have HB54 := hid (Blk.fr HB51.out APP.fr (fun hk => HRW3.out.ne HB51.out (by decide) _ hk rfl)); have HB04 := hid (Blk.fr HB01.out APP.fr (fun hk => HRW3.out.ne HB01.out (by decide) _ hk rfl)); have FR4 := hid (FR3.out.trans APP.fr (fun k hk hl => by have := HRW3.out.new k hk; have := HD.out; omega)); clear APP k1; have k2 : wg.cell? ⟨d + 1 + 1, 1, none⟩ = some (.slice av i cv) := HB54.out.cell 1; have z2 : wg.frozen? ⟨d + 1 + 1, 1, none⟩ = false := HB54.out.frozen 1)
          have fs := (Fr.refl (fun k => k = d + 1 + 1) wg).setCell ⟨d + 1 + 1, 1, none⟩ (.slice ab (i + 1) ac2) (fun _ => rfl)
          have HB45 := hid (Blk.fr HB44.out fs (by omega))
          have HB05 := hid (Blk.fr HB04.out fs (by omega))
          have HB55 := hid (HB54.out.set 1 (.slice ab (i + 1) ac2))
          have HRO := hid (HRN.out.fr fs (fun k hk e => HRN.out.ne HB54.out (by decide) k hk e))
          have FR5 := hid (FR4.out.trans fs (fun k hk hl => by have := HD.out; omega))
          clear fs HB44 HB54 HB04 HRN FR4 k2 z2
          have i9 : IntKind.i64.wrap ((i : Int) + 1) = (i : Int) + 1 := IntWalk.i64_in _ (by omega)
          generalize wg.setCell ⟨d + 1 + 1, 1, none⟩ (.slice ab (i + 1) ac2) = W9 at *
          go_wp2_with (fail)
          go_roundw
          case rel => exact ⟨i + 1, ab, ac2, by omega, by go_num, HB05.out, HB45.out, HB55.out, HRO.out, FR5.out⟩
          case measure => simp [intOf]; omega
    · obtain rfl : i = nc := by omega
      rw [List.take_of_length_le (by rw [countM_len]; exact Nat.le_refl _)] at HRW
      have i1 : ¬ ((i : Int) < (i : Int)) := by omega
      have a0 : WO.cell? ⟨d + 1 + 1, 0, none⟩ = some (.int .i64 L.length) := HB5.out.cell 0
      have a1 : WO.cell? ⟨d + 1 + 1, 1, none⟩ = some (.slice av i cv) := HB5.out.cell 1
      have r0 : WO.cell? ⟨d + 1, 0, none⟩ = some (.int .i64 0) := HB4.out.cell 0
      have r1 : WO.cell? ⟨d + 1, 1, none⟩ = some (.slice none 0 0) := HB4.out.cell 1
      have z0 : WO.frozen? ⟨d + 1, 0, none⟩ = false := HB4.out.frozen 0
      have z1 : WO.frozen? ⟨d + 1, 1, none⟩ = false := HB4.out.frozen 1
      have B2 := hid ((HB4.out.set 0 (.int .i64 L.length)).set 1 (.slice av i cv))
      have F2 := hid (((Fr.refl (fun k => k = d + 1) WO).setCell ⟨d + 1, 0, none⟩ (.int .i64 L.length) (fun _ => rfl)).setCell ⟨d + 1, 1, none⟩ (.slice av i cv) (fun _ => rfl))
      have HRF := hid (HRW.out.fr F2.out (fun k hk e => HRW.out.ne HB4.out (by decide) k hk e))
      go_wp2_with (fail)
      refine bodyPost_ret (agg_ret rfl rfl B2.out Tryd.underlying34 rfl size_rstats) rfl ⟨_, rfl, ?_, FR.out.trans F2.out (fun k hk hl => by have := HD.out; omega)⟩
      rw [HD.out]
      exact HRF.out
end Go.Proofs.YtgkfdlpijefgkaaDoor
