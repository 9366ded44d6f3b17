import Derived.Test.YtgkfdlpijefgkaaGreatDoorCtFr
import Derived.Test.YtgkfdlpijefgkaaGreatDoorCtSa
import Derived.Deep.CutBlock
/- The law's same: a catalog and the reference's that stand for one schema agree on all queries. -/
set_option linter.unusedVariables false
namespace Go.Proofs.YtgkfdlpijefgkaaGreatDoor
open Go.RowKit Go.VB Go.VB.Oct Go.VB.Cat Go.VB.Rec
theorem bound_tab {S : Nat → Prop} {W : World} {t : TabV} (o : TabO S W t) (k : TabOk t.t) : TabB t :=
  ⟨by have := k.le; omega, by have := k.ixs; rw [o.e, List.length_map] at this; omega, fun x hx => by have := (k.ix x.x (by rw [o.e]; exact List.mem_map_of_mem hx)).le; omega⟩
theorem atM_at {m : List Tab} {j : Nat} (h : j < m.length) : atM m ((j : Int) + 1) = (m[j], true) := by
  unfold atM
  rw [if_pos (by omega), show ((j : Int) + 1 - 1).toNat = j by omega, List.getElem?_eq_getElem h]
theorem atM_over (m : List Tab) : (atM m ((m.length : Int) + 1)).2 = false := by
  unfold atM
  rw [if_pos (by omega), show ((m.length : Int) + 1 - 1).toNat = m.length by omega, List.getElem?_eq_none (Nat.le_refl _)]
theorem atM_zero (m : List Tab) : (atM m 0).2 = false := by
  unfold atM
  rw [if_neg (by omega)]
theorem tableM_at {m : List Tab} (ok : Ok m) {j : Nat} (h : j < m.length) : tableM m m[j].name = (m[j], true) := by
  unfold tableM
  rw [find_of_at ok.nodup h]
  exact atM_at h
theorem Same_yes {R R' : Nat → Prop} {w : World} {a b : TabV} (ha : TabS R w a) (hb : TabS R' w b) (e : a.t = b.t) : Calls Tryz.prog 26 #[a.agg, b.agg] w fun e w' => e = .returned (.bool true) ∧ Fr (fun _ => False) w w' := by
  have := Same_go ha hb
  rw [decide_eq_true e] at this
  exact this
/-- what region 9 reads -/
structure SmS (W : World) (r dt du g gy j : Nat) (sl : Value) (x t u y : TabV) : Prop where
  k : W.cell? ⟨r, 0, none⟩ = some sl
  t : W.rangeAt dt 0 t.cells
  u : W.rangeAt du 0 u.cells
  x : W.rangeAt g (j * 4) x.cells
  y : W.rangeAt gy (j * 4) y.cells
theorem range_fr {W W' : World} {g o : Nat} {l : List Value} (h : W.rangeAt g o l) (f : Fr (fun _ => False) W W') : W'.rangeAt g o l := fun i u hu => cell_fr (h i u hu) f (fun h => h)
theorem SmS.fre {W W' : World} {r dt du g gy j : Nat} {sl : Value} {x t u y : TabV} (h : SmS W r dt du g gy j sl x t u y) (f : Fr (fun _ => False) W W') : SmS W' r dt du g gy j sl x t u y :=
  ⟨cell_fr h.k f (fun h => h), range_fr h.t f, range_fr h.u f, range_fr h.x f, range_fr h.y f⟩
set_option maxRecDepth 20000 in
set_option maxHeartbeats 4000000 in
theorem Lsame_go {S S' : Nat → Prop} {w : World} {c r : Nat} {m : List Tab} (h : CR 104 S w c m) (k : CR 30 S' w r m) (ok : Ok m) :
    Calls Tryz.prog 19 #[.pointer (some ⟨c, 0, none⟩), .pointer (some ⟨r, 0, none⟩)] w fun e w' => e = .returned (.bool true) ∧ Fr (fun _ => False) w w' := by
  have HB1 := hid (fun (W : World) (f : Fr (fun _ => False) w W) => Bytes_go (h.fre f) ok)
  have HB2 := hid (fun (W : World) (f : Fr (fun _ => False) w W) => rBytes_go (k.fre f) ok)
  have HAT := hid (fun (W : World) (f : Fr (fun _ => False) w W) (id : Int) (hi : -9223372036854775808 ≤ id ∧ id ≤ 9223372036854775807) => At_go (h.fre f) ok id hi)
  have HTA := hid (fun (W : World) (f : Fr (fun _ => False) w W) (n : Bs) => Table_go (h.fre f) ok n)
  have HAL := hid (All_go h ok)
  obtain ⟨v, ts, hr, hm⟩ := k
  have HR := hid hr
  have HM := hid hm
  have HOK := hid ok
  have htl : ts.length = m.length := by rw [← hm, List.length_map]
  have hl8 : ts.length ≤ 8 := by have := ok.len; omega
  have HTL := hid htl
  obtain ⟨av, cv, rfl, _⟩ := hr.r.slice
  clear h hr hm ok htl
  go_enter Tryz.func19, Tryz.ntmps19
  go_upto_region 2 with (go_at_call 47; refine HAL.out.mono ?_; rintro e w1 ⟨v1, ys, rfl, hys, hry, f⟩; obtain ⟨ay, cy, rfl, _⟩ := hry.r.slice; have HYS := hid hys; have HY := hid hry; have F1 := hid f; have k0 : w1.cell? ⟨r, 0, none⟩ = some (.slice av ts.length cv) := (HR.out.fre f).b.cell 0; clear hys hry f)
  have hyl : ys.length = ts.length := by have := congrArg List.length HYS.out; rw [List.length_map] at this; have := HTL.out; omega
  have e1 : ((ys.length : Int) != (ts.length : Int)) = false := by rw [hyl]; simp
  have HYL := hid hyl
  clear hyl HAL
  go_upto_region 4 with fail
  clear k0 e1
  go_upto_block 0 with fail
  go_cut [6] (fun v6 wx => Fr (fun _ => False) w1 wx)
  case first =>
    go_wp2_with (fail)
    go_loopw [6] (fun i wr => ∃ j : Nat, j ≤ ys.length ∧ i = .int .i64 j ∧ Fr (fun _ => False) w1 wr) (fun i _ => ys.length - (intOf i).toNat)
    case atStart => exact ⟨0, by omega, rfl, Fr.refl _ _⟩
    case round =>
      obtain ⟨j, hj, rfl, fr⟩ := hrel
      have FR := hid fr
      clear fr
      have i1 : (0 : Int) ≤ (j : Int) := by omega
      by_cases hjl : j < ys.length
      · have i2 : (j : Int) < (ys.length : Int) := by omega
        have hjt : j < ts.length := by have := HYL.out; omega
        have hjm : j < m.length := by have := HTL.out; omega
        have i3 : (j : Int) < (ts.length : Int) := by omega
        have i5 : IntKind.i64.wrap ((j : Int) + 1) = (j : Int) + 1 := IntWalk.i64_in _ (by omega)
        have F2 := hid (F1.out.trans FR.out (fun _ h _ => h))
        have hat := HAT.out wr F2.out ((j : Int) + 1) (by omega)
        rw [atM_at hjm] at hat
        have HA1 := hid hat
        have hta := fun (W : World) (f : Fr (fun _ => False) wr W) => HTA.out W (F2.out.trans f (fun _ h _ => h)) m[j].name
        rw [tableM_at HOK.out hjm] at hta
        have HT1 := hid hta
        clear hat hta
        have HXM := hid (show ts[j].t = m[j] from by have := HM.out; subst this; simp)
        have HYM := hid (show ys[j].t = m[j] from by have := HYS.out; subst this; simp)
        obtain ⟨g, hg, -, hrx⟩ := tab_at (HR.out.fre F2.out).r hjt
        obtain ⟨gy, hgy, -, hry⟩ := tab_at (HY.out.fre FR.out).r hjl
        subst hg hgy
        have HXO := hid ((HR.out.fre F2.out).t _ (List.getElem_mem hjt))
        have HYO := hid ((HY.out.fre FR.out).t _ (List.getElem_mem hjl))
        have HTK := hid (HOK.out.tab _ (List.getElem_mem hjm))
        obtain ⟨x, hx⟩ : ∃ x, x = ts[j] := ⟨_, rfl⟩
        obtain ⟨y, hy⟩ : ∃ y, y = ys[j] := ⟨_, rfl⟩
        obtain ⟨tm, htm⟩ : ∃ t, t = m[j] := ⟨_, rfl⟩
        rw [← hx] at hrx HXM HXO
        rw [← hy] at hry HYM HYO
        rw [← htm] at HA1 HT1 HXM HYM HTK
        clear hx hy htm
        have HRX := hid hrx
        have HRY := hid hry
        have q1 : wr.cell? ⟨g, j * 4 + 1, none⟩ = some (.string (bs tm.name)) := by rw [← HXM.out]; exact hrx 1 _ rfl
        have HQ1 := hid q1
        have k0 : wr.cell? ⟨r, 0, none⟩ = some (.slice (some ⟨g, 0, none⟩) ts.length cv) := (HR.out.fre F2.out).b.cell 0
        have HK0 := hid k0
        clear hrx hry q1 k0
        unfold TabV.agg TabV.cells at HA1 HT1
        go_upto_region 8 with (go_at_call 48; refine HA1.out.mono ?_; rintro e w3 ⟨⟨t1, vc1, vi1, ix1⟩, rfl, et, ho, f⟩; dsimp only at et; obtain ⟨a1, d1, e2, _⟩ := ho.c.slice; obtain ⟨a2, d2, e3, _⟩ := ho.i.slice; dsimp only at e2 e3; subst et e2 e3; have HTO := hid ho; have FT := hid f; clear ho f)
        generalize hw9 : w3.alloc _ = W9
        have F9 := hid (show Fr (fun _ => False) wr W9 from by rw [← hw9]; exact FT.out.alloc _)
        have HB9 := hid (show Blk W9 w3.heap.size [.int .i64 t1.id, .string (bs t1.name), .slice a1 t1.cols.length d1, .slice a2 ix1.length d2] 34 from by rw [← hw9]; exact Blk.new w3 _ _)
        have HT9 := hid (show TabO (fun k => wr.heap.size ≤ k) W9 ⟨t1, .slice a1 t1.cols.length d1, .slice a2 ix1.length d2, ix1⟩ from by rw [← hw9]; exact HTO.out.fr ((Fr.refl (fun _ => False) w3).alloc _) (fun _ _ h => h))
        generalize w3.heap.size = dt at *
        clear hw9 HTO FT HA1
        have q1 := cell_fr HQ1.out F9.out (fun h => h)
        have k0 := cell_fr HK0.out F9.out (fun h => h)
        go_upto_region 9 with (go_at_call 23; refine (HT1.out _ F9.out).mono ?_; rintro e w10 ⟨⟨t2, vc2, vi2, ix2⟩, rfl, et, ho, f⟩; dsimp only at et; obtain ⟨a5, d5, e2, _⟩ := ho.c.slice; obtain ⟨a6, d6, e3, _⟩ := ho.i.slice; dsimp only at e2 e3; subst et e2 e3; have HUO := hid ho; have FU := hid f; clear ho f)
        generalize hw11 : w10.alloc _ = W11
        have F11 := hid (show Fr (fun _ => False) W9 W11 from by rw [← hw11]; exact FU.out.alloc _)
        have HB11 := hid (show Blk W11 w10.heap.size [.int .i64 t2.id, .string (bs t2.name), .slice a5 t2.cols.length d5, .slice a6 ix2.length d6] 34 from by rw [← hw11]; exact Blk.new w10 _ _)
        have HU11 := hid (show TabO (fun k => W9.heap.size ≤ k) W11 ⟨t2, .slice a5 t2.cols.length d5, .slice a6 ix2.length d6, ix2⟩ from by rw [← hw11]; exact HUO.out.fr ((Fr.refl (fun _ => False) w10).alloc _) (fun _ _ h => h))
        generalize w10.heap.size = du at *
        clear hw11 HUO FU HT1 q1 k0
        have FD := hid ((Fr.refl (fun _ => False) W11).drew)
        have FX := hid ((F9.out.trans F11.out (fun _ h _ => h)).trans FD.out (fun _ h _ => h))
        have HSX := hid ((HXO.out.fr FX.out (fun _ _ h => h)).s (bound_tab HXO.out (by rw [HXM.out]; exact HTK.out)))
        have HSY := hid ((HYO.out.fr FX.out (fun _ _ h => h)).s (bound_tab HYO.out (by rw [HYM.out]; exact HTK.out)))
        have HST := hid ((HT9.out.fr (F11.out.trans FD.out (fun _ h _ => h)) (fun _ _ h => h)).s (bound_tab HT9.out HTK.out))
        have HSU := hid ((HU11.out.fr FD.out (fun _ _ h => h)).s (bound_tab HU11.out HTK.out))
        have HS1 := hid (fun (W : World) (f : Fr (fun _ => False) W11.drew W) => Same_yes (HST.out.fre f) (HSX.out.fre f) HXM.out.symm)
        have HS2 := hid (fun (W : World) (f : Fr (fun _ => False) W11.drew W) => Same_yes (HSU.out.fre f) (HSX.out.fre f) HXM.out.symm)
        have HS3 := hid (fun (W : World) (f : Fr (fun _ => False) W11.drew W) => Same_yes (HSY.out.fre f) (HSX.out.fre f) (HYM.out.trans HXM.out.symm))
        have HS := hid (show SmS W11.drew r dt du g gy j (.slice (some ⟨g, 0, none⟩) ts.length cv) x ⟨t2, .slice a1 t2.cols.length d1, .slice a2 ix1.length d2, ix1⟩ ⟨t2, .slice a5 t2.cols.length d5, .slice a6 ix2.length d6, ix2⟩ y from
          ⟨cell_fr HK0.out FX.out (fun h => h), (HB9.out.fr (F11.out.trans FD.out (fun _ h _ => h)) (fun h => h)).all, (HB11.out.fr FD.out (fun h => h)).all, range_fr HRX.out FX.out, range_fr HRY.out FX.out⟩)
        have FW := hid (Fr.refl (fun _ => False) W11.drew)
        have FEND := hid ((F1.out.trans (FR.out) (fun _ h _ => h)).size)
        have FZ := hid (FR.out.trans FX.out (fun _ h _ => h))
        clear F9 HB9 HT9 F11 HB11 HU11 FD FX HSX HSY HST HSU HRX HRY HQ1 HK0 HXO HYO F2 FEND
        refine wp_region_scr (.take 0 (.take 1 (.take 2 (.take 3 (.take 4 (.take 5 (.take 6 (.take 7 (.take 8 (.take 9 (.take 10 (.take 11 (.take 12 (.take 13 (.take 14 (.op 15 (.take 16 (.take 17 (.take 18 (.take 19 (.take 20 (.take 21 (.take 22 (.take 23 (.take 24 (.take 25 (.take 26 (.op 27 (.take 28 (.take 29 (.take 30 (.take 31 (.take 32 (.take 33 (.take 34 (.take 35 (.take 36 (.take 37 (.take 38 (.take 39 (.take 40 (.take 41 (.op 42 (.take 43 (.take 44 .done))))))))))))))))))))))))))))))))))))))))))))) (fun kz w => (kz ≤ 45 → SmS w r dt du g gy j (.slice (some ⟨g, 0, none⟩) ts.length cv) x ⟨t2, .slice a1 t2.cols.length d1, .slice a2 ix1.length d2, ix1⟩ ⟨t2, .slice a5 t2.cols.length d5, .slice a6 ix2.length d6, ix2⟩ y) ∧ Hid True) (by kernel_rfl) (by kernel_rfl) (by intro c a d v w h; cases d <;> exact h) ?_
        repeat
          first
          | (refine wpT_pure rfl rfl rfl ?_; apply Exists.intro; refine ⟨?_, ?_⟩; intro w; (first | (first | exact run_load_mid _ _ rfl dt _ rfl _ _ qa.t Tryz.underlying34 rfl size_tab2 | exact run_load_mid _ _ rfl du _ rfl _ _ qa.u Tryz.underlying34 rfl size_tab2 | exact run_load_mid _ _ rfl g _ rfl _ _ qa.x Tryz.underlying34 rfl size_tab2 | exact run_load_mid _ _ rfl gy _ rfl _ _ qa.y Tryz.underlying34 rfl size_tab2 | (obtain ⟨z0, _, _, _, _⟩ := qa; go_simp <;> rfl)) | (go_simp <;> rfl)); simp only [Act.put, List.setIfInBounds_toArray, List.set_cons_zero, List.set_cons_succ])
          | (refine wpT_take 45 rfl rfl (by decide +kernel) ⟨fun _ => HS.out, hid trivial⟩ ?_; apply Exists.intro; refine ⟨?_, ?_⟩; intro w hw; (have qa := hw.1 (Nat.le_refl _); have qb := hw.2); (first | (first | exact run_load_mid _ _ rfl dt _ rfl _ _ qa.t Tryz.underlying34 rfl size_tab2 | exact run_load_mid _ _ rfl du _ rfl _ _ qa.u Tryz.underlying34 rfl size_tab2 | exact run_load_mid _ _ rfl g _ rfl _ _ qa.x Tryz.underlying34 rfl size_tab2 | exact run_load_mid _ _ rfl gy _ rfl _ _ qa.y Tryz.underlying34 rfl size_tab2 | (obtain ⟨z0, _, _, _, _⟩ := qa; go_simp <;> rfl)) | (go_simp <;> rfl)); simp only [Act.put, List.setIfInBounds_toArray, List.set_cons_zero, List.set_cons_succ])
          | (refine wpT_skip rfl rfl ?_; simp only [Act.put, List.setIfInBounds_toArray, List.set_cons_zero, List.set_cons_succ])
        refine wpT_op rfl ?_
        go_wp2_with ((go_at_call 26; refine (HS1.out _ FW.out).mono ?_; rintro e w12 ⟨rfl, f⟩; replace HS := hid (HS.out.fre f); replace FW := hid (FW.out.trans f (fun _ h _ => h)); clear f HS1))
        (refine ⟨?_, ?_⟩; focus (intro kz hk hk2 hh; first | (exfalso; simp at hk2; omega) | exact hh | exact (fun h => absurd h (by omega)) | obtain ⟨qa, qb⟩ := hh; first | exact ⟨qa, qb⟩ | (refine ⟨fun h => absurd h (by omega), ?_⟩; first | exact qb | (exact HS.out)) | (refine ⟨fun h => ?_, ?_⟩; (have qa := qa h); all_goals (first | exact qa | exact qb | (exact HS.out)))))
        repeat
          first
          | (refine wpT_pure rfl rfl rfl ?_; apply Exists.intro; refine ⟨?_, ?_⟩; intro w; (first | (first | exact run_load_mid _ _ rfl dt _ rfl _ _ qa.t Tryz.underlying34 rfl size_tab2 | exact run_load_mid _ _ rfl du _ rfl _ _ qa.u Tryz.underlying34 rfl size_tab2 | exact run_load_mid _ _ rfl g _ rfl _ _ qa.x Tryz.underlying34 rfl size_tab2 | exact run_load_mid _ _ rfl gy _ rfl _ _ qa.y Tryz.underlying34 rfl size_tab2 | (obtain ⟨z0, _, _, _, _⟩ := qa; go_simp <;> rfl)) | (go_simp <;> rfl)); simp only [Act.put, List.setIfInBounds_toArray, List.set_cons_zero, List.set_cons_succ])
          | (refine wpT_take 45 rfl rfl (by decide +kernel) ⟨fun _ => HS.out, hid trivial⟩ ?_; apply Exists.intro; refine ⟨?_, ?_⟩; intro w hw; (have qa := hw.1 (Nat.le_refl _); have qb := hw.2); (first | (first | exact run_load_mid _ _ rfl dt _ rfl _ _ qa.t Tryz.underlying34 rfl size_tab2 | exact run_load_mid _ _ rfl du _ rfl _ _ qa.u Tryz.underlying34 rfl size_tab2 | exact run_load_mid _ _ rfl g _ rfl _ _ qa.x Tryz.underlying34 rfl size_tab2 | exact run_load_mid _ _ rfl gy _ rfl _ _ qa.y Tryz.underlying34 rfl size_tab2 | (obtain ⟨z0, _, _, _, _⟩ := qa; go_simp <;> rfl)) | (go_simp <;> rfl)); simp only [Act.put, List.setIfInBounds_toArray, List.set_cons_zero, List.set_cons_succ])
          | (refine wpT_skip rfl rfl ?_; simp only [Act.put, List.setIfInBounds_toArray, List.set_cons_zero, List.set_cons_succ])
        refine wpT_op rfl ?_
        go_wp2_with ((go_at_call 26; refine (HS2.out _ FW.out).mono ?_; rintro e w13 ⟨rfl, f⟩; replace HS := hid (HS.out.fre f); replace FW := hid (FW.out.trans f (fun _ h _ => h)); clear f HS2))
        (refine ⟨?_, ?_⟩; focus (intro kz hk hk2 hh; first | (exfalso; simp at hk2; omega) | exact hh | exact (fun h => absurd h (by omega)) | obtain ⟨qa, qb⟩ := hh; first | exact ⟨qa, qb⟩ | (refine ⟨fun h => absurd h (by omega), ?_⟩; first | exact qb | (exact HS.out)) | (refine ⟨fun h => ?_, ?_⟩; (have qa := qa h); all_goals (first | exact qa | exact qb | (exact HS.out)))))
        repeat
          first
          | (refine wpT_pure rfl rfl rfl ?_; apply Exists.intro; refine ⟨?_, ?_⟩; intro w; (first | (first | exact run_load_mid _ _ rfl dt _ rfl _ _ qa.t Tryz.underlying34 rfl size_tab2 | exact run_load_mid _ _ rfl du _ rfl _ _ qa.u Tryz.underlying34 rfl size_tab2 | exact run_load_mid _ _ rfl g _ rfl _ _ qa.x Tryz.underlying34 rfl size_tab2 | exact run_load_mid _ _ rfl gy _ rfl _ _ qa.y Tryz.underlying34 rfl size_tab2 | (obtain ⟨z0, _, _, _, _⟩ := qa; go_simp <;> rfl)) | (go_simp <;> rfl)); simp only [Act.put, List.setIfInBounds_toArray, List.set_cons_zero, List.set_cons_succ])
          | (refine wpT_take 45 rfl rfl (by decide +kernel) ⟨fun _ => HS.out, hid trivial⟩ ?_; apply Exists.intro; refine ⟨?_, ?_⟩; intro w hw; (have qa := hw.1 (Nat.le_refl _); have qb := hw.2); (first | (first | exact run_load_mid _ _ rfl dt _ rfl _ _ qa.t Tryz.underlying34 rfl size_tab2 | exact run_load_mid _ _ rfl du _ rfl _ _ qa.u Tryz.underlying34 rfl size_tab2 | exact run_load_mid _ _ rfl g _ rfl _ _ qa.x Tryz.underlying34 rfl size_tab2 | exact run_load_mid _ _ rfl gy _ rfl _ _ qa.y Tryz.underlying34 rfl size_tab2 | (obtain ⟨z0, _, _, _, _⟩ := qa; go_simp <;> rfl)) | (go_simp <;> rfl)); simp only [Act.put, List.setIfInBounds_toArray, List.set_cons_zero, List.set_cons_succ])
          | (refine wpT_skip rfl rfl ?_; simp only [Act.put, List.setIfInBounds_toArray, List.set_cons_zero, List.set_cons_succ])
        refine wpT_op rfl ?_
        go_wp2_with ((go_at_call 26; refine (HS3.out _ FW.out).mono ?_; rintro e w14 ⟨rfl, f⟩; replace HS := hid (HS.out.fre f); replace FW := hid (FW.out.trans f (fun _ h _ => h)); clear f HS3))
        (refine ⟨?_, ?_⟩; focus (intro kz hk hk2 hh; first | (exfalso; simp at hk2; omega) | exact hh | exact (fun h => absurd h (by omega)) | obtain ⟨qa, qb⟩ := hh; first | exact ⟨qa, qb⟩ | (refine ⟨fun h => absurd h (by omega), ?_⟩; first | exact qb | (exact HS.out)) | (refine ⟨fun h => ?_, ?_⟩; (have qa := qa h); all_goals (first | exact qa | exact qb | (exact HS.out)))))
        repeat
          first
          | (refine wpT_pure rfl rfl rfl ?_; apply Exists.intro; refine ⟨?_, ?_⟩; intro w; ((go_simp <;> rfl)); simp only [Act.put, List.setIfInBounds_toArray, List.set_cons_zero, List.set_cons_succ])
          | (refine wpT_take 45 rfl rfl (by decide +kernel) ⟨fun _ => HS.out, hid trivial⟩ ?_; apply Exists.intro; refine ⟨?_, ?_⟩; intro w hw; (have qa := hw.1 (Nat.le_refl _); have qb := hw.2); ((go_simp <;> rfl)); simp only [Act.put, List.setIfInBounds_toArray, List.set_cons_zero, List.set_cons_succ])
          | (refine wpT_skip rfl rfl ?_; simp only [Act.put, List.setIfInBounds_toArray, List.set_cons_zero, List.set_cons_succ])
        refine wpT_nil ?_
        have FZ2 := hid (FZ.out.trans FW.out (fun _ h _ => h))
        clear FW FZ HS
        go_wp2_with (fail)
        go_roundw
        case rel => exact ⟨j + 1, by omega, by go_num, FZ2.out⟩
        case measure => simp [intOf]; omega
      · obtain rfl : j = ys.length := by omega
        have i9 : ¬ ((ys.length : Int) < (ys.length : Int)) := by omega
        go_wp2_with (fail)
        go_meet
        exact FR.out
  case rest =>
    have FR := hid hcut
    clear hcut
    have F2 := hid (F1.out.trans FR.out (fun _ h _ => h))
    have i5 : IntKind.i64.wrap ((ys.length : Int) + 1) = (ys.length : Int) + 1 := IntWalk.i64_in _ (by have := HYL.out; omega)
    have HA1 := hid (fun (W : World) (f : Fr (fun _ => False) wc W) => HAT.out W (F2.out.trans f (fun _ h _ => h)) ((ys.length : Int) + 1) (by have := HYL.out; omega))
    have HA2 := hid (fun (W : World) (f : Fr (fun _ => False) wc W) => HAT.out W (F2.out.trans f (fun _ h _ => h)) 0 (by omega))
    have HBA := hid (fun (W : World) (f : Fr (fun _ => False) wc W) => HB1.out W (F2.out.trans f (fun _ h _ => h)))
    have HBB := hid (fun (W : World) (f : Fr (fun _ => False) wc W) => HB2.out W (F2.out.trans f (fun _ h _ => h)))
    rw [show (atM m ((ys.length : Int) + 1)).2 = false from by rw [HYL.out, HTL.out]; exact atM_over m] at HA1
    rw [atM_zero m] at HA2
    unfold TabV.agg TabV.cells at HA1 HA2
    clear HAT HTA HB1 HB2 F1 FR HR HM HOK HTL HYS HY HYL
    have G0 := hid (Fr.refl (fun _ => False) wc)
    go_upto_region 12 with (go_at_call 48; refine (HA1.out _ G0.out).mono ?_; rintro e w3 ⟨⟨t1, vc1, vi1, ix1⟩, rfl, et, ho, f⟩; obtain ⟨a1, d1, e2, _⟩ := ho.c.slice; obtain ⟨a2, d2, e3, _⟩ := ho.i.slice; dsimp only at e2 e3; subst e2 e3; have G1 := hid f; clear ho f et)
    have G2 := hid (G1.out.alloc (.cells #[.int .i64 t1.id, .string (bs t1.name), .slice a1 t1.cols.length d1, .slice a2 ix1.length d2] 34))
    generalize w3.heap.size = d3 at *
    generalize w3.alloc _ = W3 at *
    go_upto_region 13 with (go_at_call 48; refine (HA2.out _ G2.out).mono ?_; rintro e w4 ⟨⟨t2, vc2, vi2, ix2⟩, rfl, et, ho, f⟩; obtain ⟨a5, d5, e2, _⟩ := ho.c.slice; obtain ⟨a6, d6, e3, _⟩ := ho.i.slice; dsimp only at e2 e3; subst e2 e3; have G3 := hid (G2.out.trans f (fun _ h _ => h)); clear ho f et)
    have G4 := hid (G3.out.alloc (.cells #[.int .i64 t2.id, .string (bs t2.name), .slice a5 t2.cols.length d5, .slice a6 ix2.length d6] 34))
    generalize w4.heap.size = d4 at *
    generalize w4.alloc _ = W4 at *
    go_wp2_with (first
      | (go_at_call 27; refine (HBA.out _ G4.out).mono ?_; rintro e w5 ⟨rfl, f⟩; have G5 := hid (G4.out.trans f (fun _ h _ => h)); clear f)
      | (go_at_call 20; refine (HBB.out _ G5.out).mono ?_; rintro e w6 ⟨rfl, f⟩; have G6 := hid (F2.out.trans (G5.out.trans f (fun _ h _ => h)) (fun _ h _ => h)); clear f))
    go_ret
    exact ⟨rfl, G6.out⟩
end Go.Proofs.YtgkfdlpijefgkaaGreatDoor
/- Tables and rows as a law's arguments. -/
namespace Go.Proofs.YtgkfdlpijefgkaaGreatDoor
open Go.RowKit Go.VB Go.VB.Oct Go.VB.Cat Go.VB.Rec Go.WideShapes Go.ChangeShapes
theorem Sl.firsts {R : Nat → Prop} {W : World} {a : Option Addr} {c kk : Nat} {α : Type} {f : α → List Value} (hf : ∀ x, (f x).length = kk) {L : List α} (h : Sl R W (.slice a L.length c) L.length (L.flatMap f)) {k : Nat} (hk : k ≤ L.length) :
    Sl R W (.slice a k c) k ((L.take k).flatMap f) := by
  obtain ⟨a', c', e, hc, hx⟩ := h
  cases e
  refine ⟨a, c, rfl, by omega, fun hne => ?_⟩
  have hd : L.flatMap f = (L.take k).flatMap f ++ (L.drop k).flatMap f := by rw [← List.flatMap_append, List.take_append_drop]
  obtain ⟨g, o, h1, h2, h3⟩ := hx (by rw [hd]; intro h; exact hne (List.append_eq_nil_iff.1 h).1)
  refine ⟨g, o, h1, h2, fun j u hu => h3 j u ?_⟩
  rw [hd, List.getElem?_append_left (List.getElem?_eq_some_iff.1 hu).1]
  exact hu
/-- a 64-bit integer -/
def I64 (x : Int) : Prop := -9223372036854775808 ≤ x ∧ x ≤ 9223372036854775807
theorem wf_in {x : Int} (h : (Lit.int .i64 x).wf = true) : I64 x := by
  simp [Lit.wf, IntKind.min, IntKind.max, IntKind.bits, IntKind.signed] at h
  unfold I64
  omega
/-- a value of an argument -/
def VIn (v : V) : Prop := I64 v.1 ∧ I64 v.2
section
variable {H : Type} {enc : TypeId × Value → H} {w : World} {base : Nat} {sp : Nat → Bool} {held : Bool}
theorem cells_int : Tryz.prog.cellsOf 3 = 1 := by kernel_rfl
theorem cells_i64 : Tryz.prog.cellsOf 2 = 1 := by kernel_rfl
theorem cells_str : Tryz.prog.cellsOf 9 = 1 := by kernel_rfl
theorem cells_row : Tryz.prog.cellsOf 24 = 1 := by kernel_rfl
theorem cells_val : Tryz.prog.cellsOf 46 = 3 := by kernel_rfl
theorem cells_col : Tryz.prog.cellsOf 80 = 2 := by kernel_rfl
theorem cells_tab : Tryz.prog.cellsOf 34 = 4 := by kernel_rfl
theorem cells_cols : Tryz.prog.cellsOf 31 = 1 := by kernel_rfl
theorem cells_ixs : Tryz.prog.cellsOf 32 = 1 := by kernel_rfl
set_option maxRecDepth 100000 in
theorem elem_val : ∀ fuel cs (r : DataW H × List MemPlace), cs.length = 3 → DataW.trod enc Tryz.prog w base sp held fuel 46 cs = some r → ∃ p : V, cs = p.cells ∧ VIn p := by
  intro fuel cs r hl h
  match cs, hl with
  | [a, b, c], _ =>
    cases fuel with
    | zero => simp [DataW.trod] at h
    | succ m =>
      unfold DataW.trod at h
      rw [Tryz.underlying46] at h
      dsimp only at h
      rw [if_pos (by rw [cells_val]; rfl)] at h
      simp only [Option.map_eq_some_iff, List.mapM_cons, List.mapM_nil, Option.bind_eq_bind, Option.bind_eq_some_iff, Option.pure_def, Option.some.injEq, cells_int, cells_i64, cells_str] at h
      obtain ⟨xs, ⟨y0, h0, x1, ⟨y1, h1, x2, ⟨y2, h2, -⟩, -⟩, -⟩, -⟩ := h
      obtain ⟨i0, e0, g0⟩ := elem_int Tryz.underlying3 _ _ _ h0
      obtain ⟨i1, e1, g1⟩ := elem_int Tryz.underlying2 _ _ _ h1
      obtain ⟨s2, e2, g2⟩ := elem_string Tryz.underlying9 _ _ _ h2
      obtain rfl : a = .int .i64 i0 := by simpa using e0
      obtain rfl : b = .int .i64 i1 := by simpa using e1
      obtain rfl : c = .string (bs s2) := by simpa using e2
      exact ⟨⟨i0, i1, s2⟩, rfl, wf_in g0, wf_in g1⟩
set_option maxRecDepth 100000 in
theorem elem_col : ∀ fuel cs (r : DataW H × List MemPlace), cs.length = 2 → DataW.trod enc Tryz.prog w base sp held fuel 80 cs = some r → ∃ p : Col, cs = p.cells ∧ p.name.length ≤ maxLen ∧ I64 p.kind := by
  intro fuel cs r hl h
  match cs, hl with
  | [a, b], _ =>
    cases fuel with
    | zero => simp [DataW.trod] at h
    | succ m =>
      unfold DataW.trod at h
      rw [Tryz.underlying80] at h
      dsimp only at h
      rw [if_pos (by rw [cells_col]; rfl)] at h
      simp only [Option.map_eq_some_iff, List.mapM_cons, List.mapM_nil, Option.bind_eq_bind, Option.bind_eq_some_iff, Option.pure_def, Option.some.injEq, cells_int, cells_str] at h
      obtain ⟨xs, ⟨y0, h0, x1, ⟨y1, h1, -⟩, -⟩, -⟩ := h
      obtain ⟨s0, e0, g0⟩ := elem_string Tryz.underlying9 _ _ _ h0
      obtain ⟨i1, e1, g1⟩ := elem_int Tryz.underlying3 _ _ _ h1
      obtain rfl : a = .string (bs s0) := by simpa using e0
      obtain rfl : b = .int .i64 i1 := by simpa using e1
      exact ⟨⟨s0, i1⟩, rfl, g0, wf_in g1⟩
set_option maxRecDepth 100000 in
/-- a table as an argument; its indexes stay unread -/
theorem open_tab {w0 : World} {r : Reach} {b0 : Nat} {v : Value} {d : DataW H} {ps : List MemPlace} (hval : Value.okWide Tryz.prog w0 r b0 34 v) (h : DataW.Trod enc Tryz.prog w base sp held 34 v d ps) :
    ∃ (id : Int) (name : Bs) (ac ai : Option Addr) (cols : List Col) (cc ni ci : Nat), v = .agg #[.int .i64 id, .string (bs name), .slice ac cols.length cc, .slice ai ni ci] ∧ Sl (fun k => k < w.heap.size) w (.slice ac cols.length cc) cols.length (cols.flatMap Col.cells) ∧ cols.length ≤ maxLen ∧ ∀ c ∈ cols, c.name.length ≤ maxLen ∧ I64 c.kind := by
  obtain ⟨fuel, h⟩ := h
  simp only [Value.okWide, Tryz.underlying34] at hval
  obtain ⟨cs, rfl, hs, -⟩ := hval
  rw [cells_tab] at hs
  have hs2 : (Value.agg cs).cells.toList.length = 4 := by simpa [Value.cells] using hs
  have hcs : (Value.agg cs).cells.toList = cs.toList := by simp [Value.cells]
  rw [hcs] at h hs2
  cases fuel with
  | zero => simp [DataW.trod] at h
  | succ m =>
    match hm : cs.toList, hs2 with
    | [a, b, c, d], _ =>
      rw [hm] at h
      unfold DataW.trod at h
      rw [Tryz.underlying34] at h
      dsimp only at h
      rw [if_pos (by rw [cells_tab]; rfl)] at h
      simp only [Option.map_eq_some_iff, List.mapM_cons, List.mapM_nil, Option.bind_eq_bind, Option.bind_eq_some_iff, Option.pure_def, Option.some.injEq, cells_int, cells_str, cells_cols, cells_ixs] at h
      obtain ⟨xs, ⟨y0, h0, x1, ⟨y1, h1, x2, ⟨y2, h2, x3, ⟨y3, h3, -⟩, -⟩, -⟩, -⟩, -⟩ := h
      obtain ⟨i0, e0, g0⟩ := elem_int Tryz.underlying3 _ _ _ h0
      obtain ⟨s1, e1, g1⟩ := elem_string Tryz.underlying9 _ _ _ h1
      obtain ⟨v2, L, e2, k2, gd, g2⟩ := open_cs Tryz.underlying31 (k := 2) cells_col (by omega) h2 Col.cells (fun c => c.name.length ≤ maxLen ∧ I64 c.kind) (fun _ => rfl) (fun fuel cs r hc h => elem_col fuel cs r hc h)
      have h4 : ∃ ai ni ci, d = .slice ai ni ci := by
        rcases DataW.trod_slice Tryz.underlying32 h3 with ⟨e, -⟩ | ⟨a, len, cap, elems, rest, n, _, e, -⟩
        · exact ⟨_, _, _, by simpa using e⟩
        · exact ⟨_, _, _, by simpa using e⟩
      obtain ⟨ai, ni, ci, rfl⟩ := h4
      obtain rfl : a = .int .i64 i0 := by simpa using e0
      obtain rfl : b = .string (bs s1) := by simpa using e1
      obtain rfl : c = v2 := by simpa using e2
      obtain ⟨a2, c2, rfl, hc2, hx2⟩ := k2
      refine ⟨i0, s1, a2, ai, L, c2, ni, ci, ?_, ⟨a2, c2, rfl, hc2, hx2⟩, g2, gd⟩
      congr 1
      apply Array.ext'
      rw [hm]
end
end Go.Proofs.YtgkfdlpijefgkaaGreatDoor
/- The law's few: a statement with at most eight columns and names, both copied; calls as a law's argument. -/
namespace Go.Proofs.YtgkfdlpijefgkaaGreatDoor
open Go.RowKit Go.VB Go.VB.Oct Go.VB.Cat Go.VB.Rec
/-- a statement of an argument: its slices are as long as they like -/
structure StA (R : Nat → Prop) (W : World) (t : StV) : Prop where
  c : Sl R W (.slice t.oc t.s.cols.length t.cc) t.s.cols.length (t.s.cols.flatMap Col.cells)
  n : Sl R W (.slice t.on t.s.names.length t.cn) t.s.names.length (sv t.s.names)
  sc : ∀ c ∈ t.s.cols, c.name.length ≤ 9223372036854775807
  sn : ∀ n ∈ t.s.names, n.length ≤ 9223372036854775807
  k : I64 t.s.kind
theorem StA.fr {R U : Nat → Prop} {W W' : World} {t : StV} (h : StA R W t) (f : Fr U W W') (hU : ∀ k, R k → ¬ U k) : StA R W' t := ⟨h.c.fr f hU, h.n.fr f hU, h.sc, h.sn, h.k⟩
theorem StA.fre {R : Nat → Prop} {W W' : World} {t : StV} (h : StA R W t) (f : Fr (fun _ => False) W W') : StA R W' t := h.fr f (fun _ _ h => h)
/-- at most eight of each -/
def fewS (s : St) : St := { s with cols := s.cols.take 8, names := s.names.take 8 }
/-- the copy, its slices at a and b -/
def fewV (t : StV) (oc : Option Addr) (cc : Nat) (on : Option Addr) (cn : Nat) : StV := { t with s := fewS t.s, oc := oc, cc := cc, on := on, cn := cn }
theorem scell_one (l : List Bs) : ∀ u ∈ l.flatMap scell, u.oneCell' = true := by
  intro u hu
  obtain ⟨x, _, h⟩ := List.mem_flatMap.1 hu
  simp only [scell, List.mem_singleton] at h
  subst h; rfl
theorem ccells_one (l : List Col) : ∀ u ∈ l.flatMap Col.cells, u.oneCell' = true := by
  intro u hu
  obtain ⟨x, _, h⟩ := List.mem_flatMap.1 hu
  simp only [Col.cells, List.mem_cons, List.not_mem_nil, or_false] at h
  rcases h with rfl | rfl <;> rfl
theorem min8 {n c : Nat} (h : n ≤ c) : ∃ m : Nat, min (n : Int) 8 = (m : Int) ∧ (if (8 : Int) < (n : Int) then (8 : Int) else (n : Int)) = (m : Int) ∧ m ≤ 8 ∧ m ≤ n ∧ (0 : Int) ≤ (m : Int) ∧ (m : Int) ≤ (c : Int) ∧ min 8 n = m :=
  ⟨min 8 n, by omega, by split <;> omega, by omega, by omega, by omega, by omega, rfl⟩
set_option maxRecDepth 20000 in
set_option maxHeartbeats 4000000 in
theorem few_go {R : Nat → Prop} {w : World} {t : StV} (h : StA R w t) (hR : ∀ k, R k → k < w.heap.size) :
    Calls Tryz.prog 18 #[.agg t.cells.toArray] w fun e w' => ∃ (oc : Option Addr) (cc : Nat) (on : Option Addr) (cn : Nat), e = .returned (.agg (fewV t oc cc on cn).cells.toArray) ∧ StR (fun k => w.heap.size ≤ k) w' (fewV t oc cc on cn) ∧ Fr (fun _ => False) w w' := by
  obtain ⟨⟨kind, table, name, cols, names, join⟩, oc, cc, on, cn, a5, n5, c5, a6, n6, c6, a7, n7, c7, y9, y10, i11, a12, n12, c12, i13, i14⟩ := t
  have HC := hid h.c
  have HN := hid h.n
  have HSC := hid h.sc
  have HSN := hid h.sn
  have HRNE := hid (show ∀ k, R k → k ≠ w.heap.size from fun k hk e => by have := hR k hk; omega)
  clear hR
  dsimp only at HC HN HSC HSN
  rw [sv_scell] at HN
  obtain ⟨nc, k1, k2, k3, k4, k5, k6, k7⟩ : ∃ m : Nat, min (cols.length : Int) 8 = (m : Int) ∧ (if (8 : Int) < (cols.length : Int) then (8 : Int) else (cols.length : Int)) = (m : Int) ∧ m ≤ 8 ∧ m ≤ cols.length ∧ (0 : Int) ≤ (m : Int) ∧ (m : Int) ≤ (cc : Int) ∧ min 8 cols.length = m := min8 (by
    obtain ⟨_, c', e, h, _⟩ := HC.out
    cases e
    omega)
  obtain ⟨nn, l1, l2, l3, l4, l5, l6, l7⟩ : ∃ m : Nat, min (names.length : Int) 8 = (m : Int) ∧ (if (8 : Int) < (names.length : Int) then (8 : Int) else (names.length : Int)) = (m : Int) ∧ m ≤ 8 ∧ m ≤ names.length ∧ (0 : Int) ≤ (m : Int) ∧ (m : Int) ≤ (cn : Int) ∧ min 8 names.length = m := min8 (by
    obtain ⟨_, c', e, h, _⟩ := HN.out
    cases e
    omega)
  have HK7 := hid k7
  have HL7 := hid l7
  clear k7 l7 h
  unfold StV.cells
  dsimp only
  have F0 := hid (((Fr.refl (fun _ => False) w).alloc (.cells #[.int .i64 kind, .string (bs table), .string (bs name), .slice oc cols.length cc, .slice on names.length cn, .slice a5 n5 c5, .slice a6 n6 c6, .slice a7 n7 c7, .string (bs join), .string y9, .string y10, .int .i64 i11, .slice a12 n12 c12, .int .i64 i13, .int .i64 i14] 55)).alloc (.cells #[.int .i64 0, .string ⟨#[]⟩, .string ⟨#[]⟩, .slice none 0 0, .slice none 0 0, .slice none 0 0, .slice none 0 0, .slice none 0 0, .string ⟨#[]⟩, .string ⟨#[]⟩, .string ⟨#[]⟩, .int .i64 0, .slice none 0 0, .int .i64 0, .int .i64 0] 55))
  have B0 := hid ((Blk.new w [.int .i64 kind, .string (bs table), .string (bs name), .slice oc cols.length cc, .slice on names.length cn, .slice a5 n5 c5, .slice a6 n6 c6, .slice a7 n7 c7, .string (bs join), .string y9, .string y10, .int .i64 i11, .slice a12 n12 c12, .int .i64 i13, .int .i64 i14] 55).alloc (.cells #[.int .i64 0, .string ⟨#[]⟩, .string ⟨#[]⟩, .slice none 0 0, .slice none 0 0, .slice none 0 0, .slice none 0 0, .slice none 0 0, .string ⟨#[]⟩, .string ⟨#[]⟩, .string ⟨#[]⟩, .int .i64 0, .slice none 0 0, .int .i64 0, .int .i64 0] 55))
  have Z0 := hid (Blk.new (w.alloc (.cells #[.int .i64 kind, .string (bs table), .string (bs name), .slice oc cols.length cc, .slice on names.length cn, .slice a5 n5 c5, .slice a6 n6 c6, .slice a7 n7 c7, .string (bs join), .string y9, .string y10, .int .i64 i11, .slice a12 n12 c12, .int .i64 i13, .int .i64 i14] 55)) [.int .i64 0, .string ⟨#[]⟩, .string ⟨#[]⟩, .slice none 0 0, .slice none 0 0, .slice none 0 0, .slice none 0 0, .slice none 0 0, .string ⟨#[]⟩, .string ⟨#[]⟩, .string ⟨#[]⟩, .int .i64 0, .slice none 0 0, .int .i64 0, .int .i64 0] 55)
  simp only [World.size_alloc] at Z0
  have HC0 := hid (HC.out.fr F0.out (fun _ _ h => h))
  have HN0 := hid (HN.out.fr F0.out (fun _ _ h => h))
  clear HC HN
  go_enter Tryz.func18, Tryz.ntmps18
  go_upto_region 1 with fail
  generalize hd : w.heap.size = d at *
  generalize (w.alloc (.cells #[.int .i64 kind, .string (bs table), .string (bs name), .slice oc cols.length cc, .slice on names.length cn, .slice a5 n5 c5, .slice a6 n6 c6, .slice a7 n7 c7, .string (bs join), .string y9, .string y10, .int .i64 i11, .slice a12 n12 c12, .int .i64 i13, .int .i64 i14] 55)).alloc _ = W0 at *
  have HDE := hid hd
  clear hd
  have HDL := hid (show d < W0.heap.size from B0.out.lt)
  have HS1 := hid (Sl.srcK (P := Tryz.prog) (size := 2) ((Sl.firsts (kk := 2) (k := nc) (fun _ => rfl) HC0.out k4).fr ((Fr.refl (fun _ => False) W0).alloc (.cells #[] 80)) (fun _ _ h => h)) (by rw [flat_len (k := 2) (fun _ => rfl), List.length_take, Nat.min_eq_left k4]) (by decide) (ccells_one _))
  have HR1 := hid (Row.built (e := 80) (n := 0) (size := 2) (B := W0.heap.size) W0 (l := []) rfl (by decide) (Nat.le_refl _))
  have B1 := hid (B0.out.alloc (.cells #[] 80))
  have Z1 := hid (Z0.out.alloc (.cells #[] 80))
  have F1 := hid ((Fr.refl (fun _ => False) W0).alloc (.cells #[] 80))
  have x3 : (W0.alloc (.cells #[] 80)).cell? ⟨d, 3, none⟩ = some (.slice oc cols.length cc) := B1.out.cell 3
  go_upto_region 2 with (at_builtin; refine wpList_appS rfl (s := .tmp 3) (x := .tmp 10) (t := 31) (tx := 31) rfl Tryz.underlying31 Tryz.underlying31 (.inr ⟨_, rfl⟩) info_col rfl rfl rfl HR1.out (by rw [World.size_alloc]; omega) HS1.out (by omega) (by omega) ?_; intro ap cp wg APP; simp only [Nat.zero_add] at APP ⊢; have B2 := hid (Blk.fr B1.out APP.fr (fun h => HR1.out.ne B1.out (by decide) _ h rfl)); have Z2 := hid (Blk.fr Z1.out APP.fr (fun h => HR1.out.ne Z1.out (by decide) _ h rfl)); have F2 := hid (F1.out.trans APP.fr (fun k hk hl => by have := HR1.out.new k hk; omega)); have HCR := hid (show Row 80 2 W0.heap.size wg (.slice ap nc cp) nc ((cols.take nc).flatMap Col.cells) from APP.row.cast (Nat.zero_add _) (List.nil_append _)); have y3 : wg.cell? ⟨d, 3, none⟩ = some (.slice oc cols.length cc) := B2.out.cell 3; have z3 : wg.frozen? ⟨d, 3, none⟩ = false := B2.out.frozen 3; clear APP)
  have HB3 := hid (show Blk (wg.setCell ⟨d, 3, none⟩ (.slice ap nc cp)) d [.int .i64 kind, .string (bs table), .string (bs name), .slice ap nc cp, .slice on names.length cn, .slice a5 n5 c5, .slice a6 n6 c6, .slice a7 n7 c7, .string (bs join), .string y9, .string y10, .int .i64 i11, .slice a12 n12 c12, .int .i64 i13, .int .i64 i14] 55 from B2.out.set 3 (.slice ap nc cp))
  have HZ3 := hid (Z2.out.set_ne ⟨d, 3, none⟩ (.slice ap nc cp) (by simp))
  have fs := (Fr.refl (fun k => k = d) wg).setCell ⟨d, 3, none⟩ (.slice ap nc cp) (fun _ => rfl)
  have HCS := hid (HCR.out.fr fs (fun k hk e => HCR.out.ne B2.out (by decide) k hk e))
  have F3 := hid ((F2.out.mono (fun _ h _ => h.elim) : Fr (fun k => k = d) W0 wg).trans fs (fun _ h _ => h))
  have HRD0 := hid (show ∀ k, R k → k ≠ d from HRNE.out)
  have HN3 := hid (HN0.out.fr F3.out (fun k hk e => HRD0.out k hk e))
  clear B0 Z0 HS1 HR1 B1 Z1 F1 x3 B2 Z2 F2 y3 z3 fs HCR HC0
  generalize wg.setCell _ _ = W3 at *
  have HS1 := hid (Sl.srcK (P := Tryz.prog) (size := 1) ((Sl.firsts (kk := 1) (k := nn) (fun _ => rfl) HN3.out l4).fr ((Fr.refl (fun _ => False) W3).alloc (.cells #[] 9)) (fun _ _ h => h)) (by rw [flat_len (k := 1) (fun _ => rfl), List.length_take, Nat.min_eq_left l4]) (by decide) (scell_one _))
  have HR1 := hid (Row.built (e := 9) (n := 0) (size := 1) (B := W3.heap.size) W3 (l := []) rfl (by decide) (Nat.le_refl _))
  have B4 := hid (HB3.out.alloc (.cells #[] 9))
  have Z4 := hid (HZ3.out.alloc (.cells #[] 9))
  have HC4 := hid (HCS.out.fre ((Fr.refl (fun _ => False) W3).alloc (.cells #[] 9)))
  have F4 := hid ((Fr.refl (fun _ => False) W3).alloc (.cells #[] 9))
  have x4 : (W3.alloc (.cells #[] 9)).cell? ⟨d, 4, none⟩ = some (.slice on names.length cn) := B4.out.cell 4
  go_upto_region 3 with (at_builtin; refine wpList_appS rfl (s := .tmp 13) (x := .tmp 20) (t := 51) (tx := 51) rfl Tryz.underlying51 Tryz.underlying51 (.inr ⟨_, rfl⟩) info_str rfl rfl rfl HR1.out (by rw [World.size_alloc]; omega) HS1.out (by omega) (by omega) ?_; intro bp bq wg2 APP; simp only [Nat.zero_add] at APP ⊢; have B5 := hid (Blk.fr B4.out APP.fr (fun h => HR1.out.ne B4.out (by decide) _ h rfl)); have Z5 := hid (Blk.fr Z4.out APP.fr (fun h => HR1.out.ne Z4.out (by decide) _ h rfl)); have F5 := hid (F4.out.trans APP.fr (fun k hk hl => by have := HR1.out.new k hk; omega)); have HC5 := hid (HC4.out.fr APP.fr (rows_ne HC4.out HR1.out (by decide))); have HNR := hid (show Row 9 1 W3.heap.size wg2 (.slice bp nn bq) nn (sv (names.take nn)) from APP.row.cast (Nat.zero_add _) (by rw [sv_scell]; exact List.nil_append _)); have y4 : wg2.cell? ⟨d, 4, none⟩ = some (.slice on names.length cn) := B5.out.cell 4; have z4 : wg2.frozen? ⟨d, 4, none⟩ = false := B5.out.frozen 4; clear APP)
  have HB6 := hid (show Blk (wg2.setCell ⟨d, 4, none⟩ (.slice bp nn bq)) d [.int .i64 kind, .string (bs table), .string (bs name), .slice ap nc cp, .slice bp nn bq, .slice a5 n5 c5, .slice a6 n6 c6, .slice a7 n7 c7, .string (bs join), .string y9, .string y10, .int .i64 i11, .slice a12 n12 c12, .int .i64 i13, .int .i64 i14] 55 from B5.out.set 4 (.slice bp nn bq))
  have HZ6 := hid (Z5.out.set_ne ⟨d, 4, none⟩ (.slice bp nn bq) (by simp))
  have fs := (Fr.refl (fun k => k = d) wg2).setCell ⟨d, 4, none⟩ (.slice bp nn bq) (fun _ => rfl)
  have HC6 := hid (HC5.out.fr fs (fun k hk e => HC5.out.ne B5.out (by decide) k hk e))
  have HN6 := hid (HNR.out.fr fs (fun k hk e => HNR.out.ne B5.out (by decide) k hk e))
  have F6 := hid (F3.out.trans ((F5.out.mono (fun _ h _ => h.elim) : Fr (fun k => k = d) W3 wg2).trans fs (fun _ h _ => h)) (fun _ h _ => h))
  have HSZ := hid (show W0.heap.size ≤ W3.heap.size from F3.out.size)
  clear B4 Z4 F4 x4 B5 Z5 F5 y4 z4 fs HS1 HR1 HC4 HC5 HNR HN3 HN0 HB3 HZ3 HCS F3
  generalize wg2.setCell _ _ = W6 at *
  have HRG := hid HB6.out.all
  have hth := HZ6.out.there 0 15 (by simp)
  have fz := (Fr.refl (fun k => k = d + 1) W6).put (d + 1) 0 [.int .i64 kind, .string (bs table), .string (bs name), .slice ap nc cp, .slice bp nn bq, .slice a5 n5 c5, .slice a6 n6 c6, .slice a7 n7 c7, .string (bs join), .string y9, .string y10, .int .i64 i11, .slice a12 n12 c12, .int .i64 i13, .int .i64 i14] (fun _ => rfl)
  have HB7 := hid (put_blk (vs := [.int .i64 kind, .string (bs table), .string (bs name), .slice ap nc cp, .slice bp nn bq, .slice a5 n5 c5, .slice a6 n6 c6, .slice a7 n7 c7, .string (bs join), .string y9, .string y10, .int .i64 i11, .slice a12 n12 c12, .int .i64 i13, .int .i64 i14]) HZ6.out rfl)
  have HC7 := hid (HC6.out.fr fz (fun k hk e => HC6.out.ne HZ6.out (by decide) k hk e))
  have HN7 := hid (HN6.out.fr fz (fun k hk e => HN6.out.ne HZ6.out (by decide) k hk e))
  have F7 := hid (F0.out.trans ((F6.out.mono (fun _ h _ => .inl h) : Fr (fun k => k = d ∨ k = d + 1) W0 W6).trans fz (fun k hk _ => .inr hk)) (fun k hk hl => by have := HDE.out; omega))
  go_wp2_with (first
    | (refine wpList_load_mid rfl 55 (.tmp 1) rfl d 0 rfl _ _ HRG.out Tryz.underlying55 rfl size_st ?_)
    | (refine wpList_store_mid rfl 55 (.tmp 2) (.tmp 23) rfl (d + 1) 0 #[.int .i64 kind, .string (bs table), .string (bs name), .slice ap nc cp, .slice bp nn bq, .slice a5 n5 c5, .slice a6 n6 c6, .slice a7 n7 c7, .string (bs join), .string y9, .string y10, .int .i64 i11, .slice a12 n12 c12, .int .i64 i13, .int .i64 i14] rfl rfl hth size_st (by simp [Value.oneCell']) ?_))
  refine bodyPost_ret (agg_ret rfl rfl HB7.out Tryz.underlying55 rfl size_st) rfl ⟨ap, cp, bp, bq, ?_, ?_, F7.out⟩
  · simp only [fewV, fewS, List.length_take, HK7.out, HL7.out]
  · have e1 : (cols.take 8) = cols.take nc := by rw [← HK7.out, List.take_eq_take_iff]; omega
    have e2 : (names.take 8) = names.take nn := by rw [← HL7.out, List.take_eq_take_iff]; omega
    have e3 : (cols.take nc).length = nc := by rw [List.length_take]; omega
    have e4 : (names.take nn).length = nn := by rw [List.length_take]; omega
    have hge : w.heap.size ≤ W0.heap.size := F0.out.size
    unfold fewV fewS
    refine ⟨?_, ?_, ?_, ?_, fun c hc => HSC.out c (List.mem_of_mem_take hc), fun n hn => HSN.out n (List.mem_of_mem_take hn)⟩
    · dsimp only
      rw [e1, e3]
      exact HC7.out.sl' (fun k hk => by have := HDE.out; omega)
    · dsimp only
      rw [e2, e4]
      exact HN7.out.sl' (fun k hk => by have := HDE.out; have := HSZ.out; omega)
    · dsimp only
      rw [e1, e3]; omega
    · dsimp only
      rw [e2, e4]; omega
end Go.Proofs.YtgkfdlpijefgkaaGreatDoor
/- The walk of CatalogPlays; calls as a law's argument. -/
namespace Go.Proofs.YtgkfdlpijefgkaaGreatDoor
open Go.RowKit Go.VB Go.VB.Oct Go.VB.Cat Go.VB.Rec
abbrev CallV := StV × Int
def callcells (p : CallV) : List Value := p.1.cells ++ [.int .i64 p.2]
theorem callcells_len (p : CallV) : (callcells p).length = 16 := rfl
/-- calls as an argument -/
structure CallsR (w : World) (v : Value) (L : List CallV) : Prop where
  s : Sl (fun k => k < w.heap.size) w v L.length (L.flatMap callcells)
  x : ∀ p ∈ L, StA (fun k => k < w.heap.size) w p.1
section
open Go.WideShapes Go.ChangeShapes
variable {H : Type} {enc : TypeId × Value → H} {w : World} {base : Nat} {sp : Nat → Bool} {held : Bool}
theorem cells_st : Tryz.prog.cellsOf 55 = 15 := by kernel_rfl
theorem cells_call : Tryz.prog.cellsOf 57 = 16 := by kernel_rfl
theorem cells_strs : Tryz.prog.cellsOf 51 = 1 := by kernel_rfl
theorem cells_sets : Tryz.prog.cellsOf 52 = 1 := by kernel_rfl
theorem cells_conds : Tryz.prog.cellsOf 53 = 1 := by kernel_rfl
theorem any_slice {t e : TypeId} (hu : Tryz.prog.underlying t = some (.slice e)) {fuel : Nat} {d : Value} {r : DataW H × List MemPlace} (h : DataW.trod enc Tryz.prog w base sp held fuel t [d] = some r) : ∃ ai ni ci, d = .slice ai ni ci := by
  rcases DataW.trod_slice hu h with ⟨e, -⟩ | ⟨a, len, cap, elems, rest, n, _, e, -⟩
  · exact ⟨_, _, _, by simpa using e⟩
  · exact ⟨_, _, _, by simpa using e⟩
set_option maxRecDepth 100000 in
theorem elem_stmt : ∀ fuel cs (r : DataW H × List MemPlace), cs.length = 15 → DataW.trod enc Tryz.prog w base sp held fuel 55 cs = some r → ∃ t : StV, cs = t.cells ∧ StA (fun k => k < w.heap.size) w t := by
  intro fuel cs r hl h
  match cs, hl with
  | [x0, x1, x2, x3, x4, x5, x6, x7, x8, x9, x10, x11, x12, x13, x14], _ =>
    cases fuel with
    | zero => simp [DataW.trod] at h
    | succ m =>
      unfold DataW.trod at h
      rw [Tryz.underlying55] at h
      dsimp only at h
      rw [if_pos (by rw [cells_st]; rfl)] at h
      simp only [Option.map_eq_some_iff, List.mapM_cons, List.mapM_nil, Option.bind_eq_bind, Option.bind_eq_some_iff, Option.pure_def, Option.some.injEq, cells_int, cells_str, cells_cols, cells_strs, cells_row, cells_sets, cells_conds] at h
      obtain ⟨xs, ⟨y0, h0, z1, ⟨y1, h1, z2, ⟨y2, h2, z3, ⟨y3, h3, z4, ⟨y4, h4, z5, ⟨y5, h5, z6, ⟨y6, h6, z7, ⟨y7, h7, z8, ⟨y8, h8, z9, ⟨y9, h9, z10, ⟨y10, h10, z11, ⟨y11, h11, z12, ⟨y12, h12, z13, ⟨y13, h13, z14, ⟨y14, h14, -⟩, -⟩, -⟩, -⟩, -⟩, -⟩, -⟩, -⟩, -⟩, -⟩, -⟩, -⟩, -⟩, -⟩, -⟩, -⟩ := h
      obtain ⟨i0, e0, g0⟩ := elem_int Tryz.underlying3 _ _ _ h0
      obtain ⟨s1, e1, g1⟩ := elem_string Tryz.underlying9 _ _ _ h1
      obtain ⟨s2, e2, g2⟩ := elem_string Tryz.underlying9 _ _ _ h2
      obtain ⟨v3, L, e3, k3, gd, g3⟩ := open_cs Tryz.underlying31 (k := 2) cells_col (by omega) h3 Col.cells (fun c => c.name.length ≤ maxLen ∧ I64 c.kind) (fun _ => rfl) (fun fuel cs r hc h => elem_col fuel cs r hc h)
      obtain ⟨v4, M, e4, k4, ge, g4⟩ := open_cs Tryz.underlying51 (k := 1) cells_str (by omega) h4 scell (fun c => c.length ≤ maxLen) (fun _ => rfl) (fun fuel cs r hc h => elem_string Tryz.underlying9 fuel cs r h)
      obtain ⟨a5, n5, c5, rfl⟩ := any_slice Tryz.underlying24 h5
      obtain ⟨a6, n6, c6, rfl⟩ := any_slice Tryz.underlying52 h6
      obtain ⟨a7, n7, c7, rfl⟩ := any_slice Tryz.underlying53 h7
      obtain ⟨s8, e8, g8⟩ := elem_string Tryz.underlying9 _ _ _ h8
      obtain ⟨s9, e9, g9⟩ := elem_string Tryz.underlying9 _ _ _ h9
      obtain ⟨s10, e10, g10⟩ := elem_string Tryz.underlying9 _ _ _ h10
      obtain ⟨i11, e11, g11⟩ := elem_int Tryz.underlying3 _ _ _ h11
      obtain ⟨a12, n12, c12, rfl⟩ := any_slice Tryz.underlying51 h12
      obtain ⟨i13, e13, g13⟩ := elem_int Tryz.underlying3 _ _ _ h13
      obtain ⟨i14, e14, g14⟩ := elem_int Tryz.underlying3 _ _ _ h14
      obtain rfl : x0 = .int .i64 i0 := by simpa using e0
      obtain rfl : x1 = .string (bs s1) := by simpa using e1
      obtain rfl : x2 = .string (bs s2) := by simpa using e2
      obtain rfl : x3 = v3 := by simpa using e3
      obtain rfl : x4 = v4 := by simpa using e4
      obtain rfl : x8 = .string (bs s8) := by simpa using e8
      obtain rfl : x9 = .string (bs s9) := by simpa using e9
      obtain rfl : x10 = .string (bs s10) := by simpa using e10
      obtain rfl : x11 = .int .i64 i11 := by simpa using e11
      obtain rfl : x13 = .int .i64 i13 := by simpa using e13
      obtain rfl : x14 = .int .i64 i14 := by simpa using e14
      obtain ⟨a3, c3, rfl, hc3, hx3⟩ := k3
      obtain ⟨a4, c4, rfl, hc4, hx4⟩ := k4
      refine ⟨⟨⟨i0, s1, s2, L, M, s8⟩, a3, c3, a4, c4, a5, n5, c5, a6, n6, c6, a7, n7, c7, bs s9, bs s10, i11, a12, n12, c12, i13, i14⟩, rfl, ⟨⟨a3, c3, rfl, hc3, hx3⟩, ?_, fun c hc => (gd c hc).1, fun n hn => ge n hn, wf_in g0⟩⟩
      dsimp only
      rw [sv_scell]
      exact ⟨a4, c4, rfl, hc4, hx4⟩
set_option maxRecDepth 100000 in
theorem open_calls {w0 : World} {r : Reach} {b0 : Nat} {v : Value} {d : DataW H} {ps : List MemPlace} (hval : Value.okWide Tryz.prog w0 r b0 48 v) (h : DataW.Trod enc Tryz.prog w base sp held 48 v d ps) :
    ∃ L : List CallV, CallsR w v L := by
  obtain ⟨L, h1, h2, h3⟩ := open_sl Tryz.underlying48 (k := 16) cells_call (by omega) hval h callcells (fun p => StA (fun k => k < w.heap.size) w p.1) (fun _ => rfl) (fun fuel cs r' hl ht => by
    cases fuel with
    | zero => simp [DataW.trod] at ht
    | succ m =>
      unfold DataW.trod at ht
      rw [Tryz.underlying57] at ht
      dsimp only at ht
      rw [if_pos (by rw [cells_call]; exact hl)] at ht
      simp only [Option.map_eq_some_iff, List.mapM_cons, List.mapM_nil, Option.bind_eq_bind, Option.bind_eq_some_iff, Option.pure_def, Option.some.injEq, cells_int, cells_st] at ht
      obtain ⟨xs, ⟨y0, h0, z1, ⟨y1, h1, -⟩, -⟩, -⟩ := ht
      obtain ⟨t, e0, g0⟩ := elem_stmt _ _ _ (by simp [hl]) h0
      obtain ⟨i1, e1, g1⟩ := elem_int Tryz.underlying3 _ _ _ h1
      refine ⟨(t, i1), ?_, g0⟩
      unfold callcells
      rw [← e0, ← e1]
      have h16 : ((cs.drop 15).take 1) = cs.drop 15 := List.take_of_length_le (by simp [hl])
      rw [h16]
      simp)
  exact ⟨L, h1, h2⟩
end
/-- call i, in the world of now -/
theorem CallsR.at_ {w W : World} {a : Option Addr} {c : Nat} {L : List CallV} (h : CallsR w (.slice a L.length c) L) (f : Fr (fun _ => False) w W) {i : Nat} (hi : i < L.length) :
    ∃ (g o : Nat), a = some ⟨g, o, none⟩ ∧ g < w.heap.size ∧ W.rangeAt g (o + i * 16) (callcells L[i]) ∧ StA (fun k => k < w.heap.size) W L[i].1 := by
  obtain ⟨g, o, hg, hlt, q⟩ := slK (k := 16) (f := callcells) (by decide) callcells_len (h.s.fr f (fun _ _ h => h)) hi
  exact ⟨g, o, hg, hlt, fun j u hu => (q j (List.getElem?_eq_some_iff.1 hu).1).trans hu, (h.x _ (List.getElem_mem hi)).fre f⟩
/-- blocks apart -/
def AP (S T : Nat → Prop) : Prop := ∀ k, S k → ¬ T k
theorem AP.symm {S T : Nat → Prop} (h : AP S T) : AP T S := fun k hk hs => h k hs hk
theorem AP.ext {S T : Nat → Prop} (h : AP S T) {W W' : World} (hS : ∀ k, S k → k < W.heap.size) : AP S (Ext T W W') := fun k hk ht => by
  rcases ht with ht | ht
  · exact h k hk ht
  · have := hS k hk; omega
/-- a catalog and the reference's, both the model m, apart, below block B -/
structure TwoB (w0 : World) (B : Nat) (W : World) (c r : Nat) (m : List Tab) : Prop where
  ex : ∃ S T, OS w0 S W c m ∧ OR w0 T W r m ∧ AP S T ∧ (∀ k, S k → k < B) ∧ ∀ k, T k → k < B
/-- the statement is done on the one alone -/
structure HalfB (w0 : World) (B : Nat) (W : World) (c r : Nat) (m m' : List Tab) : Prop where
  ex : ∃ S T, OS w0 S W c m' ∧ OR w0 T W r m ∧ AP S T ∧ ∀ k, T k → k < B
theorem TwoB.fre {w0 W W' : World} {B c r : Nat} {m : List Tab} (h : TwoB w0 B W c r m) (f : Fr (fun _ => False) W W') : TwoB w0 B W' c r m := by
  obtain ⟨S, T, h1, h2, h3, h4⟩ := h.ex
  exact ⟨S, T, h1.fre f, h2.fre f, h3, h4⟩
theorem HalfB.fre {w0 W W' : World} {B c r : Nat} {m m' : List Tab} (h : HalfB w0 B W c r m m') (f : Fr (fun _ => False) W W') : HalfB w0 B W' c r m m' := by
  obtain ⟨S, T, h1, h2, h3, h4⟩ := h.ex
  exact ⟨S, T, h1.fre f, h2.fre f, h3, h4⟩
theorem TwoB.fr {w0 W : World} {B c r : Nat} {m : List Tab} (h : TwoB w0 B W c r m) : Fr (fun _ => False) w0 W := by
  obtain ⟨S, T, h1, h2, h3, h4⟩ := h.ex
  exact h1.fr
theorem TwoB.up {w0 W : World} {B B' c r : Nat} {m : List Tab} (h : TwoB w0 B W c r m) (hB : B ≤ B') : TwoB w0 B' W c r m := by
  obtain ⟨S, T, h1, h2, h3, h4, h5⟩ := h.ex
  exact ⟨S, T, h1, h2, h3, fun k hk => Nat.lt_of_lt_of_le (h4 k hk) hB, fun k hk => Nat.lt_of_lt_of_le (h5 k hk) hB⟩
/-- now -/
theorem TwoB.now {w0 W : World} {B c r : Nat} {m : List Tab} (h : TwoB w0 B W c r m) : TwoB w0 W.heap.size W c r m := by
  obtain ⟨S, T, h1, h2, h3, h4, h5⟩ := h.ex
  exact ⟨S, T, h1, h2, h3, fun k hk => h1.lt hk, fun k hk => h2.lt hk⟩
theorem TwoB.doC {P : Nat → Prop} {w0 W : World} {B c r : Nat} {m : List Tab} (h : TwoB w0 B W c r m) {t : StV} (hs : StR P W t) (hk : I64 t.s.kind) (root : Int) :
    Calls Tryz.prog 16 #[.pointer (some ⟨c, 0, none⟩), .agg t.cells.toArray, .int .i64 root] W fun e w' => e = .returned (.int .i64 (doM m t.s root).2) ∧ HalfB w0 B w' c r m (doM m t.s root).1 ∧ Fr (fun k => w0.heap.size ≤ k ∧ k < B) W w' := by
  obtain ⟨S, T, h1, h2, h3, h4, h5⟩ := h.ex
  refine (Do_go h1.cr h1.ok hs hk root).mono ?_
  rintro e w' ⟨rfl, hc, f⟩
  exact ⟨rfl, ⟨_, T, h1.did hc f (ok_do h1.ok _ _), h2.keep f (fun k hk => ⟨h3 k hk, h1.ge k hk⟩), (h3.symm.ext (fun k hk => h2.lt hk)).symm, h5⟩, f.mono (fun k hk _ => ⟨h1.ge k hk, h4 k hk⟩)⟩
theorem HalfB.doR {P : Nat → Prop} {w0 W : World} {B c r : Nat} {m m' : List Tab} (h : HalfB w0 B W c r m m') {t : StV} (hs : StR P W t) (root : Int) (hm : m' = (doM m t.s root).1) :
    Calls Tryz.prog 17 #[.pointer (some ⟨r, 0, none⟩), .agg t.cells.toArray, .int .i64 root] W fun e w' => e = .returned (.int .i64 (doM m t.s root).2) ∧ TwoB w0 w'.heap.size w' c r m' ∧ Fr (fun k => w0.heap.size ≤ k ∧ k < B) W w' := by
  obtain ⟨S, T, h1, h2, h3, h5⟩ := h.ex
  refine (rDo_go h2.cr h2.ok hs root).mono ?_
  rintro e w' ⟨rfl, hc, f⟩
  have g1 := h1.keep f (fun k hk => ⟨h3.symm k hk, h2.ge k hk⟩)
  have g2 := h2.did hc f (ok_do h2.ok _ _)
  rw [← hm] at g2
  exact ⟨rfl, ⟨S, _, g1, g2, h3.ext (fun k hk => h1.lt hk), fun k hk => g1.lt hk, fun k hk => g2.lt hk⟩, f.mono (fun k hk _ => ⟨h2.ge k hk, h5 k hk⟩)⟩
theorem TwoB.same {w0 W : World} {B c r : Nat} {m : List Tab} (h : TwoB w0 B W c r m) : Calls Tryz.prog 19 #[.pointer (some ⟨c, 0, none⟩), .pointer (some ⟨r, 0, none⟩)] W fun e w' => e = .returned (.bool true) ∧ Fr (fun _ => False) W w' := by
  obtain ⟨S, T, h1, h2, h3⟩ := h.ex
  exact Lsame_go h1.cr h2.cr h1.ok
theorem pre_range {W : World} {g o : Nat} {p : CallV} (h : W.rangeAt g o (callcells p)) : W.rangeAt g o p.1.cells := fun j u hu => h j u (by
  unfold callcells
  rw [List.getElem?_append_left (List.getElem?_eq_some_iff.1 hu).1]
  exact hu)
theorem last_cell {W : World} {g o : Nat} {p : CallV} (h : W.rangeAt g o (callcells p)) : W.cell? ⟨g, o + 15, none⟩ = some (.int .i64 p.2) := h 15 _ rfl
/-- a statement of Made's as a statement in memory -/
def mkV (s : St) (oc on : Option Addr) (cc cn : Nat) : StV := ⟨s, oc, cc, on, cn, none, 0, 0, none, 0, 0, none, 0, 0, ⟨#[]⟩, ⟨#[]⟩, 0, none, 0, 0, 0, 0⟩
theorem MK.stR {B : Nat} {W : World} {d : Nat} {s : St} {oc on : Option Addr} {cc cn : Nat} {root : Int} (h : MK B W d s (.slice oc s.cols.length cc) (.slice on s.names.length cn) root) : StR (fun k => B ≤ k) W (mkV s oc on cc cn) := by
  have g := h.g
  exact ⟨h.c.sl' (fun _ hk => hk), h.n.sl' (fun _ hk => hk), by have := g.cols; unfold mkV; dsimp only; omega, by have := g.names; unfold mkV; dsimp only; omega, fun c hc => by have := (g.col c hc).1; omega, fun n hn => by have := (g.nam n hn).1; omega⟩
theorem mod8 (i : Nat) : ∃ z : Nat, (i : Int).tmod 8 = (z : Int) ∧ (i : Int) % 8 = (z : Int) := ⟨i % 8, by rw [Int.tmod_eq_emod_of_nonneg (by omega)]; omega, by omega⟩
set_option maxRecDepth 20000 in
set_option maxHeartbeats 8000000 in
theorem Plays_walk {w : World} (G : Gv w) {a b : Option Addr} {c1 c2 : Nat} {L : List Arg} {M : List CallV} (HL : ArgsR w (.slice a L.length c1) L) (HM : CallsR w (.slice b M.length c2) M) :
    Calls Tryz.prog 4 #[.slice a L.length c1, .slice b M.length c2] w fun e w' => e = .returned (.bool true) ∧ Fr (fun _ => False) w w' := by
  have HLA := hid HL
  have HMA := hid HM
  have HSA := hid (sanity_go G.kn)
  clear HL HM G
  go_enter Tryz.func4, Tryz.ntmps4
  go_upto_region 2 with (go_at_call 6; refine HSA.out.mono ?_; rintro e w1 ⟨rfl, f1⟩; have F1 := hid f1; clear f1)
  have HNW := hid (New_go w1)
  go_upto_region 5 with (go_at_call 14; refine HNW.out.mono ?_; rintro e w2 ⟨rfl, hc, f⟩; have HC2 := hid ((OS.new hc f).base F1.out); clear hc f)
  obtain ⟨c, hce⟩ : ∃ c, c = w1.heap.size := ⟨_, rfl⟩
  rw [← hce] at HC2 ⊢
  have HO0 := hid (OR.new w2)
  have fa := (Fr.refl (fun _ => False) w2).alloc (.cells #[.slice none 0 0] 30)
  have HT0 := hid (show TwoB w ((w2.alloc (.cells #[.slice none 0 0] 30)).heap.size) (w2.alloc (.cells #[.slice none 0 0] 30)) c w2.heap.size [] from
    ⟨_, _, HC2.out.fre fa, ⟨HC2.out.fr.trans fa (fun _ h _ => h), HO0.out.cr, fun k hk => by rw [hk]; exact HC2.out.fr.size, ok_nil⟩, fun k hk hk2 => by have := HC2.out.lt hk; omega, fun k hk => (HC2.out.fre fa).lt hk, fun k hk => HO0.out.lt hk⟩)
  clear hce HNW HSA F1 fa HO0 HC2
  go_upto_region 6 with fail
  generalize w2.heap.size = r at *
  generalize w2.alloc _ = W2 at *
  go_upto_block 0 with fail
  go_cut [8] (fun v8 wx => ∃ m, TwoB w wx.heap.size wx c r m)
  case first =>
    go_wp2_with (fail)
    go_loopw [8] (fun s8 wr => ∃ (i : Nat) (m : List Tab), i ≤ 40 ∧ s8 = .int .i64 i ∧ TwoB w wr.heap.size wr c r m) (fun s8 _ => 40 - (intOf s8).toNat)
    case atStart => exact ⟨0, _, by omega, rfl, HT0.out⟩
    case round =>
      obtain ⟨i, m, hi, rfl, hos⟩ := hrel
      have HOS := hid hos
      clear hos HT0
      have i1 : (0 : Int) ≤ (i : Int) := by omega
      by_cases hc12 : i < L.length ∧ i < 40
      · obtain ⟨hiL, h40⟩ := hc12
        have i2 : (i : Int) < L.length := by omega
        have i3 : (i : Int) < 40 := by omega
        obtain ⟨g, o, v, x, rfl, hcell, hsl, hxl⟩ := HLA.out.at_ HOS.out.fr hiL
        have HMD := hid (Made_go hsl hxl)
        obtain ⟨ax, cx, rfl, -, -⟩ := hsl
        go_upto_region 10 with (go_at_call 15; refine HMD.out.mono ?_; rintro e w3 ⟨s, vc, vn, root, rfl, hg, hcr, hnr, f⟩; obtain ⟨oc, cc, rfl, -⟩ := hcr.slice; obtain ⟨on, cn, rfl, -⟩ := hnr.slice; have HK0 := hid (MK.made hcr hnr hg f); have HO3 := hid (HOS.out.fre f); clear hcr hnr hg f; dsimp only [mcells])
        generalize hw4 : w3.alloc _ = W4
        have HK := hid (show MK wr.heap.size W4 w3.heap.size s (.slice oc s.cols.length cc) (.slice on s.names.length cn) root from by rw [← hw4]; exact HK0.out)
        have HO4 := hid (show TwoB w wr.heap.size W4 c r m from by rw [← hw4]; exact HO3.out.fre ((Fr.refl (fun _ => False) w3).alloc _))
        generalize w3.heap.size = d at *
        clear hw4 HK0 HO3 HMD hcell HOS
        generalize wr.heap.size = B at *
        have HDO := hid (HO4.out.doC HK.out.stR (by have := HK.out.g.kind; unfold I64 mkV; dsimp only; omega) root)
        have k15 := HK.out.at15
        have HR := hid HK.out.rng
        unfold mkV StV.cells at HDO
        unfold scells at HR
        dsimp only at HDO
        obtain ⟨dp, hdp⟩ : ∃ dp, doM m s root = dp := ⟨_, rfl⟩
        rw [hdp] at HDO
        have HDP := hid hdp
        clear hdp
        obtain ⟨m5, e5⟩ := dp
        dsimp only at HDO
        go_upto_region 11 with (first
          | (refine wpList_load_mid rfl 55 (.tmp 35) rfl d 0 rfl _ _ HR.out Tryz.underlying55 rfl size_stmt ?_)
          | (go_at_call 16; refine HDO.out.mono ?_; rintro e w5 ⟨rfl, ho, f⟩; have HH := hid ho; have HK5 := hid (HK.out.fr f (fun _ h => h.2)); clear ho f))
        clear k15 HR HDO HK HO4
        have HDO := hid (HH.out.doR HK5.out.stR root (by show m5 = (doM m s root).1; rw [HDP.out]))
        have k15 := HK5.out.at15
        have HR := hid HK5.out.rng
        unfold mkV StV.cells at HDO
        unfold scells at HR
        dsimp only at HDO
        rw [HDP.out] at HDO
        dsimp only at HDO
        have ee : (e5 != e5) = false := by simp
        go_upto_region 14 with (first
          | (refine wpList_load_mid rfl 55 (.tmp 41) rfl d 0 rfl _ _ HR.out Tryz.underlying55 rfl size_stmt ?_)
          | (go_at_call 17; refine HDO.out.mono ?_; rintro e w6 ⟨rfl, ho, f⟩; have HO6 := hid ho; clear ho f))
        clear k15 HR HDO HK5 HH HDP ee
        go_upto_if 52 with fail
        go_cut [] from 19 to 86 (fun wx => ∃ m, TwoB w wx.heap.size wx c r m)
        case first =>
          by_cases hiM : i < M.length
          · have i4 : (i : Int) < (M.length : Int) := by omega
            obtain ⟨g2, o2, rfl, hg2, hrg, hst⟩ := HMA.out.at_ HO6.out.fr hiM
            have HG2 := hid hg2
            clear hg2
            obtain ⟨cv, hcv⟩ : ∃ cv, cv = M[i] := ⟨_, rfl⟩
            rw [← hcv] at hrg hst
            clear hcv
            obtain ⟨t, rt⟩ := cv
            have HRP := hid (pre_range hrg)
            have HLC := hid (last_cell hrg)
            have HKD := hid hst.k
            have HFW := hid (few_go hst (fun k hk => by have := HO6.out.fr.size; omega))
            dsimp only at HRP HLC HKD HFW
            clear hrg hst
            go_upto_region 16 with (first
              | (refine wpList_load_mid rfl 55 (.tmp 56) rfl g2 (o2 + i * 16) rfl _ _ HRP.out Tryz.underlying55 rfl size_st ?_)
              | (go_at_call 18; refine HFW.out.mono ?_; rintro e w7 ⟨oc7, cc7, on7, cn7, rfl, hs, f⟩; have HS7 := hid hs; have F7 := hid f; clear hs f; dsimp only [fewV, fewS, StV.cells]))
            generalize hw8 : w7.alloc _ = W8
            have F8 := hid (show Fr (fun _ => False) w6 W8 from by rw [← hw8]; exact F7.out.alloc _)
            have HB8 := hid (show Blk W8 w7.heap.size (fewV t oc7 cc7 on7 cn7).cells 55 from by rw [← hw8]; simp only [fewV, fewS, StV.cells, List.length_take]; exact Blk.new w7 _ _)
            have HS8 := hid (show StR (fun k => w6.heap.size ≤ k) W8 (fewV t oc7 cc7 on7 cn7) from by rw [← hw8]; exact HS7.out.fre ((Fr.refl (fun _ => False) w7).alloc _))
            have HD8 := hid (show w6.heap.size ≤ w7.heap.size from F7.out.size)
            have HW6 := hid HO6.out.fr.size
            generalize w7.heap.size = d7 at *
            clear hw8 HFW HS7 F7 HRP
            obtain ⟨tv, htv⟩ : ∃ tv, tv = fewV t oc7 cc7 on7 cn7 := ⟨_, rfl⟩
            rw [← htv] at HB8 HS8
            have HKT := hid (show I64 tv.s.kind from by rw [htv]; exact HKD.out)
            clear htv HKD
            have fd := (Fr.refl (fun _ => False) W8).drew
            have HO9 := hid ((HO6.out.fre F8.out).fre fd)
            have HB9 := hid (Blk.fr HB8.out fd (fun h => h))
            have HS9 := hid (HS8.out.fre fd)
            have HL9 := hid (cell_fr HLC.out (F8.out.trans fd (fun _ h _ => h)) (fun h => h))
            clear fd HB8 HS8 HLC F8 HO6
            have HDO := hid (HO9.out.doC HS9.out HKT.out rt)
            refine wp_region_scr (.take 0 (.take 1 (.take 2 (.take 3 (.take 4 (.take 5 (.take 6 (.op 7 (.take 8 .done))))))))) (fun kz w => (kz ≤ 9 → w.rangeAt d7 0 tv.cells ∧ w.cell? ⟨g2, o2 + i * 16 + 15, none⟩ = some (.int .i64 rt)) ∧ Hid True) (by kernel_rfl) (by kernel_rfl) (by intro c a d v w h; cases d <;> exact h) ?_
            repeat
              first
              | (refine wpT_pure rfl rfl rfl ?_; apply Exists.intro; refine ⟨?_, ?_⟩; intro w; (first | (first | exact run_load_mid _ _ rfl d7 _ rfl _ _ qa.1 Tryz.underlying55 rfl size_st | (obtain ⟨z0, z1⟩ := qa; go_simp <;> rfl)) | (go_simp <;> rfl)); simp only [Act.put, List.setIfInBounds_toArray, List.set_cons_zero, List.set_cons_succ])
              | (refine wpT_take 9 rfl rfl (by decide +kernel) ⟨fun _ => ⟨HB9.out.all, HL9.out⟩, hid trivial⟩ ?_; apply Exists.intro; refine ⟨?_, ?_⟩; intro w hw; (have qa := hw.1 (Nat.le_refl _); have qb := hw.2); (first | (first | exact run_load_mid _ _ rfl d7 _ rfl _ _ qa.1 Tryz.underlying55 rfl size_st | (obtain ⟨z0, z1⟩ := qa; go_simp <;> rfl)) | (go_simp <;> rfl)); simp only [Act.put, List.setIfInBounds_toArray, List.set_cons_zero, List.set_cons_succ])
              | (refine wpT_skip rfl rfl ?_; simp only [Act.put, List.setIfInBounds_toArray, List.set_cons_zero, List.set_cons_succ])
            generalize W8.drew = W9 at *
            obtain ⟨dp, hdp⟩ : ∃ dp, doM m5 tv.s rt = dp := ⟨_, rfl⟩
            rw [hdp] at HDO
            have HDP := hid hdp
            clear hdp
            obtain ⟨m6, e6⟩ := dp
            dsimp only at HDO
            refine wpT_op rfl ?_
            go_wp2_with ((go_at_call 16; refine HDO.out.mono ?_; rintro e wA ⟨rfl, ho, f⟩; have HHA := hid ho; have HBA := hid (Blk.fr HB9.out f (fun h => by have := h.2; have := HD8.out; omega)); have HSA := hid (HS9.out.fr f (fun k hk h => by have := h.2; omega)); have HLA2 := hid (cell_fr HL9.out f (fun h => by have := h.1; have := HG2.out; omega)); clear ho f))
            (refine ⟨?_, ?_⟩; focus (intro kz hk hk2 hh; first | (exfalso; simp at hk2; omega) | exact hh | exact (fun h => absurd h (by omega)) | obtain ⟨qa, qb⟩ := hh; first | exact ⟨qa, qb⟩ | (refine ⟨fun h => absurd h (by omega), ?_⟩; first | exact qb | (exact ⟨HBA.out.all, HLA2.out⟩)) | (refine ⟨fun h => ?_, ?_⟩; (have qa := qa h); all_goals (first | exact qa | exact qb | (exact ⟨HBA.out.all, HLA2.out⟩)))))
            clear HO9 HB9 HS9 HL9 HDO
            repeat
              first
              | (refine wpT_pure rfl rfl rfl ?_; apply Exists.intro; refine ⟨?_, ?_⟩; intro w; ((go_simp <;> rfl)); simp only [Act.put, List.setIfInBounds_toArray, List.set_cons_zero, List.set_cons_succ])
              | (refine wpT_take 9 rfl rfl (by decide +kernel) ⟨fun _ => ⟨HBA.out.all, HLA2.out⟩, hid trivial⟩ ?_; apply Exists.intro; refine ⟨?_, ?_⟩; intro w hw; (have qa := hw.1 (Nat.le_refl _); have qb := hw.2); ((go_simp <;> rfl)); simp only [Act.put, List.setIfInBounds_toArray, List.set_cons_zero, List.set_cons_succ])
              | (refine wpT_skip rfl rfl ?_; simp only [Act.put, List.setIfInBounds_toArray, List.set_cons_zero, List.set_cons_succ])
            refine wpT_nil ?_
            go_upto_region 17 with fail
            have fd := (Fr.refl (fun _ => False) wA).drew
            have HH9 := hid (HHA.out.fre fd)
            have HB9 := hid (Blk.fr HBA.out fd (fun h => h))
            have HS9 := hid (HSA.out.fre fd)
            have HL9 := hid (cell_fr HLA2.out fd (fun h => h))
            clear fd HHA HBA HSA HLA2
            have HDO := hid (HH9.out.doR HS9.out rt (by rw [HDP.out]))
            rw [HDP.out] at HDO
            dsimp only at HDO
            clear HDP
            refine wp_region_scr (.take 0 (.take 1 (.take 2 (.take 3 (.take 4 (.take 5 (.take 6 (.op 7 (.take 8 .done))))))))) (fun kz w => (kz ≤ 9 → w.rangeAt d7 0 tv.cells ∧ w.cell? ⟨g2, o2 + i * 16 + 15, none⟩ = some (.int .i64 rt)) ∧ Hid True) (by kernel_rfl) (by kernel_rfl) (by intro c a d v w h; cases d <;> exact h) ?_
            repeat
              first
              | (refine wpT_pure rfl rfl rfl ?_; apply Exists.intro; refine ⟨?_, ?_⟩; intro w; (first | (first | exact run_load_mid _ _ rfl d7 _ rfl _ _ qa.1 Tryz.underlying55 rfl size_st | (obtain ⟨z0, z1⟩ := qa; go_simp <;> rfl)) | (go_simp <;> rfl)); simp only [Act.put, List.setIfInBounds_toArray, List.set_cons_zero, List.set_cons_succ])
              | (refine wpT_take 9 rfl rfl (by decide +kernel) ⟨fun _ => ⟨HB9.out.all, HL9.out⟩, hid trivial⟩ ?_; apply Exists.intro; refine ⟨?_, ?_⟩; intro w hw; (have qa := hw.1 (Nat.le_refl _); have qb := hw.2); (first | (first | exact run_load_mid _ _ rfl d7 _ rfl _ _ qa.1 Tryz.underlying55 rfl size_st | (obtain ⟨z0, z1⟩ := qa; go_simp <;> rfl)) | (go_simp <;> rfl)); simp only [Act.put, List.setIfInBounds_toArray, List.set_cons_zero, List.set_cons_succ])
              | (refine wpT_skip rfl rfl ?_; simp only [Act.put, List.setIfInBounds_toArray, List.set_cons_zero, List.set_cons_succ])
            generalize wA.drew = W10 at *
            refine wpT_op rfl ?_
            go_wp2_with ((go_at_call 17; refine HDO.out.mono ?_; rintro e wB ⟨rfl, ho, f⟩; have HOB := hid ho; have HBB := hid (Blk.fr HB9.out f (fun h => by have := h.2; have := HD8.out; omega)); have HLB := hid (cell_fr HL9.out f (fun h => by have := h.1; have := HG2.out; omega)); clear ho f))
            (refine ⟨?_, ?_⟩; focus (intro kz hk hk2 hh; first | (exfalso; simp at hk2; omega) | exact hh | exact (fun h => absurd h (by omega)) | obtain ⟨qa, qb⟩ := hh; first | exact ⟨qa, qb⟩ | (refine ⟨fun h => absurd h (by omega), ?_⟩; first | exact qb | (exact ⟨HBB.out.all, HLB.out⟩)) | (refine ⟨fun h => ?_, ?_⟩; (have qa := qa h); all_goals (first | exact qa | exact qb | (exact ⟨HBB.out.all, HLB.out⟩)))))
            clear HH9 HB9 HS9 HL9 HDO
            repeat
              first
              | (refine wpT_pure rfl rfl rfl ?_; apply Exists.intro; refine ⟨?_, ?_⟩; intro w; ((go_simp <;> rfl)); simp only [Act.put, List.setIfInBounds_toArray, List.set_cons_zero, List.set_cons_succ])
              | (refine wpT_take 9 rfl rfl (by decide +kernel) ⟨fun _ => ⟨HBB.out.all, HLB.out⟩, hid trivial⟩ ?_; apply Exists.intro; refine ⟨?_, ?_⟩; intro w hw; (have qa := hw.1 (Nat.le_refl _); have qb := hw.2); ((go_simp <;> rfl)); simp only [Act.put, List.setIfInBounds_toArray, List.set_cons_zero, List.set_cons_succ])
              | (refine wpT_skip rfl rfl ?_; simp only [Act.put, List.setIfInBounds_toArray, List.set_cons_zero, List.set_cons_succ])
            refine wpT_nil ?_
            have ee : (e6 != e6) = false := by simp
            go_wp2_with (fail)
            go_meet
            exact ⟨_, HOB.out⟩
          · have i4 : ¬ (i : Int) < (M.length : Int) := by omega
            go_wp2_with (fail)
            go_meet
            exact ⟨_, HO6.out⟩
        case rest =>
          obtain ⟨m7, ho⟩ := hcut
          have HO7 := hid ho
          clear ho HO6
          have HSM := hid HO7.out.same
          obtain ⟨z, hz1, hz2⟩ := mod8 i
          clear hz2
          by_cases hz : z = 7
          · subst hz
            go_wp2_with (go_at_call 19; refine HSM.out.mono ?_; rintro e w8 ⟨rfl, f⟩; have HO8 := hid (HO7.out.fre f).now; clear f)
            go_roundw
            case rel => exact ⟨i + 1, m7, by omega, by simp, HO8.out⟩
            case measure => simp [intOf]; omega
          · have e7 : ((z : Int) == 7) = false := beq_eq_false_iff_ne.2 (by omega)
            go_wp2_with (fail)
            go_roundw
            case rel => exact ⟨i + 1, m7, by omega, by simp, HO7.out⟩
            case measure => simp [intOf]; omega
      · have hor : (40 : Int) ≤ (i : Int) ∨ (L.length : Int) ≤ (i : Int) := by omega
        rcases hor with h12 | h12
        all_goals
          go_wp2_with (fail)
          all_goals (go_meet; exact ⟨m, HOS.out⟩)
  case rest =>
    obtain ⟨m, ho⟩ := hcut
    have HOZ := hid ho
    have HSM := hid ho.same
    clear ho HT0
    go_wp2_with (go_at_call 19; refine HSM.out.mono ?_; rintro e w8 ⟨rfl, f⟩; have FZ := hid (HOZ.out.fr.trans f (fun _ h _ => h)); clear f)
    go_ret
    exact ⟨rfl, FZ.out⟩
end Go.Proofs.YtgkfdlpijefgkaaGreatDoor
