import Derived.Test.YtgkfdlpijefgkaaGreatDoorCtSb
import Derived.Test.YtgkfdlpijefgkaaGreatDoorCtFr
import Derived.Test.YtgkfdlpijefgkaaGreatDoorStr
import Derived.Test.YtgkfdlpijefgkaaGreatDoorCards
import Derived.Test.YtgkfdlpijefgkaaGreatDoorTie
import Derived.SevenTiedAt
import Derived.ChangeMaps5
import Derived.Laws.BitsAllLaws
/- The law's same: a catalog and the reference's that stand for one schema agree on all queries. -/
set_option linter.unusedVariables false
namespace Go.Proofs.YtgkfdlpijefgkaaGreatDoor
open Go.RowKit Go.VB Go.VB.Oct Go.VB.Cat Go.VB.Rec
theorem bound_tab {S : Nat → Prop} {W : World} {t : TabV} (o : TabO S W t) (k : TabOk t.t) : TabB t :=
  ⟨by have := k.le; omega, by have := k.ixs; rw [o.e, List.length_map] at this; omega, fun x hx => by have := (k.ix x.x (by rw [o.e]; exact List.mem_map_of_mem hx)).le; omega⟩
theorem atM_at {m : List Tab} {j : Nat} (h : j < m.length) : atM m ((j : Int) + 1) = (m[j], true) := by
  unfold atM
  rw [if_pos (by omega), show ((j : Int) + 1 - 1).toNat = j by omega, List.getElem?_eq_getElem h]
theorem atM_over (m : List Tab) : (atM m ((m.length : Int) + 1)).2 = false := by
  unfold atM
  rw [if_pos (by omega), show ((m.length : Int) + 1 - 1).toNat = m.length by omega, List.getElem?_eq_none (Nat.le_refl _)]
theorem atM_zero (m : List Tab) : (atM m 0).2 = false := by
  unfold atM
  rw [if_neg (by omega)]
theorem tableM_at {m : List Tab} (ok : Ok m) {j : Nat} (h : j < m.length) : tableM m m[j].name = (m[j], true) := by
  unfold tableM
  rw [find_of_at ok.nodup h]
  exact atM_at h
theorem Same_yes {R R' : Nat → Prop} {w : World} {a b : TabV} (ha : TabS R w a) (hb : TabS R' w b) (e : a.t = b.t) : Calls Tryz.prog 26 #[a.agg, b.agg] w fun e w' => e = .returned (.bool true) ∧ Fr (fun _ => False) w w' := by
  have := Same_go ha hb
  rw [decide_eq_true e] at this
  exact this
/-- what region 9 reads -/
structure SmS (W : World) (r dt du g gy j : Nat) (sl : Value) (x t u y : TabV) : Prop where
  k : W.cell? ⟨r, 0, none⟩ = some sl
  t : W.rangeAt dt 0 t.cells
  u : W.rangeAt du 0 u.cells
  x : W.rangeAt g (j * 4) x.cells
  y : W.rangeAt gy (j * 4) y.cells
theorem range_fr {W W' : World} {g o : Nat} {l : List Value} (h : W.rangeAt g o l) (f : Fr (fun _ => False) W W') : W'.rangeAt g o l := fun i u hu => cell_fr (h i u hu) f (fun h => h)
theorem SmS.fre {W W' : World} {r dt du g gy j : Nat} {sl : Value} {x t u y : TabV} (h : SmS W r dt du g gy j sl x t u y) (f : Fr (fun _ => False) W W') : SmS W' r dt du g gy j sl x t u y :=
  ⟨cell_fr h.k f (fun h => h), range_fr h.t f, range_fr h.u f, range_fr h.x f, range_fr h.y f⟩
set_option maxRecDepth 20000 in
set_option maxHeartbeats 4000000 in
theorem Lsame_go {S S' : Nat → Prop} {w : World} {c r : Nat} {m : List Tab} (h : CR 104 S w c m) (k : CR 30 S' w r m) (ok : Ok m) :
    Calls Tryz.prog 19 #[.pointer (some ⟨c, 0, none⟩), .pointer (some ⟨r, 0, none⟩)] w fun e w' => e = .returned (.bool true) ∧ Fr (fun _ => False) w w' := by
  have HB1 := hid (fun (W : World) (f : Fr (fun _ => False) w W) => Bytes_go (h.fre f) ok)
  have HB2 := hid (fun (W : World) (f : Fr (fun _ => False) w W) => rBytes_go (k.fre f) ok)
  have HAT := hid (fun (W : World) (f : Fr (fun _ => False) w W) (id : Int) (hi : -9223372036854775808 ≤ id ∧ id ≤ 9223372036854775807) => At_go (h.fre f) ok id hi)
  have HTA := hid (fun (W : World) (f : Fr (fun _ => False) w W) (n : Bs) => Table_go (h.fre f) ok n)
  have HAL := hid (All_go h ok)
  obtain ⟨v, ts, hr, hm⟩ := k
  have HR := hid hr
  have HM := hid hm
  have HOK := hid ok
  have htl : ts.length = m.length := by rw [← hm, List.length_map]
  have hl8 : ts.length ≤ 8 := by have := ok.len; omega
  have HTL := hid htl
  obtain ⟨av, cv, rfl, _⟩ := hr.r.slice
  clear h hr hm ok htl
  go_enter Tryz.func19, Tryz.ntmps19
  go_upto_region 2 with (go_at_call 47; refine HAL.out.mono ?_; rintro e w1 ⟨v1, ys, rfl, hys, hry, f⟩; obtain ⟨ay, cy, rfl, _⟩ := hry.r.slice; have HYS := hid hys; have HY := hid hry; have F1 := hid f; have k0 : w1.cell? ⟨r, 0, none⟩ = some (.slice av ts.length cv) := (HR.out.fre f).b.cell 0; clear hys hry f)
  have hyl : ys.length = ts.length := by have := congrArg List.length HYS.out; rw [List.length_map] at this; have := HTL.out; omega
  have e1 : ((ys.length : Int) != (ts.length : Int)) = false := by rw [hyl]; simp
  have HYL := hid hyl
  clear hyl HAL
  go_upto_region 4 with fail
  clear k0 e1
  go_upto_block 0 with fail
  go_cut [6] (fun v6 wx => Fr (fun _ => False) w1 wx)
  case first =>
    go_wp2_with (fail)
    go_loopw [6] (fun i wr => ∃ j : Nat, j ≤ ys.length ∧ i = .int .i64 j ∧ Fr (fun _ => False) w1 wr) (fun i _ => ys.length - (intOf i).toNat)
    case atStart => exact ⟨0, by omega, rfl, Fr.refl _ _⟩
    case round =>
      obtain ⟨j, hj, rfl, fr⟩ := hrel
      have FR := hid fr
      clear fr
      have i1 : (0 : Int) ≤ (j : Int) := by omega
      by_cases hjl : j < ys.length
      · have i2 : (j : Int) < (ys.length : Int) := by omega
        have hjt : j < ts.length := by have := HYL.out; omega
        have hjm : j < m.length := by have := HTL.out; omega
        have i3 : (j : Int) < (ts.length : Int) := by omega
        have i5 : IntKind.i64.wrap ((j : Int) + 1) = (j : Int) + 1 := IntWalk.i64_in _ (by omega)
        have F2 := hid (F1.out.trans FR.out (fun _ h _ => h))
        have hat := HAT.out wr F2.out ((j : Int) + 1) (by omega)
        rw [atM_at hjm] at hat
        have HA1 := hid hat
        have hta := fun (W : World) (f : Fr (fun _ => False) wr W) => HTA.out W (F2.out.trans f (fun _ h _ => h)) m[j].name
        rw [tableM_at HOK.out hjm] at hta
        have HT1 := hid hta
        clear hat hta
        have HXM := hid (show ts[j].t = m[j] from by have := HM.out; subst this; simp)
        have HYM := hid (show ys[j].t = m[j] from by have := HYS.out; subst this; simp)
        obtain ⟨g, hg, -, hrx⟩ := tab_at (HR.out.fre F2.out).r hjt
        obtain ⟨gy, hgy, -, hry⟩ := tab_at (HY.out.fre FR.out).r hjl
        subst hg hgy
        have HXO := hid ((HR.out.fre F2.out).t _ (List.getElem_mem hjt))
        have HYO := hid ((HY.out.fre FR.out).t _ (List.getElem_mem hjl))
        have HTK := hid (HOK.out.tab _ (List.getElem_mem hjm))
        obtain ⟨x, hx⟩ : ∃ x, x = ts[j] := ⟨_, rfl⟩
        obtain ⟨y, hy⟩ : ∃ y, y = ys[j] := ⟨_, rfl⟩
        obtain ⟨tm, htm⟩ : ∃ t, t = m[j] := ⟨_, rfl⟩
        rw [← hx] at hrx HXM HXO
        rw [← hy] at hry HYM HYO
        rw [← htm] at HA1 HT1 HXM HYM HTK
        clear hx hy htm
        have HRX := hid hrx
        have HRY := hid hry
        have q1 : wr.cell? ⟨g, j * 4 + 1, none⟩ = some (.string (bs tm.name)) := by rw [← HXM.out]; exact hrx 1 _ rfl
        have HQ1 := hid q1
        have k0 : wr.cell? ⟨r, 0, none⟩ = some (.slice (some ⟨g, 0, none⟩) ts.length cv) := (HR.out.fre F2.out).b.cell 0
        have HK0 := hid k0
        clear hrx hry q1 k0
        unfold TabV.agg TabV.cells at HA1 HT1
        go_upto_region 8 with (go_at_call 48; refine HA1.out.mono ?_; rintro e w3 ⟨⟨t1, vc1, vi1, ix1⟩, rfl, et, ho, f⟩; dsimp only at et; obtain ⟨a1, d1, e2, _⟩ := ho.c.slice; obtain ⟨a2, d2, e3, _⟩ := ho.i.slice; dsimp only at e2 e3; subst et e2 e3; have HTO := hid ho; have FT := hid f; clear ho f)
        generalize hw9 : w3.alloc _ = W9
        have F9 := hid (show Fr (fun _ => False) wr W9 from by rw [← hw9]; exact FT.out.alloc _)
        have HB9 := hid (show Blk W9 w3.heap.size [.int .i64 t1.id, .string (bs t1.name), .slice a1 t1.cols.length d1, .slice a2 ix1.length d2] 34 from by rw [← hw9]; exact Blk.new w3 _ _)
        have HT9 := hid (show TabO (fun k => wr.heap.size ≤ k) W9 ⟨t1, .slice a1 t1.cols.length d1, .slice a2 ix1.length d2, ix1⟩ from by rw [← hw9]; exact HTO.out.fr ((Fr.refl (fun _ => False) w3).alloc _) (fun _ _ h => h))
        generalize w3.heap.size = dt at *
        clear hw9 HTO FT HA1
        have q1 := cell_fr HQ1.out F9.out (fun h => h)
        have k0 := cell_fr HK0.out F9.out (fun h => h)
        go_upto_region 9 with (go_at_call 23; refine (HT1.out _ F9.out).mono ?_; rintro e w10 ⟨⟨t2, vc2, vi2, ix2⟩, rfl, et, ho, f⟩; dsimp only at et; obtain ⟨a5, d5, e2, _⟩ := ho.c.slice; obtain ⟨a6, d6, e3, _⟩ := ho.i.slice; dsimp only at e2 e3; subst et e2 e3; have HUO := hid ho; have FU := hid f; clear ho f)
        generalize hw11 : w10.alloc _ = W11
        have F11 := hid (show Fr (fun _ => False) W9 W11 from by rw [← hw11]; exact FU.out.alloc _)
        have HB11 := hid (show Blk W11 w10.heap.size [.int .i64 t2.id, .string (bs t2.name), .slice a5 t2.cols.length d5, .slice a6 ix2.length d6] 34 from by rw [← hw11]; exact Blk.new w10 _ _)
        have HU11 := hid (show TabO (fun k => W9.heap.size ≤ k) W11 ⟨t2, .slice a5 t2.cols.length d5, .slice a6 ix2.length d6, ix2⟩ from by rw [← hw11]; exact HUO.out.fr ((Fr.refl (fun _ => False) w10).alloc _) (fun _ _ h => h))
        generalize w10.heap.size = du at *
        clear hw11 HUO FU HT1 q1 k0
        have FD := hid ((Fr.refl (fun _ => False) W11).drew)
        have FX := hid ((F9.out.trans F11.out (fun _ h _ => h)).trans FD.out (fun _ h _ => h))
        have HSX := hid ((HXO.out.fr FX.out (fun _ _ h => h)).s (bound_tab HXO.out (by rw [HXM.out]; exact HTK.out)))
        have HSY := hid ((HYO.out.fr FX.out (fun _ _ h => h)).s (bound_tab HYO.out (by rw [HYM.out]; exact HTK.out)))
        have HST := hid ((HT9.out.fr (F11.out.trans FD.out (fun _ h _ => h)) (fun _ _ h => h)).s (bound_tab HT9.out HTK.out))
        have HSU := hid ((HU11.out.fr FD.out (fun _ _ h => h)).s (bound_tab HU11.out HTK.out))
        have HS1 := hid (fun (W : World) (f : Fr (fun _ => False) W11.drew W) => Same_yes (HST.out.fre f) (HSX.out.fre f) HXM.out.symm)
        have HS2 := hid (fun (W : World) (f : Fr (fun _ => False) W11.drew W) => Same_yes (HSU.out.fre f) (HSX.out.fre f) HXM.out.symm)
        have HS3 := hid (fun (W : World) (f : Fr (fun _ => False) W11.drew W) => Same_yes (HSY.out.fre f) (HSX.out.fre f) (HYM.out.trans HXM.out.symm))
        have HS := hid (show SmS W11.drew r dt du g gy j (.slice (some ⟨g, 0, none⟩) ts.length cv) x ⟨t2, .slice a1 t2.cols.length d1, .slice a2 ix1.length d2, ix1⟩ ⟨t2, .slice a5 t2.cols.length d5, .slice a6 ix2.length d6, ix2⟩ y from
          ⟨cell_fr HK0.out FX.out (fun h => h), (HB9.out.fr (F11.out.trans FD.out (fun _ h _ => h)) (fun h => h)).all, (HB11.out.fr FD.out (fun h => h)).all, range_fr HRX.out FX.out, range_fr HRY.out FX.out⟩)
        have FW := hid (Fr.refl (fun _ => False) W11.drew)
        have FEND := hid ((F1.out.trans (FR.out) (fun _ h _ => h)).size)
        have FZ := hid (FR.out.trans FX.out (fun _ h _ => h))
        clear F9 HB9 HT9 F11 HB11 HU11 FD FX HSX HSY HST HSU HRX HRY HQ1 HK0 HXO HYO F2 FEND
        refine wp_region_scr (.take 0 (.take 1 (.take 2 (.take 3 (.take 4 (.take 5 (.take 6 (.take 7 (.take 8 (.take 9 (.take 10 (.take 11 (.take 12 (.take 13 (.take 14 (.op 15 (.take 16 (.take 17 (.take 18 (.take 19 (.take 20 (.take 21 (.take 22 (.take 23 (.take 24 (.take 25 (.take 26 (.op 27 (.take 28 (.take 29 (.take 30 (.take 31 (.take 32 (.take 33 (.take 34 (.take 35 (.take 36 (.take 37 (.take 38 (.take 39 (.take 40 (.take 41 (.op 42 (.take 43 (.take 44 .done))))))))))))))))))))))))))))))))))))))))))))) (fun kz w => (kz ≤ 45 → SmS w r dt du g gy j (.slice (some ⟨g, 0, none⟩) ts.length cv) x ⟨t2, .slice a1 t2.cols.length d1, .slice a2 ix1.length d2, ix1⟩ ⟨t2, .slice a5 t2.cols.length d5, .slice a6 ix2.length d6, ix2⟩ y) ∧ Hid True) (by kernel_rfl) (by kernel_rfl) (by intro c a d v w h; cases d <;> exact h) ?_
        repeat
          first
          | (refine wpT_pure rfl rfl rfl ?_; apply Exists.intro; refine ⟨?_, ?_⟩; intro w; (first | (first | exact run_load_mid _ _ rfl dt _ rfl _ _ qa.t Tryz.underlying34 rfl size_tab2 | exact run_load_mid _ _ rfl du _ rfl _ _ qa.u Tryz.underlying34 rfl size_tab2 | exact run_load_mid _ _ rfl g _ rfl _ _ qa.x Tryz.underlying34 rfl size_tab2 | exact run_load_mid _ _ rfl gy _ rfl _ _ qa.y Tryz.underlying34 rfl size_tab2 | (obtain ⟨z0, _, _, _, _⟩ := qa; go_simp <;> rfl)) | (go_simp <;> rfl)); simp only [Act.put, List.setIfInBounds_toArray, List.set_cons_zero, List.set_cons_succ])
          | (refine wpT_take 45 rfl rfl (by decide +kernel) ⟨fun _ => HS.out, hid trivial⟩ ?_; apply Exists.intro; refine ⟨?_, ?_⟩; intro w hw; (have qa := hw.1 (Nat.le_refl _); have qb := hw.2); (first | (first | exact run_load_mid _ _ rfl dt _ rfl _ _ qa.t Tryz.underlying34 rfl size_tab2 | exact run_load_mid _ _ rfl du _ rfl _ _ qa.u Tryz.underlying34 rfl size_tab2 | exact run_load_mid _ _ rfl g _ rfl _ _ qa.x Tryz.underlying34 rfl size_tab2 | exact run_load_mid _ _ rfl gy _ rfl _ _ qa.y Tryz.underlying34 rfl size_tab2 | (obtain ⟨z0, _, _, _, _⟩ := qa; go_simp <;> rfl)) | (go_simp <;> rfl)); simp only [Act.put, List.setIfInBounds_toArray, List.set_cons_zero, List.set_cons_succ])
          | (refine wpT_skip rfl rfl ?_; simp only [Act.put, List.setIfInBounds_toArray, List.set_cons_zero, List.set_cons_succ])
        refine wpT_op rfl ?_
        go_wp2_with ((go_at_call 26; refine (HS1.out _ FW.out).mono ?_; rintro e w12 ⟨rfl, f⟩; replace HS := hid (HS.out.fre f); replace FW := hid (FW.out.trans f (fun _ h _ => h)); clear f HS1))
        (refine ⟨?_, ?_⟩; focus (intro kz hk hk2 hh; first | (exfalso; simp at hk2; omega) | exact hh | exact (fun h => absurd h (by omega)) | obtain ⟨qa, qb⟩ := hh; first | exact ⟨qa, qb⟩ | (refine ⟨fun h => absurd h (by omega), ?_⟩; first | exact qb | (exact HS.out)) | (refine ⟨fun h => ?_, ?_⟩; (have qa := qa h); all_goals (first | exact qa | exact qb | (exact HS.out)))))
        repeat
          first
          | (refine wpT_pure rfl rfl rfl ?_; apply Exists.intro; refine ⟨?_, ?_⟩; intro w; (first | (first | exact run_load_mid _ _ rfl dt _ rfl _ _ qa.t Tryz.underlying34 rfl size_tab2 | exact run_load_mid _ _ rfl du _ rfl _ _ qa.u Tryz.underlying34 rfl size_tab2 | exact run_load_mid _ _ rfl g _ rfl _ _ qa.x Tryz.underlying34 rfl size_tab2 | exact run_load_mid _ _ rfl gy _ rfl _ _ qa.y Tryz.underlying34 rfl size_tab2 | (obtain ⟨z0, _, _, _, _⟩ := qa; go_simp <;> rfl)) | (go_simp <;> rfl)); simp only [Act.put, List.setIfInBounds_toArray, List.set_cons_zero, List.set_cons_succ])
          | (refine wpT_take 45 rfl rfl (by decide +kernel) ⟨fun _ => HS.out, hid trivial⟩ ?_; apply Exists.intro; refine ⟨?_, ?_⟩; intro w hw; (have qa := hw.1 (Nat.le_refl _); have qb := hw.2); (first | (first | exact run_load_mid _ _ rfl dt _ rfl _ _ qa.t Tryz.underlying34 rfl size_tab2 | exact run_load_mid _ _ rfl du _ rfl _ _ qa.u Tryz.underlying34 rfl size_tab2 | exact run_load_mid _ _ rfl g _ rfl _ _ qa.x Tryz.underlying34 rfl size_tab2 | exact run_load_mid _ _ rfl gy _ rfl _ _ qa.y Tryz.underlying34 rfl size_tab2 | (obtain ⟨z0, _, _, _, _⟩ := qa; go_simp <;> rfl)) | (go_simp <;> rfl)); simp only [Act.put, List.setIfInBounds_toArray, List.set_cons_zero, List.set_cons_succ])
          | (refine wpT_skip rfl rfl ?_; simp only [Act.put, List.setIfInBounds_toArray, List.set_cons_zero, List.set_cons_succ])
        refine wpT_op rfl ?_
        go_wp2_with ((go_at_call 26; refine (HS2.out _ FW.out).mono ?_; rintro e w13 ⟨rfl, f⟩; replace HS := hid (HS.out.fre f); replace FW := hid (FW.out.trans f (fun _ h _ => h)); clear f HS2))
        (refine ⟨?_, ?_⟩; focus (intro kz hk hk2 hh; first | (exfalso; simp at hk2; omega) | exact hh | exact (fun h => absurd h (by omega)) | obtain ⟨qa, qb⟩ := hh; first | exact ⟨qa, qb⟩ | (refine ⟨fun h => absurd h (by omega), ?_⟩; first | exact qb | (exact HS.out)) | (refine ⟨fun h => ?_, ?_⟩; (have qa := qa h); all_goals (first | exact qa | exact qb | (exact HS.out)))))
        repeat
          first
          | (refine wpT_pure rfl rfl rfl ?_; apply Exists.intro; refine ⟨?_, ?_⟩; intro w; (first | (first | exact run_load_mid _ _ rfl dt _ rfl _ _ qa.t Tryz.underlying34 rfl size_tab2 | exact run_load_mid _ _ rfl du _ rfl _ _ qa.u Tryz.underlying34 rfl size_tab2 | exact run_load_mid _ _ rfl g _ rfl _ _ qa.x Tryz.underlying34 rfl size_tab2 | exact run_load_mid _ _ rfl gy _ rfl _ _ qa.y Tryz.underlying34 rfl size_tab2 | (obtain ⟨z0, _, _, _, _⟩ := qa; go_simp <;> rfl)) | (go_simp <;> rfl)); simp only [Act.put, List.setIfInBounds_toArray, List.set_cons_zero, List.set_cons_succ])
          | (refine wpT_take 45 rfl rfl (by decide +kernel) ⟨fun _ => HS.out, hid trivial⟩ ?_; apply Exists.intro; refine ⟨?_, ?_⟩; intro w hw; (have qa := hw.1 (Nat.le_refl _); have qb := hw.2); (first | (first | exact run_load_mid _ _ rfl dt _ rfl _ _ qa.t Tryz.underlying34 rfl size_tab2 | exact run_load_mid _ _ rfl du _ rfl _ _ qa.u Tryz.underlying34 rfl size_tab2 | exact run_load_mid _ _ rfl g _ rfl _ _ qa.x Tryz.underlying34 rfl size_tab2 | exact run_load_mid _ _ rfl gy _ rfl _ _ qa.y Tryz.underlying34 rfl size_tab2 | (obtain ⟨z0, _, _, _, _⟩ := qa; go_simp <;> rfl)) | (go_simp <;> rfl)); simp only [Act.put, List.setIfInBounds_toArray, List.set_cons_zero, List.set_cons_succ])
          | (refine wpT_skip rfl rfl ?_; simp only [Act.put, List.setIfInBounds_toArray, List.set_cons_zero, List.set_cons_succ])
        refine wpT_op rfl ?_
        go_wp2_with ((go_at_call 26; refine (HS3.out _ FW.out).mono ?_; rintro e w14 ⟨rfl, f⟩; replace HS := hid (HS.out.fre f); replace FW := hid (FW.out.trans f (fun _ h _ => h)); clear f HS3))
        (refine ⟨?_, ?_⟩; focus (intro kz hk hk2 hh; first | (exfalso; simp at hk2; omega) | exact hh | exact (fun h => absurd h (by omega)) | obtain ⟨qa, qb⟩ := hh; first | exact ⟨qa, qb⟩ | (refine ⟨fun h => absurd h (by omega), ?_⟩; first | exact qb | (exact HS.out)) | (refine ⟨fun h => ?_, ?_⟩; (have qa := qa h); all_goals (first | exact qa | exact qb | (exact HS.out)))))
        repeat
          first
          | (refine wpT_pure rfl rfl rfl ?_; apply Exists.intro; refine ⟨?_, ?_⟩; intro w; ((go_simp <;> rfl)); simp only [Act.put, List.setIfInBounds_toArray, List.set_cons_zero, List.set_cons_succ])
          | (refine wpT_take 45 rfl rfl (by decide +kernel) ⟨fun _ => HS.out, hid trivial⟩ ?_; apply Exists.intro; refine ⟨?_, ?_⟩; intro w hw; (have qa := hw.1 (Nat.le_refl _); have qb := hw.2); ((go_simp <;> rfl)); simp only [Act.put, List.setIfInBounds_toArray, List.set_cons_zero, List.set_cons_succ])
          | (refine wpT_skip rfl rfl ?_; simp only [Act.put, List.setIfInBounds_toArray, List.set_cons_zero, List.set_cons_succ])
        refine wpT_nil ?_
        have FZ2 := hid (FZ.out.trans FW.out (fun _ h _ => h))
        clear FW FZ HS
        go_wp2_with (fail)
        go_roundw
        case rel => exact ⟨j + 1, by omega, by go_num, FZ2.out⟩
        case measure => simp [intOf]; omega
      · obtain rfl : j = ys.length := by omega
        have i9 : ¬ ((ys.length : Int) < (ys.length : Int)) := by omega
        go_wp2_with (fail)
        go_meet
        exact FR.out
  case rest =>
    have FR := hid hcut
    clear hcut
    have F2 := hid (F1.out.trans FR.out (fun _ h _ => h))
    have i5 : IntKind.i64.wrap ((ys.length : Int) + 1) = (ys.length : Int) + 1 := IntWalk.i64_in _ (by have := HYL.out; omega)
    have HA1 := hid (fun (W : World) (f : Fr (fun _ => False) wc W) => HAT.out W (F2.out.trans f (fun _ h _ => h)) ((ys.length : Int) + 1) (by have := HYL.out; omega))
    have HA2 := hid (fun (W : World) (f : Fr (fun _ => False) wc W) => HAT.out W (F2.out.trans f (fun _ h _ => h)) 0 (by omega))
    have HBA := hid (fun (W : World) (f : Fr (fun _ => False) wc W) => HB1.out W (F2.out.trans f (fun _ h _ => h)))
    have HBB := hid (fun (W : World) (f : Fr (fun _ => False) wc W) => HB2.out W (F2.out.trans f (fun _ h _ => h)))
    rw [show (atM m ((ys.length : Int) + 1)).2 = false from by rw [HYL.out, HTL.out]; exact atM_over m] at HA1
    rw [atM_zero m] at HA2
    unfold TabV.agg TabV.cells at HA1 HA2
    clear HAT HTA HB1 HB2 F1 FR HR HM HOK HTL HYS HY HYL
    have G0 := hid (Fr.refl (fun _ => False) wc)
    go_upto_region 12 with (go_at_call 48; refine (HA1.out _ G0.out).mono ?_; rintro e w3 ⟨⟨t1, vc1, vi1, ix1⟩, rfl, et, ho, f⟩; obtain ⟨a1, d1, e2, _⟩ := ho.c.slice; obtain ⟨a2, d2, e3, _⟩ := ho.i.slice; dsimp only at e2 e3; subst e2 e3; have G1 := hid f; clear ho f et)
    have G2 := hid (G1.out.alloc (.cells #[.int .i64 t1.id, .string (bs t1.name), .slice a1 t1.cols.length d1, .slice a2 ix1.length d2] 34))
    generalize w3.heap.size = d3 at *
    generalize w3.alloc _ = W3 at *
    go_upto_region 13 with (go_at_call 48; refine (HA2.out _ G2.out).mono ?_; rintro e w4 ⟨⟨t2, vc2, vi2, ix2⟩, rfl, et, ho, f⟩; obtain ⟨a5, d5, e2, _⟩ := ho.c.slice; obtain ⟨a6, d6, e3, _⟩ := ho.i.slice; dsimp only at e2 e3; subst e2 e3; have G3 := hid (G2.out.trans f (fun _ h _ => h)); clear ho f et)
    have G4 := hid (G3.out.alloc (.cells #[.int .i64 t2.id, .string (bs t2.name), .slice a5 t2.cols.length d5, .slice a6 ix2.length d6] 34))
    generalize w4.heap.size = d4 at *
    generalize w4.alloc _ = W4 at *
    go_wp2_with (first
      | (go_at_call 27; refine (HBA.out _ G4.out).mono ?_; rintro e w5 ⟨rfl, f⟩; have G5 := hid (G4.out.trans f (fun _ h _ => h)); clear f)
      | (go_at_call 20; refine (HBB.out _ G5.out).mono ?_; rintro e w6 ⟨rfl, f⟩; have G6 := hid (F2.out.trans (G5.out.trans f (fun _ h _ => h)) (fun _ h _ => h)); clear f))
    go_ret
    exact ⟨rfl, G6.out⟩
end Go.Proofs.YtgkfdlpijefgkaaGreatDoor
/-
For every string, every list of integer lists and every three integers Read agrees with the reference's on arbitrary and on corrupted input (CatalogReads).
Conditions: none beyond the row's own.
-/
namespace Go.Proofs.YtgkfdlpijefgkaaGreatDoor
open Go.RowKit Go.VB Go.VB.Oct Go.VB.Cat Go.VB.Rec
theorem bytes_pos (m : List Tab) : 0 < (Cat.bytes m).length := by
  unfold Cat.bytes
  rw [List.length_append, be_length _ _ (by omega)]
  omega
theorem and_24 (n : Int) : ∃ a : Nat, bits .and .i64 n 16777215 = (a : Int) ∧ a < 16777216 ∧ (a : Int) = n % 16777216 := by
  have h := and_mask 24 16777215 n (by decide) (by omega)
  refine ⟨(n % 16777216).toNat, ?_, by omega, by omega⟩
  rw [h]
  have : ((2 ^ 24 : Nat) : Int) = 16777216 := by decide
  rw [this]
  omega
theorem modl (x n : Nat) (hn : 0 < n) : ∃ k : Nat, (x : Int).tmod (n : Int) = k ∧ (x : Int) % (n : Int) = k ∧ k < n := ⟨x % n, by rw [Int.tmod_eq_emod_of_nonneg (by omega), Int.natCast_emod], (Int.natCast_emod _ _).symm, Nat.mod_lt _ hn⟩
theorem cut_str (t : List UInt8) (c : Nat) : ∃ q : Nat, (∀ z : Int, z = c → min (t.length : Int) z = (q : Int) ∧ (if z < (t.length : Int) then z else (t.length : Int)) = (q : Int)) ∧ (bs t).extract 0 q = bs (t.take c) ∧ (q : Int) ≤ t.length := by
  refine ⟨min c t.length, fun z hz => by subst hz; exact ⟨by omega, by split <;> omega⟩, ?_, by omega⟩
  apply ByteArray.ext
  simp [bs]
set_option maxRecDepth 20000 in
set_option maxHeartbeats 4000000 in
theorem reads_go (s : List UInt8) (hs : s.length ≤ 1099511627776) (w : World) : Calls Tryz.prog 21 #[.string (bs s)] w fun e w' => e = .returned (.bool true) ∧ Fr (fun _ => False) w w' := by
  have h1 := fun w => Read_go s hs w
  rw [readM_parse] at h1
  have h2 := fun w => rRead_go s hs w
  cases hp : parse s with
  | none =>
    rw [hp] at h1 h2
    unfold ReadP at h1
    unfold RReadP at h2
    have HR1 := hid h1
    have HR2 := hid h2
    clear h1 h2 hp
    go_enter Tryz.func21, Tryz.ntmps21
    go_wp2_with (first
      | (go_at_call 24; refine (HR1.out _).mono ?_; rintro e w1 ⟨rfl, f⟩; have F1 := hid f; clear f)
      | (go_at_call 52; refine (HR2.out _).mono ?_; rintro e w2 ⟨rfl, f⟩; have F2 := hid (F1.out.trans f (fun _ h _ => h)); clear f))
    go_ret
    exact ⟨rfl, F2.out⟩
  | some m =>
    obtain ⟨ok, hb⟩ := parse_iff.1 hp
    rw [hp] at h1 h2
    unfold ReadP at h1
    unfold RReadP at h2
    have HR1 := hid h1
    have HR2 := hid h2
    have HOK := hid ok
    have HBY := hid hb
    clear h1 h2 hp ok hb
    go_enter Tryz.func21, Tryz.ntmps21
    go_upto_region 5 with (first
      | (go_at_call 24; refine (HR1.out _).mono ?_; rintro e w1 ⟨c, rfl, hc, f⟩; have HC1 := hid hc; have F1 := hid f; clear hc f)
      | (go_at_call 52; refine (HR2.out _).mono ?_; rintro e w2 ⟨r, rfl, hc, f⟩; have HC2 := hid (HC1.out.fre f); have HC3 := hid hc; have F2 := hid (F1.out.trans f (fun _ h _ => h)); clear hc f))
    have HSM := hid (Lsame_go HC2.out HC3.out HOK.out)
    have HB := hid (fun (W : World) (f : Fr (fun _ => False) w2 W) => Bytes_go (HC2.out.fre f) HOK.out)
    rw [HBY.out] at HB
    clear HC1 HC3 HR1 HR2
    go_wp2_with (first
      | (go_at_call 19; refine HSM.out.mono ?_; rintro e w3 ⟨rfl, f⟩; have G3 := hid f; clear f)
      | (go_at_call 27; refine (HB.out _ G3.out).mono ?_; rintro e w4 ⟨rfl, f⟩; have G4 := hid (F2.out.trans (G3.out.trans f (fun _ h _ => h)) (fun _ h _ => h)); clear f))
    go_ret
    exact ⟨rfl, G4.out⟩
theorem xor_any (b : UInt8) (z : Nat) (hz : z < 256) : ∃ x : UInt8, bits .xor .u8 (b.toNat : Int) (z : Int) = (x.toNat : Int) := by
  refine ⟨b ^^^ UInt8.ofNat z, ?_⟩
  rw [u8_xor_nat _ _ b.toNat_lt hz]
  congr 1
  rw [UInt8.toNat_xor, UInt8.toNat_ofNat_of_lt' hz]
theorem list3 {α : Type} {L : List α} (h : L.length = 3) : ∃ a b c, L = [a, b, c] := by
  match L, h with
  | [a, b, c], _ => exact ⟨a, b, c, rfl⟩
set_option maxRecDepth 20000 in
set_option maxHeartbeats 20000000 in
theorem Reads_walk {w : World} (G : Gv w) {a : Option Addr} {c1 : Nat} {L : List Arg} (s : List UInt8) (HL : ArgsR w (.slice a L.length c1) L) (n0 n1 n2 : Int) :
    Calls Tryz.prog 5 #[.string (bs s), .slice a L.length c1, .agg #[.int .i64 n0, .int .i64 n1, .int .i64 n2]] w fun e w' => e = .returned (.bool true) ∧ Fr (fun _ => False) w w' := by
  obtain ⟨x0, hx0, hy0, -⟩ := and_24 n0
  obtain ⟨x2, hx2, hy2, -⟩ := and_24 n2
  have HLA := hid HL
  have HSA := hid (fun (W : World) (f : Fr (fun _ => False) w W) => sanity_go (G.kn.fre f))
  clear HL
  have e1 := bs_size s
  obtain ⟨qs, hms, es, hqs⟩ := cut_str s 300
  obtain ⟨hms1, hms2⟩ := hms 300 rfl
  have hqs0 : (0 : Int) ≤ (qs : Int) := by omega
  have hsl := hid (show (s.take 300).length ≤ 300 by rw [List.length_take]; omega)
  generalize s.take 300 = sc at *
  clear hms
  have X0 := hid (Blk.new w [.int .i64 n0, .int .i64 n1, .int .i64 n2] 63)
  have F0 := hid ((Fr.refl (fun _ => False) w).alloc (.cells #[.int .i64 n0, .int .i64 n1, .int .i64 n2] 63))
  go_enter Tryz.func5, Tryz.ntmps5
  go_upto_region 3 with (go_at_call 6; refine (HSA.out _ F0.out).mono ?_; rintro e w1 ⟨rfl, f⟩; have X1 := hid (Blk.fr X0.out f (fun h => h)); have F1 := hid (F0.out.trans f (fun _ h _ => h)); clear f)
  clear X0 F0 HSA
  generalize hbx : w.heap.size = bx at *
  have HBXE := hid hbx
  clear hbx
  have HMD := hid (made_go (HLA.out.later F1.out))
  go_upto_region 4 with (first
    | (go_at_call 7; refine HMD.out.mono ?_; rintro e w2 ⟨r, S, m, rfl, ho⟩; have HBQ := hid (rBytes_go ho.cr ho.ok); have hrl := bytes_le ho.ok; have hrp := bytes_pos m; have X2 := hid (Blk.fr X1.out ho.fr (fun h => h)); have F2 := hid (F1.out.trans ho.fr (fun _ h _ => h)); generalize Cat.bytes m = l at *; clear ho)
    | (go_at_call 20; refine HBQ.out.mono ?_; rintro e w3 ⟨rfl, f⟩; have X3 := hid (Blk.fr X2.out f (fun h => h)); have F3 := hid (F2.out.trans f (fun _ h _ => h)); clear f)
    | (refine wpList_str_bytes rfl rfl Tryz.underlying9 Tryz.underlying64 Tryz.underlying5 rfl ?_; intro cb w9 sb; have SB := hid sb; clear sb))
  have HX := hid (Blk.fr X3.out SB.out.fr (fun h => h))
  have HNE0 := hid (show bx < w3.heap.size from X3.out.lt)
  have FW := hid F3.out
  clear X1 X2 X3 F1 F2 F3 HBQ HMD
  have hnz : ((l.length : Int) == 0) = false := by rw [beq_eq_false_iff_ne]; omega
  have hnz2 : ¬ (l.length : Int) = 0 := by omega
  have hnz0 : ¬ l.length = 0 := by omega
  obtain ⟨y, hm, hm2, hm3⟩ := modl x0 l.length (by omega)
  have hlp : (0 : Int) < (l.length : Int) := by omega
  obtain ⟨z, hz8, hz9⟩ : ∃ z : Nat, IntKind.u8.wrap n1 = (z : Int) ∧ z < 256 := ⟨(n1 % 256).toNat, by rw [IntKind.wrap_u8]; omega, by omega⟩
  go_upto_region 4 with fail
  have hlr : l.length ≤ 100000 := by omega
  clear hrl hrp
  have HB0 := hid (SB.out.at 5 hm3)
  obtain ⟨b0, hb0⟩ : ∃ b0 : UInt8, b0 = l[y] := ⟨_, rfl⟩
  rw [← hb0] at HB0
  obtain ⟨x', hx'⟩ := xor_any b0 z hz9
  have HXOR := hid hx'
  have HNE := hid (show bx ≠ w3.heap.size from by have := HNE0.out; omega)
  clear HNE0
  generalize hbb : w3.heap.size = bb at *
  have HB1 : Hid (w9.drew.cell? ⟨bb, y, none⟩ = some (.int .u8 (b0.toNat : Int))) := hid HB0.out
  have HF1 : Hid (w9.drew.frozen? ⟨bb, y, none⟩ = false) := hid (SB.out.free hm3)
  have HXD := hid HX.out.drew
  have hya : (0 : Int) ≤ (y : Int) := by omega
  have hyb : (y : Int) < (l.length : Int) := by omega
  have HZ8 := hid hz8
  clear hb0 HB0 hx' hbb
  refine wp_region_scr (.take 0 (.take 1 (.take 2 (.take 3 (.take 4 (.take 5 (.take 6 (.take 7 (.take 8 (.take 9 (.take 10 (.take 11 (.take 12 (.take 13 (.take 14 (.take 15 (.take 16 (.take 17 (.take 18 (.take 19 (.take 20 (.op 21 .done)))))))))))))))))))))) (fun kz w => (kz ≤ 21 → w.cell? ⟨bx, 0, none⟩ = some (.int .i64 n0) ∧ w.cell? ⟨bx, 1, none⟩ = some (.int .i64 n1) ∧ w.cell? ⟨bb, y, none⟩ = some (.int .u8 (b0.toNat : Int))) ∧ True) (by kernel_rfl) (by kernel_rfl) (by intro c a d v w h; cases d <;> exact h) ?_
  repeat
    first
    | (refine wpT_pure rfl rfl rfl ?_; apply Exists.intro; refine ⟨?_, ?_⟩; intro w; (first | (first | (go_simp; rw [if_neg hnz0]) | (go_simp; rw [if_pos ⟨hya, hyb⟩]) | (refine Eq.trans (b := Result.ok (Next.value (.int .u8 (x'.toNat : Int))) w) ?_ rfl; go_simp; first | exact HXOR.out | rw [HXOR.out]) | (obtain ⟨qa1, qa2, qa3⟩ := qa; go_simp <;> rfl)) | (go_simp <;> rfl)); simp only [Act.put, List.setIfInBounds_toArray, List.set_cons_zero, List.set_cons_succ])
    | (refine wpT_take 21 rfl rfl (by decide +kernel) ⟨fun _ => ⟨HXD.out.cell 0, HXD.out.cell 1, HB1.out⟩, trivial⟩ ?_; apply Exists.intro; refine ⟨?_, ?_⟩; intro w hw; (have qa := hw.1 (Nat.le_refl _); have qb := hw.2); (first | (first | (go_simp; rw [if_neg hnz0]) | (go_simp; rw [if_pos ⟨hya, hyb⟩]) | (refine Eq.trans (b := Result.ok (Next.value (.int .u8 (x'.toNat : Int))) w) ?_ rfl; go_simp; first | exact HXOR.out | rw [HXOR.out]) | (obtain ⟨qa1, qa2, qa3⟩ := qa; go_simp <;> rfl)) | (go_simp <;> rfl)); simp only [Act.put, List.setIfInBounds_toArray, List.set_cons_zero, List.set_cons_succ])
    | (refine wpT_skip rfl rfl ?_; simp only [Act.put, List.setIfInBounds_toArray, List.set_cons_zero, List.set_cons_succ])
  have cb2 := HB1.out
  have zb2 := HF1.out
  refine wpT_op rfl ?_
  go_wp2_with (fail)
  refine ⟨fun kz hk hk2 hh => (by first | exact ⟨fun h => absurd h (by omega), trivial⟩ | exact fun h => absurd h (by omega)), ?_⟩
  refine wpT_nil ?_
  clear cb2 zb2
  have HSB := hid (SB.out.set hm3 x').drew
  have HXS := hid ((HX.out.fr ((Fr.refl (fun k => k = bb) w9).setCell ⟨bb, y, none⟩ (.int .u8 (x'.toNat : Int)) (fun _ => rfl)) (fun h => HNE.out h)).drew)
  have HFS := hid (FW.out.trans (SB.out.fr.setCell ⟨bb, y, none⟩ (.int .u8 (x'.toNat : Int)) (fun h => by have := SB.out.at_; dsimp only at h; omega)).drew (fun _ h _ => h))
  have hcl : (l.set y x').length = l.length := List.length_set
  have hcv := run_bytes_string (P := Tryz.prog) (w := (w9.setCell ⟨bb, y, none⟩ (.int .u8 (x'.toNat : Int))).drew) (l := l.set y x') (HSB.out.head _ _ rfl) (src := 64) (dst := 9) Tryz.underlying64 Tryz.underlying5 Tryz.underlying9 l.length cb hcl.symm
  rw [← hcl] at hlr
  clear hcl SB HB1 HF1 HXD HX
  generalize l.set y x' = sx at *
  generalize (w9.setCell ⟨bb, y, none⟩ (.int .u8 (x'.toNat : Int))).drew = wx at *
  go_upto_region 6 with fail
  obtain ⟨k, hk, hk2, hk3⟩ : ∃ k : Nat, (x2 : Int).tmod ((sx.length : Int) + 1) = (k : Int) ∧ (x2 : Int) % ((sx.length : Int) + 1) = (k : Int) ∧ k < sx.length + 1 := by
    obtain ⟨k, h1, h2, h3⟩ := modl x2 (sx.length + 1) (by omega)
    have e : ((sx.length + 1 : Nat) : Int) = (sx.length : Int) + 1 := by omega
    rw [e] at h1 h2
    exact ⟨k, h1, h2, h3⟩
  have hadd := fun w => run_add_bs (P := Tryz.prog) w sx sc (by have := hsl.out; omega)
  have hex : (bs sx).extract 0 k = bs (sx.take k) := by apply ByteArray.ext; simp [bs]
  have HL1 := hid (show sc.length ≤ 1099511627776 by have := hsl.out; omega)
  have HL2 := hid (show sx.length ≤ 1099511627776 by omega)
  have HL3 := hid (show (sx.take k).length ≤ 1099511627776 by rw [List.length_take]; omega)
  have HL4 := hid (show (sx ++ sc).length ≤ 1099511627776 by rw [List.length_append]; have := hsl.out; omega)
  have hki : (k : Int) ≤ (sx.length : Int) := by omega
  have hki0 : (0 : Int) ≤ (k : Int) := by omega
  have hlp2 : (0 : Int) < (sx.length : Int) + 1 := by omega
  have hln2 : ¬ (sx.length : Int) + 1 = 0 := by omega
  have e2 := bs_size sx
  clear hk3 hcv
  go_wp2_with (fail)
  refine (reads_go _ HL1.out _).mono ?_
  rintro e w11 ⟨rfl, f⟩
  have G1 := hid (HFS.out.trans f (fun _ h _ => h))
  have Y1 := hid (Blk.fr HXS.out f (fun h => h))
  clear f HFS HXS
  go_wp2_with (fail)
  refine (reads_go _ HL2.out _).mono ?_
  rintro e w12 ⟨rfl, f⟩
  have G2 := hid (G1.out.trans f (fun _ h _ => h))
  have Y2 := hid (Blk.fr Y1.out f (fun h => h))
  clear f G1 Y1
  go_wp2_with (fail)
  refine (reads_go _ HL4.out _).mono ?_
  rintro e w13 ⟨rfl, f⟩
  have G3 := hid (G2.out.trans f (fun _ h _ => h))
  have Y3 := hid (Blk.fr Y2.out f (fun h => h))
  clear f G2 Y2
  have hc2 : w13.cell? ⟨bx, 2, none⟩ = some (.int .i64 n2) := Y3.out.cell 2
  go_wp2_with (fail)
  refine (reads_go _ HL3.out _).mono ?_
  rintro e w14 ⟨rfl, f⟩
  have G4 := hid (G3.out.trans f (fun _ h _ => h))
  clear f G3 Y3 hc2
  go_wp2_with (fail)
  go_ret
  exact ⟨rfl, G4.out⟩
end Go.Proofs.YtgkfdlpijefgkaaGreatDoor
namespace Go.Proofs.YtgkfdlpijefgkaaGreatDoor.catalogReads
open Go.ChangeShapes Go.WideShapes Go.ChangeAt Go.ChangeMaps Go.RowKit Go.VB Go.VB.Rec
set_option maxHeartbeats 400000 in
set_option maxRecDepth 100000 in
theorem lifted (os : Os) (started : os.Started) (H : Type) (enc : TypeId × Value → H) :
    ReturnsInHanded {} Tryz.checked os 5 .any (fun w args => (Rows.catalogReadsSpec.pre enc Tryz.prog Tryz.f5 Rows.catalogReadsRow.domain false w args ∧ laidMetH Tryz.prog Rows.catalogReadsRow.laid w) ∧ sizedMet enc Tryz.prog Tryz.f5 (OpenSpec.ofChange Rows.catalogReadsSpec) false w args) (Rows.catalogReadsSpec.post enc Tryz.prog Tryz.f5 false true false false) := by
  refine handed_and_shaped (C := Tryz.checked) (X := fun w _ => laidMetH Tryz.prog Rows.catalogReadsRow.laid w) (fun _ _ _ hh h => h.of_heap hh) own started (by kernel_rfl) Tryz.func5
    (ChangeSpec.witness_shaped (enc := enc) (C := Tryz.checked) (os := os) (X := fun w _ => laidMetH Tryz.prog Rows.catalogReadsRow.laid w) false (startW os) #[.string ⟨#[]⟩, .slice none 0 0, .agg #[.int .i64 0, .int .i64 0, .int .i64 0]] 8 rfl (start_shaped os _) (by kernel_rfl) (by kernel_rfl) (by kernel_rfl) (start_met os _)) ?_
  intro W base args ds gs before hval0 hW hL hsh
  have GV : Hid (Gv W) := hid (gv_of hL hsh)
  clear hL hsh
  have hval : ∀ (j : Nat) t v, Tryz.f5.params[j]? = some t → args[j]? = some v → Value.okWide Tryz.prog W .any base t v := hval0
  have hW' := hW
  obtain ⟨p, q, hA0, hV, rfl, hfz, hnd⟩ := hW
  have hA : DataW.TrodAll enc Tryz.prog W 0 (fun _ => true) true Tryz.f5.params.toList args.toList ds p := hA0
  rw [Tryz.params5] at hA hval
  obtain ⟨v0, vs0, d0, ds0, p0, q0, hargs, rfl, rfl, h0, r0⟩ := trodAll_cons hA
  obtain ⟨v1, vs1, d1, ds1, p1, q1, rfl, rfl, rfl, h1, r1⟩ := trodAll_cons r0
  obtain ⟨v2, vs2, d2, ds2, p2, q2, rfl, rfl, rfl, h2, r2⟩ := trodAll_cons r1
  obtain ⟨rfl, rfl, rfl⟩ := trodAll_nil r2
  obtain rfl : args = #[v0, v1, v2] := by cases args; simp_all
  obtain ⟨rfl, rfl⟩ := trodVars_none hV
  clear hA0 hval0
  refine Calls.mono (R := fun e w' => e = .returned (.bool true) ∧ Fr (fun _ => False) W w') ?_ fun e W' ⟨he, hf⟩ => ⟨_, he, post_law sound (by decide +kernel) rfl rfl (ht := Tryz.underlying4) (by rfl) hW' hf⟩
  obtain ⟨s, rfl, -, -, -⟩ := open_string Tryz.underlying9 (hval 0 9 v0 rfl rfl) h0
  obtain ⟨L, hL⟩ := open_ints2 (hval 1 22 v1 rfl rfl) h1
  obtain ⟨A, rfl, hal, -⟩ := open_ar Tryz.underlying63 (k := 1) (by kernel_rfl) (by kernel_rfl) (hval 2 63 v2 rfl rfl) h2 (fun x => [Value.int .i64 x]) (fun x => (Lit.int .i64 x).wf = true) (fun fuel cs r h => elem_int Tryz.underlying3 fuel cs r h)
  obtain ⟨n0, n1, n2, rfl⟩ := list3 hal
  obtain ⟨a, c1, rfl, -, -⟩ := id hL.s
  rw [← bs_toList s]
  exact Reads_walk GV.out s.data.toList hL n0 n1 n2
theorem row_holds : Rows.CatalogReadsSaid :=
  OpenClaim.holds_of_wide 5 Tryz.f5 rfl rfl rfl rfl rfl rfl rfl ⟨rfl, rfl, rfl, rfl, rfl⟩ rfl rfl rfl rfl rfl (by kernel_rfl) Tryz.func5 (by kernel_rfl)
    (of_decide_eq_true (by kernel_rfl)) (by unfold Func.isWrapper; first | (rw [if_pos (by decide +kernel)]; kernel_rfl) | (rw [if_neg (by decide +kernel)]; exact ⟨rfl, rfl⟩))
    (fun os started H enc _ => lifted os started H enc)
theorem proved : Rows.CatalogReadsCardSaid :=
  Claim7.holds_tied_plain_at .later [] Rows.catalogReadsCard.laidKinds true Rows.catalogReadsCard.stood.harness Rows.catalogReadsCard.stood.looks row_holds (fun _ h => by cases h) (by kernel_rfl) (fun _ h => by cases h) catalogReads_row_tie rfl ⟨rfl, rfl⟩ (by kernel_rfl) rfl
    (fun f fn hf hfn => by
      obtain rfl : f = 5 := Option.some.inj ((show Tryz.prog.funcNamed "vintner/vintnerlaw14.CatalogReads" = some 5 by kernel_rfl).symm.trans hf) |>.symm
      obtain rfl : fn = Tryz.f5 := (Option.some.inj (Tryz.func5.symm.trans hfn)).symm
      exact ⟨by kernel_rfl, fun j t ht => by
        rw [Tryz.params5] at ht
        have hm : t ∈ [9, 22, 63] := by simpa using Array.mem_of_getElem? ht
        have hall : ([9, 22, 63].all fun u => !Tryz.prog.wantsStandIn u) = true := by kernel_rfl
        exact (show Tryz.prog.wantsStandIn t = false by simpa using List.all_eq_true.1 hall t hm)⟩)
    (by kernel_rfl)
end Go.Proofs.YtgkfdlpijefgkaaGreatDoor.catalogReads
