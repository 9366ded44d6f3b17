import Derived.Test.YtfhkmiifndhacaaDoorRMy
import Derived.Test.YtfhkmiifndhacaaDoorRL
/- The walk of RecordRows. -/
set_option linter.unusedVariables false
namespace Go.Proofs.YtfhkmiifndhacaaDoor
open Go.RowKit Go.VB Go.VB.Oct Go.VB.Rec
/-- two records and two rows in variables -/
structure RS (w0 W : World) (d q : Nat) (A B C D : List V) (va vb vc vd vx vy : Value) : Prop where
  c0 : W.cell? ⟨d, 3, none⟩ = some va
  c1 : W.cell? ⟨d, 4, none⟩ = some vb
  c2 : W.cell? ⟨q, 3, none⟩ = some vc
  c3 : W.cell? ⟨q, 4, none⟩ = some vd
  a : Sl (fun k => k < W.heap.size) W va A.length (A.flatMap V.cells)
  b : Sl (fun k => k < W.heap.size) W vb B.length (B.flatMap V.cells)
  c : Sl (fun k => k < W.heap.size) W vc C.length (C.flatMap V.cells)
  d : Sl (fun k => k < W.heap.size) W vd D.length (D.flatMap V.cells)
  x : Sl (fun k => k < W.heap.size) W vx C.length (C.flatMap V.cells)
  y : Sl (fun k => k < W.heap.size) W vy D.length (D.flatMap V.cells)
  gv : Gv W
  fr : Fr (fun _ => False) w0 W
theorem sl_on {W W' : World} {v : Value} {n : Nat} {xs : List Value} (h : Sl (fun k => k < W.heap.size) W v n xs) (f : Fr (fun _ => False) W W') : Sl (fun k => k < W'.heap.size) W' v n xs :=
  (h.fr f (fun _ _ h => h)).mono (fun k hk => Nat.lt_of_lt_of_le hk f.size)
theorem RS.fre {w0 W W' : World} {d q : Nat} {A B C D : List V} {va vb vc vd vx vy : Value} (h : RS w0 W d q A B C D va vb vc vd vx vy) (f : Fr (fun _ => False) W W') : RS w0 W' d q A B C D va vb vc vd vx vy :=
  ⟨cell_fr h.c0 f (fun h => h), cell_fr h.c1 f (fun h => h), cell_fr h.c2 f (fun h => h), cell_fr h.c3 f (fun h => h), sl_on h.a f, sl_on h.b f, sl_on h.c f, sl_on h.d f, sl_on h.x f, sl_on h.y f, h.gv.fre f, h.fr.trans f (fun _ h _ => h)⟩
theorem RS.cells {w0 W : World} {d q : Nat} {A B C D : List V} {va vb vc vd vx vy : Value} (h : RS w0 W d q A B C D va vb vc vd vx vy) : W.cell? ⟨d, 3, none⟩ = some va ∧ W.cell? ⟨d, 4, none⟩ = some vb ∧ W.cell? ⟨q, 3, none⟩ = some vc ∧ W.cell? ⟨q, 4, none⟩ = some vd := ⟨h.c0, h.c1, h.c2, h.c3⟩
set_option maxRecDepth 20000 in
set_option maxHeartbeats 4000000 in
theorem Rows_walk {P : Nat → Prop} {w : World} (G : Gv w) {va vb vl : Value} {a b : List V} {L : List Int} (ha : Sl P w va a.length (a.flatMap V.cells)) (hb : Sl P w vb b.length (b.flatMap V.cells)) (hl : Sl P w vl L.length (L.flatMap icell))
    (la : a.length ≤ 9223372036854775807) (lb : b.length ≤ 9223372036854775807) (ll : L.length ≤ 9223372036854775807) (ia : ∀ x ∈ a, V.In2 x) (ib : ∀ x ∈ b, V.In2 x) :
    Calls Tryd.prog 3 #[va, vb, vl] w fun e w' => e = .returned (.bool true) ∧ Fr (fun _ => False) w w' := by
  have HG := hid G
  have HSA := hid (fun w => sanity_go w)
  have HFA := hid (fun w' (f : Fr (fun _ => False) w w') => may_go (ha.fr f (fun _ _ h => h)) la)
  have HFB := hid (fun w' (f : Fr (fun _ => False) w w') => may_go (hb.fr f (fun _ _ h => h)) lb)
  have HML := hid (fun w' (f : Fr (fun _ => False) w w') => Made_is (hl.fr f (fun _ _ h => h)) ll)
  have hla := mayRow_len a
  have hlb := mayRow_len b
  have HVA := hid (And.intro (mayRow_row a) (mayRow_in ia))
  have HVB := hid (And.intro (mayRow_row b) (mayRow_in ib))
  obtain ⟨ax, cx, rfl, -⟩ := ha
  obtain ⟨ay, cy, rfl, -⟩ := hb
  obtain ⟨az, cz, rfl, -⟩ := hl
  clear G la lb ll ia ib
  generalize mayRow a = ra at *
  generalize mayRow b = rb at *
  go_enter Tryd.func3, Tryd.ntmps3
  go_upto_region 2 with (go_at_call 4; refine (HSA.out _).mono ?_; rintro e w1 ⟨rfl, f⟩; have F1 := hid f; clear f)
  go_upto_region 3 with (go_at_call 5; refine (HML.out _ F1.out).mono ?_; rintro e w2 ⟨r, a1, a2, a3, a4, c1, c2, c3, c4, rfl, hq, hgd, f⟩; have HQ := hid hq; have HRT := hid hgd.right; have F2 := hid (F1.out.trans f (fun _ h _ => h)); clear f hq hgd)
  have FA := (Fr.refl (fun _ => False) w2).alloc (.cells #[.int .i64 r.kind, .int .i64 r.xid, .int .i64 r.table, .slice a1 r.old.length c1, .slice a2 r.new.length c2, .slice a3 r.edits.length c3, .slice a4 r.xids.length c4, .string (bs r.note)] 28)
  have B0 := hid (Blk.new w2 [.int .i64 r.kind, .int .i64 r.xid, .int .i64 r.table, .slice a1 r.old.length c1, .slice a2 r.new.length c2, .slice a3 r.edits.length c3, .slice a4 r.xids.length c4, .string (bs r.note)] 28)
  have HE0 := hid ((HQ.out.e.fr FA (fun _ _ h => h)).mono (fun k hk => hk.2) : Sl (fun k => k < w2.heap.size) _ _ _ _)
  have HX0 := hid ((HQ.out.x.fr FA (fun _ _ h => h)).mono (fun k hk => hk.2) : Sl (fun k => k < w2.heap.size) _ _ _ _)
  have HLE := hid HQ.out.le
  have HLX := hid HQ.out.lx
  have F3 := hid (F2.out.trans FA (fun _ h _ => h))
  have HWD := hid F2.out.size
  have HDL := hid B0.out.lt
  dsimp only at HE0 HX0 HLE HLX
  clear FA HQ F1 F2 HML HSA
  generalize w2.heap.size = d at *
  generalize w2.alloc _ = W3 at *
  go_upto_region 4 with (go_at_call 6; refine (HFA.out _ F3.out).mono ?_; rintro e w4 ⟨a5, c5, rfl, hr, f⟩; have R1 := hid (hr.low (Nat.succ_le_of_lt HDL.out)); have F4 := hid (F3.out.trans f (fun _ h _ => h)); have B1 := hid (Blk.fr B0.out f (fun h => h)); have HE1 := hid (HE0.out.fr f (fun _ _ h => h)); have HX1 := hid (HX0.out.fr f (fun _ _ h => h)); have k3 := B1.out.cell 3; have z3 := B1.out.frozen 3; clear f hr)
  have fs := (Fr.refl (fun k => k = d) w4).setCell ⟨d, 3, none⟩ (.slice a5 ra.length c5) (fun _ => rfl)
  have B2 := hid (B1.out.set 3 (.slice a5 ra.length c5))
  have HE2 := hid (HE1.out.fr fs (fun k hk e => by omega))
  have HX2 := hid (HX1.out.fr fs (fun k hk e => by omega))
  have R2 := hid (R1.out.fr fs (fun k hk e => by have := R1.out.new k hk; omega))
  have F5 := hid (F4.out.trans fs (fun k hk hl => by have := HWD.out; omega))
  have HDL2 := hid B2.out.lt
  simp only [List.set_cons_succ, List.set_cons_zero] at B2
  clear fs k3 z3 B1 HE1 HX1 R1 F4 B0 HE0 HX0 F3 HFA HDL
  generalize w4.setCell _ _ = W5 at *
  go_upto_region 5 with (go_at_call 6; refine (HFB.out _ F5.out).mono ?_; rintro e w6 ⟨a6, c6, rfl, hr, f⟩; have R3 := hid (hr.low (Nat.succ_le_of_lt HDL2.out)); have F6 := hid (F5.out.trans f (fun _ h _ => h)); have B3 := hid (Blk.fr B2.out f (fun h => h)); have HE3 := hid (HE2.out.fr f (fun _ _ h => h)); have HX3 := hid (HX2.out.fr f (fun _ _ h => h)); have R4 := hid (R2.out.fre f); have k3 := B3.out.cell 4; have z3 := B3.out.frozen 4; clear f hr)
  have fs := (Fr.refl (fun k => k = d) w6).setCell ⟨d, 4, none⟩ (.slice a6 rb.length c6) (fun _ => rfl)
  have B4 := hid (B3.out.set 4 (.slice a6 rb.length c6))
  have HE4 := hid (HE3.out.fr fs (fun k hk e => by omega))
  have HX4 := hid (HX3.out.fr fs (fun k hk e => by omega))
  have R5 := hid (R4.out.fr fs (fun k hk e => by have := R4.out.new k hk; omega))
  have R6 := hid (R3.out.fr fs (fun k hk e => by have := R3.out.new k hk; omega))
  have F7 := hid (F6.out.trans fs (fun k hk hl => by have := HWD.out; omega))
  simp only [List.set_cons_succ, List.set_cons_zero] at B4
  clear fs k3 z3 B3 HE3 HX3 R3 R4 F6 B2 HE2 HX2 R2 F5 HFB HDL2
  generalize w6.setCell _ _ = W7 at *
  have HRV : Hid (RV (fun k => k < W7.heap.size) W7 (r.rows ra rb) (.slice a5 ra.length c5) (.slice a6 rb.length c6) (.slice a3 r.edits.length c3) (.slice a4 r.xids.length c4)) := hid
    ⟨own_sl R5.out.own (fun k hk => R5.out.lt hk), own_sl R6.out.own (fun k hk => R6.out.lt hk), HE4.out.mono (fun k hk => by have := B4.out.lt; omega), HX4.out.mono (fun k hk => by have := B4.out.lt; omega), (show ra.length ≤ _ by omega), (show rb.length ≤ _ by omega), HLE.out, HLX.out, fun _ h => h⟩
  have HBY := hid (RBytes_go HRV.out)
  have HRB := hid (RRead_is (rows_read HRT.out HVA.out.1 HVB.out.1 HVA.out.2 HVB.out.2) (rows_len HRT.out HVA.out.1 HVB.out.1))
  generalize (r.rows ra rb).bytes = rbs at *
  obtain ⟨r2, hr2⟩ : ∃ r2, r2 = r.rows (ra.map V.plain) (rb.map V.plain) := ⟨_, rfl⟩
  have HO2 := hid (show r2.old = ra.map V.plain by rw [hr2]; rfl)
  have HN2 := hid (show r2.new = rb.map V.plain by rw [hr2]; rfl)
  rw [← hr2] at HRB
  clear hr2
  obtain ⟨p0, p1, p2, p3, p4, p5, p6, p7⟩ : W7.cell? ⟨d, 0, none⟩ = some (.int .i64 r.kind) ∧ W7.cell? ⟨d, 1, none⟩ = some (.int .i64 r.xid) ∧ W7.cell? ⟨d, 2, none⟩ = some (.int .i64 r.table) ∧ W7.cell? ⟨d, 3, none⟩ = some (.slice a5 ra.length c5) ∧ W7.cell? ⟨d, 4, none⟩ = some (.slice a6 rb.length c6) ∧ W7.cell? ⟨d, 5, none⟩ = some (.slice a3 r.edits.length c3) ∧ W7.cell? ⟨d, 6, none⟩ = some (.slice a4 r.xids.length c4) ∧ W7.cell? ⟨d, 7, none⟩ = some (.string (bs r.note)) := ⟨B4.out.cell 0, B4.out.cell 1, B4.out.cell 2, B4.out.cell 3, B4.out.cell 4, B4.out.cell 5, B4.out.cell 6, B4.out.cell 7⟩
  go_upto_region 6 with (first
    | (go_at_call 8; refine HBY.out.mono ?_; rintro e w8 ⟨rfl, f⟩; have F8 := hid f; clear f)
    | (go_at_call 7; refine (HRB.out _).mono ?_; rintro e w9 ⟨b1, b2, b3, b4, d1, d2, d3, d4, rfl, hv, f⟩; have HV := hid hv; have F9 := hid (F8.out.trans f (fun _ h _ => h)); clear hv f))
  have f9 := F9.out.alloc (.cells #[.int .i64 r2.kind, .int .i64 r2.xid, .int .i64 r2.table, .slice b1 r2.old.length d1, .slice b2 r2.new.length d2, .slice b3 r2.edits.length d3, .slice b4 r2.xids.length d4, .string (bs r2.note)] 28)
  have BP := hid (Blk.new w9 [.int .i64 r2.kind, .int .i64 r2.xid, .int .i64 r2.table, .slice b1 r2.old.length d1, .slice b2 r2.new.length d2, .slice b3 r2.edits.length d3, .slice b4 r2.xids.length d4, .string (bs r2.note)] 28)
  have g9 := (Fr.refl (fun _ => False) w9).alloc (.cells #[.int .i64 r2.kind, .int .i64 r2.xid, .int .i64 r2.table, .slice b1 r2.old.length d1, .slice b2 r2.new.length d2, .slice b3 r2.edits.length d3, .slice b4 r2.xids.length d4, .string (bs r2.note)] 28)
  have HC := hid (sl_on (HV.out.o.mono (fun k hk => hk.2)) g9)
  have HD := hid (sl_on (HV.out.n.mono (fun k hk => hk.2)) g9)
  have HA := hid (sl_on HRV.out.o f9)
  have HB := hid (sl_on HRV.out.n f9)
  have B5 := hid (Blk.fr B4.out f9 (fun h => h))
  have F10 := hid (F7.out.trans f9 (fun _ h _ => h))
  have HGW := hid (HG.out.fre F10.out)
  clear f9 g9 HV F8 F9 p0 p1 p2 p3 p4 p5 p6 p7 HBY HRB HRV B4 HE4 HX4 R5 R6 F7 HRT HLE HLX HG
  simp only [R.rows] at HA HB
  generalize w9.heap.size = q at *
  generalize w9.alloc _ = W10 at *
  have HRA := hid (readV_bytes HVA.out.1 HVA.out.2)
  have HRB := hid (readV_bytes HVB.out.1 HVB.out.2)
  have HYA := hid (VBytes_go HA.out (fun _ h => h) (by omega))
  have HBB := hid (fun w' (f : Fr (fun _ => False) W10 w') => VBytes_go (sl_on HB.out f) (fun _ h => h) (by omega))
  have HRDA := hid (VRead_go (rowBytes ra) (by have := rowBytes_le ra; omega))
  have HRDB := hid (VRead_go (rowBytes rb) (by have := rowBytes_le rb; omega))
  rw [HRA.out, ← HO2.out] at HRDA
  rw [HRB.out, ← HN2.out] at HRDB
  have HCM := hid (show rowsCmp r2.old r2.new = rowsCmp ra rb by rw [HO2.out, HN2.out, plain_rows])
  have HKM := hid (show rowKey r2.new = rowKey rb by rw [HN2.out, plain_key])
  have hlc : r2.old.length ≤ 6 := by rw [HO2.out, List.length_map]; exact hla
  have hld : r2.new.length ≤ 6 := by rw [HN2.out, List.length_map]; exact hlb
  clear HRA HRB HO2 HN2
  generalize rowBytes ra = ba at *
  generalize rowBytes rb = bb at *
  generalize r2.old = PA at *
  generalize r2.new = PB at *
  obtain ⟨p3, p4⟩ : W10.cell? ⟨d, 3, none⟩ = some (.slice a5 ra.length c5) ∧ W10.cell? ⟨d, 4, none⟩ = some (.slice a6 rb.length c6) := ⟨B5.out.cell 3, B5.out.cell 4⟩
  go_upto_region 7 with (first
    | (go_at_call 10; refine HYA.out.mono ?_; rintro e w11 ⟨rfl, f⟩; have G1 := hid f; clear f)
    | (go_at_call 9; refine (HRDA.out _).mono ?_; rintro e w12 ⟨vx, rfl, hr, f⟩; have HX := hid (own_sl hr.own (fun k hk => hr.lt hk) : Sl (fun k => k < w12.heap.size) w12 _ _ _); have G2 := hid (G1.out.trans f (fun _ h _ => h)); clear hr f))
  have p4 := cell_fr p4 G2.out (fun h => h)
  clear p3 HYA HRDA G1
  go_upto_region 8 with (first
    | (go_at_call 10; refine (HBB.out _ G2.out).mono ?_; rintro e w13 ⟨rfl, f⟩; have G3 := hid f; clear f)
    | (go_at_call 9; refine (HRDB.out _).mono ?_; rintro e w14 ⟨vy, rfl, hr, f⟩; have HY := hid (own_sl hr.own (fun k hk => hr.lt hk) : Sl (fun k => k < w14.heap.size) w14 _ _ _); have G4 := hid (G3.out.trans f (fun _ h _ => h)); clear hr f))
  have HS := hid (show RS w w14 d q ra rb PA PB (.slice a5 ra.length c5) (.slice a6 rb.length c6) (.slice b1 PA.length d1) (.slice b2 PB.length d2) vx vy from by
    have G := G2.out.trans G4.out (fun _ h _ => h)
    exact ⟨cell_fr (B5.out.cell 3) G (fun h => h), cell_fr (B5.out.cell 4) G (fun h => h), cell_fr (BP.out.cell 3) G (fun h => h), cell_fr (BP.out.cell 4) G (fun h => h), sl_on HA.out G, sl_on HB.out G, sl_on HC.out G, sl_on HD.out G, sl_on HX.out G4.out, HY.out, HGW.out.fre G, F10.out.trans G (fun _ h _ => h)⟩)
  clear HA HB HC HD HX HY HGW F10 BP B5 G2 G3 G4 p4 HBB HRDB HVA HVB
  replace HS := hid (HS.out.fre ((Fr.refl (fun _ => False) w14).drew))
  have HSX := hid (fun (W : World) (h : RS w W d q ra rb PA PB (.slice a5 ra.length c5) (.slice a6 rb.length c6) (.slice b1 PA.length d1) (.slice b2 PB.length d2) vx vy) => rfSame_go h.c h.x (by omega) (by omega))
  have HSY := hid (fun (W : World) (h : RS w W d q ra rb PA PB (.slice a5 ra.length c5) (.slice a6 rb.length c6) (.slice b1 PA.length d1) (.slice b2 PB.length d2) vx vy) => rfSame_go h.d h.y (by omega) (by omega))
  have HR1 := hid (fun (W : World) (h : RS w W d q ra rb PA PB (.slice a5 ra.length c5) (.slice a6 rb.length c6) (.slice b1 PA.length d1) (.slice b2 PB.length d2) vx vy) => VRows_go h.c h.d (by omega) (by omega) h.gv.kn)
  have HR2 := hid (fun (W : World) (h : RS w W d q ra rb PA PB (.slice a5 ra.length c5) (.slice a6 rb.length c6) (.slice b1 PA.length d1) (.slice b2 PB.length d2) vx vy) => VRows_go h.a h.b (by omega) (by omega) h.gv.kn)
  have HK1 := hid (fun (W : World) (h : RS w W d q ra rb PA PB (.slice a5 ra.length c5) (.slice a6 rb.length c6) (.slice b1 PA.length d1) (.slice b2 PB.length d2) vx vy) => VKey_go h.d (fun _ h => h) (by omega) h.gv.ml)
  have HK2 := hid (fun (W : World) (h : RS w W d q ra rb PA PB (.slice a5 ra.length c5) (.slice a6 rb.length c6) (.slice b1 PA.length d1) (.slice b2 PB.length d2) vx vy) => VKey_go h.b (fun _ h => h) (by omega) h.gv.ml)
  rw [HCM.out] at HR1
  rw [HKM.out] at HK1
  rw [decide_eq_true (rfl : PA = PA)] at HSX
  rw [decide_eq_true (rfl : PB = PB)] at HSY
  clear HCM HKM
  generalize rowsCmp ra rb = z at *
  generalize rowKey rb = kk at *
  refine wp_region_scr (.take 0 (.take 1 (.take 2 (.take 3 (.take 4 (.take 5 (.take 6 (.take 7 (.take 8 (.take 9 (.take 10 (.take 11 (.take 12 (.take 13 (.take 14 (.take 15 (.take 16 (.op 17 (.take 18 (.take 19 (.take 20 (.take 21 (.take 22 (.op 23 (.take 24 (.take 25 (.take 26 (.take 27 (.take 28 (.take 29 (.take 31 (.take 32 (.take 33 (.take 34 (.op 30 (.op 35 (.take 36 (.take 37 (.take 38 (.take 39 (.take 40 (.take 42 (.take 43 (.op 41 (.op 44 (.take 45 (.take 46 (.take 47 .done)))))))))))))))))))))))))))))))))))))))))))))))) (fun kz w => (kz ≤ 47 → w.cell? ⟨d, 3, none⟩ = some (.slice a5 ra.length c5) ∧ w.cell? ⟨d, 4, none⟩ = some (.slice a6 rb.length c6) ∧ w.cell? ⟨q, 3, none⟩ = some (.slice b1 PA.length d1) ∧ w.cell? ⟨q, 4, none⟩ = some (.slice b2 PB.length d2)) ∧ True) (by kernel_rfl) (by kernel_rfl) (by intro c a d v w h; cases d <;> exact h) ?_
  repeat
    first
    | (refine wpT_pure rfl rfl rfl ?_; apply Exists.intro; refine ⟨?_, ?_⟩; intro w; (first | (obtain ⟨qa1, qa2, qa3, qa4⟩ := qa; go_simp <;> rfl) | (go_simp <;> rfl)); simp only [Act.put, List.setIfInBounds_toArray, List.set_cons_zero, List.set_cons_succ])
    | (refine wpT_take 47 rfl rfl (by decide +kernel) ⟨fun _ => RS.cells HS.out, trivial⟩ ?_; apply Exists.intro; refine ⟨?_, ?_⟩; intro w hw; (have qa := hw.1 (Nat.le_refl _); have qb := hw.2); (first | (obtain ⟨qa1, qa2, qa3, qa4⟩ := qa; go_simp <;> rfl) | (go_simp <;> rfl)); simp only [Act.put, List.setIfInBounds_toArray, List.set_cons_zero, List.set_cons_succ])
    | (refine wpT_skip rfl rfl ?_; simp only [Act.put, List.setIfInBounds_toArray, List.set_cons_zero, List.set_cons_succ])
  refine wpT_op rfl ?_
  go_wp2_with ((go_at_call 11; refine (HSX.out _ HS.out).mono ?_; rintro e w_ ⟨rfl, f⟩; replace HS := hid (HS.out.fre f); clear f))
  (refine ⟨?_, ?_⟩; focus (intro kz hk hk2 hh; first | (exfalso; simp at hk2; omega) | exact hh | exact (fun h => absurd h (by omega)) | obtain ⟨qa, qb⟩ := hh; first | exact ⟨qa, qb⟩ | (refine ⟨fun h => absurd h (by omega), ?_⟩; first | exact qb | (exact RS.cells HS.out)) | (refine ⟨fun h => ?_, ?_⟩; (have qa := qa h); all_goals (first | exact qa | exact qb | (exact RS.cells HS.out)))))
  repeat
    first
    | (refine wpT_pure rfl rfl rfl ?_; apply Exists.intro; refine ⟨?_, ?_⟩; intro w; (first | (obtain ⟨qa1, qa2, qa3, qa4⟩ := qa; go_simp <;> rfl) | (go_simp <;> rfl)); simp only [Act.put, List.setIfInBounds_toArray, List.set_cons_zero, List.set_cons_succ])
    | (refine wpT_take 47 rfl rfl (by decide +kernel) ⟨fun _ => RS.cells HS.out, trivial⟩ ?_; apply Exists.intro; refine ⟨?_, ?_⟩; intro w hw; (have qa := hw.1 (Nat.le_refl _); have qb := hw.2); (first | (obtain ⟨qa1, qa2, qa3, qa4⟩ := qa; go_simp <;> rfl) | (go_simp <;> rfl)); simp only [Act.put, List.setIfInBounds_toArray, List.set_cons_zero, List.set_cons_succ])
    | (refine wpT_skip rfl rfl ?_; simp only [Act.put, List.setIfInBounds_toArray, List.set_cons_zero, List.set_cons_succ])
  refine wpT_op rfl ?_
  go_wp2_with ((go_at_call 11; refine (HSY.out _ HS.out).mono ?_; rintro e w_ ⟨rfl, f⟩; replace HS := hid (HS.out.fre f); clear f))
  (refine ⟨?_, ?_⟩; focus (intro kz hk hk2 hh; first | (exfalso; simp at hk2; omega) | exact hh | exact (fun h => absurd h (by omega)) | obtain ⟨qa, qb⟩ := hh; first | exact ⟨qa, qb⟩ | (refine ⟨fun h => absurd h (by omega), ?_⟩; first | exact qb | (exact RS.cells HS.out)) | (refine ⟨fun h => ?_, ?_⟩; (have qa := qa h); all_goals (first | exact qa | exact qb | (exact RS.cells HS.out)))))
  repeat
    first
    | (refine wpT_pure rfl rfl rfl ?_; apply Exists.intro; refine ⟨?_, ?_⟩; intro w; (first | (obtain ⟨qa1, qa2, qa3, qa4⟩ := qa; go_simp <;> rfl) | (go_simp <;> rfl)); simp only [Act.put, List.setIfInBounds_toArray, List.set_cons_zero, List.set_cons_succ])
    | (refine wpT_take 47 rfl rfl (by decide +kernel) ⟨fun _ => RS.cells HS.out, trivial⟩ ?_; apply Exists.intro; refine ⟨?_, ?_⟩; intro w hw; (have qa := hw.1 (Nat.le_refl _); have qb := hw.2); (first | (obtain ⟨qa1, qa2, qa3, qa4⟩ := qa; go_simp <;> rfl) | (go_simp <;> rfl)); simp only [Act.put, List.setIfInBounds_toArray, List.set_cons_zero, List.set_cons_succ])
    | (refine wpT_skip rfl rfl ?_; simp only [Act.put, List.setIfInBounds_toArray, List.set_cons_zero, List.set_cons_succ])
  refine wpT_op rfl ?_
  go_wp2_with ((go_at_call 12; refine (HR1.out _ HS.out).mono ?_; rintro e w_ ⟨rfl, f⟩; replace HS := hid (HS.out.fre f); clear f))
  (refine ⟨?_, ?_⟩; focus (intro kz hk hk2 hh; first | (exfalso; simp at hk2; omega) | exact hh | exact (fun h => absurd h (by omega)) | obtain ⟨qa, qb⟩ := hh; first | exact ⟨qa, qb⟩ | (refine ⟨fun h => absurd h (by omega), ?_⟩; first | exact qb | (exact RS.cells HS.out)) | (refine ⟨fun h => ?_, ?_⟩; (have qa := qa h); all_goals (first | exact qa | exact qb | (exact RS.cells HS.out)))))
  repeat
    first
    | (refine wpT_pure rfl rfl rfl ?_; apply Exists.intro; refine ⟨?_, ?_⟩; intro w; (first | (obtain ⟨qa1, qa2, qa3, qa4⟩ := qa; go_simp <;> rfl) | (go_simp <;> rfl)); simp only [Act.put, List.setIfInBounds_toArray, List.set_cons_zero, List.set_cons_succ])
    | (refine wpT_take 47 rfl rfl (by decide +kernel) ⟨fun _ => RS.cells HS.out, trivial⟩ ?_; apply Exists.intro; refine ⟨?_, ?_⟩; intro w hw; (have qa := hw.1 (Nat.le_refl _); have qb := hw.2); (first | (obtain ⟨qa1, qa2, qa3, qa4⟩ := qa; go_simp <;> rfl) | (go_simp <;> rfl)); simp only [Act.put, List.setIfInBounds_toArray, List.set_cons_zero, List.set_cons_succ])
    | (refine wpT_skip rfl rfl ?_; simp only [Act.put, List.setIfInBounds_toArray, List.set_cons_zero, List.set_cons_succ])
  refine wpT_op rfl ?_
  go_wp2_with ((go_at_call 12; refine (HR2.out _ HS.out).mono ?_; rintro e w_ ⟨rfl, f⟩; replace HS := hid (HS.out.fre f); clear f))
  (refine ⟨?_, ?_⟩; focus (intro kz hk hk2 hh; first | (exfalso; simp at hk2; omega) | exact hh | exact (fun h => absurd h (by omega)) | obtain ⟨qa, qb⟩ := hh; first | exact ⟨qa, qb⟩ | (refine ⟨fun h => absurd h (by omega), ?_⟩; first | exact qb | (exact RS.cells HS.out)) | (refine ⟨fun h => ?_, ?_⟩; (have qa := qa h); all_goals (first | exact qa | exact qb | (exact RS.cells HS.out)))))
  repeat
    first
    | (refine wpT_pure rfl rfl rfl ?_; apply Exists.intro; refine ⟨?_, ?_⟩; intro w; (first | (obtain ⟨qa1, qa2, qa3, qa4⟩ := qa; go_simp <;> rfl) | (go_simp <;> rfl)); simp only [Act.put, List.setIfInBounds_toArray, List.set_cons_zero, List.set_cons_succ])
    | (refine wpT_take 47 rfl rfl (by decide +kernel) ⟨fun _ => RS.cells HS.out, trivial⟩ ?_; apply Exists.intro; refine ⟨?_, ?_⟩; intro w hw; (have qa := hw.1 (Nat.le_refl _); have qb := hw.2); (first | (obtain ⟨qa1, qa2, qa3, qa4⟩ := qa; go_simp <;> rfl) | (go_simp <;> rfl)); simp only [Act.put, List.setIfInBounds_toArray, List.set_cons_zero, List.set_cons_succ])
    | (refine wpT_skip rfl rfl ?_; simp only [Act.put, List.setIfInBounds_toArray, List.set_cons_zero, List.set_cons_succ])
  refine wpT_op rfl ?_
  go_wp2_with ((go_at_call 13; refine (HK1.out _ HS.out).mono ?_; rintro e w_ ⟨rfl, f⟩; replace HS := hid (HS.out.fre f); clear f))
  (refine ⟨?_, ?_⟩; focus (intro kz hk hk2 hh; first | (exfalso; simp at hk2; omega) | exact hh | exact (fun h => absurd h (by omega)) | obtain ⟨qa, qb⟩ := hh; first | exact ⟨qa, qb⟩ | (refine ⟨fun h => absurd h (by omega), ?_⟩; first | exact qb | (exact RS.cells HS.out)) | (refine ⟨fun h => ?_, ?_⟩; (have qa := qa h); all_goals (first | exact qa | exact qb | (exact RS.cells HS.out)))))
  repeat
    first
    | (refine wpT_pure rfl rfl rfl ?_; apply Exists.intro; refine ⟨?_, ?_⟩; intro w; (first | (obtain ⟨qa1, qa2, qa3, qa4⟩ := qa; go_simp <;> rfl) | (go_simp <;> rfl)); simp only [Act.put, List.setIfInBounds_toArray, List.set_cons_zero, List.set_cons_succ])
    | (refine wpT_take 47 rfl rfl (by decide +kernel) ⟨fun _ => RS.cells HS.out, trivial⟩ ?_; apply Exists.intro; refine ⟨?_, ?_⟩; intro w hw; (have qa := hw.1 (Nat.le_refl _); have qb := hw.2); (first | (obtain ⟨qa1, qa2, qa3, qa4⟩ := qa; go_simp <;> rfl) | (go_simp <;> rfl)); simp only [Act.put, List.setIfInBounds_toArray, List.set_cons_zero, List.set_cons_succ])
    | (refine wpT_skip rfl rfl ?_; simp only [Act.put, List.setIfInBounds_toArray, List.set_cons_zero, List.set_cons_succ])
  refine wpT_op rfl ?_
  go_wp2_with ((go_at_call 13; refine (HK2.out _ HS.out).mono ?_; rintro e w_ ⟨rfl, f⟩; replace HS := hid (HS.out.fre f); clear f))
  (refine ⟨?_, ?_⟩; focus (intro kz hk hk2 hh; first | (exfalso; simp at hk2; omega) | exact hh | exact (fun h => absurd h (by omega)) | obtain ⟨qa, qb⟩ := hh; first | exact ⟨qa, qb⟩ | (refine ⟨fun h => absurd h (by omega), ?_⟩; first | exact qb | (exact RS.cells HS.out)) | (refine ⟨fun h => ?_, ?_⟩; (have qa := qa h); all_goals (first | exact qa | exact qb | (exact RS.cells HS.out)))))
  repeat
    first
    | (refine wpT_pure rfl rfl rfl ?_; apply Exists.intro; refine ⟨?_, ?_⟩; intro w; (first | (obtain ⟨qa1, qa2, qa3, qa4⟩ := qa; go_simp <;> rfl) | (go_simp <;> rfl)); simp only [Act.put, List.setIfInBounds_toArray, List.set_cons_zero, List.set_cons_succ])
    | (refine wpT_take 47 rfl rfl (by decide +kernel) ⟨fun _ => RS.cells HS.out, trivial⟩ ?_; apply Exists.intro; refine ⟨?_, ?_⟩; intro w hw; (have qa := hw.1 (Nat.le_refl _); have qb := hw.2); (first | (obtain ⟨qa1, qa2, qa3, qa4⟩ := qa; go_simp <;> rfl) | (go_simp <;> rfl)); simp only [Act.put, List.setIfInBounds_toArray, List.set_cons_zero, List.set_cons_succ])
    | (refine wpT_skip rfl rfl ?_; simp only [Act.put, List.setIfInBounds_toArray, List.set_cons_zero, List.set_cons_succ])
  refine wpT_nil ?_
  go_wp2_with (fail)
  go_ret
  exact ⟨rfl, HS.out.fr⟩
end Go.Proofs.YtfhkmiifndhacaaDoor
