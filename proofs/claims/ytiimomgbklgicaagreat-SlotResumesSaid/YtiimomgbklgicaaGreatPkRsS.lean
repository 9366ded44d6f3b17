import Derived.Test.YtiimomgbklgicaaGreatPkRsR
set_option linter.unusedVariables false
namespace Go.VB.Slt
open Go.VB Go.VB.Oct Go.VB.Cat Go.VB.Rec
/-- what a slot reads of a record -/
structure Rc where
  kind : Int
  xid : Int
  table : Int
  old : List V
  new : List V
  xids : List Int
  note : Bs
structure RecV where
  r : Rc
  vo : Value
  vn : Value
  ve : Value
  vx : Value
def RecV.cells (r : RecV) : List Value := [.int .i64 r.r.kind, .int .i64 r.r.xid, .int .i64 r.r.table, r.vo, r.vn, r.ve, r.vx, .string (bs r.r.note)]
/-- the change of a record, told by its table t -/
def chgM (t : Tab) (r : Rc) : Chg := ⟨r.kind, t.name, t.cols.map Col.name, r.old, r.new⟩
end Go.VB.Slt
namespace Go.Proofs.YtiimomgbklgicaaGreat
open Go.RowKit Go.VB Go.VB.Oct Go.VB.Cat Go.VB.Rec Go.VB.Slt
/-- a record's slices, to be read -/
structure RecS (P : Nat → Prop) (W : World) (r : RecV) : Prop where
  o : Sl P W r.vo r.r.old.length (r.r.old.flatMap V.cells)
  n : Sl P W r.vn r.r.new.length (r.r.new.flatMap V.cells)
  x : Sl P W r.vx r.r.xids.length (r.r.xids.flatMap icell)
  e : ∃ a n c, r.ve = .slice a n c
  lo : r.r.old.length ≤ 1048576
  ln : r.r.new.length ≤ 1048576
  lx : r.r.xids.length ≤ 1048576
theorem RecS.fr {P U : Nat → Prop} {W W' : World} {r : RecV} (h : RecS P W r) (f : Fr U W W') (hU : ∀ k, P k → ¬ U k) : RecS P W' r := ⟨h.o.fr f hU, h.n.fr f hU, h.x.fr f hU, h.e, h.lo, h.ln, h.lx⟩
theorem RecS.fre {P : Nat → Prop} {W W' : World} {r : RecV} (h : RecS P W r) (f : Fr (fun _ => False) W W') : RecS P W' r := h.fr f (fun _ _ h => h)
theorem size_tab4 : (Tryz.prog.info? 175).map (·.size) = some 4 := by kernel_rfl
theorem last_at {v : SltV} (h : v.ts ≠ []) : ∃ (n : Nat) (t : TimV), v.ts.length = n + 1 ∧ v.ts[n]? = some t ∧ v.ts.getLast? = some t ∧ t ∈ v.ts := by
  refine ⟨v.ts.length - 1, v.ts.getLast h, by have := List.length_pos_iff.2 h; omega, ?_, List.getLast?_eq_some_getLast h, List.getLast_mem h⟩
  rw [List.getLast_eq_getElem]
  exact List.getElem?_eq_getElem _
theorem at_cols {m : List Tab} (ok : Ok m) (x : Int) : (atM m x).1.cols.length ≤ 6 := by
  unfold atM
  split
  · split
    · rename_i t ht
      exact (ok.tab t (List.mem_of_getElem? ht)).le
    · exact Nat.zero_le _
  · exact Nat.zero_le _
/-- the walk's blocks: the record's, the result's, the table's -/
structure CG (w0 W : World) (d dt : Nat) (rc zc tc : List Value) (t : TabV) : Prop where
  bd : Blk W d rc 35
  bz : Blk W (d + 1) zc 80
  bt : Blk W dt tc 175
  o : TabO (fun k => w0.heap.size ≤ k) W t
  f : Fr (fun _ => False) w0 W
  lt : d + 1 < dt
theorem CG.fre {w0 W W' : World} {d dt : Nat} {rc zc tc : List Value} {t : TabV} (h : CG w0 W d dt rc zc tc t) (f : Fr (fun _ => False) W W') : CG w0 W' d dt rc zc tc t :=
  ⟨h.bd.fr f (fun h => h), h.bz.fr f (fun h => h), h.bt.fr f (fun h => h), h.o.fr f (fun _ _ h => h), h.f.trans f (fun _ h _ => h), h.lt⟩
theorem CG.off {w0 W W' : World} {d dt dc : Nat} {rc zc tc l : List Value} {t : TabV} (h : CG w0 W d dt rc zc tc t) (hb : Blk W dc l 80) (h1 : d + 1 < dc) (h2 : dt < dc) (f : Fr (fun k => k = dc) W W') (h3 : w0.heap.size ≤ d) : CG w0 W' d dt rc zc tc t := by
  refine ⟨h.bd.fr f (by omega), h.bz.fr f (by omega), h.bt.fr f (by omega), ?_, h.f.trans f (fun k hk hl => by omega), h.lt⟩
  exact ⟨h.o.c.fr f (fun k hk e => h.o.c.ne hb (by decide) k hk e), h.o.cS, h.o.i.fr f (fun k hk e => h.o.i.ne hb (by decide) k hk e), h.o.iS, h.o.e, fun x hx => ⟨(h.o.x x hx).1.fr f (fun k hk e => (h.o.x x hx).1.ne hb (by decide) k hk e), (h.o.x x hx).2⟩⟩
theorem TabO.offB {S : Nat → Prop} {W W' : World} {t : TabV} {d : Nat} {l : List Value} (h : TabO S W t) (hb : Blk W d l 175) (f : Fr (fun k => k = d) W W') : TabO S W' t :=
  ⟨h.c.fr f (fun k hk e => h.c.ne hb (by decide) k hk e), h.cS, h.i.fr f (fun k hk e => h.i.ne hb (by decide) k hk e), h.iS, h.e, fun x hx => ⟨(h.x x hx).1.fr f (fun k hk e => (h.x x hx).1.ne hb (by decide) k hk e), (h.x x hx).2⟩⟩
set_option maxRecDepth 20000 in
set_option maxHeartbeats 8000000 in
theorem change_go {S C P : Nat → Prop} {w : World} {s : Nat} {v : SltV} (h : SlO S C w s v) (hl : v.ts.length ≤ 1099511627776) {r : RecV} (hr : RecS P w r) (hx : -9223372036854775808 ≤ r.r.table ∧ r.r.table ≤ 9223372036854775807) {tl : TimV} (htl : v.ts.getLast? = some tl) :
    Calls Tryz.prog 58 #[.pointer (some ⟨s, 0, none⟩), .agg r.cells.toArray] w fun e w' => ∃ vn vo vw, e = .returned (.agg (ChgV.mk (chgM (atM tl.m r.r.table).1 r.r) vn vo vw).cells.toArray) ∧ ChgR w.heap.size w' ⟨chgM (atM tl.m r.r.table).1 r.r, vn, vo, vw⟩ ∧ Fr (fun _ => False) w w' := by
  obtain ⟨n, tl', hn, hat, hlast, hmem⟩ := last_at h.tne
  obtain rfl : tl' = tl := Option.some.inj (hlast.symm.trans htl)
  have H0 := hid h
  have HR := hid hr
  have HX := hid hx
  obtain ⟨av, cv, et, -⟩ := h.t.slice
  have ht := h.t
  rw [et] at ht
  have hnl : n < v.ts.length := by omega
  obtain ⟨g, o, hg, -, hcell⟩ := slK (k := 2) (f := TimV.cells) (by decide) (fun _ => rfl) (ht.sl' (R := fun _ => True) (fun _ _ => trivial)) hnl
  have hc1 := hcell 1 (by decide)
  have e2 : v.ts[n] = tl' := by rw [List.getElem?_eq_getElem hnl] at hat; exact Option.some.inj hat
  rw [e2] at hc1
  subst hg
  rw [hn] at et
  have HC1 := hid (show w.cell? ⟨g, o + n * 2 + 1, none⟩ = some (.pointer (some ⟨tl'.c, 0, none⟩)) from hc1)
  have HET := hid et
  have HCR := hid (h.tc tl' hmem)
  have hn40 : n ≤ 1099511627776 := by omega
  clear ht hcell hc1 e2 hnl hat hlast htl hmem et h hr hx hn hl
  obtain ⟨⟨kind, xid, table, old, new, xids, note⟩, vo, vn, ve, vx⟩ := r
  obtain ⟨ao, co, e1, -, -⟩ := HR.out.o
  obtain ⟨an, cn, e2, -, -⟩ := HR.out.n
  obtain ⟨ax, cx, e3, -, -⟩ := HR.out.x
  obtain ⟨ae, ne, ce, e4⟩ := HR.out.e
  dsimp only at e1 e2 e3 e4
  subst e1 e2 e3 e4
  obtain ⟨m, hm⟩ : ∃ m, tl'.m = m := ⟨_, rfl⟩
  obtain ⟨c, hc⟩ : ∃ c, tl'.c = c := ⟨_, rfl⟩
  rw [hm, hc] at HCR
  rw [hm]
  rw [hc] at HC1
  clear hm hc
  unfold RecV.cells
  dsimp only
  have fa := ((Fr.refl (fun _ => False) w).alloc (.cells #[.int .i64 kind, .int .i64 xid, .int .i64 table, .slice ao old.length co, .slice an new.length cn, .slice ae ne ce, .slice ax xids.length cx, .string (bs note)] 35)).alloc (.cells #[.int .i64 0, .string ⟨#[]⟩, .slice none 0 0, .slice none 0 0, .slice none 0 0] 80)
  have D0 := hid ((Blk.new w [.int .i64 kind, .int .i64 xid, .int .i64 table, .slice ao old.length co, .slice an new.length cn, .slice ae ne ce, .slice ax xids.length cx, .string (bs note)] 35).alloc (.cells #[.int .i64 0, .string ⟨#[]⟩, .slice none 0 0, .slice none 0 0, .slice none 0 0] 80))
  have Z0 := hid (Blk.new (w.alloc (.cells #[.int .i64 kind, .int .i64 xid, .int .i64 table, .slice ao old.length co, .slice an new.length cn, .slice ae ne ce, .slice ax xids.length cx, .string (bs note)] 35)) [.int .i64 0, .string ⟨#[]⟩, .slice none 0 0, .slice none 0 0, .slice none 0 0] 80)
  simp only [World.size_alloc] at Z0
  have F0 := hid fa
  clear fa
  go_enter Tryz.func58, Tryz.ntmps58
  go_upto_region 1 with fail
  obtain ⟨d, hd⟩ : ∃ d, d = w.heap.size := ⟨_, rfl⟩
  rw [← hd] at D0 Z0 ⊢
  have HDE := hid hd
  clear hd
  generalize (w.alloc _).alloc _ = W0 at *
  have HWA := hid (show wrap64 (((n + 1 : Nat) : Int) - 1) = (n : Int) from by unfold wrap64; omega)
  have HWB := hid (show IntKind.i64.wrap (((n + 1 : Nat) : Int) - 1) = (n : Int) from by rw [IntKind.wrap_i64]; omega)
  have n0 : (0 : Int) ≤ (n : Int) := by omega
  have n1 : (n : Int) < ((n + 1 : Nat) : Int) := by omega
  obtain ⟨N, hN⟩ : ∃ N, N = n + 1 := ⟨_, rfl⟩
  rw [← hN] at HWA HWB HET n1
  have HNN := hid hN
  clear hN
  go_cut [5, 6] (fun s5 s6 wx => ∃ (dt : Nat) (tm : Tab) (a1 : Option Addr) (d1 : Nat) (a2 : Option Addr) (d2 : Nat) (ix : List IxV), s5 = .pointer (some ⟨dt, 0, none⟩) ∧ tm = (atM m table).1 ∧ Blk wx dt [.int .i64 tm.id, .string (bs tm.name), .slice a1 tm.cols.length d1, .slice a2 ix.length d2] 175 ∧ TabO (fun k => w.heap.size ≤ k) wx ⟨tm, .slice a1 tm.cols.length d1, .slice a2 ix.length d2, ix⟩ ∧ Blk wx d [.int .i64 kind, .int .i64 xid, .int .i64 table, .slice ao old.length co, .slice an new.length cn, .slice ae ne ce, .slice ax xids.length cx, .string (bs note)] 35 ∧ Blk wx (d + 1) [.int .i64 0, .string ⟨#[]⟩, .slice none 0 0, .slice none 0 0, .slice none 0 0] 80 ∧ d + 1 < dt ∧ Fr (fun _ => False) w wx)
  case first =>
    have fd := (Fr.refl (fun _ => False) W0).drew
    have D1 := hid (Blk.fr D0.out fd (fun h => h))
    have Z1 := hid (Blk.fr Z0.out fd (fun h => h))
    have F1 := hid (F0.out.trans fd (fun _ h _ => h))
    have HS3 := hid (show W0.drew.cell? ⟨s, 3, none⟩ = some (.slice (some ⟨g, o, none⟩) N cv) from by rw [← HET.out]; exact (H0.out.fre F1.out).b.cell 3)
    have HC11 := hid (cell_fr HC1.out F1.out (fun h => h))
    clear fd D0 Z0 F0
    refine wp_region_scr (.take 0 (.take 1 (.take 2 (.take 3 (.take 4 (.take 5 (.take 6 (.take 7 (.take 8 (.take 9 (.take 10 (.take 11 (.take 12 (.take 13 (.take 14 (.two 15 19 (.take 16 (.take 17 (.take 18 (.op 19 (.op 20 (.take 21 .done)))))) (.op 15 (.take 16 (.take 17 (.take 18 (.op 20 (.take 21 .done)))))))))))))))))))))) (fun kz w => (kz ≤ 20 → w.cell? ⟨s, 3, none⟩ = some (.slice (some ⟨g, o, none⟩) N cv) ∧ w.cell? ⟨g, o + n * 2 + 1, none⟩ = some (.pointer (some ⟨c, 0, none⟩)) ∧ w.cell? ⟨d, 2, none⟩ = some (.int .i64 table)) ∧ Hid True) (by kernel_rfl) (by kernel_rfl) (by intro c a d v w h; cases d <;> exact h) ?_
    repeat
      first
      | (refine wpT_pure rfl rfl rfl ?_; apply Exists.intro; refine ⟨?_, ?_⟩; intro w; (first | (first | (refine Eq.trans (b := Result.ok (Next.value (.int .i64 (n : Int))) w) ?_ rfl; go_simp; first | exact HWB.out | rw [HWB.out] | exact HWA.out | rw [HWA.out]) | (obtain ⟨qa1, qa2, qa3⟩ := qa; go_simp <;> rfl)) | (go_simp <;> rfl)); simp only [Act.put, List.setIfInBounds_toArray, List.set_cons_zero, List.set_cons_succ])
      | (refine wpT_take 20 rfl rfl (by decide +kernel) ⟨fun _ => ⟨HS3.out, HC11.out, D1.out.cell 2⟩, hid trivial⟩ ?_; apply Exists.intro; refine ⟨?_, ?_⟩; intro w hw; (have qa := hw.1 (Nat.le_refl _); have qb := hw.2); (first | (first | (refine Eq.trans (b := Result.ok (Next.value (.int .i64 (n : Int))) w) ?_ rfl; go_simp; first | exact HWB.out | rw [HWB.out] | exact HWA.out | rw [HWA.out]) | (obtain ⟨qa1, qa2, qa3⟩ := qa; go_simp <;> rfl)) | (go_simp <;> rfl)); simp only [Act.put, List.setIfInBounds_toArray, List.set_cons_zero, List.set_cons_succ])
      | (refine wpT_skip rfl rfl ?_; simp only [Act.put, List.setIfInBounds_toArray, List.set_cons_zero, List.set_cons_succ])
    generalize W0.drew = W1 at *
    refine wpT_two ?_ ?_
    focus
      have HAT := hid (At_go (HCR.out.1.fre F1.out) HCR.out.2 table (HX.out))
      unfold TabV.agg TabV.cells at HAT
      refine wpT_op rfl ?_
      go_wp2_with ((go_at_call 112; refine HAT.out.mono ?_; rintro e w2 ⟨⟨tm, vc1, vi1, ix⟩, rfl, etm, ho, f⟩; dsimp only at etm; obtain ⟨b1, d1, q1, _⟩ := ho.c.slice; obtain ⟨b2, d2, q2, _⟩ := ho.i.slice; dsimp only at q1 q2; subst q1 q2; have HTM := hid etm; have HTO := hid (ho.mono (fun k hk => Nat.le_trans F1.out.size hk)); have G2 := hid (F1.out.trans f (fun _ h _ => h)); have D2 := hid (Blk.fr D1.out f (fun h => h)); have Z2 := hid (Blk.fr Z1.out f (fun h => h)); have S2 := hid (cell_fr HS3.out f (fun h => h)); have C2 := hid (cell_fr HC11.out f (fun h => h)); clear ho f etm))
      (refine ⟨?_, ?_⟩; focus (intro kz hk hk2 hh; first | (exfalso; simp at hk2; omega) | exact hh | exact (fun h => absurd h (by omega)) | obtain ⟨qa, qb⟩ := hh; first | exact ⟨qa, qb⟩ | (refine ⟨fun h => absurd h (by omega), ?_⟩; first | exact qb | (exact ⟨S2.out, C2.out, D2.out.cell 2⟩)) | (refine ⟨fun h => ?_, ?_⟩; (have qa := qa h); all_goals (first | exact qa | exact qb | (exact ⟨S2.out, C2.out, D2.out.cell 2⟩)))))
      clear HAT D1 Z1 F1 HS3 HC11
      repeat
        first
        | (refine wpT_pure rfl rfl rfl ?_; apply Exists.intro; refine ⟨?_, ?_⟩; intro w; ((go_simp <;> rfl)); simp only [Act.put, List.setIfInBounds_toArray, List.set_cons_zero, List.set_cons_succ])
        | (refine wpT_take 20 rfl rfl (by decide +kernel) ⟨fun _ => ⟨S2.out, C2.out, D2.out.cell 2⟩, hid trivial⟩ ?_; apply Exists.intro; refine ⟨?_, ?_⟩; intro w hw; (have qa := hw.1 (Nat.le_refl _); have qb := hw.2); ((go_simp <;> rfl)); simp only [Act.put, List.setIfInBounds_toArray, List.set_cons_zero, List.set_cons_succ])
        | (refine wpT_skip rfl rfl ?_; simp only [Act.put, List.setIfInBounds_toArray, List.set_cons_zero, List.set_cons_succ])
      have fa := (Fr.refl (fun _ => False) w2).alloc (.cells #[.int .i64 0, .string ⟨#[]⟩, .slice none 0 0, .slice none 0 0] 175)
      have HZ3 := hid (Blk.new w2 [.int .i64 0, .string ⟨#[]⟩, .slice none 0 0, .slice none 0 0] 175)
      have HT3 := hid (HTO.out.fr fa (fun _ _ h => h))
      have D3 := hid (Blk.fr D2.out fa (fun h => h))
      have Z3 := hid (Blk.fr Z2.out fa (fun h => h))
      have F3 := hid (G2.out.trans fa (fun _ h _ => h))
      have S3 := hid (cell_fr S2.out fa (fun h => h))
      have C3 := hid (cell_fr C2.out fa (fun h => h))
      have HLT := hid (show d + 1 < w2.heap.size from Z2.out.lt)
      refine wpT_op rfl ?_
      go_wp2_with (fail)
      (refine ⟨?_, ?_⟩; focus (intro kz hk hk2 hh; first | (exfalso; simp at hk2; omega) | exact hh | exact (fun h => absurd h (by omega)) | obtain ⟨qa, qb⟩ := hh; first | exact ⟨qa, qb⟩ | (refine ⟨fun h => absurd h (by omega), ?_⟩; first | exact qb | (exact ⟨S3.out, C3.out, D3.out.cell 2⟩)) | (refine ⟨fun h => ?_, ?_⟩; (have qa := qa h); all_goals (first | exact qa | exact qb | (exact ⟨S3.out, C3.out, D3.out.cell 2⟩)))))
      clear fa HTO D2 Z2 G2 S2 C2 S3 C3
      generalize w2.heap.size = dt at *
      generalize w2.alloc _ = W3 at *
      have hth := HZ3.out.there 0 4 (by simp)
      have fz := (Fr.refl (fun k => k = dt) W3).put dt 0 [.int .i64 tm.id, .string (bs tm.name), .slice b1 tm.cols.length d1, .slice b2 ix.length d2] (fun _ => rfl)
      have HB4 := hid (show Blk (W3.setCells dt 0 [.int .i64 tm.id, .string (bs tm.name), .slice b1 tm.cols.length d1, .slice b2 ix.length d2]) dt [.int .i64 tm.id, .string (bs tm.name), .slice b1 tm.cols.length d1, .slice b2 ix.length d2] 175 from by
        have := HZ3.out.put 0 [.int .i64 tm.id, .string (bs tm.name), .slice b1 tm.cols.length d1, .slice b2 ix.length d2] (by simp)
        exact this)
      have HT4 := hid (HT3.out.offB HZ3.out fz)
      have D4 := hid (Blk.fr D3.out fz (fun e => by have := HLT.out; omega))
      have Z4 := hid (Blk.fr Z3.out fz (fun e => by have := HLT.out; omega))
      have F4 := hid (F3.out.trans fz (fun k hk hl => by have := HLT.out; have := HDE.out; omega))
      clear fz
      refine wpT_op rfl ?_
      refine wpList_store_mid rfl 175 (.tmp 5) (.tmp 27) rfl dt 0 ([.int .i64 tm.id, .string (bs tm.name), .slice b1 tm.cols.length d1, .slice b2 ix.length d2]).toArray rfl rfl hth size_tab4 (by simp [Value.oneCell']) ?_
      rw [List.toList_toArray]
      go_wp2_with (fail)
      refine ⟨fun kz hk hk2 hh => (by first | exact ⟨fun h => absurd h (by omega), hid trivial⟩ | exact hid trivial | exact fun h => absurd h (by omega)), ?_⟩
      clear hth
      repeat
        first
        | (refine wpT_pure rfl rfl rfl ?_; apply Exists.intro; refine ⟨?_, ?_⟩; intro w; ((go_simp <;> rfl)); simp only [Act.put, List.setIfInBounds_toArray, List.set_cons_zero, List.set_cons_succ])
        | (refine wpT_take 20 rfl rfl (by decide +kernel) ⟨fun h => absurd h (by omega), hid trivial⟩ ?_; apply Exists.intro; refine ⟨?_, ?_⟩; intro w hw; (have qa := hw.1 (Nat.le_refl _); have qb := hw.2); ((go_simp <;> rfl)); simp only [Act.put, List.setIfInBounds_toArray, List.set_cons_zero, List.set_cons_succ])
        | (refine wpT_skip rfl rfl ?_; simp only [Act.put, List.setIfInBounds_toArray, List.set_cons_zero, List.set_cons_succ])
      refine wpT_nil ?_
      go_wp2_with (fail)
      go_meet
      exact ⟨dt, tm, b1, d1, b2, d2, ix, rfl, HTM.out, HB4.out, HT4.out, D4.out, Z4.out, HLT.out, F4.out⟩
    focus
      have fa := (Fr.refl (fun _ => False) W1).alloc (.cells #[.int .i64 0, .string ⟨#[]⟩, .slice none 0 0, .slice none 0 0] 175)
      have HZ2 := hid (Blk.new W1 [.int .i64 0, .string ⟨#[]⟩, .slice none 0 0, .slice none 0 0] 175)
      have D2a := hid (Blk.fr D1.out fa (fun h => h))
      have Z2a := hid (Blk.fr Z1.out fa (fun h => h))
      have F2a := hid (F1.out.trans fa (fun _ h _ => h))
      have S2a := hid (cell_fr HS3.out fa (fun h => h))
      have C2a := hid (cell_fr HC11.out fa (fun h => h))
      have HLT := hid (show d + 1 < W1.heap.size from Z1.out.lt)
      refine wpT_op rfl ?_
      go_wp2_with (fail)
      (refine ⟨?_, ?_⟩; focus (intro kz hk hk2 hh; first | (exfalso; simp at hk2; omega) | exact hh | exact (fun h => absurd h (by omega)) | obtain ⟨qa, qb⟩ := hh; first | exact ⟨qa, qb⟩ | (refine ⟨fun h => absurd h (by omega), ?_⟩; first | exact qb | (exact ⟨S2a.out, C2a.out, D2a.out.cell 2⟩)) | (refine ⟨fun h => ?_, ?_⟩; (have qa := qa h); all_goals (first | exact qa | exact qb | (exact ⟨S2a.out, C2a.out, D2a.out.cell 2⟩)))))
      clear fa D1 Z1 F1 HS3 HC11
      generalize W1.heap.size = dt at *
      generalize W1.alloc _ = W2 at *
      have HAT := hid (At_go (HCR.out.1.fre F2a.out) HCR.out.2 table (HX.out))
      unfold TabV.agg TabV.cells at HAT
      refine wpT_op rfl ?_
      go_wp2_with ((go_at_call 112; refine HAT.out.mono ?_; rintro e w2 ⟨⟨tm, vc1, vi1, ix⟩, rfl, etm, ho, f⟩; dsimp only at etm; obtain ⟨b1, d1, q1, _⟩ := ho.c.slice; obtain ⟨b2, d2, q2, _⟩ := ho.i.slice; dsimp only at q1 q2; subst q1 q2; have HTM := hid etm; have HTO := hid (ho.mono (fun k hk => Nat.le_trans F2a.out.size hk)); have G2 := hid (F2a.out.trans f (fun _ h _ => h)); have D2 := hid (Blk.fr D2a.out f (fun h => h)); have Z2 := hid (Blk.fr Z2a.out f (fun h => h)); have S2 := hid (cell_fr S2a.out f (fun h => h)); have C2 := hid (cell_fr C2a.out f (fun h => h)); have HZ3 := hid (Blk.fr HZ2.out f (fun h => h)); clear ho f etm))
      (refine ⟨?_, ?_⟩; focus (intro kz hk hk2 hh; first | (exfalso; simp at hk2; omega) | exact hh | exact (fun h => absurd h (by omega)) | obtain ⟨qa, qb⟩ := hh; first | exact ⟨qa, qb⟩ | (refine ⟨fun h => absurd h (by omega), ?_⟩; first | exact qb | (exact ⟨S2.out, C2.out, D2.out.cell 2⟩)) | (refine ⟨fun h => ?_, ?_⟩; (have qa := qa h); all_goals (first | exact qa | exact qb | (exact ⟨S2.out, C2.out, D2.out.cell 2⟩)))))
      clear HAT D2a Z2a F2a S2a C2a HZ2
      repeat
        first
        | (refine wpT_pure rfl rfl rfl ?_; apply Exists.intro; refine ⟨?_, ?_⟩; intro w; ((go_simp <;> rfl)); simp only [Act.put, List.setIfInBounds_toArray, List.set_cons_zero, List.set_cons_succ])
        | (refine wpT_take 20 rfl rfl (by decide +kernel) ⟨fun _ => ⟨S2.out, C2.out, D2.out.cell 2⟩, hid trivial⟩ ?_; apply Exists.intro; refine ⟨?_, ?_⟩; intro w hw; (have qa := hw.1 (Nat.le_refl _); have qb := hw.2); ((go_simp <;> rfl)); simp only [Act.put, List.setIfInBounds_toArray, List.set_cons_zero, List.set_cons_succ])
        | (refine wpT_skip rfl rfl ?_; simp only [Act.put, List.setIfInBounds_toArray, List.set_cons_zero, List.set_cons_succ])
      have HT3 := HTO
      have D3 := D2
      have Z3 := Z2
      have F3 := G2
      clear HTO D2 Z2 G2 S2 C2
      generalize w2 = W3 at *
      have hth := HZ3.out.there 0 4 (by simp)
      have fz := (Fr.refl (fun k => k = dt) W3).put dt 0 [.int .i64 tm.id, .string (bs tm.name), .slice b1 tm.cols.length d1, .slice b2 ix.length d2] (fun _ => rfl)
      have HB4 := hid (show Blk (W3.setCells dt 0 [.int .i64 tm.id, .string (bs tm.name), .slice b1 tm.cols.length d1, .slice b2 ix.length d2]) dt [.int .i64 tm.id, .string (bs tm.name), .slice b1 tm.cols.length d1, .slice b2 ix.length d2] 175 from by
        have := HZ3.out.put 0 [.int .i64 tm.id, .string (bs tm.name), .slice b1 tm.cols.length d1, .slice b2 ix.length d2] (by simp)
        exact this)
      have HT4 := hid (HT3.out.offB HZ3.out fz)
      have D4 := hid (Blk.fr D3.out fz (fun e => by have := HLT.out; omega))
      have Z4 := hid (Blk.fr Z3.out fz (fun e => by have := HLT.out; omega))
      have F4 := hid (F3.out.trans fz (fun k hk hl => by have := HLT.out; have := HDE.out; omega))
      clear fz
      refine wpT_op rfl ?_
      refine wpList_store_mid rfl 175 (.tmp 5) (.tmp 27) rfl dt 0 ([.int .i64 tm.id, .string (bs tm.name), .slice b1 tm.cols.length d1, .slice b2 ix.length d2]).toArray rfl rfl hth size_tab4 (by simp [Value.oneCell']) ?_
      rw [List.toList_toArray]
      go_wp2_with (fail)
      refine ⟨fun kz hk hk2 hh => (by first | exact ⟨fun h => absurd h (by omega), hid trivial⟩ | exact hid trivial | exact fun h => absurd h (by omega)), ?_⟩
      clear hth
      repeat
        first
        | (refine wpT_pure rfl rfl rfl ?_; apply Exists.intro; refine ⟨?_, ?_⟩; intro w; ((go_simp <;> rfl)); simp only [Act.put, List.setIfInBounds_toArray, List.set_cons_zero, List.set_cons_succ])
        | (refine wpT_take 20 rfl rfl (by decide +kernel) ⟨fun h => absurd h (by omega), hid trivial⟩ ?_; apply Exists.intro; refine ⟨?_, ?_⟩; intro w hw; (have qa := hw.1 (Nat.le_refl _); have qb := hw.2); ((go_simp <;> rfl)); simp only [Act.put, List.setIfInBounds_toArray, List.set_cons_zero, List.set_cons_succ])
        | (refine wpT_skip rfl rfl ?_; simp only [Act.put, List.setIfInBounds_toArray, List.set_cons_zero, List.set_cons_succ])
      refine wpT_nil ?_
      go_wp2_with (fail)
      go_meet
      exact ⟨dt, tm, b1, d1, b2, d2, ix, rfl, HTM.out, HB4.out, HT4.out, D4.out, Z4.out, HLT.out, F4.out⟩
  case rest =>
    obtain ⟨dt, tm, b1, d1, b2, d2, ix, rfl, htm, hbt, hto, hbd, hbz, hlt, hf⟩ := hcut
    have HTM := hid htm
    have G0 := hid (CG.mk hbd hbz hbt hto hf hlt (rc := [.int .i64 kind, .int .i64 xid, .int .i64 table, .slice ao old.length co, .slice an new.length cn, .slice ae ne ce, .slice ax xids.length cx, .string (bs note)]) (zc := [.int .i64 0, .string ⟨#[]⟩, .slice none 0 0, .slice none 0 0, .slice none 0 0]) (tc := [.int .i64 tm.id, .string (bs tm.name), .slice b1 tm.cols.length d1, .slice b2 ix.length d2]))
    clear htm hbt hto hbd hbz hlt hf D0 Z0 F0 HWA HWB HC1 HET
    go_upto_region 2 with fail
    go_cut [7] (fun s7 wx => ∃ (dc : Nat) (bo : Option Addr) (eo : Nat) (bw : Option Addr) (ew : Nat), s7 = .pointer (some ⟨dc, 0, none⟩) ∧ Blk wx dc [.int .i64 kind, .string (bs tm.name), .slice none 0 0, .slice bo old.length eo, .slice bw new.length ew] 80 ∧ Row 85 3 w.heap.size wx (.slice bo old.length eo) old.length (old.flatMap V.cells) ∧ Row 85 3 w.heap.size wx (.slice bw new.length ew) new.length (new.flatMap V.cells) ∧ CG w wx d dt [.int .i64 kind, .int .i64 xid, .int .i64 table, .slice ao old.length co, .slice an new.length cn, .slice ae ne ce, .slice ax xids.length cx, .string (bs note)] [.int .i64 0, .string ⟨#[]⟩, .slice none 0 0, .slice none 0 0, .slice none 0 0] [.int .i64 tm.id, .string (bs tm.name), .slice b1 tm.cols.length d1, .slice b2 ix.length d2] ⟨tm, .slice b1 tm.cols.length d1, .slice b2 ix.length d2, ix⟩ ∧ d + 1 < dc)
    case first =>
      have G := hid (G0.out.fre (Fr.refl (fun _ => False) wc).drew)
      refine wp_region_scr (.take 0 (.take 1 (.take 2 (.take 3 (.take 4 (.take 5 (.take 7 (.take 8 (.two 6 11 (.two 9 11 (.two 10 11 (.op 11 (.op 12 .done)) (.op 10 (.op 12 .done))) (.op 9 (.op 10 (.op 12 .done)))) (.op 6 (.op 9 (.op 10 (.op 12 .done))))))))))))) (fun kz w => (kz ≤ 12 → w.cell? ⟨d, 0, none⟩ = some (.int .i64 kind) ∧ w.cell? ⟨dt, 1, none⟩ = some (.string (bs tm.name)) ∧ w.cell? ⟨d, 3, none⟩ = some (.slice ao old.length co) ∧ w.cell? ⟨d, 4, none⟩ = some (.slice an new.length cn)) ∧ Hid True) (by kernel_rfl) (by kernel_rfl) (by intro c a d v w h; cases d <;> exact h) ?_
      repeat
        first
        | (refine wpT_pure rfl rfl rfl ?_; apply Exists.intro; refine ⟨?_, ?_⟩; intro w; (first | (first | (obtain ⟨qa1, qa2, qa3, qa4⟩ := qa; go_simp <;> rfl)) | (go_simp <;> rfl)); simp only [Act.put, List.setIfInBounds_toArray, List.set_cons_zero, List.set_cons_succ])
        | (refine wpT_take 12 rfl rfl (by decide +kernel) ⟨fun _ => ⟨G.out.bd.cell 0, G.out.bt.cell 1, G.out.bd.cell 3, G.out.bd.cell 4⟩, hid trivial⟩ ?_; apply Exists.intro; refine ⟨?_, ?_⟩; intro w hw; (have qa := hw.1 (Nat.le_refl _); have qb := hw.2); (first | (first | (obtain ⟨qa1, qa2, qa3, qa4⟩ := qa; go_simp <;> rfl)) | (go_simp <;> rfl)); simp only [Act.put, List.setIfInBounds_toArray, List.set_cons_zero, List.set_cons_succ])
        | (refine wpT_skip rfl rfl ?_; simp only [Act.put, List.setIfInBounds_toArray, List.set_cons_zero, List.set_cons_succ])
      generalize wc.drew = W5 at *
      refine wpT_two ?_ ?_
      focus
        have HCALL := hid (row_go (HR.out.o.fr G.out.f (fun _ _ h => h)) HR.out.lo)
        refine wpT_op rfl ?_
        go_wp2_with ((go_at_call 113; refine HCALL.out.mono ?_; rintro e w11 ⟨v1, rfl, hr, f⟩; obtain ⟨bo, eo, rfl, -⟩ := hr.slice; have R1 := hid (hr.low G.out.f.size); replace G := hid (G.out.fre f); clear hr f))
        (refine ⟨?_, ?_⟩; focus (intro kz hk hk2 hh; first | (exfalso; simp at hk2; omega) | exact hh | exact (fun h => absurd h (by omega)) | obtain ⟨qa, qb⟩ := hh; first | exact ⟨qa, qb⟩ | (refine ⟨fun h => absurd h (by omega), ?_⟩; first | exact qb | (exact ⟨G.out.bd.cell 0, G.out.bt.cell 1, G.out.bd.cell 3, G.out.bd.cell 4⟩)) | (refine ⟨fun h => ?_, ?_⟩; (have qa := qa h); all_goals (first | exact qa | exact qb | (exact ⟨G.out.bd.cell 0, G.out.bt.cell 1, G.out.bd.cell 3, G.out.bd.cell 4⟩)))))
        clear HCALL
        refine wpT_two ?_ ?_
        focus
          have HCALL := hid (row_go (HR.out.n.fr G.out.f (fun _ _ h => h)) HR.out.ln)
          refine wpT_op rfl ?_
          go_wp2_with ((go_at_call 113; refine HCALL.out.mono ?_; rintro e w12 ⟨v1, rfl, hr, f⟩; obtain ⟨bw, ew, rfl, -⟩ := hr.slice; have R2 := hid (hr.low G.out.f.size); replace G := hid (G.out.fre f); replace R1 := hid (R1.out.fre f); clear hr f))
          (refine ⟨?_, ?_⟩; focus (intro kz hk hk2 hh; first | (exfalso; simp at hk2; omega) | exact hh | exact (fun h => absurd h (by omega)) | obtain ⟨qa, qb⟩ := hh; first | exact ⟨qa, qb⟩ | (refine ⟨fun h => absurd h (by omega), ?_⟩; first | exact qb | (exact ⟨G.out.bd.cell 0, G.out.bt.cell 1, G.out.bd.cell 3, G.out.bd.cell 4⟩)) | (refine ⟨fun h => ?_, ?_⟩; (have qa := qa h); all_goals (first | exact qa | exact qb | (exact ⟨G.out.bd.cell 0, G.out.bt.cell 1, G.out.bd.cell 3, G.out.bd.cell 4⟩)))))
          clear HCALL
          refine wpT_two ?_ ?_
          focus
            refine wpT_op rfl ?_
            go_wp2_with (fail)
            (refine ⟨?_, ?_⟩; focus (intro kz hk hk2 hh; first | (exfalso; simp at hk2; omega) | exact hh | exact (fun h => absurd h (by omega)) | obtain ⟨qa, qb⟩ := hh; first | exact ⟨qa, qb⟩ | (refine ⟨fun h => absurd h (by omega), ?_⟩; first | exact qb | (exact ⟨G.out.bd.cell 0, G.out.bt.cell 1, G.out.bd.cell 3, G.out.bd.cell 4⟩)) | (refine ⟨fun h => ?_, ?_⟩; (have qa := qa h); all_goals (first | exact qa | exact qb | (exact ⟨G.out.bd.cell 0, G.out.bt.cell 1, G.out.bd.cell 3, G.out.bd.cell 4⟩)))))
            have AZ := hid (Blk.new w12 [.int .i64 0, .string ⟨#[]⟩, .slice none 0 0, .slice none 0 0, .slice none 0 0] 80)
            have f := (Fr.refl (fun _ => False) w12).alloc (.cells #[.int .i64 0, .string ⟨#[]⟩, .slice none 0 0, .slice none 0 0, .slice none 0 0] 80)
            have HLD := hid (show d + 1 < w12.heap.size from G.out.bz.lt)
            have HWD := hid (show dt < w12.heap.size from G.out.bt.lt)
            replace G := hid (G.out.fre f)
            replace R1 := hid (R1.out.fre f)
            replace R2 := hid (R2.out.fre f)
            clear f
            refine wpT_op rfl ?_
            go_wp2_with (fail)
            (refine ⟨?_, ?_⟩; focus (intro kz hk hk2 hh; first | (exfalso; simp at hk2; omega) | exact hh | exact (fun h => absurd h (by omega)) | obtain ⟨qa, qb⟩ := hh; first | exact ⟨qa, qb⟩ | (refine ⟨fun h => absurd h (by omega), ?_⟩; first | exact qb | (exact ⟨G.out.bd.cell 0, G.out.bt.cell 1, G.out.bd.cell 3, G.out.bd.cell 4⟩)) | (refine ⟨fun h => ?_, ?_⟩; (have qa := qa h); all_goals (first | exact qa | exact qb | (exact ⟨G.out.bd.cell 0, G.out.bt.cell 1, G.out.bd.cell 3, G.out.bd.cell 4⟩)))))
            generalize w12.heap.size = dc at *
            generalize w12.alloc _ = V14 at *
            have hth := AZ.out.there 0 5 (by simp)
            have fz := (Fr.refl (fun k => k = dc) V14).put dc 0 [.int .i64 kind, .string (bs tm.name), .slice none 0 0, .slice bo old.length eo, .slice bw new.length ew] (fun _ => rfl)
            have HBC := hid (show Blk (V14.setCells dc 0 [.int .i64 kind, .string (bs tm.name), .slice none 0 0, .slice bo old.length eo, .slice bw new.length ew]) dc [.int .i64 kind, .string (bs tm.name), .slice none 0 0, .slice bo old.length eo, .slice bw new.length ew] 80 from by
              have := AZ.out.put 0 [.int .i64 kind, .string (bs tm.name), .slice none 0 0, .slice bo old.length eo, .slice bw new.length ew] (by simp)
              exact this)
            have R1z := hid (R1.out.fr fz (fun k hk e => R1.out.ne AZ.out (by decide) k hk e))
            have R2z := hid (R2.out.fr fz (fun k hk e => R2.out.ne AZ.out (by decide) k hk e))
            have Gz := hid (G.out.off AZ.out HLD.out HWD.out fz (Nat.le_of_eq HDE.out.symm))
            clear fz
            refine wpT_op rfl ?_
            refine wpList_store_mid rfl 80 (.tmp 7) (.tmp 39) rfl dc 0 ([.int .i64 kind, .string (bs tm.name), .slice none 0 0, .slice bo old.length eo, .slice bw new.length ew]).toArray rfl rfl hth size_chg (by simp [Value.oneCell']) ?_
            rw [List.toList_toArray]
            go_wp2_with (fail)
            refine ⟨fun kz hk hk2 hh => (by first | exact ⟨fun h => absurd h (by omega), hid trivial⟩ | exact hid trivial | exact fun h => absurd h (by omega)), ?_⟩
            clear hth
            refine wpT_nil ?_
            go_wp2_with (fail)
            go_meet
            exact ⟨dc, bo, eo, bw, ew, rfl, HBC.out, R1z.out, R2z.out, Gz.out, HLD.out⟩
          focus
            have AZ := hid (Blk.new w12 [.int .i64 0, .string ⟨#[]⟩, .slice none 0 0, .slice none 0 0, .slice none 0 0] 80)
            have f := (Fr.refl (fun _ => False) w12).alloc (.cells #[.int .i64 0, .string ⟨#[]⟩, .slice none 0 0, .slice none 0 0, .slice none 0 0] 80)
            have HLD := hid (show d + 1 < w12.heap.size from G.out.bz.lt)
            have HWD := hid (show dt < w12.heap.size from G.out.bt.lt)
            replace G := hid (G.out.fre f)
            replace R1 := hid (R1.out.fre f)
            replace R2 := hid (R2.out.fre f)
            clear f
            refine wpT_op rfl ?_
            go_wp2_with (fail)
            (refine ⟨?_, ?_⟩; focus (intro kz hk hk2 hh; first | (exfalso; simp at hk2; omega) | exact hh | exact (fun h => absurd h (by omega)) | obtain ⟨qa, qb⟩ := hh; first | exact ⟨qa, qb⟩ | (refine ⟨fun h => absurd h (by omega), ?_⟩; first | exact qb | (exact ⟨G.out.bd.cell 0, G.out.bt.cell 1, G.out.bd.cell 3, G.out.bd.cell 4⟩)) | (refine ⟨fun h => ?_, ?_⟩; (have qa := qa h); all_goals (first | exact qa | exact qb | (exact ⟨G.out.bd.cell 0, G.out.bt.cell 1, G.out.bd.cell 3, G.out.bd.cell 4⟩)))))
            generalize w12.heap.size = dc at *
            generalize w12.alloc _ = V16 at *
            refine wpT_op rfl ?_
            go_wp2_with (fail)
            (refine ⟨?_, ?_⟩; focus (intro kz hk hk2 hh; first | (exfalso; simp at hk2; omega) | exact hh | exact (fun h => absurd h (by omega)) | obtain ⟨qa, qb⟩ := hh; first | exact ⟨qa, qb⟩ | (refine ⟨fun h => absurd h (by omega), ?_⟩; first | exact qb | (exact ⟨G.out.bd.cell 0, G.out.bt.cell 1, G.out.bd.cell 3, G.out.bd.cell 4⟩)) | (refine ⟨fun h => ?_, ?_⟩; (have qa := qa h); all_goals (first | exact qa | exact qb | (exact ⟨G.out.bd.cell 0, G.out.bt.cell 1, G.out.bd.cell 3, G.out.bd.cell 4⟩)))))
            have hth := AZ.out.there 0 5 (by simp)
            have fz := (Fr.refl (fun k => k = dc) V16).put dc 0 [.int .i64 kind, .string (bs tm.name), .slice none 0 0, .slice bo old.length eo, .slice bw new.length ew] (fun _ => rfl)
            have HBC := hid (show Blk (V16.setCells dc 0 [.int .i64 kind, .string (bs tm.name), .slice none 0 0, .slice bo old.length eo, .slice bw new.length ew]) dc [.int .i64 kind, .string (bs tm.name), .slice none 0 0, .slice bo old.length eo, .slice bw new.length ew] 80 from by
              have := AZ.out.put 0 [.int .i64 kind, .string (bs tm.name), .slice none 0 0, .slice bo old.length eo, .slice bw new.length ew] (by simp)
              exact this)
            have R1z := hid (R1.out.fr fz (fun k hk e => R1.out.ne AZ.out (by decide) k hk e))
            have R2z := hid (R2.out.fr fz (fun k hk e => R2.out.ne AZ.out (by decide) k hk e))
            have Gz := hid (G.out.off AZ.out HLD.out HWD.out fz (Nat.le_of_eq HDE.out.symm))
            clear fz
            refine wpT_op rfl ?_
            refine wpList_store_mid rfl 80 (.tmp 7) (.tmp 39) rfl dc 0 ([.int .i64 kind, .string (bs tm.name), .slice none 0 0, .slice bo old.length eo, .slice bw new.length ew]).toArray rfl rfl hth size_chg (by simp [Value.oneCell']) ?_
            rw [List.toList_toArray]
            go_wp2_with (fail)
            refine ⟨fun kz hk hk2 hh => (by first | exact ⟨fun h => absurd h (by omega), hid trivial⟩ | exact hid trivial | exact fun h => absurd h (by omega)), ?_⟩
            clear hth
            refine wpT_nil ?_
            go_wp2_with (fail)
            go_meet
            exact ⟨dc, bo, eo, bw, ew, rfl, HBC.out, R1z.out, R2z.out, Gz.out, HLD.out⟩
        focus
          have AZ := hid (Blk.new w11 [.int .i64 0, .string ⟨#[]⟩, .slice none 0 0, .slice none 0 0, .slice none 0 0] 80)
          have f := (Fr.refl (fun _ => False) w11).alloc (.cells #[.int .i64 0, .string ⟨#[]⟩, .slice none 0 0, .slice none 0 0, .slice none 0 0] 80)
          have HLD := hid (show d + 1 < w11.heap.size from G.out.bz.lt)
          have HWD := hid (show dt < w11.heap.size from G.out.bt.lt)
          replace G := hid (G.out.fre f)
          replace R1 := hid (R1.out.fre f)
          clear f
          refine wpT_op rfl ?_
          go_wp2_with (fail)
          (refine ⟨?_, ?_⟩; focus (intro kz hk hk2 hh; first | (exfalso; simp at hk2; omega) | exact hh | exact (fun h => absurd h (by omega)) | obtain ⟨qa, qb⟩ := hh; first | exact ⟨qa, qb⟩ | (refine ⟨fun h => absurd h (by omega), ?_⟩; first | exact qb | (exact ⟨G.out.bd.cell 0, G.out.bt.cell 1, G.out.bd.cell 3, G.out.bd.cell 4⟩)) | (refine ⟨fun h => ?_, ?_⟩; (have qa := qa h); all_goals (first | exact qa | exact qb | (exact ⟨G.out.bd.cell 0, G.out.bt.cell 1, G.out.bd.cell 3, G.out.bd.cell 4⟩)))))
          generalize w11.heap.size = dc at *
          generalize w11.alloc _ = V19 at *
          have HCALL := hid (row_go (HR.out.n.fr G.out.f (fun _ _ h => h)) HR.out.ln)
          refine wpT_op rfl ?_
          go_wp2_with ((go_at_call 113; refine HCALL.out.mono ?_; rintro e w20 ⟨v1, rfl, hr, f⟩; obtain ⟨bw, ew, rfl, -⟩ := hr.slice; have R2 := hid (hr.low G.out.f.size); replace G := hid (G.out.fre f); replace AZ := hid (Blk.fr AZ.out f (fun h => h)); replace R1 := hid (R1.out.fre f); clear hr f))
          (refine ⟨?_, ?_⟩; focus (intro kz hk hk2 hh; first | (exfalso; simp at hk2; omega) | exact hh | exact (fun h => absurd h (by omega)) | obtain ⟨qa, qb⟩ := hh; first | exact ⟨qa, qb⟩ | (refine ⟨fun h => absurd h (by omega), ?_⟩; first | exact qb | (exact ⟨G.out.bd.cell 0, G.out.bt.cell 1, G.out.bd.cell 3, G.out.bd.cell 4⟩)) | (refine ⟨fun h => ?_, ?_⟩; (have qa := qa h); all_goals (first | exact qa | exact qb | (exact ⟨G.out.bd.cell 0, G.out.bt.cell 1, G.out.bd.cell 3, G.out.bd.cell 4⟩)))))
          clear HCALL
          refine wpT_op rfl ?_
          go_wp2_with (fail)
          (refine ⟨?_, ?_⟩; focus (intro kz hk hk2 hh; first | (exfalso; simp at hk2; omega) | exact hh | exact (fun h => absurd h (by omega)) | obtain ⟨qa, qb⟩ := hh; first | exact ⟨qa, qb⟩ | (refine ⟨fun h => absurd h (by omega), ?_⟩; first | exact qb | (exact ⟨G.out.bd.cell 0, G.out.bt.cell 1, G.out.bd.cell 3, G.out.bd.cell 4⟩)) | (refine ⟨fun h => ?_, ?_⟩; (have qa := qa h); all_goals (first | exact qa | exact qb | (exact ⟨G.out.bd.cell 0, G.out.bt.cell 1, G.out.bd.cell 3, G.out.bd.cell 4⟩)))))
          have hth := AZ.out.there 0 5 (by simp)
          have fz := (Fr.refl (fun k => k = dc) w20).put dc 0 [.int .i64 kind, .string (bs tm.name), .slice none 0 0, .slice bo old.length eo, .slice bw new.length ew] (fun _ => rfl)
          have HBC := hid (show Blk (w20.setCells dc 0 [.int .i64 kind, .string (bs tm.name), .slice none 0 0, .slice bo old.length eo, .slice bw new.length ew]) dc [.int .i64 kind, .string (bs tm.name), .slice none 0 0, .slice bo old.length eo, .slice bw new.length ew] 80 from by
            have := AZ.out.put 0 [.int .i64 kind, .string (bs tm.name), .slice none 0 0, .slice bo old.length eo, .slice bw new.length ew] (by simp)
            exact this)
          have R1z := hid (R1.out.fr fz (fun k hk e => R1.out.ne AZ.out (by decide) k hk e))
          have R2z := hid (R2.out.fr fz (fun k hk e => R2.out.ne AZ.out (by decide) k hk e))
          have Gz := hid (G.out.off AZ.out HLD.out HWD.out fz (Nat.le_of_eq HDE.out.symm))
          clear fz
          refine wpT_op rfl ?_
          refine wpList_store_mid rfl 80 (.tmp 7) (.tmp 39) rfl dc 0 ([.int .i64 kind, .string (bs tm.name), .slice none 0 0, .slice bo old.length eo, .slice bw new.length ew]).toArray rfl rfl hth size_chg (by simp [Value.oneCell']) ?_
          rw [List.toList_toArray]
          go_wp2_with (fail)
          refine ⟨fun kz hk hk2 hh => (by first | exact ⟨fun h => absurd h (by omega), hid trivial⟩ | exact hid trivial | exact fun h => absurd h (by omega)), ?_⟩
          clear hth
          refine wpT_nil ?_
          go_wp2_with (fail)
          go_meet
          exact ⟨dc, bo, eo, bw, ew, rfl, HBC.out, R1z.out, R2z.out, Gz.out, HLD.out⟩
      focus
        have AZ := hid (Blk.new W5 [.int .i64 0, .string ⟨#[]⟩, .slice none 0 0, .slice none 0 0, .slice none 0 0] 80)
        have f := (Fr.refl (fun _ => False) W5).alloc (.cells #[.int .i64 0, .string ⟨#[]⟩, .slice none 0 0, .slice none 0 0, .slice none 0 0] 80)
        have HLD := hid (show d + 1 < W5.heap.size from G.out.bz.lt)
        have HWD := hid (show dt < W5.heap.size from G.out.bt.lt)
        replace G := hid (G.out.fre f)
        clear f
        refine wpT_op rfl ?_
        go_wp2_with (fail)
        (refine ⟨?_, ?_⟩; focus (intro kz hk hk2 hh; first | (exfalso; simp at hk2; omega) | exact hh | exact (fun h => absurd h (by omega)) | obtain ⟨qa, qb⟩ := hh; first | exact ⟨qa, qb⟩ | (refine ⟨fun h => absurd h (by omega), ?_⟩; first | exact qb | (exact ⟨G.out.bd.cell 0, G.out.bt.cell 1, G.out.bd.cell 3, G.out.bd.cell 4⟩)) | (refine ⟨fun h => ?_, ?_⟩; (have qa := qa h); all_goals (first | exact qa | exact qb | (exact ⟨G.out.bd.cell 0, G.out.bt.cell 1, G.out.bd.cell 3, G.out.bd.cell 4⟩)))))
        generalize W5.heap.size = dc at *
        generalize W5.alloc _ = V23 at *
        have HCALL := hid (row_go (HR.out.o.fr G.out.f (fun _ _ h => h)) HR.out.lo)
        refine wpT_op rfl ?_
        go_wp2_with ((go_at_call 113; refine HCALL.out.mono ?_; rintro e w24 ⟨v1, rfl, hr, f⟩; obtain ⟨bo, eo, rfl, -⟩ := hr.slice; have R1 := hid (hr.low G.out.f.size); replace G := hid (G.out.fre f); replace AZ := hid (Blk.fr AZ.out f (fun h => h)); clear hr f))
        (refine ⟨?_, ?_⟩; focus (intro kz hk hk2 hh; first | (exfalso; simp at hk2; omega) | exact hh | exact (fun h => absurd h (by omega)) | obtain ⟨qa, qb⟩ := hh; first | exact ⟨qa, qb⟩ | (refine ⟨fun h => absurd h (by omega), ?_⟩; first | exact qb | (exact ⟨G.out.bd.cell 0, G.out.bt.cell 1, G.out.bd.cell 3, G.out.bd.cell 4⟩)) | (refine ⟨fun h => ?_, ?_⟩; (have qa := qa h); all_goals (first | exact qa | exact qb | (exact ⟨G.out.bd.cell 0, G.out.bt.cell 1, G.out.bd.cell 3, G.out.bd.cell 4⟩)))))
        clear HCALL
        have HCALL := hid (row_go (HR.out.n.fr G.out.f (fun _ _ h => h)) HR.out.ln)
        refine wpT_op rfl ?_
        go_wp2_with ((go_at_call 113; refine HCALL.out.mono ?_; rintro e w25 ⟨v1, rfl, hr, f⟩; obtain ⟨bw, ew, rfl, -⟩ := hr.slice; have R2 := hid (hr.low G.out.f.size); replace G := hid (G.out.fre f); replace AZ := hid (Blk.fr AZ.out f (fun h => h)); replace R1 := hid (R1.out.fre f); clear hr f))
        (refine ⟨?_, ?_⟩; focus (intro kz hk hk2 hh; first | (exfalso; simp at hk2; omega) | exact hh | exact (fun h => absurd h (by omega)) | obtain ⟨qa, qb⟩ := hh; first | exact ⟨qa, qb⟩ | (refine ⟨fun h => absurd h (by omega), ?_⟩; first | exact qb | (exact ⟨G.out.bd.cell 0, G.out.bt.cell 1, G.out.bd.cell 3, G.out.bd.cell 4⟩)) | (refine ⟨fun h => ?_, ?_⟩; (have qa := qa h); all_goals (first | exact qa | exact qb | (exact ⟨G.out.bd.cell 0, G.out.bt.cell 1, G.out.bd.cell 3, G.out.bd.cell 4⟩)))))
        clear HCALL
        refine wpT_op rfl ?_
        go_wp2_with (fail)
        (refine ⟨?_, ?_⟩; focus (intro kz hk hk2 hh; first | (exfalso; simp at hk2; omega) | exact hh | exact (fun h => absurd h (by omega)) | obtain ⟨qa, qb⟩ := hh; first | exact ⟨qa, qb⟩ | (refine ⟨fun h => absurd h (by omega), ?_⟩; first | exact qb | (exact ⟨G.out.bd.cell 0, G.out.bt.cell 1, G.out.bd.cell 3, G.out.bd.cell 4⟩)) | (refine ⟨fun h => ?_, ?_⟩; (have qa := qa h); all_goals (first | exact qa | exact qb | (exact ⟨G.out.bd.cell 0, G.out.bt.cell 1, G.out.bd.cell 3, G.out.bd.cell 4⟩)))))
        have hth := AZ.out.there 0 5 (by simp)
        have fz := (Fr.refl (fun k => k = dc) w25).put dc 0 [.int .i64 kind, .string (bs tm.name), .slice none 0 0, .slice bo old.length eo, .slice bw new.length ew] (fun _ => rfl)
        have HBC := hid (show Blk (w25.setCells dc 0 [.int .i64 kind, .string (bs tm.name), .slice none 0 0, .slice bo old.length eo, .slice bw new.length ew]) dc [.int .i64 kind, .string (bs tm.name), .slice none 0 0, .slice bo old.length eo, .slice bw new.length ew] 80 from by
          have := AZ.out.put 0 [.int .i64 kind, .string (bs tm.name), .slice none 0 0, .slice bo old.length eo, .slice bw new.length ew] (by simp)
          exact this)
        have R1z := hid (R1.out.fr fz (fun k hk e => R1.out.ne AZ.out (by decide) k hk e))
        have R2z := hid (R2.out.fr fz (fun k hk e => R2.out.ne AZ.out (by decide) k hk e))
        have Gz := hid (G.out.off AZ.out HLD.out HWD.out fz (Nat.le_of_eq HDE.out.symm))
        clear fz
        refine wpT_op rfl ?_
        refine wpList_store_mid rfl 80 (.tmp 7) (.tmp 39) rfl dc 0 ([.int .i64 kind, .string (bs tm.name), .slice none 0 0, .slice bo old.length eo, .slice bw new.length ew]).toArray rfl rfl hth size_chg (by simp [Value.oneCell']) ?_
        rw [List.toList_toArray]
        go_wp2_with (fail)
        refine ⟨fun kz hk hk2 hh => (by first | exact ⟨fun h => absurd h (by omega), hid trivial⟩ | exact hid trivial | exact fun h => absurd h (by omega)), ?_⟩
        clear hth
        refine wpT_nil ?_
        go_wp2_with (fail)
        go_meet
        exact ⟨dc, bo, eo, bw, ew, rfl, HBC.out, R1z.out, R2z.out, Gz.out, HLD.out⟩
    case rest =>
      obtain ⟨dc, bo, eo, bw, ew, rfl, hbc, hr1, hr2, hg, hld⟩ := hcut
      have HBC := hid hbc
      have HR1 := hid hr1
      have HR2 := hid hr2
      have HG := hid hg
      have HLD := hid hld
      have HCL := hid (show tm.cols.length ≤ 6 from by rw [HTM.out]; exact at_cols HCR.out.2 table)
      clear hbc hr1 hr2 hg hld G0
      have q5 := HG.out.bt.cell 2
      simp only [List.getElem?_cons_zero, List.getElem?_cons_succ] at q5
      go_wp2_with (fail)
      clear q5
      go_loopw [43] (fun i wr => ∃ (j : Nat) (an : Option Addr) (cn : Nat), j ≤ tm.cols.length ∧ i = .int .i64 j ∧ Blk wr dc [.int .i64 kind, .string (bs tm.name), .slice an j cn, .slice bo old.length eo, .slice bw new.length ew] 80 ∧ Blk wr (d + 1) [.int .i64 0, .string ⟨#[]⟩, .slice none 0 0, .slice none 0 0, .slice none 0 0] 80 ∧ Row 9 1 w.heap.size wr (.slice an j cn) j (sv ((tm.cols.take j).map Col.name)) ∧ Row 85 3 w.heap.size wr (.slice bo old.length eo) old.length (old.flatMap V.cells) ∧ Row 85 3 w.heap.size wr (.slice bw new.length ew) new.length (new.flatMap V.cells) ∧ Row 171 2 0 wr (.slice b1 tm.cols.length d1) tm.cols.length (tm.cols.flatMap Col.cells) ∧ Fr (fun _ => False) w wr) (fun i _ => tm.cols.length - (intOf i).toNat)
      case atStart => exact ⟨0, none, 0, by omega, rfl, HBC.out, HG.out.bz, Row.nil, HR1.out, HR2.out, HG.out.o.c, HG.out.f⟩
      case round =>
        obtain ⟨j, an, cn, hj, rfl, hbc, hbz, hrn, hr1, hr2, hrc, hf⟩ := hrel
        have B1 := hid hbc
        have Z1 := hid hbz
        have RN := hid hrn
        have RO := hid hr1
        have RW := hid hr2
        have RC := hid hrc
        have FR := hid hf
        clear hbc hbz hrn hr1 hr2 hrc hf HBC HR1 HR2 HG
        generalize wr = WR at *
        by_cases hjc : j < tm.cols.length
        · have j1 : (0 : Int) ≤ (j : Int) := by omega
          have j2 : (j : Int) < (tm.cols.length : Int) := by omega
          have HI := hid (show IntKind.i64.wrap ((j : Int) + 1) = (j : Int) + 1 from IntWalk.i64_in _ (by have := HCL.out; omega))
          have HTC := hid (show sv ((tm.cols.take (j + 1)).map Col.name) = sv ((tm.cols.take j).map Col.name) ++ [.string (bs tm.cols[j].name)] from by
            rw [List.take_succ_eq_append_getElem hjc, List.map_append]
            simp [sv])
          have HJL := hid (show j ≤ 6 from by have := HCL.out; omega)
          obtain ⟨gc, oc, rfl, -, q⟩ := slK (k := 2) (f := Col.cells) (by decide) col_len (RC.out.sl' (R := fun _ => True) (fun _ _ => trivial)) hjc
          have p0 := q 0 (by decide)
          have p1 := q 1 (by decide)
          simp only [Nat.add_zero, Col.cells, List.getElem?_cons_zero, List.getElem?_cons_succ] at p0 p1
          clear q
          generalize tm.cols[j] = cj at *
          obtain ⟨cna, ckd⟩ := cj
          dsimp only at p0 p1 HTC
          have fa := (Fr.refl (fun _ => False) WR).alloc (.cells #[.string (bs cna), .int .i64 ckd] 171)
          have B2 := hid (Blk.fr B1.out fa (fun h => h))
          have Z2 := hid (Blk.fr Z1.out fa (fun h => h))
          have RN2 := hid (RN.out.fre fa)
          have RO2 := hid (RO.out.fre fa)
          have RW2 := hid (RW.out.fre fa)
          have RC2 := hid (RC.out.fre fa)
          have F2 := hid (FR.out.trans fa (fun _ h _ => h))
          have L2 := hid (Blk.new WR [.string (bs cna), .int .i64 ckd] 171)
          clear fa
          go_upto_region 6 with fail
          clear p0 p1 B1 Z1 RN RO RW RC FR
          generalize WR.heap.size = dl at *
          generalize WR.alloc _ = WL at *
          have k1 := B2.out.cell 2
          have l0 := L2.out.cell 0
          simp only [List.getElem?_cons_zero, List.getElem?_cons_succ] at k1 l0
          have HSZ := hid F2.out.size
          go_upto_region 7 with (at_builtin; refine wpList_app1 rfl (s := .tmp 48) (x := .tmp 51) (t := 78) rfl Tryz.underlying78 info_str rfl rfl rfl RN2.out HSZ.out rfl (by simp [Value.oneCell']) (by have := HJL.out; omega) (by have := HJL.out; omega) ?_; intro ab ac2 wg APP; have RN3 := hid (APP.row.cast rfl HTC.out.symm); have B3 := hid (Blk.fr B2.out APP.fr (fun hk => RN2.out.ne B2.out (by decide) _ hk rfl)); have Z3 := hid (Blk.fr Z2.out APP.fr (fun hk => RN2.out.ne Z2.out (by decide) _ hk rfl)); have RO3 := hid (RO2.out.fr APP.fr (rows_ne RO2.out RN2.out (by decide))); have RW3 := hid (RW2.out.fr APP.fr (rows_ne RW2.out RN2.out (by decide))); have RC3 := hid (RC2.out.fr APP.fr (rows_ne RC2.out RN2.out (by decide))); have F3 := hid (F2.out.trans APP.fr (fun k hk hl => by have := RN2.out.new k hk; omega)); clear APP k1 l0; have k2 : wg.cell? ⟨dc, 2, none⟩ = some (.slice an j cn) := B3.out.cell 2; have z2 : wg.frozen? ⟨dc, 2, none⟩ = false := B3.out.frozen 2)
          have fs := (Fr.refl (fun k => k = dc) wg).setCell ⟨dc, 2, none⟩ (.slice ab (j + 1) ac2) (fun _ => rfl)
          have B4 := hid (B3.out.set 2 (.slice ab (j + 1) ac2))
          have Z4 := hid (Blk.fr Z3.out fs (by have := HLD.out; omega))
          have RN4 := hid (RN3.out.fr fs (fun k hk e => RN3.out.ne B3.out (by decide) k hk e))
          have RO4 := hid (RO3.out.fr fs (fun k hk e => RO3.out.ne B3.out (by decide) k hk e))
          have RW4 := hid (RW3.out.fr fs (fun k hk e => RW3.out.ne B3.out (by decide) k hk e))
          have RC4 := hid (RC3.out.fr fs (fun k hk e => RC3.out.ne B3.out (by decide) k hk e))
          have F4 := hid (F3.out.trans fs (fun k hk hl => by have := HLD.out; have := HDE.out; omega))
          clear fs B3 Z3 RN3 RO3 RW3 RC3 F3 k2 z2 B2 Z2 RN2 RO2 RW2 RC2 F2
          generalize wg.setCell ⟨dc, 2, none⟩ (.slice ab (j + 1) ac2) = W9 at *
          have i9 := HI.out
          go_wp2_with (fail)
          go_roundw
          case rel => exact ⟨j + 1, ab, ac2, by omega, by go_num, B4.out, Z4.out, RN4.out, RO4.out, RW4.out, RC4.out, F4.out⟩
          case measure => simp [intOf]; omega
        · obtain rfl : j = tm.cols.length := by omega
          have j1 : ¬ ((tm.cols.length : Int) < (tm.cols.length : Int)) := by omega
          have HRG := hid B1.out.all
          have hth := Z1.out.there 0 5 (by simp)
          have fz := (Fr.refl (fun k => k = d + 1) WR).put (d + 1) 0 [.int .i64 kind, .string (bs tm.name), .slice an tm.cols.length cn, .slice bo old.length eo, .slice bw new.length ew] (fun _ => rfl)
          have HB6 := hid (show Blk (WR.setCells (d + 1) 0 [.int .i64 kind, .string (bs tm.name), .slice an tm.cols.length cn, .slice bo old.length eo, .slice bw new.length ew]) (d + 1) [.int .i64 kind, .string (bs tm.name), .slice an tm.cols.length cn, .slice bo old.length eo, .slice bw new.length ew] 80 from by
            have := Z1.out.put 0 [.int .i64 kind, .string (bs tm.name), .slice an tm.cols.length cn, .slice bo old.length eo, .slice bw new.length ew] (by simp)
            exact this)
          rw [List.take_length] at RN
          have RN6 := hid (RN.out.fr fz (fun k hk e => RN.out.ne Z1.out (by decide) k hk e))
          have RO6 := hid (RO.out.fr fz (fun k hk e => RO.out.ne Z1.out (by decide) k hk e))
          have RW6 := hid (RW.out.fr fz (fun k hk e => RW.out.ne Z1.out (by decide) k hk e))
          have F6 := hid (FR.out.trans fz (fun k hk hl => by have := HDE.out; omega))
          clear fz
          go_wp2_with (first
            | (refine wpList_load_mid rfl 80 (.tmp 7) rfl dc 0 rfl _ _ HRG.out Tryz.underlying80 rfl size_chg ?_)
            | (refine wpList_store_mid rfl 80 (.tmp 4) (.tmp 55) rfl (d + 1) 0 #[.int .i64 kind, .string (bs tm.name), .slice an tm.cols.length cn, .slice bo old.length eo, .slice bw new.length ew] rfl rfl hth size_chg (by simp [Value.oneCell']) ?_))
          rw [← HTM.out]
          refine bodyPost_ret (agg_ret rfl rfl HB6.out Tryz.underlying80 rfl size_chg) rfl ⟨.slice an tm.cols.length cn, .slice bo old.length eo, .slice bw new.length ew, rfl, ?_, F6.out⟩
          exact ⟨RN6.out.cast (by simp [chgM]) (sv_scell _), RO6.out, RW6.out, by simp only [chgM, List.length_map]; have := HCL.out; omega, HR.out.lo, HR.out.ln⟩
end Go.Proofs.YtiimomgbklgicaaGreat
