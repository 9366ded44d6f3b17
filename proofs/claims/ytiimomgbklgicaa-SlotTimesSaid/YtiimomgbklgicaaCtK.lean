import Derived.Test.YtiimomgbklgicaaCtJ
/- Copies: of an index, of a table, of all tables; All, At, Table, Clone. -/
set_option linter.unusedVariables false
namespace Go.Proofs.Ytiimomgbklgicaa
open Go.RowKit Go.VB Go.VB.Oct Go.VB.Cat Go.VB.Rec
theorem size_ix2 : (Try.prog.info? 113).map (·.size) = some 3 := by kernel_rfl
/-- a struct's result, in a block -/
theorem agg_ret {fn : Func} {p : Tmp} {ty : TypeId} {d : TypeDesc} {l : List Value} (hf : fn.results = #[.cell p ty]) {tmps : Array Value} {W : World} {b : Nat} (hp : tmps.getD p undef = .pointer (some ⟨b, 0, none⟩)) (hb : Blk W b l ty) (hu : Try.prog.underlying ty = some d) (hd : d.isRow = true) (hs : (Try.prog.info? ty).map (·.size) = some l.length) :
    (results fn tmps).run Try.prog W = .ok (.agg l.toArray) W := results_cell_mid (b := b) (o := 0) hf _ _ hp (cs := l) (Blk.all _ hb) hu hd hs
set_option maxRecDepth 20000 in
theorem copied1_go {R : Nat → Prop} {w : World} (x : IxV) (h : Sl R w x.v x.x.cols.length (x.x.cols.flatMap icell)) (hn : x.x.cols.length ≤ 1048576) :
    Calls Try.prog 94 #[x.agg] w fun e w' => ∃ v, e = .returned (IxV.agg ⟨x.x, v⟩) ∧ Row 3 1 w.heap.size w' v x.x.cols.length (x.x.cols.flatMap icell) ∧ Fr (fun _ => False) w w' := by
  obtain ⟨⟨name, cols, root⟩, v⟩ := x
  unfold IxV.agg IxV.cells
  dsimp only at h hn ⊢
  have F1 := hid (((Fr.refl (fun _ => False) w).alloc (.cells #[.string (bs name), v, .int .i64 root] 113)).alloc (.cells #[.string ⟨#[]⟩, .slice none 0 0, .int .i64 0] 113))
  have B0 := hid ((Blk.new w [.string (bs name), v, .int .i64 root] 113).alloc (.cells #[.string ⟨#[]⟩, .slice none 0 0, .int .i64 0] 113))
  have B1 := hid (Blk.new (w.alloc (.cells #[.string (bs name), v, .int .i64 root] 113)) [.string ⟨#[]⟩, .slice none 0 0, .int .i64 0] 113)
  simp only [World.size_alloc] at B1
  have HCL := hid (Clone_int (h.fr F1.out (fun _ _ h => h)) hn)
  have HW := hid (Nat.le_of_lt (show w.heap.size < ((w.alloc (.cells #[.string (bs name), v, .int .i64 root] 113)).alloc (.cells #[.string ⟨#[]⟩, .slice none 0 0, .int .i64 0] 113)).heap.size from by simp; omega))
  go_enter Try.func94, Try.ntmps94
  go_upto_region 1 with fail
  generalize (w.alloc (.cells #[.string (bs name), v, .int .i64 root] 113)).alloc _ = W1 at *
  generalize hd : w.heap.size = d at *
  have HD := hid hd
  have q1 : W1.cell? ⟨d, 1, none⟩ = some v := B0.out.cell 1
  clear hd
  go_upto_region 2 with (go_at_call 29; refine HCL.out.mono ?_; rintro e w2 ⟨v2, rfl, hr, f⟩; obtain ⟨a2, c2, rfl, _⟩ := hr.slice; have HR2 := hid (hr.low HW.out); have F2 := hid (F1.out.trans f (fun _ h _ => h)); have C0 := hid (Blk.fr B0.out f (fun h => h)); have C1 := hid (Blk.fr B1.out f (fun h => h)); have k1 : w2.cell? ⟨d, 1, none⟩ = some v := C0.out.cell 1; have z1 : w2.frozen? ⟨d, 1, none⟩ = false := C0.out.frozen 1; clear hr f)
  have HNE := hid (HR2.out.ne C0.out (by decide))
  have HNE1 := hid (HR2.out.ne C1.out (by decide))
  have F3 := hid (((F2.out).mono (T := fun k => k = d ∨ k = d + 1) (fun _ h _ => h.elim)).setCell ⟨d, 1, none⟩ (.slice a2 cols.length c2) (fun _ => .inl rfl))
  have D0 := hid (C0.out.set 1 (.slice a2 cols.length c2))
  have D1 := hid (C1.out.set_ne ⟨d, 1, none⟩ (.slice a2 cols.length c2) (by simp))
  have HR3 := hid (HR2.out.fr ((Fr.refl (fun k => k = d) w2).setCell ⟨d, 1, none⟩ (.slice a2 cols.length c2) (fun _ => rfl)) (fun k hk e => HNE.out k hk e))
  clear k1 z1 q1 HCL B0 B1 C0 C1 F1 F2 HR2
  generalize w2.setCell ⟨d, 1, none⟩ (.slice a2 cols.length c2) = W3 at *
  have q0 : W3.cell? ⟨d, 0, none⟩ = some (.string (bs name)) := D0.out.cell 0
  have q1 : W3.cell? ⟨d, 1, none⟩ = some (.slice a2 cols.length c2) := D0.out.cell 1
  have q2 : W3.cell? ⟨d, 2, none⟩ = some (.int .i64 root) := D0.out.cell 2
  have r0 : W3.cell? ⟨d + 1, 0, none⟩ = some (.string ⟨#[]⟩) := D1.out.cell 0
  have r1 : W3.cell? ⟨d + 1, 1, none⟩ = some (.slice none 0 0) := D1.out.cell 1
  have r2 : W3.cell? ⟨d + 1, 2, none⟩ = some (.int .i64 0) := D1.out.cell 2
  have z0 : W3.frozen? ⟨d + 1, 0, none⟩ = false := D1.out.frozen 0
  have z1 : W3.frozen? ⟨d + 1, 1, none⟩ = false := D1.out.frozen 1
  have z2 : W3.frozen? ⟨d + 1, 2, none⟩ = false := D1.out.frozen 2
  have B4 := hid (((D1.out.set 0 (.string (bs name))).set 1 (.slice a2 cols.length c2)).set 2 (.int .i64 root))
  have f4 := (((Fr.refl (fun k => k = d ∨ k = d + 1) W3).setCell ⟨d + 1, 0, none⟩ (.string (bs name)) (fun _ => .inr rfl)).setCell ⟨d + 1, 1, none⟩ (.slice a2 cols.length c2) (fun _ => .inr rfl)).setCell ⟨d + 1, 2, none⟩ (.int .i64 root) (fun _ => .inr rfl)
  have HE := hid (And.intro (HR3.out.fr f4 (fun k hk e => e.elim (HNE.out k hk) (HNE1.out k hk))) (F3.out.trans f4 (fun _ h _ => h)))
  clear D0 D1 F3 HR3 f4 HNE HNE1
  go_wp2_with (fail)
  rw [HD.out]
  exact bodyPost_ret (agg_ret rfl rfl B4.out Try.underlying113 rfl size_ix2) rfl ⟨_, rfl, HE.out.1, HE.out.2.mono (fun k hk hl => by have := HD.out; omega)⟩
theorem info_ix2 : (Try.prog.info? 113).map (fun i => (i.zero, i.size, i.bytes)) = some (some (.agg #[.string .empty, .slice none 0 0, .int .i64 0]), 3, 48) := by kernel_rfl
set_option maxRecDepth 20000 in
theorem each_ix_go {R : Nat → Prop} {w : World} {vi : Value} {xs : List IxV} (h : Sl R w vi xs.length (xs.flatMap IxV.cells)) (hx : ∀ x ∈ xs, Sl R w x.v x.x.cols.length (x.x.cols.flatMap icell)) (hxl : ∀ x ∈ xs, x.x.cols.length ≤ 1048576) (hn : xs.length ≤ 1048576) :
    Calls Try.prog 93 #[vi, .func (.func 94) #[] #[]] w fun e w' => ∃ (v : Value) (ys : List IxV), e = .returned v ∧ ys.map IxV.x = xs.map IxV.x ∧ Row 113 3 w.heap.size w' v ys.length (ys.flatMap IxV.cells) ∧
      (∀ y ∈ ys, Row 3 1 w.heap.size w' y.v y.x.cols.length (y.x.cols.flatMap icell)) ∧ Fr (fun _ => False) w w' := by
  obtain ⟨a, c, rfl, hc, hxx⟩ := h
  have HX := hid (show Sl R w (.slice a xs.length c) xs.length (xs.flatMap IxV.cells) from ⟨a, c, rfl, hc, hxx⟩)
  clear hxx
  have HXC := hid hx
  have HXL := hid hxl
  have F0 := hid (Fr.refl (fun _ => False) w)
  clear hx hxl
  go_enter Try.func93, Try.ntmps93
  go_wp2_with (fail)
  go_loopw [5, 10] (fun v i wr => ∃ (j : Nat) (ys : List IxV), j ≤ xs.length ∧ i = .int .i64 j ∧ ys.length = j ∧ ys.map IxV.x = (xs.take j).map IxV.x ∧ Row 113 3 w.heap.size wr v j (ys.flatMap IxV.cells) ∧
      (∀ y ∈ ys, Row 3 1 w.heap.size wr y.v y.x.cols.length (y.x.cols.flatMap icell)) ∧ Fr (fun _ => False) w wr) (fun _ i _ => xs.length - (intOf i).toNat)
  case atStart => exact ⟨0, [], by omega, rfl, rfl, rfl, Row.nil, fun y hy => by simp at hy, F0.out⟩
  case round =>
    obtain ⟨j, ys, hj, rfl, hyl, hys, hrow, hyr, fr⟩ := hrel
    have HROW := hid hrow
    have HYR := hid hyr
    have HYS := hid hys
    have HYL := hid hyl
    have FR := hid fr
    obtain ⟨vx, cc, rfl, _⟩ := hrow.slice
    clear hrow fr F0 hyr hys hyl
    by_cases hjl : j < xs.length
    · obtain ⟨g, o, rfl, hg, q⟩ := slK (k := 3) (f := IxV.cells) (by decide) ix_len (HX.out.fr FR.out (fun _ _ h => h)) hjl
      have q0 := q 0 (by decide)
      have q1 := q 1 (by decide)
      have q2 := q 2 (by decide)
      have i1 : (0 : Int) ≤ (j : Int) := by omega
      have i2 : (j : Int) < xs.length := by omega
      have HXJ := hid (HXC.out _ (List.getElem_mem hjl))
      have HXLJ := hid (HXL.out _ (List.getElem_mem hjl))
      have HT := hid (show (xs.take (j + 1)).map IxV.x = (xs.take j).map IxV.x ++ [xs[j].x] from by
        rw [List.take_succ_eq_append_getElem hjl, List.map_append]
        rfl)
      obtain ⟨x, hxe⟩ : ∃ x, x = xs[j] := ⟨_, rfl⟩
      rw [← hxe] at q0 q1 q2 HT HXJ HXLJ
      clear hxe q
      obtain ⟨⟨name, cols, root⟩, vv⟩ := x
      simp only [IxV.cells, Nat.add_zero, List.getElem?_cons_zero, List.getElem?_cons_succ] at q0 q1 q2
      dsimp only at HT HXJ HXLJ
      obtain ⟨av, cv, hvv, _, _⟩ := HXJ.out
      subst hvv
      go_upto_region 5 with fail
      have fa := (Fr.refl (fun _ => False) wr).alloc (.cells #[.string (bs name), .slice av cols.length cv, .int .i64 root] 113)
      have HB := hid (Blk.new wr [.string (bs name), .slice av cols.length cv, .int .i64 root] 113)
      replace HROW := hid (HROW.out.fre fa)
      replace HYR := hid (fun y hy => (HYR.out y hy).fre fa)
      replace FR := hid (FR.out.trans fa (fun _ h _ => h))
      have HSZ := FR.out.size
      clear fa q0 q1 q2
      generalize wr.heap.size = d at *
      generalize wr.alloc _ = W1 at *
      have c0 : W1.cell? ⟨d, 0, none⟩ = some (.string (bs name)) := HB.out.cell 0
      have c1 : W1.cell? ⟨d, 1, none⟩ = some (.slice av cols.length cv) := HB.out.cell 1
      have c2 : W1.cell? ⟨d, 2, none⟩ = some (.int .i64 root) := HB.out.cell 2
      have HCO := hid (copied1_go (w := W1) ⟨⟨name, cols, root⟩, .slice av cols.length cv⟩ (HXJ.out.fr FR.out (fun _ _ h => h)) HXLJ.out)
      unfold IxV.agg IxV.cells at HCO
      dsimp only at HCO
      go_wp2_with (first
        | (go_at_call 94; refine HCO.out.mono ?_; rintro e w2 ⟨v2, rfl, hr, f⟩; obtain ⟨a2, cc2, rfl, _⟩ := hr.slice; have HR2 := hid (hr.low HSZ); have F2 := hid (FR.out.trans f (fun _ h _ => h)); have HROW2 := hid (HROW.out.fre f); have HYR2 := hid (fun y hy => (HYR.out y hy).fre f); have HSZ2 := F2.out.size; clear hr f)
        | (at_builtin; refine wpList_app1 rfl (s := .tmp 14) (x := .tmp 18) (t := 108) rfl Try.underlying108 info_ix2 rfl rfl rfl HROW2.out HSZ2 rfl (by simp [Value.oneCell']) (by omega) (by omega) ?_; intro ab ac wg APP
           have HG := hid (And.intro APP.row (And.intro (F2.out.trans APP.fr (fun k hk hl => by have := HROW2.out.new k hk; omega)) (And.intro (HR2.out.fr APP.fr (rows_ne HR2.out HROW2.out (by decide))) (fun y hy => (HYR2.out y hy).fr APP.fr (rows_ne (HYR2.out y hy) HROW2.out (by decide)))))); clear APP))
      go_roundw
      case rel => exact ⟨j + 1, ys ++ [⟨⟨name, cols, root⟩, .slice a2 cols.length cc2⟩], by omega, by go_num, by rw [List.length_append, HYL.out]; rfl, by rw [List.map_append, HYS.out, HT.out]; rfl, HG.out.1.cast rfl (by rw [List.flatMap_append]; rfl), fun y hy => by
        rcases List.mem_append.1 hy with g | g
        · exact HG.out.2.2.2 y g
        · rw [List.mem_singleton.1 g]; exact HG.out.2.2.1, HG.out.2.1⟩
      case measure => simp [intOf]; omega
    · obtain rfl : j = xs.length := by omega
      rw [List.take_length] at HYS
      go_wp2_with (fail)
      go_ret
      exact ⟨_, ys, rfl, HYS.out, HROW.out.cast HYL.out.symm rfl, HYR.out, FR.out⟩
/-- bounds of a table's lists -/
structure TabB (t : TabV) : Prop where
  c : t.t.cols.length ≤ 1048576
  i : t.ix.length ≤ 1048576
  x : ∀ x ∈ t.ix, x.x.cols.length ≤ 1048576
theorem size_tab2 : (Try.prog.info? 110).map (·.size) = some 4 := by kernel_rfl
set_option maxRecDepth 20000 in
theorem copied_go {S : Nat → Prop} {w : World} (t : TabV) (h : TabO S w t) (hb : TabB t) :
    Calls Try.prog 63 #[t.agg] w fun e w' => ∃ t' : TabV, e = .returned t'.agg ∧ t'.t = t.t ∧ TabO (fun k => w.heap.size ≤ k) w' t' ∧ Fr (fun _ => False) w w' := by
  obtain ⟨⟨id, name, cols, ixs⟩, vc, vi, ix⟩ := t
  have HCS := hid (h.c.sl' (R := fun _ => True) (fun _ _ => trivial))
  have HIS := hid (h.i.sl' (R := fun _ => True) (fun _ _ => trivial))
  have HXS := hid (fun x hx => (h.x x hx).1.sl' (R := fun _ => True) (fun _ _ => trivial))
  have HE := hid h.e
  obtain ⟨bc, bi, bx⟩ := hb
  have HBX := hid bx
  obtain ⟨ac, cc, hvc, _⟩ := h.c.slice
  obtain ⟨ai, ci, hvi, _⟩ := h.i.slice
  clear h bx
  dsimp only at HCS HIS HXS HE bc bi HBX hvc hvi
  subst hvc hvi
  unfold TabV.agg TabV.cells
  dsimp only
  have F1 := hid (((Fr.refl (fun _ => False) w).alloc (.cells #[.int .i64 id, .string (bs name), .slice ac cols.length cc, .slice ai ix.length ci] 110)).alloc (.cells #[.int .i64 0, .string ⟨#[]⟩, .slice none 0 0, .slice none 0 0] 110))
  have B0 := hid ((Blk.new w [.int .i64 id, .string (bs name), .slice ac cols.length cc, .slice ai ix.length ci] 110).alloc (.cells #[.int .i64 0, .string ⟨#[]⟩, .slice none 0 0, .slice none 0 0] 110))
  have B1 := hid (Blk.new (w.alloc (.cells #[.int .i64 id, .string (bs name), .slice ac cols.length cc, .slice ai ix.length ci] 110)) [.int .i64 0, .string ⟨#[]⟩, .slice none 0 0, .slice none 0 0] 110)
  simp only [World.size_alloc] at B1
  have HW := hid (show w.heap.size + 1 < ((w.alloc (.cells #[.int .i64 id, .string (bs name), .slice ac cols.length cc, .slice ai ix.length ci] 110)).alloc (.cells #[.int .i64 0, .string ⟨#[]⟩, .slice none 0 0, .slice none 0 0] 110)).heap.size from by simp)
  go_enter Try.func63, Try.ntmps63
  go_upto_region 1 with fail
  generalize (w.alloc (.cells #[.int .i64 id, .string (bs name), .slice ac cols.length cc, .slice ai ix.length ci] 110)).alloc _ = W1 at *
  generalize hd : w.heap.size = d at *
  have HD := hid hd
  clear hd
  have HCL := hid (Clone_col (HCS.out.fr F1.out (fun _ _ h => h)) bc)
  have q1 : W1.cell? ⟨d, 2, none⟩ = some (.slice ac cols.length cc) := B0.out.cell 2
  go_upto_region 2 with (go_at_call 85; refine HCL.out.mono ?_; rintro e w2 ⟨v2, rfl, hr, f⟩; obtain ⟨a2, c2, rfl, _⟩ := hr.slice; have HR2 := hid (hr.low (A := d) (Nat.le_trans (by have := HW.out; omega) (Nat.le_refl _))); have F2 := hid (F1.out.trans f (fun _ h _ => h)); have C0 := hid (Blk.fr B0.out f (fun h => h)); have C1 := hid (Blk.fr B1.out f (fun h => h)); have k1 : w2.cell? ⟨d, 2, none⟩ = some (.slice ac cols.length cc) := C0.out.cell 2; have z1 : w2.frozen? ⟨d, 2, none⟩ = false := C0.out.frozen 2; have HW2 := hid (Nat.lt_of_lt_of_le HW.out f.size); clear hr f)
  have HNE := hid (HR2.out.ne C0.out (by decide))
  have HNE1 := hid (HR2.out.ne C1.out (by decide))
  have F3 := hid (((F2.out).mono (T := fun k => k = d ∨ k = d + 1) (fun _ h _ => h.elim)).setCell ⟨d, 2, none⟩ (.slice a2 cols.length c2) (fun _ => .inl rfl))
  have D0 := hid (C0.out.set 2 (.slice a2 cols.length c2))
  have D1 := hid (C1.out.set_ne ⟨d, 2, none⟩ (.slice a2 cols.length c2) (by simp))
  have HR3 := hid (HR2.out.fr ((Fr.refl (fun k => k = d) w2).setCell ⟨d, 2, none⟩ (.slice a2 cols.length c2) (fun _ => rfl)) (fun k hk e => HNE.out k hk e))
  have HW3 := hid (Nat.lt_of_lt_of_le HW2.out ((Fr.refl (fun k => k = d) w2).setCell ⟨d, 2, none⟩ (.slice a2 cols.length c2) (fun _ => rfl)).size)
  clear k1 z1 q1 HCL B0 B1 C0 C1 F1 F2 HR2 HW HW2
  generalize w2.setCell ⟨d, 2, none⟩ (.slice a2 cols.length c2) = W3 at *
  have FZ := hid (fun k hk (e : k = d ∨ k = d + 1) (hl : k < w.heap.size) => (by have := HD.out; omega : False))
  have HEI := hid (each_ix_go (R := fun k => k < w.heap.size) (w := W3) (vi := .slice ai ix.length ci) (xs := ix) (by
    obtain ⟨a, c, e, h1, h2⟩ := HIS.out
    refine ⟨a, c, e, h1, fun hne => ?_⟩
    obtain ⟨g, o, rfl, -, hr⟩ := h2 hne
    have hl := lt_of_range hne hr
    exact ⟨g, o, rfl, hl, range_fr hr F3.out (by have := HD.out; omega)⟩) (fun x hx => by
    obtain ⟨a, c, e, h1, h2⟩ := HXS.out x hx
    refine ⟨a, c, e, h1, fun hne => ?_⟩
    obtain ⟨g, o, rfl, -, hr⟩ := h2 hne
    have hl := lt_of_range hne hr
    exact ⟨g, o, rfl, hl, range_fr hr F3.out (by have := HD.out; omega)⟩) HBX.out bi)
  have q1 : W3.cell? ⟨d, 3, none⟩ = some (.slice ai ix.length ci) := D0.out.cell 3
  go_upto_region 3 with (go_at_call 93; refine HEI.out.mono ?_; rintro e w4 ⟨v4, ys, rfl, hys, hr, hyr, f⟩; obtain ⟨a4, c4, rfl, _⟩ := hr.slice; have HR4 := hid (hr.low (A := d) (by have := HW3.out; omega)); have HYS := hid hys; have HYR := hid (fun y hy => (hyr y hy).low (A := d) (by have := HW3.out; omega)); have HR5 := hid (HR3.out.fre f); have F4 := hid (F3.out.trans f (fun _ h _ => h.elim)); have C0 := hid (Blk.fr D0.out f (fun h => h)); have C1 := hid (Blk.fr D1.out f (fun h => h)); have k1 : w4.cell? ⟨d, 3, none⟩ = some (.slice ai ix.length ci) := C0.out.cell 3; have z1 : w4.frozen? ⟨d, 3, none⟩ = false := C0.out.frozen 3; clear hr f hyr hys)
  have fs := ((((Fr.refl (fun k => k = d ∨ k = d + 1) w4).setCell ⟨d, 3, none⟩ (.slice a4 ys.length c4) (fun _ => .inl rfl))))
  have E0 := hid (C0.out.set 3 (.slice a4 ys.length c4))
  have E1 := hid (C1.out.set_ne ⟨d, 3, none⟩ (.slice a4 ys.length c4) (by simp))
  have HY : ∀ y ∈ ys, ∀ k, y.v.ownBlock = some k → ¬ (k = d ∨ k = d + 1) := fun y hy k hk e => e.elim ((HYR.out y hy).ne C0.out (by decide) k hk) ((HYR.out y hy).ne C1.out (by decide) k hk)
  have HN4 : ∀ k, (Value.slice a4 ys.length c4).ownBlock = some k → ¬ (k = d ∨ k = d + 1) := fun k hk e => e.elim (HR4.out.ne C0.out (by decide) k hk) (HR4.out.ne C1.out (by decide) k hk)
  have HN5 : ∀ k, (Value.slice a2 cols.length c2).ownBlock = some k → ¬ (k = d ∨ k = d + 1) := fun k hk e => e.elim (HR5.out.ne C0.out (by decide) k hk) (HR5.out.ne C1.out (by decide) k hk)
  have HR6 := hid (And.intro (HR4.out.fr fs HN4) (And.intro (HR5.out.fr fs HN5) (And.intro (fun y hy => (HYR.out y hy).fr fs (HY y hy)) (F4.out.trans fs (fun _ h _ => h)))))
  have HYH := hid HY
  have HNH := hid (And.intro HN4 HN5)
  clear fs HY HN4 HN5 k1 z1 q1 C0 C1 F3 F4 HR4 HR5 HR3 HYR HEI D0 D1 HNE HNE1
  generalize w4.setCell ⟨d, 3, none⟩ (.slice a4 ys.length c4) = W5 at *
  have q0 : W5.cell? ⟨d, 0, none⟩ = some (.int .i64 id) := E0.out.cell 0
  have q1 : W5.cell? ⟨d, 1, none⟩ = some (.string (bs name)) := E0.out.cell 1
  have q2 : W5.cell? ⟨d, 2, none⟩ = some (.slice a2 cols.length c2) := E0.out.cell 2
  have q3 : W5.cell? ⟨d, 3, none⟩ = some (.slice a4 ys.length c4) := E0.out.cell 3
  have r0 : W5.cell? ⟨d + 1, 0, none⟩ = some (.int .i64 0) := E1.out.cell 0
  have r1 : W5.cell? ⟨d + 1, 1, none⟩ = some (.string ⟨#[]⟩) := E1.out.cell 1
  have r2 : W5.cell? ⟨d + 1, 2, none⟩ = some (.slice none 0 0) := E1.out.cell 2
  have r3 : W5.cell? ⟨d + 1, 3, none⟩ = some (.slice none 0 0) := E1.out.cell 3
  have z0 : W5.frozen? ⟨d + 1, 0, none⟩ = false := E1.out.frozen 0
  have z1 : W5.frozen? ⟨d + 1, 1, none⟩ = false := E1.out.frozen 1
  have z2 : W5.frozen? ⟨d + 1, 2, none⟩ = false := E1.out.frozen 2
  have z3 : W5.frozen? ⟨d + 1, 3, none⟩ = false := E1.out.frozen 3
  have B6 := hid ((((E1.out.set 0 (.int .i64 id)).set 1 (.string (bs name))).set 2 (.slice a2 cols.length c2)).set 3 (.slice a4 ys.length c4))
  have f4 := ((((Fr.refl (fun k => k = d ∨ k = d + 1) W5).setCell ⟨d + 1, 0, none⟩ (.int .i64 id) (fun _ => .inr rfl)).setCell ⟨d + 1, 1, none⟩ (.string (bs name)) (fun _ => .inr rfl)).setCell ⟨d + 1, 2, none⟩ (.slice a2 cols.length c2) (fun _ => .inr rfl)).setCell ⟨d + 1, 3, none⟩ (.slice a4 ys.length c4) (fun _ => .inr rfl)
  have HF := hid (And.intro (HR6.out.1.fr f4 HNH.out.1) (And.intro (HR6.out.2.1.fr f4 HNH.out.2) (And.intro (fun y hy => (HR6.out.2.2.1 y hy).fr f4 (HYH.out y hy)) (HR6.out.2.2.2.trans f4 (fun _ h _ => h)))))
  clear f4 HR6 HNH HYH E0 E1
  go_wp2_with (fail)
  obtain ⟨hf1, hf2, hf3, hf4⟩ := HF.out
  refine bodyPost_ret (agg_ret rfl rfl B6.out Try.underlying110 rfl size_tab2) rfl ⟨⟨⟨id, name, cols, ixs⟩, .slice a2 cols.length c2, .slice a4 ys.length c4, ys⟩, rfl, rfl, ⟨hf2.low (Nat.zero_le _), fun k hk => ?_, hf1.low (Nat.zero_le _), fun k hk => ?_, HE.out.trans HYS.out.symm, fun y hy => ⟨(hf3 y hy).low (Nat.zero_le _), fun k hk => ?_⟩⟩, hf4.mono (fun k hk hl => by have := HD.out; omega)⟩
  · rw [HD.out]; exact hf2.new k hk
  · rw [HD.out]; exact hf1.new k hk
  · rw [HD.out]; exact (hf3 y hy).new k hk
/-- tables of the call's own -/
structure TabsR (B : Nat) (W : World) (v : Value) (ts : List TabV) : Prop where
  r : Row 110 4 B W v ts.length (ts.flatMap TabV.cells)
  t : ∀ t ∈ ts, TabO (fun k => B ≤ k) W t
  dc : ts.Pairwise fun a b => ∀ k, a.vc.ownBlock = some k → b.vc.ownBlock ≠ some k
  di : ts.Pairwise fun a b => ∀ k, a.vi.ownBlock = some k → b.vi.ownBlock ≠ some k
theorem TabsR.fr {B : Nat} {U : Nat → Prop} {W W' : World} {v : Value} {ts : List TabV} (h : TabsR B W v ts) (f : Fr U W W') (hU : ∀ k, B ≤ k → ¬ U k) : TabsR B W' v ts :=
  ⟨h.r.fr f (fun k hk => hU k (h.r.new k hk)), fun t ht => (h.t t ht).fr f hU, h.dc, h.di⟩
theorem TabsR.fre {B : Nat} {W W' : World} {v : Value} {ts : List TabV} (h : TabsR B W v ts) (f : Fr (fun _ => False) W W') : TabsR B W' v ts := h.fr f (fun _ _ h => h)
theorem TabsR.nil {B : Nat} {W : World} : TabsR B W (.slice none 0 0) [] := ⟨Row.nil, fun t ht => by simp at ht, List.Pairwise.nil, List.Pairwise.nil⟩
theorem TabO.low {A B : Nat} {W : World} {t : TabV} (h : TabO (fun k => B ≤ k) W t) (hA : A ≤ B) : TabO (fun k => A ≤ k) W t := h.mono (fun _ hk => Nat.le_trans hA hk)
/-- a table's blocks behind an append to tables -/
theorem TabO.app {S : Nat → Prop} {W Wg : World} {n B : Nat} {v : Value} {xs : List Value} {t : TabV} (h : TabO S W t) (rv : Row 110 4 B W v n xs) (fg : Fr (fun k => v.ownBlock = some k) W Wg) : TabO S Wg t :=
  ⟨h.c.fr fg (rows_ne h.c rv (by decide)), h.cS, h.i.fr fg (rows_ne h.i rv (by decide)), h.iS, h.e, fun x hx => ⟨(h.x x hx).1.fr fg (rows_ne (h.x x hx).1 rv (by decide)), (h.x x hx).2⟩⟩
theorem TabsR.snoc {B : Nat} {W Wg : World} {w : World} {v v' : Value} {ts : List TabV} {t : TabV} (h : TabsR B w v ts) (f : Fr (fun _ => False) w W) (hB : B ≤ w.heap.size) (ht : TabO (fun k => w.heap.size ≤ k) W t) (app : App 110 4 B W Wg v v' ts.length (ts.flatMap TabV.cells) t.cells) : TabsR B Wg v' (ts ++ [t]) := by
  have h' := h.fre f
  refine ⟨app.row.cast (by simp) (by simp), fun x hx => ?_, ?_, ?_⟩
  · rcases List.mem_append.1 hx with g | g
    · exact (h'.t x g).app h'.r app.fr
    · rw [List.mem_singleton.1 g]; exact (ht.low hB).app h'.r app.fr
  · rw [List.pairwise_append]
    refine ⟨h.dc, List.pairwise_singleton _ _, fun a ha b hb k hk hk2 => ?_⟩
    rw [List.mem_singleton.1 hb] at hk2
    have h1 := (h.t a ha).c.lt hk
    have h2 : w.heap.size ≤ k := ht.cS k hk2
    omega
  · rw [List.pairwise_append]
    refine ⟨h.di, List.pairwise_singleton _ _, fun a ha b hb k hk hk2 => ?_⟩
    rw [List.mem_singleton.1 hb] at hk2
    have h1 := (h.t a ha).i.lt hk
    have h2 : w.heap.size ≤ k := ht.iS k hk2
    omega
set_option maxRecDepth 20000 in
theorem each_tab_go {R S : Nat → Prop} {w : World} {vi : Value} {ts : List TabV} (h : Sl R w vi ts.length (ts.flatMap TabV.cells)) (hx : ∀ t ∈ ts, TabO S w t) (hxl : ∀ t ∈ ts, TabB t) (hn : ts.length ≤ 1048576) :
    Calls Try.prog 62 #[vi, .func (.func 63) #[] #[]] w fun e w' => ∃ (v : Value) (ys : List TabV), e = .returned v ∧ ys.map TabV.t = ts.map TabV.t ∧ TabsR w.heap.size w' v ys ∧ Fr (fun _ => False) w w' := by
  obtain ⟨a, c, rfl, hc, hxx⟩ := h
  have HX := hid (show Sl R w (.slice a ts.length c) ts.length (ts.flatMap TabV.cells) from ⟨a, c, rfl, hc, hxx⟩)
  clear hxx
  have HXC := hid hx
  have HXL := hid hxl
  have F0 := hid (Fr.refl (fun _ => False) w)
  clear hx hxl
  go_enter Try.func62, Try.ntmps62
  go_wp2_with (fail)
  go_loopw [5, 10] (fun v i wr => ∃ (j : Nat) (ys : List TabV), j ≤ ts.length ∧ i = .int .i64 j ∧ ys.length = j ∧ ys.map TabV.t = (ts.take j).map TabV.t ∧ TabsR w.heap.size wr v ys ∧ Fr (fun _ => False) w wr) (fun _ i _ => ts.length - (intOf i).toNat)
  case atStart => exact ⟨0, [], by omega, rfl, rfl, rfl, TabsR.nil, F0.out⟩
  case round =>
    obtain ⟨j, ys, hj, rfl, rfl, hys, hrow, fr⟩ := hrel
    have HROW := hid hrow
    have HYS := hid hys
    have FR := hid fr
    obtain ⟨vx, cc, rfl, _⟩ := hrow.r.slice
    clear hrow fr F0 hys
    by_cases hjl : ys.length < ts.length
    · obtain ⟨g, o, rfl, hg, q⟩ := slK (k := 4) (f := TabV.cells) (by decide) tab_len (HX.out.fr FR.out (fun _ _ h => h)) hjl
      have q0 := q 0 (by decide)
      have q1 := q 1 (by decide)
      have q2 := q 2 (by decide)
      have q3 := q 3 (by decide)
      have i1 : (0 : Int) ≤ (ys.length : Int) := by omega
      have i2 : (ys.length : Int) < ts.length := by omega
      have HXJ := hid (HXC.out _ (List.getElem_mem hjl))
      have HXLJ := hid (HXL.out _ (List.getElem_mem hjl))
      have HT := hid (show (ts.take (ys.length + 1)).map TabV.t = (ts.take ys.length).map TabV.t ++ [ts[ys.length].t] from by
        rw [List.take_succ_eq_append_getElem hjl, List.map_append]
        rfl)
      obtain ⟨x, hxe⟩ : ∃ x, x = ts[ys.length] := ⟨_, rfl⟩
      rw [← hxe] at q0 q1 q2 q3 HT HXJ HXLJ
      clear hxe q
      obtain ⟨ac, c3, hvc, _⟩ := HXJ.out.c.slice
      obtain ⟨ai, c4, hvi, _⟩ := HXJ.out.i.slice
      obtain ⟨⟨id, name, cols, ixs⟩, vc, vi, ix⟩ := x
      dsimp only at hvc hvi
      subst hvc hvi
      simp only [TabV.cells, Nat.add_zero, List.getElem?_cons_zero, List.getElem?_cons_succ] at q0 q1 q2 q3
      dsimp only at HT
      go_upto_region 5 with fail
      have fa := (Fr.refl (fun _ => False) wr).alloc (.cells #[.int .i64 id, .string (bs name), .slice ac cols.length c3, .slice ai ix.length c4] 110)
      have HB := hid (Blk.new wr [.int .i64 id, .string (bs name), .slice ac cols.length c3, .slice ai ix.length c4] 110)
      replace HROW := hid (HROW.out.fre fa)
      replace FR := hid (FR.out.trans fa (fun _ h _ => h))
      have HSZ := FR.out.size
      clear fa q0 q1 q2 q3
      generalize wr.heap.size = d at *
      generalize wr.alloc _ = W1 at *
      have c0 : W1.cell? ⟨d, 0, none⟩ = some (.int .i64 id) := HB.out.cell 0
      have c1 : W1.cell? ⟨d, 1, none⟩ = some (.string (bs name)) := HB.out.cell 1
      have c2 : W1.cell? ⟨d, 2, none⟩ = some (.slice ac cols.length c3) := HB.out.cell 2
      have c3' : W1.cell? ⟨d, 3, none⟩ = some (.slice ai ix.length c4) := HB.out.cell 3
      have HCO := hid (copied_go (w := W1) ⟨⟨id, name, cols, ixs⟩, .slice ac cols.length c3, .slice ai ix.length c4, ix⟩ (HXJ.out.fr FR.out (fun _ _ h => h)) HXLJ.out)
      unfold TabV.agg TabV.cells at HCO
      dsimp only at HCO
      go_wp2_with (first
        | (go_at_call 63; refine HCO.out.mono ?_; rintro e w2 ⟨⟨t2, vc2, vi2, ix2⟩, rfl, rfl, hr, f⟩; obtain ⟨a6, c6, e6, _⟩ := hr.c.slice; obtain ⟨a7, c7, e7, _⟩ := hr.i.slice; dsimp only at e6 e7; subst e6 e7; have HR2 := hid hr; have F1 := hid f; have F2 := hid (FR.out.trans f (fun _ h _ => h)); have HROW2 := hid (HROW.out.fre f); have HSZ2 := F2.out.size; clear hr f)
        | (at_builtin; refine wpList_app1 rfl (s := .tmp 14) (x := .tmp 18) (t := 91) rfl Try.underlying91 info_tab rfl rfl rfl HROW2.out.r HSZ2 rfl (by simp [Value.oneCell']) (by omega) (by omega) ?_; intro ab ac wg APP
           have HG := hid (And.intro (HROW.out.snoc F1.out HSZ HR2.out APP) (F2.out.trans APP.fr (fun k hk hl => by have := HROW2.out.r.new k hk; omega))); clear APP))
      go_roundw
      case rel => exact ⟨ys.length + 1, ys ++ [_], by omega, by go_num, by rw [List.length_append]; rfl, by rw [List.map_append, HYS.out, HT.out]; rfl, HG.out.1, HG.out.2⟩
      case measure => simp [intOf]; omega
    · have hje : ys.length = ts.length := by omega
      rw [hje, List.take_length] at HYS
      have i3 : ¬ (ys.length : Int) < ts.length := by omega
      clear hje
      go_wp2_with (fail)
      go_ret
      exact ⟨_, rfl, ys, HYS.out, HROW.out, FR.out⟩
theorem CRv.bound {S : Nat → Prop} {w : World} {c : Nat} {v : Value} {ts : List TabV} (h : CRv 93 S w c v ts) (ok : Ok (ts.map TabV.t)) : ∀ t ∈ ts, TabB t := by
  intro t ht
  have T := ok.tab t.t (List.mem_map_of_mem ht)
  have e := (h.t t ht).e
  have hl : t.ix.length = t.t.ixs.length := by rw [e, List.length_map]
  refine ⟨by have := T.le; omega, by have := T.ixs; omega, fun x hx => ?_⟩
  have := (T.ix x.x (by rw [e]; exact List.mem_map_of_mem hx)).le
  omega
theorem CRv.rowSl {S : Nat → Prop} {w : World} {c : Nat} {v : Value} {ts : List TabV} (h : CRv 93 S w c v ts) : Sl (fun _ => True) w v ts.length (ts.flatMap TabV.cells) := h.r.sl' (fun _ _ => trivial)
set_option maxRecDepth 20000 in
theorem All_go {S : Nat → Prop} {w : World} {c : Nat} {m : List Tab} (h : CR 93 S w c m) (ok : Ok m) :
    Calls Try.prog 39 #[.pointer (some ⟨c, 0, none⟩)] w fun e w' => ∃ (v : Value) (ys : List TabV), e = .returned v ∧ ys.map TabV.t = m ∧ TabsR w.heap.size w' v ys ∧ Fr (fun _ => False) w w' := by
  obtain ⟨v, ts, h, rfl⟩ := h
  have c0 : w.cell? ⟨c, 0, none⟩ = some v := h.b.cell 0
  have HE := hid (each_tab_go h.rowSl h.t (h.bound ok) (by have := ok.len; rw [List.length_map] at this; omega))
  obtain ⟨a, cc, rfl, _⟩ := h.r.slice
  clear h ok
  go_enter Try.func39, Try.ntmps39
  go_wp2_with (go_at_call 62; refine HE.out.mono ?_; rintro e w1 ⟨v1, ys, rfl, hys, hr, f⟩; have HR := hid (And.intro hys (And.intro hr f)); clear hys hr f)
  go_ret
  exact ⟨_, ys, rfl, HR.out.1, HR.out.2.1, HR.out.2.2⟩
theorem All_nil_go (w : World) : Calls Try.prog 39 #[.pointer none] w fun e w' => e = .returned (.slice none 0 0) ∧ w' = w := by
  go_enter Try.func39, Try.ntmps39
  go_wp2_with (fail)
  go_ret
  exact ⟨rfl, rfl⟩
def zeroT : TabV := ⟨⟨0, [], [], []⟩, .slice none 0 0, .slice none 0 0, []⟩
theorem TabO.zero {S : Nat → Prop} {W : World} : TabO S W zeroT := ⟨Row.nil, fun k hk => by simp [zeroT, Value.ownBlock] at hk, Row.nil, fun k hk => by simp [zeroT, Value.ownBlock] at hk, rfl, fun x hx => by simp [zeroT] at hx⟩
def atM (m : List Tab) (id : Int) : Tab × Bool := if 1 ≤ id then (match m[(id - 1).toNat]? with | some t => (t, true) | none => (zeroT.t, false)) else (zeroT.t, false)
def tableM (m : List Tab) (n : Bs) : Tab × Bool := atM m (find m n + 1)
theorem res_tab_ok {fn : Func} {p q : Tmp} {ty : TypeId} {d : TypeDesc} {l : List Value} (hf : fn.results = #[.cell p ty, .tmp q]) {tmps : Array Value} {W : World} {b : Nat} {u : Value} (hp : tmps.getD p undef = .pointer (some ⟨b, 0, none⟩)) (hq : tmps.getD q undef = u) (hb : Blk W b l ty) (hu : Try.prog.underlying ty = some d) (hd : d.isRow = true) (hs : (Try.prog.info? ty).map (·.size) = some l.length) :
    (results fn tmps).run Try.prog W = .ok (.tuple #[.agg l.toArray, u]) W := by
  have := run_loadVar_mid (P := Try.prog) W b 0 ty l d (Blk.all _ hb) hu hd hs
  rw [Array.getD_eq_getD_getElem?] at hp hq
  simp [results, hf, hp, hq, asAddr, this]
set_option maxRecDepth 20000 in
theorem At_go {S : Nat → Prop} {w : World} {c : Nat} {m : List Tab} (h : CR 93 S w c m) (ok : Ok m) (id : Int) (hid0 : -9223372036854775808 ≤ id ∧ id ≤ 9223372036854775807) :
    Calls Try.prog 47 #[.pointer (some ⟨c, 0, none⟩), .int .i64 id] w fun e w' => ∃ t : TabV, e = .returned (.tuple #[t.agg, .bool (atM m id).2]) ∧ t.t = (atM m id).1 ∧ TabO (fun k => w.heap.size ≤ k) w' t ∧ Fr (fun _ => False) w w' := by
  obtain ⟨v, ts, h, rfl⟩ := h
  have hlen := ok.len
  rw [List.length_map] at hlen
  have F1 := hid ((Fr.refl (fun _ => False) w).alloc (.cells #[.int .i64 0, .string ⟨#[]⟩, .slice none 0 0, .slice none 0 0] 110))
  have B1 := hid (Blk.new w [.int .i64 0, .string ⟨#[]⟩, .slice none 0 0, .slice none 0 0] 110)
  have HC := hid (h.fre F1.out)
  have HB := hid (h.bound ok)
  obtain ⟨a, cc, rfl, _⟩ := h.r.slice
  clear h ok
  have HLOW : ∀ (_ : id < 1 ∨ (ts.length : Int) < id), atM (ts.map TabV.t) id = (zeroT.t, false) := by
    rintro (h1 | h1)
    · unfold atM; rw [if_neg (by omega)]
    · unfold atM; rw [if_pos (by omega), List.getElem?_eq_none (by rw [List.length_map]; omega)]
  by_cases h1 : id < 1
  · rw [HLOW (.inl h1)]
    clear HLOW
    go_enter Try.func47, Try.ntmps47
    go_upto_region 1 with fail
    generalize hd : w.heap.size = d at *
    have HD := hid hd
    clear hd
    generalize w.alloc _ = W1 at *
    have q0 : W1.cell? ⟨c, 0, none⟩ = some (.slice a ts.length cc) := HC.out.b.cell 0
    have r0 : W1.cell? ⟨d, 0, none⟩ = some (.int .i64 0) := B1.out.cell 0
    have r1 : W1.cell? ⟨d, 1, none⟩ = some (.string ⟨#[]⟩) := B1.out.cell 1
    have r2 : W1.cell? ⟨d, 2, none⟩ = some (.slice none 0 0) := B1.out.cell 2
    have r3 : W1.cell? ⟨d, 3, none⟩ = some (.slice none 0 0) := B1.out.cell 3
    have z0 : W1.frozen? ⟨d, 0, none⟩ = false := B1.out.frozen 0
    have z1 : W1.frozen? ⟨d, 1, none⟩ = false := B1.out.frozen 1
    have z2 : W1.frozen? ⟨d, 2, none⟩ = false := B1.out.frozen 2
    have z3 : W1.frozen? ⟨d, 3, none⟩ = false := B1.out.frozen 3
    have B2 := hid ((((B1.out.set 0 (.int .i64 0)).set 1 (.string ⟨#[]⟩)).set 2 (.slice none 0 0)).set 3 (.slice none 0 0))
    have F2 := hid (((((Fr.refl (fun k => k = d) W1).setCell ⟨d, 0, none⟩ (.int .i64 0) (fun _ => rfl)).setCell ⟨d, 1, none⟩ (.string ⟨#[]⟩) (fun _ => rfl)).setCell ⟨d, 2, none⟩ (.slice none 0 0) (fun _ => rfl)).setCell ⟨d, 3, none⟩ (.slice none 0 0) (fun _ => rfl))
    go_wp2_with (fail)
    exact bodyPost_ret (res_tab_ok rfl rfl rfl B2.out Try.underlying110 rfl size_tab2) rfl ⟨zeroT, rfl, rfl, TabO.zero, F1.out.trans F2.out (fun k hk hl => by have := HD.out; omega)⟩
  · by_cases h2 : (ts.length : Int) < id
    · rw [HLOW (.inr h2)]
      clear HLOW
      go_enter Try.func47, Try.ntmps47
      go_upto_region 1 with fail
      generalize hd : w.heap.size = d at *
      have HD := hid hd
      clear hd
      generalize w.alloc _ = W1 at *
      have q0 : W1.cell? ⟨c, 0, none⟩ = some (.slice a ts.length cc) := HC.out.b.cell 0
      have r0 : W1.cell? ⟨d, 0, none⟩ = some (.int .i64 0) := B1.out.cell 0
      have r1 : W1.cell? ⟨d, 1, none⟩ = some (.string ⟨#[]⟩) := B1.out.cell 1
      have r2 : W1.cell? ⟨d, 2, none⟩ = some (.slice none 0 0) := B1.out.cell 2
      have r3 : W1.cell? ⟨d, 3, none⟩ = some (.slice none 0 0) := B1.out.cell 3
      have z0 : W1.frozen? ⟨d, 0, none⟩ = false := B1.out.frozen 0
      have z1 : W1.frozen? ⟨d, 1, none⟩ = false := B1.out.frozen 1
      have z2 : W1.frozen? ⟨d, 2, none⟩ = false := B1.out.frozen 2
      have z3 : W1.frozen? ⟨d, 3, none⟩ = false := B1.out.frozen 3
      have B2 := hid ((((B1.out.set 0 (.int .i64 0)).set 1 (.string ⟨#[]⟩)).set 2 (.slice none 0 0)).set 3 (.slice none 0 0))
      have F2 := hid (((((Fr.refl (fun k => k = d) W1).setCell ⟨d, 0, none⟩ (.int .i64 0) (fun _ => rfl)).setCell ⟨d, 1, none⟩ (.string ⟨#[]⟩) (fun _ => rfl)).setCell ⟨d, 2, none⟩ (.slice none 0 0) (fun _ => rfl)).setCell ⟨d, 3, none⟩ (.slice none 0 0) (fun _ => rfl))
      go_wp2_with (fail)
      exact bodyPost_ret (res_tab_ok rfl rfl rfl B2.out Try.underlying110 rfl size_tab2) rfl ⟨zeroT, rfl, rfl, TabO.zero, F1.out.trans F2.out (fun k hk hl => by have := HD.out; omega)⟩
    · clear HLOW
      obtain ⟨i, hi, rfl⟩ : ∃ i : Nat, i < ts.length ∧ id = (i : Int) + 1 := ⟨(id - 1).toNat, by omega, by omega⟩
      have ha : atM (ts.map TabV.t) ((i : Int) + 1) = (ts[i].t, true) := by
        unfold atM
        rw [if_pos (by omega), show ((i : Int) + 1 - 1).toNat = i by omega, List.getElem?_map, List.getElem?_eq_getElem hi]
        rfl
      rw [ha]
      clear ha h1 h2
      obtain ⟨g, rfl, -, hr⟩ := tab_at HC.out.r hi
      have HT := hid (HC.out.t _ (List.getElem_mem hi))
      have HBT := hid (HB.out _ (List.getElem_mem hi))
      obtain ⟨x, hx⟩ : ∃ x, x = ts[i] := ⟨_, rfl⟩
      rw [← hx] at hr HT HBT ⊢
      clear hx
      obtain ⟨ac, c3, hvc, _⟩ := HT.out.c.slice
      obtain ⟨ai, c4, hvi, _⟩ := HT.out.i.slice
      obtain ⟨⟨id, name, cols, ixs⟩, vc, vi, ix⟩ := x
      dsimp only at hvc hvi
      subst hvc hvi
      dsimp only
      have i1 : ¬ ((i : Int) + 1 < 1) := by omega
      have i2 : ¬ ((ts.length : Int) < (i : Int) + 1) := by omega
      have i3 : (i : Int) < ts.length := by omega
      have i4 : IntKind.i64.wrap ((i : Int) + 1 - 1) = (i : Int) := by rw [IntWalk.i64_in _ (by omega)]; omega
      have HR := hid hr
      clear hr
      go_enter Try.func47, Try.ntmps47
      go_upto_region 1 with fail
      generalize hd : w.heap.size = d at *
      have HD := hid hd
      clear hd
      generalize w.alloc _ = W1 at *
      have q0 : W1.cell? ⟨c, 0, none⟩ = some (.slice (some ⟨g, 0, none⟩) ts.length cc) := HC.out.b.cell 0
      have t0 : W1.cell? ⟨g, i * 4, none⟩ = some (.int .i64 id) := HR.out 0 _ rfl
      have t1 : W1.cell? ⟨g, i * 4 + 1, none⟩ = some (.string (bs name)) := HR.out 1 _ rfl
      have t2 : W1.cell? ⟨g, i * 4 + 2, none⟩ = some (.slice ac cols.length c3) := HR.out 2 _ rfl
      have t3 : W1.cell? ⟨g, i * 4 + 3, none⟩ = some (.slice ai ix.length c4) := HR.out 3 _ rfl
      have HCO := hid (copied_go (w := W1) ⟨⟨id, name, cols, ixs⟩, .slice ac cols.length c3, .slice ai ix.length c4, ix⟩ HT.out HBT.out)
      unfold TabV.agg TabV.cells at HCO
      dsimp only at HCO
      have HSZ := hid F1.out.size
      have HBL := hid B1.out.lt
      clear HC HT HBT HR HB
      go_wp2_with (go_at_call 63; refine HCO.out.mono ?_; rintro e w2 ⟨⟨t2', vc2, vi2, ix2⟩, rfl, rfl, hr, f⟩; obtain ⟨a6, c6, e6, _⟩ := hr.c.slice; obtain ⟨a7, c7, e7, _⟩ := hr.i.slice; dsimp only at e6 e7; subst e6 e7; have HR2 := hid hr; have C1 := hid (Blk.fr B1.out f (fun h => h)); have r0 : w2.cell? ⟨d, 0, none⟩ = some (.int .i64 0) := C1.out.cell 0; have r1 : w2.cell? ⟨d, 1, none⟩ = some (.string ⟨#[]⟩) := C1.out.cell 1; have r2 : w2.cell? ⟨d, 2, none⟩ = some (.slice none 0 0) := C1.out.cell 2; have r3 : w2.cell? ⟨d, 3, none⟩ = some (.slice none 0 0) := C1.out.cell 3; have z0 : w2.frozen? ⟨d, 0, none⟩ = false := C1.out.frozen 0; have z1 : w2.frozen? ⟨d, 1, none⟩ = false := C1.out.frozen 1; have z2 : w2.frozen? ⟨d, 2, none⟩ = false := C1.out.frozen 2; have z3 : w2.frozen? ⟨d, 3, none⟩ = false := C1.out.frozen 3; have F2 := hid (F1.out.trans f (fun _ h _ => h)); clear hr f t0 t1 t2 t3 q0)
      have B2 := hid ((((C1.out.set 0 (.int .i64 id)).set 1 (.string (bs name))).set 2 (.slice a6 cols.length c6)).set 3 (.slice a7 ix2.length c7))
      have F3 := hid (((((Fr.refl (fun k => k = d) w2).setCell ⟨d, 0, none⟩ (.int .i64 id) (fun _ => rfl)).setCell ⟨d, 1, none⟩ (.string (bs name)) (fun _ => rfl)).setCell ⟨d, 2, none⟩ (.slice a6 cols.length c6) (fun _ => rfl)).setCell ⟨d, 3, none⟩ (.slice a7 ix2.length c7) (fun _ => rfl))
      refine bodyPost_ret (res_tab_ok rfl rfl rfl B2.out Try.underlying110 rfl size_tab2) rfl ⟨⟨⟨id, name, cols, ixs⟩, .slice a6 cols.length c6, .slice a7 ix2.length c7, ix2⟩, rfl, rfl, ?_, F2.out.trans F3.out (fun k hk hl => by have := HD.out; omega)⟩
      have hl := HSZ.out
      rw [← HD.out] at HBL
      refine (HR2.out.fr F3.out (fun k hk e => ?_)).low hl
      have := HBL.out
      have := HD.out
      omega
theorem At_nil_go (id : Int) (w : World) : Calls Try.prog 47 #[.pointer none, .int .i64 id] w fun e w' => e = .returned (.tuple #[zeroT.agg, .bool false]) ∧ Fr (fun _ => False) w w' := by
  have F1 := hid ((Fr.refl (fun _ => False) w).alloc (.cells #[.int .i64 0, .string ⟨#[]⟩, .slice none 0 0, .slice none 0 0] 110))
  have B1 := hid (Blk.new w [.int .i64 0, .string ⟨#[]⟩, .slice none 0 0, .slice none 0 0] 110)
  go_enter Try.func47, Try.ntmps47
  go_upto_region 1 with fail
  generalize hd : w.heap.size = d at *
  have HD := hid hd
  clear hd
  generalize w.alloc _ = W1 at *
  have r0 : W1.cell? ⟨d, 0, none⟩ = some (.int .i64 0) := B1.out.cell 0
  have r1 : W1.cell? ⟨d, 1, none⟩ = some (.string ⟨#[]⟩) := B1.out.cell 1
  have r2 : W1.cell? ⟨d, 2, none⟩ = some (.slice none 0 0) := B1.out.cell 2
  have r3 : W1.cell? ⟨d, 3, none⟩ = some (.slice none 0 0) := B1.out.cell 3
  have z0 : W1.frozen? ⟨d, 0, none⟩ = false := B1.out.frozen 0
  have z1 : W1.frozen? ⟨d, 1, none⟩ = false := B1.out.frozen 1
  have z2 : W1.frozen? ⟨d, 2, none⟩ = false := B1.out.frozen 2
  have z3 : W1.frozen? ⟨d, 3, none⟩ = false := B1.out.frozen 3
  have B2 := hid ((((B1.out.set 0 (.int .i64 0)).set 1 (.string ⟨#[]⟩)).set 2 (.slice none 0 0)).set 3 (.slice none 0 0))
  have F2 := hid (((((Fr.refl (fun k => k = d) W1).setCell ⟨d, 0, none⟩ (.int .i64 0) (fun _ => rfl)).setCell ⟨d, 1, none⟩ (.string ⟨#[]⟩) (fun _ => rfl)).setCell ⟨d, 2, none⟩ (.slice none 0 0) (fun _ => rfl)).setCell ⟨d, 3, none⟩ (.slice none 0 0) (fun _ => rfl))
  go_wp2_with (fail)
  exact bodyPost_ret (res_tab_ok rfl rfl rfl B2.out Try.underlying110 rfl size_tab2) rfl ⟨rfl, F1.out.trans F2.out (fun k hk hl => by have := HD.out; omega)⟩
theorem find_nil_go (n : Bs) (w : World) : Calls Try.prog 84 #[.pointer none, .string (bs n)] w fun e w' => e = .returned (.int .i64 (-1)) ∧ Fr (fun _ => False) w w' := by
  have F1 := hid ((Fr.refl (fun _ => False) w).alloc (.cells #[.string (bs n)] 9))
  go_enter Try.func84, Try.ntmps84
  go_wp2_with (fail)
  go_ret
  exact ⟨rfl, F1.out⟩
/-- a catalog of the call's own -/
theorem CR.of_tabs {A : Nat} {w1 : World} {v : Value} {ys : List TabV} (h : TabsR A w1 v ys) (hA : A ≤ w1.heap.size) : CR 93 (fun k => A ≤ k ∧ k < (w1.alloc (.cells #[v] 93)).heap.size) (w1.alloc (.cells #[v] 93)) w1.heap.size (ys.map TabV.t) := by
  have h' := h.fre ((Fr.refl (fun _ => False) w1).alloc (.cells #[v] 93))
  have B := Blk.new w1 [v] 93
  refine ⟨v, ys, ⟨B, ⟨hA, B.lt⟩, h'.r.low (Nat.zero_le _), fun k hk => ⟨h'.r.new k hk, h'.r.lt hk⟩, fun t ht => ?_, h'.dc, h'.di, fun k hk => hk.2⟩, rfl⟩
  have H := h'.t t ht
  exact ⟨H.c, fun k hk => ⟨H.cS k hk, H.c.lt hk⟩, H.i, fun k hk => ⟨H.iS k hk, H.i.lt hk⟩, H.e, fun x hx => ⟨(H.x x hx).1, fun k hk => ⟨(H.x x hx).2 k hk, (H.x x hx).1.lt hk⟩⟩⟩
theorem Clone_go {S : Nat → Prop} {w : World} {c : Nat} {m : List Tab} (h : CR 93 S w c m) (ok : Ok m) :
    Calls Try.prog 44 #[.pointer (some ⟨c, 0, none⟩)] w fun e w' => ∃ d, e = .returned (.pointer (some ⟨d, 0, none⟩)) ∧ CR 93 (fun k => w.heap.size ≤ k ∧ k < w'.heap.size) w' d m ∧ Fr (fun _ => False) w w' := by
  have HA := hid (All_go h ok)
  clear h ok
  go_enter Try.func44, Try.ntmps44
  go_wp2_with (go_at_call 39; refine HA.out.mono ?_; rintro e w1 ⟨v, ys, rfl, rfl, hr, f⟩; have HR := hid (CR.of_tabs hr f.size); have F1 := hid (f.alloc (.cells #[v] 93)); obtain ⟨a, cc, rfl, _⟩ := hr.r.slice; clear hr f)
  go_ret
  exact ⟨_, rfl, HR.out, F1.out⟩
theorem Clone_nil_go (w : World) : Calls Try.prog 44 #[.pointer none] w fun e w' => ∃ d, e = .returned (.pointer (some ⟨d, 0, none⟩)) ∧ CR 93 (fun k => w.heap.size ≤ k ∧ k < w'.heap.size) w' d [] ∧ Fr (fun _ => False) w w' := by
  have HA := hid (fun w => All_nil_go w)
  have HR := hid (CR.of_tabs (w1 := w) (A := w.heap.size) TabsR.nil (Nat.le_refl _))
  have F1 := hid ((Fr.refl (fun _ => False) w).alloc (.cells #[.slice none 0 0] 93))
  go_enter Try.func44, Try.ntmps44
  go_wp2_with (go_at_call 39; refine (HA.out _).mono ?_; rintro e w1 ⟨rfl, rfl⟩)
  go_ret
  exact ⟨_, rfl, HR.out, F1.out⟩
end Go.Proofs.Ytiimomgbklgicaa
