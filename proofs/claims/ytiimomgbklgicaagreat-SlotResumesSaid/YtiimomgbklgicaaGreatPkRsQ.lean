import Derived.Test.YtiimomgbklgicaaGreatPkRsF
import Derived.Test.YtiimomgbklgicaaGreatPkRsK
set_option linter.unusedVariables false
namespace Go.VB.Slt
open Go.VB Go.VB.Oct Go.VB.Cat Go.VB.Rec
/-- a change -/
structure Chg where
  kind : Int
  table : Bs
  names : List Bs
  old : List V
  new : List V
/-- a change with its slices -/
structure ChgV where
  c : Chg
  vn : Value
  vo : Value
  vw : Value
/-- a change's blocks -/
def ChgV.has (c : ChgV) (k : Nat) : Prop := c.vn.ownBlock = some k ∨ c.vo.ownBlock = some k ∨ c.vw.ownBlock = some k
def ChgV.cells (c : ChgV) : List Value := [.int .i64 c.c.kind, .string (bs c.c.table), c.vn, c.vo, c.vw]
theorem vcell_len (v : V) : v.cells.length = 3 := rfl
theorem str_one (l : List Bs) : ∀ u ∈ l.flatMap scell, u.oneCell' = true := by
  intro u hu
  obtain ⟨v, _, hv⟩ := List.mem_flatMap.1 hu
  simp only [scell, List.mem_singleton] at hv
  rw [hv]; rfl
theorem val_one (l : List V) : ∀ u ∈ l.flatMap V.cells, u.oneCell' = true := by
  intro u hu
  obtain ⟨v, _, hv⟩ := List.mem_flatMap.1 hu
  simp only [V.cells, List.mem_cons, List.not_mem_nil, or_false] at hv
  rcases hv with rfl | rfl | rfl <;> rfl
end Go.VB.Slt
namespace Go.Proofs.YtiimomgbklgicaaGreat
open Go.RowKit Go.VB Go.VB.Oct Go.VB.Cat Go.VB.Rec Go.VB.Slt
theorem info_v3 : (Tryz.prog.info? 85).map (fun i => (i.zero, i.size, i.bytes)) = some (some (.agg #[.int .i64 0, .int .i64 0, .string .empty]), 3, 32) := by kernel_rfl
theorem size_chg : (Tryz.prog.info? 80).map (·.size) = some 5 := by kernel_rfl
set_option maxRecDepth 20000 in
theorem Clone_str {R : Nat → Prop} {w : World} {va : Value} {l : List Bs} (h : Sl R w va l.length (l.flatMap scell)) (hn : l.length ≤ 1048576) :
    Calls Tryz.prog 120 #[va] w fun e w' => ∃ v, e = .returned v ∧ Row 9 1 w.heap.size w' v l.length (l.flatMap scell) ∧ Fr (fun _ => False) w w' := by
  have F0 := hid ((Fr.refl (fun _ => False) w).alloc (.cells #[] 9))
  have R0 := hid (Row.built (e := 9) (n := 0) (size := 1) (B := w.heap.size) w (l := []) rfl (by decide) (Nat.le_refl _))
  have S1 := hid (Sl.srcK (P := Tryz.prog) (size := 1) (h.fr F0.out (fun _ _ h => h)) (flat_len scell_len l) (by decide) (str_one l))
  obtain ⟨a, c, rfl, hc, hx⟩ := h
  have HSZ := F0.out.size
  cases a with
  | none =>
    have h0 : l = [] := by
      cases l with
      | nil => rfl
      | cons x l => obtain ⟨g, o, e, _⟩ := hx (by intro e; have := congrArg List.length e; rw [flat_len scell_len] at this; simp at this); cases e
    subst h0
    clear hx S1 R0 F0 HSZ hc hn
    have hq := fun w : World => Lib.run_eql_slice_nil (P := Tryz.prog) w 78 9 none 0 c 0 0 Tryz.underlying78
    simp only [Option.isNone_none] at hq
    go_enter Tryz.func120, Tryz.ntmps120
    go_wp2_with (fail)
    go_ret
    exact ⟨_, rfl, Row.nil, Fr.refl _ _⟩
  | some p =>
    clear hx
    have hq := fun w : World => Lib.run_eql_slice_nil (P := Tryz.prog) w 78 9 (some p) l.length c 0 0 Tryz.underlying78
    simp only [Option.isNone_some] at hq
    go_enter Tryz.func120, Tryz.ntmps120
    go_wp2_with (at_builtin; refine wpList_appS rfl (s := .tmp 5) (x := .tmp 6) (t := 78) (tx := 78) rfl Tryz.underlying78 Tryz.underlying78 (.inr ⟨_, rfl⟩) info_str rfl rfl rfl R0.out HSZ S1.out (by omega) (by omega) ?_; intro ab ac wg APP; have HG := hid (And.intro (APP.row.cast (m := l.length) (ys := l.flatMap scell) (Nat.zero_add _) (by simp)) (APP.frB R0.out F0.out (Nat.le_refl _))); rw [Nat.zero_add] at HG; clear APP)
    go_ret
    exact ⟨_, rfl, HG.out.1, HG.out.2⟩
set_option maxRecDepth 20000 in
theorem Clone_val {R : Nat → Prop} {w : World} {va : Value} {l : List V} (h : Sl R w va l.length (l.flatMap V.cells)) (hn : l.length ≤ 1048576) :
    Calls Tryz.prog 145 #[va] w fun e w' => ∃ v, e = .returned v ∧ Row 85 3 w.heap.size w' v l.length (l.flatMap V.cells) ∧ Fr (fun _ => False) w w' := by
  have F0 := hid ((Fr.refl (fun _ => False) w).alloc (.cells #[] 85))
  have R0 := hid (Row.built (e := 85) (n := 0) (size := 3) (B := w.heap.size) w (l := []) rfl (by decide) (Nat.le_refl _))
  have S1 := hid (Sl.srcK (P := Tryz.prog) (size := 3) (h.fr F0.out (fun _ _ h => h)) (flat_len vcell_len l) (by decide) (val_one l))
  obtain ⟨a, c, rfl, hc, hx⟩ := h
  have HSZ := F0.out.size
  cases a with
  | none =>
    have h0 : l = [] := by
      cases l with
      | nil => rfl
      | cons x l => obtain ⟨g, o, e, _⟩ := hx (by intro e; have := congrArg List.length e; rw [flat_len vcell_len] at this; simp at this); cases e
    subst h0
    clear hx S1 R0 F0 HSZ hc hn
    have hq := fun w : World => Lib.run_eql_slice_nil (P := Tryz.prog) w 32 85 none 0 c 0 0 Tryz.underlying32
    simp only [Option.isNone_none] at hq
    go_enter Tryz.func145, Tryz.ntmps145
    go_wp2_with (fail)
    go_ret
    exact ⟨_, rfl, Row.nil, Fr.refl _ _⟩
  | some p =>
    clear hx
    have hq := fun w : World => Lib.run_eql_slice_nil (P := Tryz.prog) w 32 85 (some p) l.length c 0 0 Tryz.underlying32
    simp only [Option.isNone_some] at hq
    go_enter Tryz.func145, Tryz.ntmps145
    go_wp2_with (at_builtin; refine wpList_appS rfl (s := .tmp 5) (x := .tmp 6) (t := 32) (tx := 32) rfl Tryz.underlying32 Tryz.underlying32 (.inr ⟨_, rfl⟩) info_v3 rfl rfl rfl R0.out HSZ S1.out (by omega) (by omega) ?_; intro ab ac wg APP; have HG := hid (And.intro (APP.row.cast (m := l.length) (ys := l.flatMap V.cells) (Nat.zero_add _) (by simp)) (APP.frB R0.out F0.out (Nat.le_refl _))); rw [Nat.zero_add] at HG; clear APP)
    go_ret
    exact ⟨_, rfl, HG.out.1, HG.out.2⟩
theorem row_go {R : Nat → Prop} {w : World} {va : Value} {l : List V} (h : Sl R w va l.length (l.flatMap V.cells)) (hn : l.length ≤ 1048576) :
    Calls Tryz.prog 113 #[va] w fun e w' => ∃ v, e = .returned v ∧ Row 85 3 w.heap.size w' v l.length (l.flatMap V.cells) ∧ Fr (fun _ => False) w w' := by
  have HC := hid (Clone_val h hn)
  obtain ⟨a, c, rfl, _, _⟩ := h
  go_enter Tryz.func113, Tryz.ntmps113
  go_wp2_with (go_at_call 145; refine HC.out.mono ?_; rintro e w1 ⟨v, rfl, hr, f⟩; obtain ⟨b, c', rfl, _⟩ := hr.slice; have HG := hid (And.intro hr f); clear hr f)
  go_ret
  exact ⟨_, rfl, HG.out.1, HG.out.2⟩
/-- a change that can be read -/
structure ChgS (R : Nat → Prop) (W : World) (c : ChgV) : Prop where
  n : Sl R W c.vn c.c.names.length (c.c.names.flatMap scell)
  o : Sl R W c.vo c.c.old.length (c.c.old.flatMap V.cells)
  w : Sl R W c.vw c.c.new.length (c.c.new.flatMap V.cells)
  ln : c.c.names.length ≤ 1048576
  lo : c.c.old.length ≤ 1048576
  lw : c.c.new.length ≤ 1048576
theorem ChgS.fr {R U : Nat → Prop} {W W' : World} {c : ChgV} (h : ChgS R W c) (f : Fr U W W') (hU : ∀ k, R k → ¬ U k) : ChgS R W' c := ⟨h.n.fr f hU, h.o.fr f hU, h.w.fr f hU, h.ln, h.lo, h.lw⟩
/-- a change of the call's own, its slices at or above block B -/
structure ChgR (B : Nat) (W : World) (c : ChgV) : Prop where
  n : Row 9 1 B W c.vn c.c.names.length (c.c.names.flatMap scell)
  o : Row 85 3 B W c.vo c.c.old.length (c.c.old.flatMap V.cells)
  w : Row 85 3 B W c.vw c.c.new.length (c.c.new.flatMap V.cells)
  ln : c.c.names.length ≤ 1048576
  lo : c.c.old.length ≤ 1048576
  lw : c.c.new.length ≤ 1048576
theorem ChgR.fr {B : Nat} {U : Nat → Prop} {W W' : World} {c : ChgV} (h : ChgR B W c) (f : Fr U W W') (hU : ∀ k, c.has k → ¬ U k) : ChgR B W' c :=
  ⟨h.n.fr f (fun k hk => hU k (.inl hk)), h.o.fr f (fun k hk => hU k (.inr (.inl hk))), h.w.fr f (fun k hk => hU k (.inr (.inr hk))), h.ln, h.lo, h.lw⟩
theorem ChgR.fre {B : Nat} {W W' : World} {c : ChgV} (h : ChgR B W c) (f : Fr (fun _ => False) W W') : ChgR B W' c := h.fr f (fun _ _ h => h)
theorem ChgR.low {A B : Nat} {W : World} {c : ChgV} (h : ChgR B W c) (hA : A ≤ B) : ChgR A W c := ⟨h.n.low hA, h.o.low hA, h.w.low hA, h.ln, h.lo, h.lw⟩
theorem ChgR.s {B : Nat} {W : World} {c : ChgV} (h : ChgR B W c) : ChgS (fun _ => True) W c := ⟨h.n.sl' (fun _ _ => trivial), h.o.sl' (fun _ _ => trivial), h.w.sl' (fun _ _ => trivial), h.ln, h.lo, h.lw⟩
theorem ChgR.ge {B : Nat} {W : World} {c : ChgV} (h : ChgR B W c) {k : Nat} (hk : c.has k) : B ≤ k := hk.elim (h.n.new k) (fun hk => hk.elim (h.o.new k) (h.w.new k))
theorem ChgR.lt {B : Nat} {W : World} {c : ChgV} (h : ChgR B W c) {k : Nat} (hk : c.has k) : k < W.heap.size := hk.elim (fun hk => h.n.lt hk) (fun hk => hk.elim (fun hk => h.o.lt hk) (fun hk => h.w.lt hk))
/-- a block of another type is none of a change's -/
theorem ChgR.ne {B d : Nat} {W : World} {c : ChgV} {l : List Value} {t : TypeId} (h : ChgR B W c) (hb : Blk W d l t) (h1 : t ≠ 9) (h2 : t ≠ 85) : ¬ c.has d := fun hk => hk.elim (fun hk => h.n.ne hb h1 d hk rfl) (fun hk => hk.elim (fun hk => h.o.ne hb h2 d hk rfl) (fun hk => h.w.ne hb h2 d hk rfl))
set_option maxRecDepth 20000 in
set_option maxHeartbeats 4000000 in
theorem own_go {R : Nat → Prop} {w : World} {c : ChgV} (h : ChgS R w c) :
    Calls Tryz.prog 66 #[.agg c.cells.toArray] w fun e w' => ∃ vn vo vw, e = .returned (.agg (ChgV.mk c.c vn vo vw).cells.toArray) ∧ ChgR w.heap.size w' ⟨c.c, vn, vo, vw⟩ ∧ Fr (fun _ => False) w w' := by
  obtain ⟨⟨kind, table, names, old, new⟩, vn, vo, vw⟩ := c
  obtain ⟨hn, ho, hw, ln, lo, lw⟩ := h
  dsimp only at hn ho hw ln lo lw
  have HN := hid hn
  have HO := hid ho
  have HW := hid hw
  have HLN := hid ln
  have HLO := hid lo
  have HLW := hid lw
  obtain ⟨a1, c1, rfl, -, -⟩ := hn
  obtain ⟨a2, c2, rfl, -, -⟩ := ho
  obtain ⟨a3, c3, rfl, -, -⟩ := hw
  clear ln lo lw
  unfold ChgV.cells
  dsimp only
  have F0 := hid (((Fr.refl (fun _ => False) w).alloc (.cells #[.int .i64 kind, .string (bs table), .slice a1 names.length c1, .slice a2 old.length c2, .slice a3 new.length c3] 80)).alloc (.cells #[.int .i64 0, .string ⟨#[]⟩, .slice none 0 0, .slice none 0 0, .slice none 0 0] 80))
  have B0 := hid ((Blk.new w [.int .i64 kind, .string (bs table), .slice a1 names.length c1, .slice a2 old.length c2, .slice a3 new.length c3] 80).alloc (.cells #[.int .i64 0, .string ⟨#[]⟩, .slice none 0 0, .slice none 0 0, .slice none 0 0] 80))
  have Z0 := hid (Blk.new (w.alloc (.cells #[.int .i64 kind, .string (bs table), .slice a1 names.length c1, .slice a2 old.length c2, .slice a3 new.length c3] 80)) [.int .i64 0, .string ⟨#[]⟩, .slice none 0 0, .slice none 0 0, .slice none 0 0] 80)
  simp only [World.size_alloc] at Z0
  go_enter Tryz.func66, Tryz.ntmps66
  go_upto_region 1 with fail
  have HSZ := hid (show w.heap.size ≤ ((w.alloc (.cells #[.int .i64 kind, .string (bs table), .slice a1 names.length c1, .slice a2 old.length c2, .slice a3 new.length c3] 80)).alloc (.cells #[.int .i64 0, .string ⟨#[]⟩, .slice none 0 0, .slice none 0 0, .slice none 0 0] 80)).heap.size from F0.out.size)
  generalize hd : w.heap.size = d at *
  generalize (w.alloc _).alloc _ = W0 at *
  have HDE := hid hd
  clear hd
  have fd := (Fr.refl (fun _ => False) W0).drew
  have F1 := hid (F0.out.trans fd (fun _ h _ => h))
  have B1 := hid (Blk.fr B0.out fd (fun h => h))
  have Z1 := hid (Blk.fr Z0.out fd (fun h => h))
  have HS1 := hid (Nat.le_trans HSZ.out fd.size)
  clear fd F0 B0 Z0 HSZ
  refine wp_region_scr (.take 0 (.take 1 (.take 3 (.take 4 (.take 6 (.take 7 (.op 2 (.take 9 (.op 5 (.op 8 (.op 10 (.take 11 (.op 12 (.take 13 (.op 14 .done))))))))))))))) (fun kz w => (kz ≤ 10 → w.cell? ⟨d, 2, none⟩ = some (.slice a1 names.length c1) ∧ w.cell? ⟨d, 3, none⟩ = some (.slice a2 old.length c2) ∧ w.cell? ⟨d, 4, none⟩ = some (.slice a3 new.length c3)) ∧ Hid True) (by kernel_rfl) (by kernel_rfl) (by intro c a d v w h; cases d <;> exact h) ?_
  repeat
    first
    | (refine wpT_pure rfl rfl rfl ?_; apply Exists.intro; refine ⟨?_, ?_⟩; intro w; (first | (first | (obtain ⟨qa1, qa2, qa3⟩ := qa; go_simp <;> rfl)) | (go_simp <;> rfl)); simp only [Act.put, List.setIfInBounds_toArray, List.set_cons_zero, List.set_cons_succ])
    | (refine wpT_take 10 rfl rfl (by decide +kernel) ⟨fun _ => ⟨B1.out.cell 2, B1.out.cell 3, B1.out.cell 4⟩, hid trivial⟩ ?_; apply Exists.intro; refine ⟨?_, ?_⟩; intro w hw; (have qa := hw.1 (Nat.le_refl _); have qb := hw.2); (first | (first | (obtain ⟨qa1, qa2, qa3⟩ := qa; go_simp <;> rfl)) | (go_simp <;> rfl)); simp only [Act.put, List.setIfInBounds_toArray, List.set_cons_zero, List.set_cons_succ])
    | (refine wpT_skip rfl rfl ?_; simp only [Act.put, List.setIfInBounds_toArray, List.set_cons_zero, List.set_cons_succ])
  generalize W0.drew = W1 at *
  have HC1 := hid (Clone_str (HN.out.fr F1.out (fun _ _ h => h)) HLN.out)
  refine wpT_op rfl ?_
  go_wp2_with ((go_at_call 120; refine HC1.out.mono ?_; rintro e w2 ⟨v1, rfl, hr, f⟩; obtain ⟨b1, e1, rfl, -⟩ := hr.slice; have HR1 := hid (hr.low HS1.out); have B2 := hid (Blk.fr B1.out f (fun h => h)); have Z2 := hid (Blk.fr Z1.out f (fun h => h)); have F2 := hid (F1.out.trans f (fun _ h _ => h)); have HS2 := hid (Nat.le_trans HS1.out f.size); clear hr f))
  (refine ⟨?_, ?_⟩; focus (intro kz hk hk2 hh; first | (exfalso; simp at hk2; omega) | exact hh | exact (fun h => absurd h (by omega)) | obtain ⟨qa, qb⟩ := hh; first | exact ⟨qa, qb⟩ | (refine ⟨fun h => absurd h (by omega), ?_⟩; first | exact qb | (exact ⟨B2.out.cell 2, B2.out.cell 3, B2.out.cell 4⟩)) | (refine ⟨fun h => ?_, ?_⟩; (have qa := qa h); all_goals (first | exact qa | exact qb | (exact ⟨B2.out.cell 2, B2.out.cell 3, B2.out.cell 4⟩)))))
  clear HC1 B1 Z1 F1 HS1
  repeat
    first
    | (refine wpT_pure rfl rfl rfl ?_; apply Exists.intro; refine ⟨?_, ?_⟩; intro w; ((go_simp <;> rfl)); simp only [Act.put, List.setIfInBounds_toArray, List.set_cons_zero, List.set_cons_succ])
    | (refine wpT_take 10 rfl rfl (by decide +kernel) ⟨fun _ => ⟨B2.out.cell 2, B2.out.cell 3, B2.out.cell 4⟩, hid trivial⟩ ?_; apply Exists.intro; refine ⟨?_, ?_⟩; intro w hw; (have qa := hw.1 (Nat.le_refl _); have qb := hw.2); ((go_simp <;> rfl)); simp only [Act.put, List.setIfInBounds_toArray, List.set_cons_zero, List.set_cons_succ])
    | (refine wpT_skip rfl rfl ?_; simp only [Act.put, List.setIfInBounds_toArray, List.set_cons_zero, List.set_cons_succ])
  have HC2 := hid (row_go (HO.out.fr F2.out (fun _ _ h => h)) HLO.out)
  refine wpT_op rfl ?_
  go_wp2_with ((go_at_call 113; refine HC2.out.mono ?_; rintro e w3 ⟨v2, rfl, hr, f⟩; obtain ⟨b2, e2, rfl, -⟩ := hr.slice; have HR2 := hid (hr.low HS2.out); have HR13 := hid (HR1.out.fre f); have B3 := hid (Blk.fr B2.out f (fun h => h)); have Z3 := hid (Blk.fr Z2.out f (fun h => h)); have F3 := hid (F2.out.trans f (fun _ h _ => h)); have HS3 := hid (Nat.le_trans HS2.out f.size); clear hr f))
  (refine ⟨?_, ?_⟩; focus (intro kz hk hk2 hh; first | (exfalso; simp at hk2; omega) | exact hh | exact (fun h => absurd h (by omega)) | obtain ⟨qa, qb⟩ := hh; first | exact ⟨qa, qb⟩ | (refine ⟨fun h => absurd h (by omega), ?_⟩; first | exact qb | (exact ⟨B3.out.cell 2, B3.out.cell 3, B3.out.cell 4⟩)) | (refine ⟨fun h => ?_, ?_⟩; (have qa := qa h); all_goals (first | exact qa | exact qb | (exact ⟨B3.out.cell 2, B3.out.cell 3, B3.out.cell 4⟩)))))
  clear HC2 HR1 B2 Z2 F2 HS2
  have HC3 := hid (row_go (HW.out.fr F3.out (fun _ _ h => h)) HLW.out)
  refine wpT_op rfl ?_
  go_wp2_with ((go_at_call 113; refine HC3.out.mono ?_; rintro e w4 ⟨v3, rfl, hr, f⟩; obtain ⟨b3, e3, rfl, -⟩ := hr.slice; have HR3 := hid (hr.low HS3.out); have HR14 := hid (HR13.out.fre f); have HR24 := hid (HR2.out.fre f); have B4 := hid (Blk.fr B3.out f (fun h => h)); have Z4 := hid (Blk.fr Z3.out f (fun h => h)); have F4 := hid (F3.out.trans f (fun _ h _ => h)); clear hr f))
  (refine ⟨?_, ?_⟩; focus (intro kz hk hk2 hh; first | (exfalso; simp at hk2; omega) | exact hh | exact (fun h => absurd h (by omega)) | obtain ⟨qa, qb⟩ := hh; first | exact ⟨qa, qb⟩ | (refine ⟨fun h => absurd h (by omega), ?_⟩; first | exact qb | (exact ⟨B4.out.cell 2, B4.out.cell 3, B4.out.cell 4⟩)) | (refine ⟨fun h => ?_, ?_⟩; (have qa := qa h); all_goals (first | exact qa | exact qb | (exact ⟨B4.out.cell 2, B4.out.cell 3, B4.out.cell 4⟩)))))
  clear HC3 HR13 HR2 B3 Z3 F3 HS3
  have k2 : w4.cell? ⟨d, 2, none⟩ = some (.slice a1 names.length c1) := B4.out.cell 2
  have z2 : w4.frozen? ⟨d, 2, none⟩ = false := B4.out.frozen 2
  have k3 : w4.cell? ⟨d, 3, none⟩ = some (.slice a2 old.length c2) := B4.out.cell 3
  have z3 : w4.frozen? ⟨d, 3, none⟩ = false := B4.out.frozen 3
  have k4 : w4.cell? ⟨d, 4, none⟩ = some (.slice a3 new.length c3) := B4.out.cell 4
  have z4 : w4.frozen? ⟨d, 4, none⟩ = false := B4.out.frozen 4
  refine wpT_op rfl ?_
  go_wp2_with (fail)
  (refine ⟨?_, ?_⟩; focus (intro kz hk hk2 hh; first | (exfalso; simp at hk2; omega) | exact hh | exact (fun h => absurd h (by omega)) | obtain ⟨qa, qb⟩ := hh; first | exact ⟨qa, qb⟩ | (refine ⟨fun h => absurd h (by omega), ?_⟩; first | exact qb | (exact hid trivial)) | (refine ⟨fun h => ?_, ?_⟩; (have qa := qa h); all_goals (first | exact qa | exact qb | (exact hid trivial)))))
  repeat
    first
    | (refine wpT_pure rfl rfl rfl ?_; apply Exists.intro; refine ⟨?_, ?_⟩; intro w; ((go_simp <;> rfl)); simp only [Act.put, List.setIfInBounds_toArray, List.set_cons_zero, List.set_cons_succ])
    | (refine wpT_take 10 rfl rfl (by decide +kernel) ⟨fun h => absurd h (by omega), hid trivial⟩ ?_; apply Exists.intro; refine ⟨?_, ?_⟩; intro w hw; (have qa := hw.1 (Nat.le_refl _); have qb := hw.2); ((go_simp <;> rfl)); simp only [Act.put, List.setIfInBounds_toArray, List.set_cons_zero, List.set_cons_succ])
    | (refine wpT_skip rfl rfl ?_; simp only [Act.put, List.setIfInBounds_toArray, List.set_cons_zero, List.set_cons_succ])
  refine wpT_op rfl ?_
  go_wp2_with (fail)
  (refine ⟨?_, ?_⟩; focus (intro kz hk hk2 hh; first | (exfalso; simp at hk2; omega) | exact hh | exact (fun h => absurd h (by omega)) | obtain ⟨qa, qb⟩ := hh; first | exact ⟨qa, qb⟩ | (refine ⟨fun h => absurd h (by omega), ?_⟩; first | exact qb | (exact hid trivial)) | (refine ⟨fun h => ?_, ?_⟩; (have qa := qa h); all_goals (first | exact qa | exact qb | (exact hid trivial)))))
  repeat
    first
    | (refine wpT_pure rfl rfl rfl ?_; apply Exists.intro; refine ⟨?_, ?_⟩; intro w; ((go_simp <;> rfl)); simp only [Act.put, List.setIfInBounds_toArray, List.set_cons_zero, List.set_cons_succ])
    | (refine wpT_take 10 rfl rfl (by decide +kernel) ⟨fun h => absurd h (by omega), hid trivial⟩ ?_; apply Exists.intro; refine ⟨?_, ?_⟩; intro w hw; (have qa := hw.1 (Nat.le_refl _); have qb := hw.2); ((go_simp <;> rfl)); simp only [Act.put, List.setIfInBounds_toArray, List.set_cons_zero, List.set_cons_succ])
    | (refine wpT_skip rfl rfl ?_; simp only [Act.put, List.setIfInBounds_toArray, List.set_cons_zero, List.set_cons_succ])
  refine wpT_op rfl ?_
  go_wp2_with (fail)
  (refine ⟨?_, ?_⟩; focus (intro kz hk hk2 hh; first | (exfalso; simp at hk2; omega) | exact hh | exact (fun h => absurd h (by omega)) | obtain ⟨qa, qb⟩ := hh; first | exact ⟨qa, qb⟩ | (refine ⟨fun h => absurd h (by omega), ?_⟩; first | exact qb | (exact hid trivial)) | (refine ⟨fun h => ?_, ?_⟩; (have qa := qa h); all_goals (first | exact qa | exact qb | (exact hid trivial)))))
  refine wpT_nil ?_
  go_upto_region 2 with fail
  clear k2 z2 k3 z3 k4 z4
  have f5 := (((Fr.refl (fun k => k = d) w4).setCell ⟨d, 2, none⟩ (.slice b1 names.length e1) (fun _ => rfl)).setCell ⟨d, 3, none⟩ (.slice b2 old.length e2) (fun _ => rfl)).setCell ⟨d, 4, none⟩ (.slice b3 new.length e3) (fun _ => rfl)
  have HB5 := hid (show Blk (((w4.setCell ⟨d, 2, none⟩ (.slice b1 names.length e1)).setCell ⟨d, 3, none⟩ (.slice b2 old.length e2)).setCell ⟨d, 4, none⟩ (.slice b3 new.length e3)) d [.int .i64 kind, .string (bs table), .slice b1 names.length e1, .slice b2 old.length e2, .slice b3 new.length e3] 80 from ((B4.out.set 2 (.slice b1 names.length e1)).set 3 (.slice b2 old.length e2)).set 4 (.slice b3 new.length e3))
  have HZ5 := hid (Blk.fr Z4.out f5 (fun e => by omega))
  have HR15 := hid (HR14.out.fr f5 (fun k hk e => HR14.out.ne B4.out (by decide) k hk e))
  have HR25 := hid (HR24.out.fr f5 (fun k hk e => HR24.out.ne B4.out (by decide) k hk e))
  have HR35 := hid (HR3.out.fr f5 (fun k hk e => HR3.out.ne B4.out (by decide) k hk e))
  have F5 := hid ((F4.out.mono (fun _ h _ => h.elim) : Fr (fun k => k = d ∨ k = d + 1) w w4).trans f5 (fun k hk _ => .inl hk))
  clear f5 B4 Z4 F4 HR14 HR24 HR3
  generalize (((w4.setCell ⟨d, 2, none⟩ (.slice b1 names.length e1)).setCell ⟨d, 3, none⟩ (.slice b2 old.length e2)).setCell ⟨d, 4, none⟩ (.slice b3 new.length e3)) = W5 at *
  have HRG := hid HB5.out.all
  have hth := HZ5.out.there 0 5 (by simp)
  have fz := (Fr.refl (fun k => k = d + 1) W5).put (d + 1) 0 [.int .i64 kind, .string (bs table), .slice b1 names.length e1, .slice b2 old.length e2, .slice b3 new.length e3] (fun _ => rfl)
  have HB6 := hid (show Blk (W5.setCells (d + 1) 0 [.int .i64 kind, .string (bs table), .slice b1 names.length e1, .slice b2 old.length e2, .slice b3 new.length e3]) (d + 1) [.int .i64 kind, .string (bs table), .slice b1 names.length e1, .slice b2 old.length e2, .slice b3 new.length e3] 80 from by
    have := HZ5.out.put 0 [.int .i64 kind, .string (bs table), .slice b1 names.length e1, .slice b2 old.length e2, .slice b3 new.length e3] (by simp)
    exact this)
  have HR16 := hid (HR15.out.fr fz (fun k hk e => HR15.out.ne HZ5.out (by decide) k hk e))
  have HR26 := hid (HR25.out.fr fz (fun k hk e => HR25.out.ne HZ5.out (by decide) k hk e))
  have HR36 := hid (HR35.out.fr fz (fun k hk e => HR35.out.ne HZ5.out (by decide) k hk e))
  have F6 := hid (F5.out.trans fz (fun k hk _ => .inr hk))
  clear fz F5 HR15 HR25 HR35
  go_wp2_with (first
    | (refine wpList_load_mid rfl 80 (.tmp 1) rfl d 0 rfl _ _ HRG.out Tryz.underlying80 rfl size_chg ?_)
    | (refine wpList_store_mid rfl 80 (.tmp 2) (.tmp 15) rfl (d + 1) 0 #[.int .i64 kind, .string (bs table), .slice b1 names.length e1, .slice b2 old.length e2, .slice b3 new.length e3] rfl rfl hth size_chg (by simp [Value.oneCell']) ?_))
  rw [HDE.out]
  exact bodyPost_ret (agg_ret rfl rfl HB6.out Tryz.underlying80 rfl size_chg) rfl ⟨_, _, _, rfl, ⟨HR16.out, HR26.out, HR36.out, HLN.out, HLO.out, HLW.out⟩, F6.out.mono (fun k hk hl => by have := HDE.out; omega)⟩
end Go.Proofs.YtiimomgbklgicaaGreat
namespace Go.VB.Slt
open Go.VB Go.VB.Oct Go.VB.Cat Go.VB.Rec
/-- a change with the LSN of its record -/
structure Trn where
  lsn : Int
  c : Chg
/-- a followed xid with its changes, in order -/
structure Fol where
  xid : Int
  turns : List Trn
/-- a queued transaction -/
structure Dn where
  first : Int
  lsn : Int
  cs : List Chg
structure Slt where
  name : Bs
  acked : Int
  last : Int
  times : List (Int × List Tab)
  fols : List Fol
  queue : List Dn
structure TrnV where
  lsn : Int
  c : ChgV
def TrnV.t (t : TrnV) : Trn := ⟨t.lsn, t.c.c⟩
def TrnV.cells (t : TrnV) : List Value := .int .i64 t.lsn :: t.c.cells
theorem trn_len (t : TrnV) : t.cells.length = 6 := rfl
theorem chg_len (t : ChgV) : t.cells.length = 5 := rfl
structure FolV where
  xid : Int
  b : Nat
  first : Int
  vh : Value
  vs : Value
  hs : List TrnV
  ss : List TrnV
def FolV.t (f : FolV) : Fol := ⟨f.xid, (f.hs ++ f.ss).map TrnV.t⟩
structure TimV where
  lsn : Int
  c : Nat
  m : List Tab
def TimV.cells (t : TimV) : List Value := [.int .i64 t.lsn, .pointer (some ⟨t.c, 0, none⟩)]
def TimV.t (t : TimV) : Int × List Tab := (t.lsn, t.m)
structure DnV where
  first : Int
  lsn : Int
  v : Value
  cs : List ChgV
def DnV.cells (d : DnV) : List Value := [.int .i64 d.first, .int .i64 d.lsn, d.v]
def DnV.t (d : DnV) : Dn := ⟨d.first, d.lsn, d.cs.map ChgV.c⟩
structure SltV where
  name : Bs
  acked : Int
  last : Int
  vt : Value
  ts : List TimV
  mb : Nat
  n : Nat
  fs : List FolV
  vq : Value
  qs : List DnV
def SltV.t (s : SltV) : Slt := ⟨s.name, s.acked, s.last, s.ts.map TimV.t, s.fs.map FolV.t, s.qs.map DnV.t⟩
def SltV.cells (s : SltV) : List Value := [.string (bs s.name), .int .i64 s.acked, .int .i64 s.last, s.vt, .map (some s.mb), s.vq]
/-- the map of the followed xids -/
def folF (fs : List FolV) : Lit → Option Value
  | .int .i64 x => (fs.find? fun f => f.xid == x).map fun f => .pointer (some ⟨f.b, 0, none⟩)
  | _ => none
/-- a follow's arrays of turns -/
def FolV.arr (f : FolV) (k : Nat) : Prop := f.vh.ownBlock = some k ∨ f.vs.ownBlock = some k
end Go.VB.Slt
namespace Go.Proofs.YtiimomgbklgicaaGreat
open Go.RowKit Go.VB Go.VB.Oct Go.VB.Cat Go.VB.Rec Go.VB.Slt
/-- a list of changes under way, all its blocks in S -/
structure TrnsO (S : Nat → Prop) (W : World) (v : Value) (ts : List TrnV) : Prop where
  r : Row 121 6 0 W v ts.length (ts.flatMap TrnV.cells)
  rS : ∀ k, v.ownBlock = some k → S k
  c : ∀ t ∈ ts, ChgR 0 W t.c
  cS : ∀ t ∈ ts, ∀ k, t.c.has k → S k
theorem TrnsO.fr {S U : Nat → Prop} {W W' : World} {v : Value} {ts : List TrnV} (h : TrnsO S W v ts) (f : Fr U W W') (hU : ∀ k, S k → ¬ U k) : TrnsO S W' v ts :=
  ⟨h.r.fr f (fun k hk => hU k (h.rS k hk)), h.rS, fun t ht => (h.c t ht).fr f (fun k hk => hU k (h.cS t ht k hk)), h.cS⟩
theorem TrnsO.mono {S T : Nat → Prop} {W : World} {v : Value} {ts : List TrnV} (h : TrnsO S W v ts) (hT : ∀ k, S k → T k) : TrnsO T W v ts := ⟨h.r, fun k hk => hT k (h.rS k hk), h.c, fun t ht k hk => hT k (h.cS t ht k hk)⟩
/-- a followed xid -/
structure FolO (S : Nat → Prop) (W : World) (f : FolV) : Prop where
  b : Blk W f.b [.int .i64 f.first, f.vh, f.vs] 129
  bS : S f.b
  h : TrnsO S W f.vh f.hs
  s : TrnsO S W f.vs f.ss
  le : f.hs.length ≤ 16
  full : f.ss ≠ [] → f.hs.length = 16
  ne : ∀ k, f.vh.ownBlock = some k → f.vs.ownBlock ≠ some k
  pos : f.hs ≠ []
  first : ∀ t ∈ f.hs.head?, t.lsn = f.first
theorem FolO.fr {S U : Nat → Prop} {W W' : World} {f : FolV} (h : FolO S W f) (g : Fr U W W') (hU : ∀ k, S k → ¬ U k) : FolO S W' f :=
  ⟨h.b.fr g (hU _ h.bS), h.bS, h.h.fr g hU, h.s.fr g hU, h.le, h.full, h.ne, h.pos, h.first⟩
theorem FolO.mono {S T : Nat → Prop} {W : World} {f : FolV} (h : FolO S W f) (hT : ∀ k, S k → T k) : FolO T W f := ⟨h.b, hT _ h.bS, h.h.mono hT, h.s.mono hT, h.le, h.full, h.ne, h.pos, h.first⟩
/-- a queued transaction -/
structure DnO (S : Nat → Prop) (W : World) (d : DnV) : Prop where
  r : Row 80 5 0 W d.v d.cs.length (d.cs.flatMap ChgV.cells)
  rS : ∀ k, d.v.ownBlock = some k → S k
  c : ∀ c ∈ d.cs, ChgR 0 W c
  cS : ∀ c ∈ d.cs, ∀ k, c.has k → S k
theorem DnO.fr {S U : Nat → Prop} {W W' : World} {d : DnV} (h : DnO S W d) (f : Fr U W W') (hU : ∀ k, S k → ¬ U k) : DnO S W' d :=
  ⟨h.r.fr f (fun k hk => hU k (h.rS k hk)), h.rS, fun t ht => (h.c t ht).fr f (fun k hk => hU k (h.cS t ht k hk)), h.cS⟩
theorem DnO.mono {S T : Nat → Prop} {W : World} {d : DnV} (h : DnO S W d) (hT : ∀ k, S k → T k) : DnO T W d := ⟨h.r, fun k hk => hT k (h.rS k hk), h.c, fun c hc k hk => hT k (h.cS c hc k hk)⟩
/-- the slot s in memory: its own blocks lie in S, its catalogs' in C -/
structure SlO (S C : Nat → Prop) (W : World) (s : Nat) (v : SltV) : Prop where
  b : Blk W s v.cells 116
  bS : S s
  t : Row 125 2 0 W v.vt v.ts.length (v.ts.flatMap TimV.cells)
  tS : ∀ k, v.vt.ownBlock = some k → S k
  tne : v.ts ≠ []
  tc : ∀ t ∈ v.ts, CR 225 C W t.c t.m ∧ Ok t.m
  CS : ∀ k, C k → ¬ S k
  m : MapG Tryz.prog 3 W v.mb v.n (folF v.fs)
  mS : S v.mb
  f : ∀ f ∈ v.fs, FolO S W f
  fx : (v.fs.map FolV.xid).Nodup
  fi : ∀ f ∈ v.fs, -9223372036854775808 ≤ f.xid ∧ f.xid ≤ 9223372036854775807
  fd : v.fs.Pairwise fun f g => f.b ≠ g.b ∧ ∀ k, f.arr k → ¬ g.arr k
  q : Row 133 3 0 W v.vq v.qs.length (v.qs.flatMap DnV.cells)
  qS : ∀ k, v.vq.ownBlock = some k → S k
  d : ∀ d ∈ v.qs, DnO S W d
  lt : ∀ k, S k ∨ C k → k < W.heap.size
theorem SlO.fr {S C U : Nat → Prop} {W W' : World} {s : Nat} {v : SltV} (h : SlO S C W s v) (f : Fr U W W') (hU : ∀ k, S k ∨ C k → ¬ U k) : SlO S C W' s v :=
  ⟨h.b.fr f (hU _ (.inl h.bS)), h.bS, h.t.fr f (fun k hk => hU k (.inl (h.tS k hk))), h.tS, h.tne, fun t ht => ⟨(h.tc t ht).1.fr f (fun k hk => hU k (.inr hk)), (h.tc t ht).2⟩, h.CS, h.m.fr f (hU _ (.inl h.mS)), h.mS,
    fun g hg => (h.f g hg).fr f (fun k hk => hU k (.inl hk)), h.fx, h.fi, h.fd, h.q.fr f (fun k hk => hU k (.inl (h.qS k hk))), h.qS, fun d hd => (h.d d hd).fr f (fun k hk => hU k (.inl hk)), fun k hk => Nat.lt_of_lt_of_le (h.lt k hk) f.size⟩
theorem SlO.fre {S C : Nat → Prop} {W W' : World} {s : Nat} {v : SltV} (h : SlO S C W s v) (f : Fr (fun _ => False) W W') : SlO S C W' s v := h.fr f (fun _ _ h => h)
theorem keyed_int : Go.Maps.Keyed Tryz.prog 3 := Go.Maps.int_keyed Tryz.underlying3
end Go.Proofs.YtiimomgbklgicaaGreat
namespace Go.Proofs.YtiimomgbklgicaaGreat
open Go.RowKit Go.VB Go.VB.Oct Go.VB.Cat Go.VB.Rec Go.VB.Slt
/-- what begin leaves -/
def begV (name : Bs) (acked last : Int) (q : Nat) (m : List Tab) (b : Nat) : SltV := ⟨name, acked, last, .slice (some ⟨b, 0, none⟩) 1 1, [⟨last, q, m⟩], b + 1, 0, [], .slice none 0 0, []⟩
theorem begin_fin {C : Nat → Prop} {W : World} {q : Nat} {m : List Tab} (h : CR 225 C W q m) (ok : Ok m) (name : Bs) (acked last : Int) :
    SlO (fun k => W.heap.size ≤ k ∧ k < W.heap.size + 3) C (((W.alloc (.cells #[.int .i64 last, .pointer (some ⟨q, 0, none⟩)] 125)).alloc (.map #[] 0)).alloc (.cells #[.string (bs name), .int .i64 acked, .int .i64 last, .slice (some ⟨W.heap.size, 0, none⟩) 1 1, .map (some (W.heap.size + 1)), .slice none 0 0] 116)) (W.heap.size + 2) (begV name acked last q m W.heap.size) := by
  have f1 := (Fr.refl (fun _ => False) W).alloc (.cells #[.int .i64 last, .pointer (some ⟨q, 0, none⟩)] 125)
  have f2 := f1.alloc (.map #[] 0)
  have f3 := f2.alloc (.cells #[.string (bs name), .int .i64 acked, .int .i64 last, .slice (some ⟨W.heap.size, 0, none⟩) 1 1, .map (some (W.heap.size + 1)), .slice none 0 0] 116)
  have r1 := Row.built (e := 125) (n := 1) (size := 2) (B := 0) W (l := [.int .i64 last, .pointer (some ⟨q, 0, none⟩)]) rfl (by decide) (Nat.zero_le _)
  have m1 := MapG.new Tryz.prog 3 (W.alloc (.cells #[.int .i64 last, .pointer (some ⟨q, 0, none⟩)] 125))
  have b1 := Blk.new ((W.alloc (.cells #[.int .i64 last, .pointer (some ⟨q, 0, none⟩)] 125)).alloc (.map #[] 0)) [.string (bs name), .int .i64 acked, .int .i64 last, .slice (some ⟨W.heap.size, 0, none⟩) 1 1, .map (some (W.heap.size + 1)), .slice none 0 0] 116
  simp only [World.size_alloc] at m1 b1
  have g1 := ((Fr.refl (fun _ => False) (W.alloc (.cells #[.int .i64 last, .pointer (some ⟨q, 0, none⟩)] 125))).alloc (.map #[] 0)).alloc (.cells #[.string (bs name), .int .i64 acked, .int .i64 last, .slice (some ⟨W.heap.size, 0, none⟩) 1 1, .map (some (W.heap.size + 1)), .slice none 0 0] 116)
  have g2 := (Fr.refl (fun _ => False) ((W.alloc (.cells #[.int .i64 last, .pointer (some ⟨q, 0, none⟩)] 125)).alloc (.map #[] 0))).alloc (.cells #[.string (bs name), .int .i64 acked, .int .i64 last, .slice (some ⟨W.heap.size, 0, none⟩) 1 1, .map (some (W.heap.size + 1)), .slice none 0 0] 116)
  refine ⟨b1, ⟨by omega, by omega⟩, r1.fre g1, fun k hk => ?_, by simp [begV], fun t ht => ?_, fun k hk hs => ?_, ?_, ⟨by simp [begV], by simp [begV]⟩, fun f hf => by simp [begV] at hf, by simp [begV], fun f hf => by simp [begV] at hf, List.Pairwise.nil, Row.nil, fun k hk => by simp [begV, Value.ownBlock] at hk, fun d hd => by simp [begV] at hd, fun k hk => ?_⟩
  · simp [begV, Value.ownBlock] at hk
    omega
  · simp only [begV, List.mem_singleton] at ht
    subst ht
    exact ⟨h.fre f3, ok⟩
  · have := h.lt hk; omega
  · refine (m1.fr g2 (fun h => h)).cast fun x _ => ?_
    show none = folF [] x
    unfold folF
    split <;> rfl
  · simp only [World.size_alloc]
    rcases hk with hk | hk
    · omega
    · have := h.lt hk; omega
theorem begin_nil (name : Bs) (acked last : Int) (w : World) :
    Calls Tryz.prog 42 #[.string (bs name), .int .i64 acked, .int .i64 last, .pointer none] w fun e w' => ∃ (s q b : Nat) (S C : Nat → Prop), e = .returned (.pointer (some ⟨s, 0, none⟩)) ∧ SlO S C w' s (begV name acked last q [] b) ∧ (∀ k, S k ∨ C k → w.heap.size ≤ k) ∧ Fr (fun _ => False) w w' := by
  have HC := hid (Clone_nil_go w)
  have hmm := @run_makeMap Tryz.prog
  go_enter Tryz.func42, Tryz.ntmps42
  go_wp2_with (go_at_call 99; refine HC.out.mono ?_; rintro e w1 ⟨q, rfl, hc, f⟩; have HQ := hid hc; have F1 := hid f; clear hc f)
  go_ret
  exact ⟨_, q, _, _, _, rfl, begin_fin HQ.out ok_nil name acked last, fun k hk => by
    have := F1.out.size
    rcases hk with hk | hk
    · omega
    · have := hk.1; omega, ((F1.out.alloc _).alloc _).alloc _⟩
theorem New_nil (name : Bs) (from_ : Int) (w : World) :
    Calls Tryz.prog 11 #[.string (bs name), .int .i64 from_, .pointer none] w fun e w' => ∃ (s q b : Nat) (S C : Nat → Prop), e = .returned (.pointer (some ⟨s, 0, none⟩)) ∧ SlO S C w' s (begV name (max from_ 0) (max from_ 0) q [] b) ∧ (∀ k, S k ∨ C k → w.heap.size ≤ k) ∧ Fr (fun _ => False) w w' := by
  obtain ⟨z, hz⟩ : ∃ z, max from_ 0 = z := ⟨_, rfl⟩
  have hz2 : (if from_ < 0 then 0 else from_) = z := by rw [← hz]; split <;> omega
  have HB := hid (begin_nil name z z w)
  rw [hz]
  go_enter Tryz.func11, Tryz.ntmps11
  go_wp2_with (go_at_call 42; refine HB.out.mono ?_; rintro e w1 ⟨s, q, b, S, C, rfl, hs, hg, f⟩; have HG := hid (And.intro hs (And.intro hg f)); clear hs hg f)
  go_ret
  exact ⟨s, q, b, S, C, rfl, HG.out.1, HG.out.2.1, HG.out.2.2⟩
end Go.Proofs.YtiimomgbklgicaaGreat
namespace Go.Proofs.YtiimomgbklgicaaGreat
open Go.RowKit Go.VB Go.VB.Oct Go.VB.Cat Go.VB.Rec Go.VB.Slt
/-- a map is no block of cells -/
theorem MapG_ne {k : TypeId} {W : World} {b n d : Nat} {g : Lit → Option Value} {l : List Value} {t : TypeId} (h : MapG Tryz.prog k W b n g) (hb : Blk W d l t) : b ≠ d := by
  intro e
  subst e
  obtain ⟨D, ⟨es, clock, hm, _⟩, _⟩ := h
  unfold Blk at hb
  rw [hm] at hb
  cases hb
/-- the types of a slot's own blocks -/
def SlTy (t : TypeId) : Prop := t = 116 ∨ t = 125 ∨ t = 129 ∨ t = 121 ∨ t = 133
/-- a set of blocks, each of cells of a slot's own types, or the map -/
def Own (U : Nat → Prop) (W : World) (mb : Nat) : Prop := ∀ k, U k → k = mb ∨ ∃ l t, Blk W k l t ∧ SlTy t
theorem SlTy.chg {t : TypeId} (h : SlTy t) : t ≠ 9 ∧ t ≠ 85 ∧ t ≠ 80 := by
  rcases h with rfl | rfl | rfl | rfl | rfl <;> exact ⟨by decide, by decide, by decide⟩
theorem Row_ne_map {e : TypeId} {size B n n' b : Nat} {W : World} {v : Value} {xs : List Value} {k : TypeId} {g : Lit → Option Value} (h : Row e size B W v n xs) (hm : MapG Tryz.prog k W b n' g) : ∀ j, v.ownBlock = some j → j ≠ b := by
  intro j hj e
  obtain ⟨l, hb⟩ := row_blk h hj
  exact MapG_ne hm hb e.symm
/-- the rows of a change are none of a slot's own blocks -/
theorem ChgR.off {B : Nat} {U : Nat → Prop} {W : World} {c : ChgV} {mb n : Nat} {g : Lit → Option Value} (h : ChgR B W c) (hm : MapG Tryz.prog 3 W mb n g) (hU : Own U W mb) : ∀ k, c.has k → ¬ U k := by
  intro k hk hu
  rcases hU k hu with rfl | ⟨l, t, hb, ht⟩
  · rcases hk with hk | hk | hk
    · exact Row_ne_map h.n hm k hk rfl
    · exact Row_ne_map h.o hm k hk rfl
    · exact Row_ne_map h.w hm k hk rfl
  · exact h.ne hb ht.chg.1 ht.chg.2.1 hk
theorem DnO.off {S U : Nat → Prop} {W W' : World} {d : DnV} {mb n : Nat} {g : Lit → Option Value} (h : DnO S W d) (hm : MapG Tryz.prog 3 W mb n g) (hU : Own U W mb) (f : Fr U W W') : DnO S W' d := by
  refine ⟨h.r.fr f (fun k hk hu => ?_), h.rS, fun c hc => (h.c c hc).fr f ((h.c c hc).off hm hU), h.cS⟩
  rcases hU k hu with rfl | ⟨l, t, hb, ht⟩
  · exact Row_ne_map h.r hm k hk rfl
  · exact h.r.ne hb ht.chg.2.2 k hk rfl
theorem TrnsO.off {S U : Nat → Prop} {W W' : World} {v : Value} {ts : List TrnV} {mb n : Nat} {g : Lit → Option Value} (h : TrnsO S W v ts) (hm : MapG Tryz.prog 3 W mb n g) (hU : Own U W mb) (f : Fr U W W') (hv : ∀ k, v.ownBlock = some k → ¬ U k) : TrnsO S W' v ts :=
  ⟨h.r.fr f hv, h.rS, fun t ht => (h.c t ht).fr f ((h.c t ht).off hm hU), h.cS⟩
theorem FolO.off {S U : Nat → Prop} {W W' : World} {x : FolV} {mb n : Nat} {g : Lit → Option Value} (h : FolO S W x) (hm : MapG Tryz.prog 3 W mb n g) (hU : Own U W mb) (f : Fr U W W') (hb : ¬ U x.b) (hv : ∀ k, x.arr k → ¬ U k) : FolO S W' x :=
  ⟨h.b.fr f hb, h.bS, h.h.off hm hU f (fun k hk => hv k (.inl hk)), h.s.off hm hU f (fun k hk => hv k (.inr hk)), h.le, h.full, h.ne, h.pos, h.first⟩
theorem Row_sets {e : TypeId} {size B n : Nat} {U : Nat → Prop} {W : World} {v : Value} {xs : List Value} {k : TypeId} {b n' : Nat} {g : Lit → Option Value} (h : Row e size B W v n xs) (hm : MapG Tryz.prog k W b n' g) (hU : ∀ k, U k → k = b ∨ ∃ l t, Blk W k l t ∧ t ≠ e) : ∀ j, v.ownBlock = some j → ¬ U j := by
  intro j hj hu
  rcases hU j hu with rfl | ⟨l, t, hb, ht⟩
  · exact Row_ne_map h hm j hj rfl
  · exact h.ne hb ht j hj rfl
/-- one follow changed, or its arrays: only blocks of that follow are written -/
theorem SlO.putF {S T C U : Nat → Prop} {W W' : World} {s : Nat} {v : SltV} (h : SlO S C W s v) {i : Nat} (hi : i < v.fs.length) (x : FolV) (f : Fr U W W') (hU : ∀ k, U k → k = v.fs[i].b ∨ v.fs[i].arr k)
    (hx : FolO T W' x) (hb : x.b = v.fs[i].b) (hxi : x.xid = v.fs[i].xid) (ha : ∀ k, x.arr k → v.fs[i].arr k ∨ W.heap.size ≤ k) (hT : ∀ k, S k → T k) (hTl : ∀ k, T k → k < W'.heap.size) (hTC : ∀ k, C k → ¬ T k) :
    SlO T C W' s { v with fs := v.fs.set i x } := by
  have hfi := h.f _ (List.getElem_mem hi)
  have turnB : ∀ k, v.fs[i].arr k → ∃ l, Blk W k l 121 := fun k hk => hk.elim (fun hk => row_blk hfi.h.r hk) (fun hk => row_blk hfi.s.r hk)
  have own : Own U W v.mb := fun k hk => by
    rcases hU k hk with rfl | hk
    · exact .inr ⟨_, _, hfi.b, .inr (.inr (.inl rfl))⟩
    · obtain ⟨l, hl⟩ := turnB k hk
      exact .inr ⟨_, _, hl, .inr (.inr (.inr (.inl rfl)))⟩
  have sets : ∀ e : TypeId, e ≠ 129 → e ≠ 121 → ∀ k, U k → k = v.mb ∨ ∃ l t, Blk W k l t ∧ t ≠ e := fun e h1 h2 k hk => by
    rcases hU k hk with rfl | hk
    · exact .inr ⟨_, _, hfi.b, h1.symm⟩
    · obtain ⟨l, hl⟩ := turnB k hk
      exact .inr ⟨_, _, hl, h2.symm⟩
  have US : ∀ k, U k → S k := fun k hk => by
    rcases hU k hk with rfl | hk
    · exact hfi.bS
    · exact hk.elim (fun hk => hfi.h.rS k hk) (fun hk => hfi.s.rS k hk)
  have sU : ¬ U s := fun hu => by
    rcases hU s hu with e | hk
    · exact h.b.ne_of_type hfi.b (by decide) e
    · obtain ⟨l, hl⟩ := turnB s hk
      exact h.b.ne_of_type hl (by decide) rfl
  have mU : ¬ U v.mb := fun hu => by
    rcases hU _ hu with e | hk
    · exact MapG_ne h.m hfi.b e
    · obtain ⟨l, hl⟩ := turnB _ hk
      exact MapG_ne h.m hl rfl
  have fdp := List.pairwise_iff_getElem.1 h.fd
  have apart : ∀ (j : Nat) (hj : j < v.fs.length), j ≠ i → v.fs[j].b ≠ v.fs[i].b ∧ ∀ k, v.fs[j].arr k → ¬ v.fs[i].arr k := fun j hj hne => by
    rcases Nat.lt_or_gt_of_ne hne with g | g
    · exact fdp j i hj hi g
    · have := fdp i j hi hj g
      exact ⟨fun e => this.1 e.symm, fun k hk hk2 => this.2 k hk2 hk⟩
  refine ⟨h.b.fr f sU, hT _ h.bS, h.t.fr f (Row_sets h.t h.m (sets _ (by decide) (by decide))), fun k hk => hT _ (h.tS k hk), h.tne, fun t ht => ⟨(h.tc t ht).1.fr f (fun k hk hu => h.CS k hk (US k hu)), (h.tc t ht).2⟩, hTC, ?_, hT _ h.mS, ?_, ?_, ?_, ?_, h.q.fr f (Row_sets h.q h.m (sets _ (by decide) (by decide))), fun k hk => hT _ (h.qS k hk), fun d hd => ((h.d d hd).off h.m own f).mono hT, fun k hk => ?_⟩
  · refine (h.m.fr f mU).cast fun l _ => ?_
    unfold folF
    split
    · have : ∀ (L : List FolV) (i : Nat) (hi : i < L.length) (x : FolV), x.b = L[i].b → x.xid = L[i].xid → ∀ y : Int, ((L.set i x).find? fun f => f.xid == y).map (fun f => Value.pointer (some ⟨f.b, 0, none⟩)) = (L.find? fun f => f.xid == y).map (fun f => Value.pointer (some ⟨f.b, 0, none⟩)) := by
        intro L
        induction L with
        | nil => intro i hi; simp at hi
        | cons a L ih =>
          intro i hi x h1 h2 y
          cases i with
          | zero =>
            simp only [List.getElem_cons_zero] at h1 h2
            rw [List.set_cons_zero, List.find?_cons, List.find?_cons, h2]
            split
            · simp [h1]
            · rfl
          | succ i =>
            rw [List.set_cons_succ, List.find?_cons, List.find?_cons]
            split
            · rfl
            · exact ih i (by simpa using hi) x (by simpa using h1) (by simpa using h2) y
      exact (this v.fs i hi x hb hxi _).symm
    · rfl
  · intro g hg
    obtain ⟨j, hj, rfl⟩ := List.getElem_of_mem hg
    have hj2 : j < v.fs.length := by simpa using hj
    rw [List.getElem_set]
    split
    · exact hx
    · rename_i hne
      have a := apart j hj2 (fun e => hne e.symm)
      refine ((h.f _ (List.getElem_mem hj2)).off h.m own f (fun hu => ?_) (fun k hk hu => ?_)).mono hT
      · rcases hU _ hu with e | hk
        · exact a.1 e
        · obtain ⟨l, hl⟩ := turnB _ hk
          exact (h.f _ (List.getElem_mem hj2)).b.ne_of_type hl (by decide) rfl
      · rcases hU _ hu with e | hk2
        · subst e
          rcases hk with hk | hk
          · exact (h.f _ (List.getElem_mem hj2)).h.r.ne hfi.b (by decide) _ hk rfl
          · exact (h.f _ (List.getElem_mem hj2)).s.r.ne hfi.b (by decide) _ hk rfl
        · exact a.2 k hk hk2
  · have e : (v.fs.set i x).map FolV.xid = v.fs.map FolV.xid := by
      rw [List.map_set, hxi]
      refine List.ext_getElem (by simp) fun j h1 h2 => ?_
      rw [List.getElem_set]
      split
      · rename_i e; subst e; simp
      · rfl
    show ((v.fs.set i x).map FolV.xid).Nodup
    rw [e]
    exact h.fx
  · intro g hg
    obtain ⟨j, hj, rfl⟩ := List.getElem_of_mem hg
    have hj2 : j < v.fs.length := by simpa using hj
    rw [List.getElem_set]
    split
    · rw [hxi]; exact h.fi _ (List.getElem_mem hi)
    · exact h.fi _ (List.getElem_mem hj2)
  · show (v.fs.set i x).Pairwise _
    rw [List.pairwise_iff_getElem]
    intro p q hp hq hpq
    have hp2 : p < v.fs.length := by simpa using hp
    have hq2 : q < v.fs.length := by simpa using hq
    have old : ∀ (j : Nat) (hj : j < v.fs.length) k, v.fs[j].arr k → k < W.heap.size := fun j hj k hk => hk.elim (fun hk => (h.f _ (List.getElem_mem hj)).h.r.lt hk) (fun hk => (h.f _ (List.getElem_mem hj)).s.r.lt hk)
    rw [List.getElem_set, List.getElem_set]
    split
    · rename_i e; subst e
      rw [if_neg (by omega)]
      have a := fdp i q hi hq2 hpq
      refine ⟨by rw [hb]; exact a.1, fun k hk hk2 => ?_⟩
      rcases ha k hk with g | g
      · exact a.2 k g hk2
      · have := old q hq2 k hk2; omega
    · split
      · rename_i e; subst e
        have a := fdp p i hp2 hi hpq
        refine ⟨by rw [hb]; exact a.1, fun k hk hk2 => ?_⟩
        rcases ha k hk2 with g | g
        · exact a.2 k hk g
        · have := old p hp2 k hk; omega
      · exact fdp p q hp2 hq2 hpq
  · rcases hk with hk | hk
    · exact hTl k hk
    · exact Nat.lt_of_lt_of_le (h.lt k (.inr hk)) f.size
end Go.Proofs.YtiimomgbklgicaaGreat
namespace Go.VB.Slt
open Go.VB Go.VB.Oct Go.VB.Cat Go.VB.Rec
def addF : List Fol → Int → Trn → List Fol
  | [], x, t => [⟨x, [t]⟩]
  | f :: fs, x, t => if f.xid = x then ⟨f.xid, f.turns ++ [t]⟩ :: fs else f :: addF fs x t
def addM (s : Slt) (x : Int) (t : Trn) : Slt := { s with fols := addF s.fols x t }
theorem addF_new {fs : List FolV} {x : Int} (h : ∀ f ∈ fs, f.xid ≠ x) (t : Trn) : addF (fs.map FolV.t) x t = fs.map FolV.t ++ [⟨x, [t]⟩] := by
  induction fs with
  | nil => rfl
  | cons a fs ih =>
    rw [List.map_cons]
    unfold addF
    rw [if_neg (show ¬ a.t.xid = x from h a (List.mem_cons_self ..)), ih (fun f hf => h f (List.mem_cons_of_mem _ hf))]
    rfl
theorem addF_old {fs : List FolV} {x : Int} (hn : (fs.map FolV.xid).Nodup) {i : Nat} (hi : i < fs.length) (hx : fs[i].xid = x) {f : FolV} {t : Trn} (hf : f.t = ⟨x, fs[i].t.turns ++ [t]⟩) : addF (fs.map FolV.t) x t = (fs.set i f).map FolV.t := by
  induction fs generalizing i with
  | nil => simp at hi
  | cons a fs ih =>
    rw [List.map_cons]
    cases i with
    | zero =>
      simp only [List.getElem_cons_zero] at hx hf
      unfold addF
      rw [if_pos (show a.t.xid = x from hx), List.set_cons_zero, List.map_cons, hf, ← hx]
      rfl
    | succ i =>
      simp only [List.getElem_cons_succ] at hx hf
      have hi' : i < fs.length := by simpa using hi
      rw [List.map_cons, List.nodup_cons] at hn
      have hne : ¬ a.t.xid = x := fun e => hn.1 (by
        rw [List.mem_map]
        exact ⟨fs[i], List.getElem_mem hi', by rw [hx]; exact e.symm⟩)
      unfold addF
      rw [if_neg hne, ih hn.2 hi' hx hf, List.set_cons_succ, List.map_cons]
theorem folF_int (fs : List FolV) (x : Int) : folF fs (.int .i64 x) = (fs.find? fun f => f.xid == x).map fun f => .pointer (some ⟨f.b, 0, none⟩) := rfl
theorem find_no {fs : List FolV} {x : Int} (h : ∀ f ∈ fs, f.xid ≠ x) : folF fs (.int .i64 x) = none := by
  rw [folF_int, List.find?_eq_none.2 (fun f hf => by simpa using h f hf)]
  rfl
theorem find_at {fs : List FolV} {x : Int} (hn : (fs.map FolV.xid).Nodup) {i : Nat} (hi : i < fs.length) (hx : fs[i].xid = x) : folF fs (.int .i64 x) = some (.pointer (some ⟨fs[i].b, 0, none⟩)) := by
  rw [folF_int]
  have : fs.find? (fun f => f.xid == x) = some fs[i] := by
    induction fs generalizing i with
    | nil => simp at hi
    | cons a fs ih =>
      cases i with
      | zero =>
        simp only [List.getElem_cons_zero] at hx ⊢
        rw [List.find?_cons, hx]; simp
      | succ i =>
        simp only [List.getElem_cons_succ] at hx ⊢
        have hi' : i < fs.length := by simpa using hi
        rw [List.map_cons, List.nodup_cons] at hn
        have hne : ¬ a.xid = x := fun e => hn.1 (by
          rw [List.mem_map]
          exact ⟨fs[i], List.getElem_mem hi', by rw [hx]; exact e.symm⟩)
        rw [List.find?_cons, show (a.xid == x) = false from beq_eq_false_iff_ne.2 hne]
        exact ih hn.2 hi' hx
  rw [this]
  rfl
theorem find_cases (fs : List FolV) (x : Int) : (∀ f ∈ fs, f.xid ≠ x) ∨ ∃ (i : Nat) (hi : i < fs.length), fs[i].xid = x := by
  by_cases h : ∃ f ∈ fs, f.xid = x
  · obtain ⟨f, hf, e⟩ := h
    obtain ⟨i, hi, rfl⟩ := List.getElem_of_mem hf
    exact .inr ⟨i, hi, e⟩
  · exact .inl fun f hf e => h ⟨f, hf, e⟩
end Go.VB.Slt
namespace Go.Proofs.YtiimomgbklgicaaGreat
open Go.RowKit Go.VB Go.VB.Oct Go.VB.Cat Go.VB.Rec Go.VB.Slt
/-- a follow more -/
theorem SlO.newF {S T C : Nat → Prop} {W W' : World} {s n' : Nat} {v : SltV} (h : SlO S C W s v) (x : FolV) (f : Fr (fun k => k = v.mb) W W') (hm : MapG Tryz.prog 3 W' v.mb n' (updG (folF v.fs) (.int .i64 x.xid) (some (.pointer (some ⟨x.b, 0, none⟩)))))
    (hx : FolO T W' x) (hb : W.heap.size ≤ x.b) (ha : ∀ k, x.arr k → W.heap.size ≤ k) (hno : ∀ g ∈ v.fs, g.xid ≠ x.xid) (hi : -9223372036854775808 ≤ x.xid ∧ x.xid ≤ 9223372036854775807)
    (hT : ∀ k, S k → T k) (hTl : ∀ k, T k → k < W'.heap.size) (hTC : ∀ k, C k → ¬ T k) :
    SlO T C W' s { v with fs := v.fs ++ [x], n := n' } := by
  have own : Own (fun k => k = v.mb) W v.mb := fun k hk => .inl hk
  have rows : ∀ {e : TypeId} {size B n : Nat} {va : Value} {xs : List Value}, Row e size B W va n xs → Row e size B W' va n xs := fun r => r.fr f (fun k hk e => Row_ne_map r h.m k hk e)
  have old : ∀ g ∈ v.fs, g.b < W.heap.size ∧ ∀ k, g.arr k → k < W.heap.size := fun g hg => ⟨(h.f g hg).b.lt, fun k hk => hk.elim (fun hk => (h.f g hg).h.r.lt hk) (fun hk => (h.f g hg).s.r.lt hk)⟩
  refine ⟨h.b.fr f (fun e => MapG_ne h.m h.b e.symm), hT _ h.bS, rows h.t, fun k hk => hT _ (h.tS k hk), h.tne, fun t ht => ⟨(h.tc t ht).1.fr f (fun k hk e => h.CS k hk (by rw [e]; exact h.mS)), (h.tc t ht).2⟩, hTC, ?_, hT _ h.mS, ?_, ?_, ?_, ?_, rows h.q, fun k hk => hT _ (h.qS k hk), fun d hd => ((h.d d hd).off h.m own f).mono hT, fun k hk => ?_⟩
  · refine hm.cast fun l hl => ?_
    clear hl
    by_cases e : l = .int .i64 x.xid
    · subst e
      rw [updG_same, folF_int, List.find?_append, List.find?_eq_none.2 (fun g hg => by simpa using hno g hg)]
      simp
    · rw [updG_ne _ _ e]
      unfold folF
      split
      · rename_i y
        have hne : ¬ x.xid = y := fun h => e (by rw [h])
        show (v.fs.find? fun f => f.xid == y).map _ = ((v.fs ++ [x]).find? fun f => f.xid == y).map _
        rw [List.find?_append]
        cases v.fs.find? (fun f => f.xid == y) with
        | some g => rfl
        | none => simp [hne]
      · rfl
  · intro g hg
    rcases List.mem_append.1 hg with hg | hg
    · exact ((h.f g hg).off h.m own f (fun e => MapG_ne h.m (h.f g hg).b e.symm) (fun k hk e => by
        rcases hk with hk | hk
        · exact Row_ne_map (h.f g hg).h.r h.m k hk e
        · exact Row_ne_map (h.f g hg).s.r h.m k hk e)).mono hT
    · rw [List.mem_singleton.1 hg]; exact hx
  · show ((v.fs ++ [x]).map FolV.xid).Nodup
    rw [List.map_append, List.nodup_append]
    refine ⟨h.fx, by simp, fun a ha' b hb' e => ?_⟩
    simp only [List.map_cons, List.map_nil, List.mem_singleton] at hb'
    obtain ⟨g, hg, rfl⟩ := List.mem_map.1 ha'
    exact hno g hg (by rw [e, hb'])
  · intro g hg
    rcases List.mem_append.1 hg with hg | hg
    · exact h.fi g hg
    · rw [List.mem_singleton.1 hg]; exact hi
  · show (v.fs ++ [x]).Pairwise _
    rw [List.pairwise_append]
    refine ⟨h.fd, List.pairwise_singleton _ _, fun g hg y hy => ?_⟩
    rw [List.mem_singleton.1 hy]
    have o := old g hg
    exact ⟨fun e => by omega, fun k hk hk2 => by have := o.2 k hk; have := ha k hk2; omega⟩
  · rcases hk with hk | hk
    · exact hTl k hk
    · exact Nat.lt_of_lt_of_le (h.lt k (.inr hk)) f.size
theorem info_trn : (Tryz.prog.info? 121).map (fun i => (i.zero, i.size, i.bytes)) = some (some (.agg #[.int .i64 0, .int .i64 0, .string .empty, .slice none 0 0, .slice none 0 0, .slice none 0 0]), 6, 104) := by kernel_rfl
theorem size_trn : (Tryz.prog.info? 121).map (·.size) = some 6 := by kernel_rfl
end Go.Proofs.YtiimomgbklgicaaGreat
