import Derived.Test.YtfhkmiifndhacaaFew
/- The reference's Plain, of rows and of records. -/
set_option linter.unusedVariables false
namespace Go.Proofs.Ytfhkmiifndhacaa
open Go.RowKit Go.VB Go.VB.Oct Go.VB.Rec
set_option maxRecDepth 20000 in
set_option maxHeartbeats 4000000 in
theorem rPlain_go {P : Nat → Prop} {w : World} {va : Value} {r : List V} (h : Sl P w va r.length (r.flatMap V.cells)) (hn : r.length ≤ 1099511627776) :
    Calls Try.prog 62 #[va] w fun e w' => ∃ (a : Option Addr) (c : Nat), e = .returned (.slice a (r.map V.plain).length c) ∧ Row 53 3 w.heap.size w' (.slice a (r.map V.plain).length c) (r.map V.plain).length ((r.map V.plain).flatMap V.cells) ∧ Fr (fun _ => False) w w' := by
  obtain ⟨a, c, rfl, hc, hx⟩ := h
  have HX := hid (show Sl P w (.slice a r.length c) r.length (r.flatMap V.cells) from ⟨a, c, rfl, hc, hx⟩)
  clear hx
  have F0 := hid ((Fr.refl (fun _ => False) w).alloc (.cells #[] 53))
  have R0 := hid (Row.built (e := 53) (n := 0) (size := 3) (B := w.heap.size) w (l := []) rfl (by decide) (Nat.le_refl _))
  go_enter Try.func62, Try.ntmps62
  go_wp2_with (fail)
  go_loopw [3, 4] (fun v3 i wr => ∃ (j : Nat) (l : List V), j ≤ r.length ∧ i = .int .i64 j ∧ l = (r.take j).map V.plain ∧ l.length = j ∧ Row 53 3 w.heap.size wr v3 l.length (l.flatMap V.cells) ∧ Fr (fun _ => False) w wr) (fun _ i _ => r.length - (intOf i).toNat)
  case atStart => exact ⟨0, [], by omega, rfl, rfl, rfl, R0.out, F0.out⟩
  case round =>
    obtain ⟨j, l, hjr, rfl, hl, hll, hrow, fr⟩ := hrel
    have HROW := hid hrow
    have FR := hid fr
    have HL := hid hl
    have HLL := hid hll
    obtain ⟨va, cc, rfl, _⟩ := hrow.slice
    clear hrow fr hl hll F0 R0
    have i1 : (0 : Int) ≤ (j : Int) := by omega
    by_cases hjl : j < r.length
    · have i2 : (j : Int) < r.length := by omega
      obtain ⟨g, o, rfl, hg, q0, q1, q2⟩ := sl_three (f := V.cells) vcells_len (HX.out.fr FR.out (fun _ _ h => h)) hjl
      have HSN := hid (map_snoc V.plain r hjl)
      obtain ⟨x, hx⟩ : ∃ x, x = r[j] := ⟨_, rfl⟩
      rw [← hx] at q0 q1 q2 HSN
      clear hx
      obtain ⟨k, n, s⟩ := x
      simp only [V.cells, List.getElem?_cons_zero, List.getElem?_cons_succ] at q0 q1 q2
      obtain ⟨pv, hpv⟩ : ∃ pv, pv = V.plain ⟨k, n, s⟩ := ⟨_, rfl⟩
      rw [← hpv] at HSN
      have hcs : (k = 1 ∧ V.cells pv = [.int .i64 1, .int .i64 n, .string ⟨#[]⟩]) ∨ (k = 2 ∧ V.cells pv = [.int .i64 2, .int .i64 0, .string (bs s)]) ∨ ((k ≠ 1 ∧ k ≠ 2) ∧ V.cells pv = [.int .i64 k, .int .i64 0, .string ⟨#[]⟩]) := by
        rw [hpv]
        by_cases h1 : k = 1
        · left; subst h1; exact ⟨rfl, rfl⟩
        · by_cases h2 : k = 2
          · right; left; subst h2; exact ⟨rfl, rfl⟩
          · right; right; refine ⟨⟨h1, h2⟩, ?_⟩; simp [V.cells, V.plain, h1, h2, bs]
      clear hpv
      rcases hcs with ⟨rfl, hce⟩ | ⟨rfl, hce⟩ | ⟨⟨h1, h2⟩, hce⟩
      focus
        have kq1 := cell_fr q1 ((Fr.refl (fun _ => False) wr).alloc (.cells #[.int .i64 1, .int .i64 0, .string ⟨#[]⟩] 53)) (fun h => h)
        have HROW2 := hid (HROW.out.fre ((Fr.refl (fun _ => False) wr).alloc (.cells #[.int .i64 1, .int .i64 n, (.string ⟨#[]⟩)] 53)))
        have FR2 := hid (FR.out.alloc (.cells #[.int .i64 1, .int .i64 n, (.string ⟨#[]⟩)] 53))
        have HCE := hid hce
        clear hce
        go_wp2_with (first | (at_builtin; refine wpList_app1 rfl (s := .tmp 37) (x := .tmp 39) (t := 23) rfl Try.underlying23 info_val val_cells rfl (by rw [World.size_alloc]; rfl) HROW2.out FR2.out.size rfl (by simp [Value.oneCell']) (by have := HLL.out; omega) (by have := HLL.out; omega) ?_; intro ab ac wg APP; have HG := hid (show Row 53 3 w.heap.size wg (.slice ab (l.length + 1) ac) (l ++ [pv]).length ((l ++ [pv]).flatMap V.cells) ∧ Fr (fun _ => False) w wg from ⟨APP.row.cast (by simp) (by simp [HCE.out]), APP.frB HROW2.out FR2.out (Nat.le_refl _)⟩); clear APP))
        go_roundw
        case rel => exact ⟨j + 1, l ++ [pv], by omega, by simp, by rw [HSN.out, HL.out], by have := HLL.out; simp; omega, HG.out.1, HG.out.2⟩
        case measure => simp [intOf]; omega
      focus
        have kq2 := cell_fr q2 ((Fr.refl (fun _ => False) wr).alloc (.cells #[.int .i64 2, .int .i64 0, .string ⟨#[]⟩] 53)) (fun h => h)
        have HROW2 := hid (HROW.out.fre ((Fr.refl (fun _ => False) wr).alloc (.cells #[.int .i64 2, .int .i64 0, (.string (bs s))] 53)))
        have FR2 := hid (FR.out.alloc (.cells #[.int .i64 2, .int .i64 0, (.string (bs s))] 53))
        have HCE := hid hce
        clear hce
        go_wp2_with (first | (at_builtin; refine wpList_app1 rfl (s := .tmp 37) (x := .tmp 39) (t := 23) rfl Try.underlying23 info_val val_cells rfl (by rw [World.size_alloc]; rfl) HROW2.out FR2.out.size rfl (by simp [Value.oneCell']) (by have := HLL.out; omega) (by have := HLL.out; omega) ?_; intro ab ac wg APP; have HG := hid (show Row 53 3 w.heap.size wg (.slice ab (l.length + 1) ac) (l ++ [pv]).length ((l ++ [pv]).flatMap V.cells) ∧ Fr (fun _ => False) w wg from ⟨APP.row.cast (by simp) (by simp [HCE.out]), APP.frB HROW2.out FR2.out (Nat.le_refl _)⟩); clear APP))
        go_roundw
        case rel => exact ⟨j + 1, l ++ [pv], by omega, by simp, by rw [HSN.out, HL.out], by have := HLL.out; simp; omega, HG.out.1, HG.out.2⟩
        case measure => simp [intOf]; omega
      focus
        (have kb1 : (k == 1) = false := by rw [beq_eq_false_iff_ne]; exact h1); (have kb2 : (k == 2) = false := by rw [beq_eq_false_iff_ne]; exact h2)
        have HROW2 := hid (HROW.out.fre ((Fr.refl (fun _ => False) wr).alloc (.cells #[.int .i64 k, .int .i64 0, (.string ⟨#[]⟩)] 53)))
        have FR2 := hid (FR.out.alloc (.cells #[.int .i64 k, .int .i64 0, (.string ⟨#[]⟩)] 53))
        have HCE := hid hce
        clear hce
        go_wp2_with (first | (at_builtin; refine wpList_app1 rfl (s := .tmp 37) (x := .tmp 39) (t := 23) rfl Try.underlying23 info_val val_cells rfl (by rw [World.size_alloc]; rfl) HROW2.out FR2.out.size rfl (by simp [Value.oneCell']) (by have := HLL.out; omega) (by have := HLL.out; omega) ?_; intro ab ac wg APP; have HG := hid (show Row 53 3 w.heap.size wg (.slice ab (l.length + 1) ac) (l ++ [pv]).length ((l ++ [pv]).flatMap V.cells) ∧ Fr (fun _ => False) w wg from ⟨APP.row.cast (by simp) (by simp [HCE.out]), APP.frB HROW2.out FR2.out (Nat.le_refl _)⟩); clear APP))
        go_roundw
        case rel => exact ⟨j + 1, l ++ [pv], by omega, by simp, by rw [HSN.out, HL.out], by have := HLL.out; simp; omega, HG.out.1, HG.out.2⟩
        case measure => simp [intOf]; omega
    · obtain rfl : j = r.length := by omega
      have hcu : l = r.map V.plain := by rw [HL.out, List.take_length]
      have HCU := hid hcu
      clear hcu
      go_wp2_with (fail)
      go_ret
      rw [← HCU.out]
      exact ⟨_, _, rfl, HROW.out, FR.out⟩
set_option maxRecDepth 20000 in
set_option maxHeartbeats 4000000 in
theorem r4Plain_go {P : Nat → Prop} {w : World} {r : R} {vo vn ve vx : Value} (h : RV P w r vo vn ve vx) : Calls Try.prog 24 #[.agg (rv r vo vn ve vx).toArray] w fun e w' => ∃ (ao an : Option Addr) (co cn : Nat), e = .returned (.agg (rv r.plain (.slice ao r.plain.old.length co) (.slice an r.plain.new.length cn) ve vx).toArray) ∧ RV (fun k => k < w'.heap.size) w' r.plain (.slice ao r.plain.old.length co) (.slice an r.plain.new.length cn) ve vx ∧ Fr (fun _ => False) w w' := by
  have HO := hid (fun w' (f : Fr (fun _ => False) w w') => rPlain_go (h.fre f).o h.lo)
  have HN := hid (fun w' (f : Fr (fun _ => False) w w') => rPlain_go (h.fre f).n h.ln)
  have HRV := hid (fun w' (f : Fr (fun _ => False) w w') => h.fre f)
  obtain ⟨a1, c1, a2, c2, a3, c3, a4, c4, rfl, rfl, rfl, rfl⟩ := h.slices
  clear h
  have HPO : r.plain.old = r.old.map V.plain := rfl
  have HPN : r.plain.new = r.new.map V.plain := rfl
  have HPR : rv r.plain = fun vo vn ve vx => [.int .i64 r.kind, .int .i64 r.xid, .int .i64 r.table, vo, vn, ve, vx, .string (bs r.note)] := rfl
  have HEX : r.plain.edits = r.edits ∧ r.plain.xids = r.xids := ⟨rfl, rfl⟩
  have HLN := hid (show r.plain.old.length = r.old.length ∧ r.plain.new.length = r.new.length from by rw [HPO, HPN, List.length_map, List.length_map]; exact ⟨rfl, rfl⟩)
  rw [← HPO] at HO
  rw [← HPN] at HN
  rw [HPR]
  clear HPO HPN HPR
  generalize r.plain = q at *
  have B0 := hid ((Blk.new w (rv r (.slice a1 r.old.length c1) (.slice a2 r.new.length c2) (.slice a3 r.edits.length c3) (.slice a4 r.xids.length c4)) 27).alloc (.cells #[.int .i64 0, .int .i64 0, .int .i64 0, .slice none 0 0, .slice none 0 0, .slice none 0 0, .slice none 0 0, .string ⟨#[]⟩] 27))
  have B1 := hid (Blk.new (w.alloc (.cells (rv r (.slice a1 r.old.length c1) (.slice a2 r.new.length c2) (.slice a3 r.edits.length c3) (.slice a4 r.xids.length c4)).toArray 27)) [.int .i64 0, .int .i64 0, .int .i64 0, .slice none 0 0, .slice none 0 0, .slice none 0 0, .slice none 0 0, .string ⟨#[]⟩] 27)
  have F0 := hid (((Fr.refl (fun _ => False) w).alloc (.cells (rv r (.slice a1 r.old.length c1) (.slice a2 r.new.length c2) (.slice a3 r.edits.length c3) (.slice a4 r.xids.length c4)).toArray 27)).alloc (.cells #[.int .i64 0, .int .i64 0, .int .i64 0, .slice none 0 0, .slice none 0 0, .slice none 0 0, .slice none 0 0, .string ⟨#[]⟩] 27))
  rw [World.size_alloc] at B1
  unfold rv at B0 B1 F0 ⊢
  go_enter Try.func24, Try.ntmps24
  go_upto_region 1 with fail
  generalize (w.alloc _).alloc _ = W1 at *
  have q3 : W1.cell? ⟨w.heap.size, 3, none⟩ = some (.slice a1 r.old.length c1) := B0.out.cell 3
  go_upto_region 2 with (go_at_call 62; refine (HO.out _ F0.out).mono ?_; rintro e w2 ⟨ao, co, rfl, hrow, f⟩; have HRO := hid hrow; have B2 := hid (B0.out.fr f (fun h => h)); have B3 := hid (B1.out.fr f (fun h => h)); have F2 := hid (F0.out.trans f (fun _ h _ => h)); have q3 : w2.cell? ⟨w.heap.size, 3, none⟩ = some (.slice a1 r.old.length c1) := B2.out.cell 3; have z3 := B2.out.frozen 3; clear hrow f)
  have fs := (Fr.refl (fun k => k = w.heap.size) w2).setCell ⟨w.heap.size, 3, none⟩ (.slice ao q.old.length co) (fun _ => rfl)
  have B4 := hid (B2.out.set 3 (.slice ao q.old.length co))
  have B5 := hid (B3.out.fr fs (fun e => by omega))
  have hw0 := F0.out.size
  have hb0 := B0.out.lt
  have HRP := hid (HRO.out.fr fs (fun k hk e => by have := HRO.out.new k hk; omega))
  have F3 := hid (F2.out.trans fs (fun k hk hl => by omega))
  clear q3 z3 fs B0 B1 B2 B3 F0 F2 hw0
  have HSW := hid (show w.heap.size < W1.heap.size from hb0)
  clear hb0
  generalize w2.setCell _ _ = W2 at *
  simp only [List.set_cons_zero, List.set_cons_succ] at B4
  have q4 : W2.cell? ⟨w.heap.size, 4, none⟩ = some (.slice a2 r.new.length c2) := B4.out.cell 4
  go_upto_region 3 with (go_at_call 62; refine (HN.out _ F3.out).mono ?_; rintro e w3 ⟨an, cn, rfl, hrow, f⟩; have HRN := hid hrow; have HRO2 := hid (HRP.out.fre f); have B6 := hid (B4.out.fr f (fun h => h)); have B7 := hid (B5.out.fr f (fun h => h)); have F4 := hid (F3.out.trans f (fun _ h _ => h)); have q4 : w3.cell? ⟨w.heap.size, 4, none⟩ = some (.slice a2 r.new.length c2) := B6.out.cell 4; have z4 := B6.out.frozen 4; clear hrow f)
  have fs := (Fr.refl (fun k => k = w.heap.size) w3).setCell ⟨w.heap.size, 4, none⟩ (.slice an q.new.length cn) (fun _ => rfl)
  have B8 := hid (B6.out.set 4 (.slice an q.new.length cn))
  have B9 := hid (B7.out.fr fs (fun e => by omega))
  have hw1 := F3.out.size
  have HRO3 := hid (HRO2.out.fr fs (fun k hk e => by have := HRO2.out.new k hk; have := HSW.out; omega))
  have HRN3 := hid (HRN.out.fr fs (fun k hk e => by have := HRN.out.new k hk; have := B4.out.lt; omega))
  have F5 := hid (F4.out.trans fs (fun k hk hl => by omega))
  clear q4 z4 fs B4 B5 B6 B7 HRP HRN HRO2 hw1
  generalize w3.setCell _ _ = W3 at *
  simp only [List.set_cons_zero, List.set_cons_succ] at B8
  obtain ⟨p0, p1, p2, p3, p4, p5, p6, p7⟩ := rec_cells (k := r.kind) (x := r.xid) (t := r.table) (o := q.old) (n := q.new) (ed := r.edits) (xs := r.xids) (nt := r.note) B8.out
  have th := B9.out.there 0 8 (by simp)
  have fz := (Fr.refl (fun k => k = w.heap.size + 1) W3).put (w.heap.size + 1) 0 [.int .i64 r.kind, .int .i64 r.xid, .int .i64 r.table, .slice ao q.old.length co, .slice an q.new.length cn, .slice a3 r.edits.length c3, .slice a4 r.xids.length c4, .string (bs r.note)] (fun _ => rfl)
  have HBF := hid (B9.out.put 0 [.int .i64 r.kind, .int .i64 r.xid, .int .i64 r.table, .slice ao q.old.length co, .slice an q.new.length cn, .slice a3 r.edits.length c3, .slice a4 r.xids.length c4, .string (bs r.note)] (by simp))
  have FZ := hid (F5.out.trans fz (fun k hk hl => by omega))
  have HRO4 := hid (HRO3.out.fr fz (fun k hk e => by have := HRO3.out.ne B9.out (by decide) k hk; omega))
  have HRN4 := hid (HRN3.out.fr fz (fun k hk e => by have := HRN3.out.ne B9.out (by decide) k hk; omega))
  clear fz
  go_wp2_with (refine wpList_store_mid rfl 27 (.tmp 2) (.tmp 11) rfl (w.heap.size + 1) 0 #[.int .i64 r.kind, .int .i64 r.xid, .int .i64 r.table, .slice ao q.old.length co, .slice an q.new.length cn, .slice a3 r.edits.length c3, .slice a4 r.xids.length c4, .string (bs r.note)] rfl rfl th size_Rec (by simp [Value.oneCell']) ?_)
  refine bodyPost_ret (v := .agg [.int .i64 r.kind, .int .i64 r.xid, .int .i64 r.table, .slice ao q.old.length co, .slice an q.new.length cn, .slice a3 r.edits.length c3, .slice a4 r.xids.length c4, .string (bs r.note)].toArray) (results_cell_mid (b := w.heap.size + 1) (o := 0) rfl _ _ rfl (cs := [.int .i64 r.kind, .int .i64 r.xid, .int .i64 r.table, .slice ao q.old.length co, .slice an q.new.length cn, .slice a3 r.edits.length c3, .slice a4 r.xids.length c4, .string (bs r.note)]) (Blk.all _ HBF.out) Try.underlying27 rfl size_Rec) rfl ?_
  have hrv := HRV.out _ FZ.out
  refine ⟨ao, an, co, cn, rfl, ⟨own_sl HRO4.out.own (fun k hk => HRO4.out.lt hk), own_sl HRN4.out.own (fun k hk => HRN4.out.lt hk), ?_, ?_, ?_, ?_, ?_, ?_, fun _ h => h⟩, FZ.out⟩
  · rw [HEX.1]; exact hrv.e.mono (fun k hk => hrv.lt k hk)
  · rw [HEX.2]; exact hrv.x.mono (fun k hk => hrv.lt k hk)
  · rw [HLN.out.1]; exact hrv.lo
  · rw [HLN.out.2]; exact hrv.ln
  · rw [HEX.1]; exact hrv.le
  · rw [HEX.2]; exact hrv.lx
end Go.Proofs.Ytfhkmiifndhacaa
