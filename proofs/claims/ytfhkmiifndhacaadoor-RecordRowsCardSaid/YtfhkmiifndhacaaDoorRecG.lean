import Derived.Test.YtfhkmiifndhacaaDoorRecF
/- record: Same. -/
set_option linter.unusedVariables false
namespace Go.Proofs.YtfhkmiifndhacaaDoor
open Go.RowKit Go.VB Go.VB.Oct Go.VB.Rec
theorem R_eq (r q : R) : decide (r = q) = (decide (r.kind = q.kind) && decide (r.xid = q.xid) && decide (r.table = q.table) && decide (r.old = q.old) && decide (r.new = q.new) && decide (r.edits = q.edits) && decide (r.xids = q.xids) && decide (r.note = q.note)) := by
  cases r
  cases q
  simp [Bool.and_assoc]
set_option maxRecDepth 20000 in
set_option maxHeartbeats 2000000 in
theorem RSame_go {P P' : Nat → Prop} {w : World} {r q : R} {vo vn ve vx uo un ue ux : Value} (h : RV P w r vo vn ve vx) (k : RV P' w q uo un ue ux) : Calls Tryd.prog 16 #[.agg (rv r vo vn ve vx).toArray, .agg (rv q uo un ue ux).toArray] w fun e w' => e = .returned (.bool (decide (r = q))) ∧ Fr (fun _ => False) w w' := by
  have HO := hid (fun w' (f : Fr (fun _ => False) w w') => Equal_val (h.fre f).o (k.fre f).o h.lo k.lo)
  have HN := hid (fun w' (f : Fr (fun _ => False) w w') => Equal_val (h.fre f).n (k.fre f).n h.ln k.ln)
  have HE := hid (fun w' (f : Fr (fun _ => False) w w') => Equal_edit (h.fre f).e (k.fre f).e h.le k.le)
  have HX := hid (fun w' (f : Fr (fun _ => False) w w') => Equal_int (h.fre f).x (k.fre f).x h.lx k.lx)
  obtain ⟨a1, c1, a2, c2, a3, c3, a4, c4, rfl, rfl, rfl, rfl⟩ := h.slices
  obtain ⟨b1, d1, b2, d2, b3, d3, b4, d4, rfl, rfl, rfl, rfl⟩ := k.slices
  clear h k
  rw [R_eq]
  have HB := hid (beq_dec r.note q.note)
  obtain ⟨kind, xid, table, old, new, edits, xids, note⟩ := r
  obtain ⟨kind', xid', table', old', new', edits', xids', note'⟩ := q
  unfold rv
  dsimp only at *
  generalize decide (old = old') = bo at *
  generalize decide (new = new') = bn at *
  generalize decide (edits = edits') = be at *
  generalize decide (xids = xids') = bx at *
  have hnote : ((bs note).toList == (bs note').toList) = decide (note = note') := HB.out
  generalize decide (note = note') = bt at *
  generalize old.length = n1 at *
  generalize new.length = n2 at *
  generalize edits.length = n3 at *
  generalize xids.length = n4 at *
  generalize old'.length = m1 at *
  generalize new'.length = m2 at *
  generalize edits'.length = m3 at *
  generalize xids'.length = m4 at *
  have B1 := hid (Blk.new w [.int .i64 kind, .int .i64 xid, .int .i64 table, .slice a1 n1 c1, .slice a2 n2 c2, .slice a3 n3 c3, .slice a4 n4 c4, .string (bs note)] 28)
  have F1 := hid ((Fr.refl (fun _ => False) w).alloc (.cells #[.int .i64 kind, .int .i64 xid, .int .i64 table, .slice a1 n1 c1, .slice a2 n2 c2, .slice a3 n3 c3, .slice a4 n4 c4, .string (bs note)] 28))
  have B2 := hid (Blk.new (w.alloc (.cells #[.int .i64 kind, .int .i64 xid, .int .i64 table, .slice a1 n1 c1, .slice a2 n2 c2, .slice a3 n3 c3, .slice a4 n4 c4, .string (bs note)] 28)) [.int .i64 kind', .int .i64 xid', .int .i64 table', .slice b1 m1 d1, .slice b2 m2 d2, .slice b3 m3 d3, .slice b4 m4 d4, .string (bs note')] 28)
  have B3 := hid (B1.out.alloc (.cells #[.int .i64 kind', .int .i64 xid', .int .i64 table', .slice b1 m1 d1, .slice b2 m2 d2, .slice b3 m3 d3, .slice b4 m4 d4, .string (bs note')] 28))
  have F2 := hid (F1.out.alloc (.cells #[.int .i64 kind', .int .i64 xid', .int .i64 table', .slice b1 m1 d1, .slice b2 m2 d2, .slice b3 m3 d3, .slice b4 m4 d4, .string (bs note')] 28))
  rw [World.size_alloc] at B2
  go_enter Tryd.func16, Tryd.ntmps16
  go_upto_region 1 with fail
  generalize ((w.alloc (.cells #[.int .i64 kind, .int .i64 xid, .int .i64 table, .slice a1 n1 c1, .slice a2 n2 c2, .slice a3 n3 c3, .slice a4 n4 c4, .string (bs note)] 28)).alloc (.cells #[.int .i64 kind', .int .i64 xid', .int .i64 table', .slice b1 m1 d1, .slice b2 m2 d2, .slice b3 m3 d3, .slice b4 m4 d4, .string (bs note')] 28)) = W at *
  generalize w.heap.size = d at *
  have _b1_0 := B3.out.cell 0
  have _b1_1 := B3.out.cell 1
  have _b1_2 := B3.out.cell 2
  have _b1_3 := B3.out.cell 3
  have _b1_4 := B3.out.cell 4
  have _b1_5 := B3.out.cell 5
  have _b1_6 := B3.out.cell 6
  have _b1_7 := B3.out.cell 7
  have _b2_0 := B2.out.cell 0
  have _b2_1 := B2.out.cell 1
  have _b2_2 := B2.out.cell 2
  have _b2_3 := B2.out.cell 3
  have _b2_4 := B2.out.cell 4
  have _b2_5 := B2.out.cell 5
  have _b2_6 := B2.out.cell 6
  have _b2_7 := B2.out.cell 7
  go_wp2_with (first
    | (go_at_call 46; (first | with_reducible refine (HO.out _ F2.out).mono ?_ | with_reducible refine (HN.out _ F2.out).mono ?_); rintro e w1 ⟨rfl, f1⟩; replace B3 := hid (B3.out.fr f1 (fun h => h)); replace B2 := hid (B2.out.fr f1 (fun h => h)); replace F2 := hid (F2.out.trans f1 (fun _ h _ => h)); clear f1; have p4 := B3.out.cell 4; have q4 := B2.out.cell 4; have p5 := B3.out.cell 5; have q5 := B2.out.cell 5)
    | (go_at_call 47; with_reducible refine (HE.out _ F2.out).mono ?_; rintro e w1 ⟨rfl, f1⟩; replace B3 := hid (B3.out.fr f1 (fun h => h)); replace B2 := hid (B2.out.fr f1 (fun h => h)); replace F2 := hid (F2.out.trans f1 (fun _ h _ => h)); clear f1; have p6 := B3.out.cell 6; have q6 := B2.out.cell 6)
    | (go_at_call 48; with_reducible refine (HX.out _ F2.out).mono ?_; rintro e w1 ⟨rfl, f1⟩; replace B3 := hid (B3.out.fr f1 (fun h => h)); replace B2 := hid (B2.out.fr f1 (fun h => h)); replace F2 := hid (F2.out.trans f1 (fun _ h _ => h)); clear f1; have p7 := B3.out.cell 7; have q7 := B2.out.cell 7))
  all_goals (go_ret; exact ⟨ret_bool (by simp_all), F2.out⟩)
end Go.Proofs.YtfhkmiifndhacaaDoor
