/- Proved: for every record and every list of integers the law RecordBytes of chapter 04 returns true, and its arguments read afterwards as before. Conditions: none beyond the given statement. -/
import Derived.Test.YtfhkmiifndhacaaArg
import Derived.Test.YtfhkmiifndhacaaRfB
set_option linter.unusedVariables false
namespace Go.Proofs.Ytfhkmiifndhacaa
open Go.RowKit Go.VB Go.VB.Oct Go.VB.Rec
set_option maxRecDepth 20000 in
set_option maxHeartbeats 20000000 in
theorem Bytes_walk {P P' : Nat → Prop} {w : World} {a : R} {vo vn ve vx vl : Value} {L : List Int} (h : AV P w a vo vn ve vx) (hl : Sl P' w vl L.length (L.flatMap icell)) (hL : L.length ≤ 9223372036854775807) :
    Calls Try.prog 3 #[.agg (rv a vo vn ve vx).toArray, vl] w fun e w' => e = .returned (.bool true) ∧ Fr (fun _ => False) w w' := by
  have HSA := hid (fun w => sanity_go w)
  obtain ⟨a1, c1, a2, c2, a3, c3, a4, c4, rfl, rfl, rfl, rfl⟩ := h.slices
  have HFA := hid (fun w' (f : Fr (fun _ => False) w w') => few_is (h.fre f))
  have HMD := hid (fun w' (f : Fr (fun _ => False) w w') => Made_is (hl.fr f (fun _ _ h => h)) hL)
  clear h hl
  have B0 := hid (Blk.new w (rv a (.slice a1 a.old.length c1) (.slice a2 a.new.length c2) (.slice a3 a.edits.length c3) (.slice a4 a.xids.length c4)) 27)
  have F0 := hid ((Fr.refl (fun _ => False) w).alloc (.cells (rv a (.slice a1 a.old.length c1) (.slice a2 a.new.length c2) (.slice a3 a.edits.length c3) (.slice a4 a.xids.length c4)).toArray 27))
  unfold rv at *
  go_enter Try.func3, Try.ntmps3
  go_upto_region 1 with fail
  generalize w.alloc _ = W1 at *
  go_upto_region 2 with (go_at_call 12; refine (HSA.out _).mono ?_; rintro e w2 ⟨rfl, f⟩; replace F0 := hid (F0.out.trans f (fun _ h _ => h)); replace B0 := hid (B0.out.fr f (fun h => h)); clear f)
  obtain ⟨p0, p1, p2, p3, p4, p5, p6, p7⟩ := rec_cells (k := a.kind) (x := a.xid) (t := a.table) (o := a.old) (n := a.new) (ed := a.edits) (xs := a.xids) (nt := a.note) B0.out
  go_upto_region 3 with (first
    | (go_at_call 13; refine (HFA.out _ F0.out).mono ?_; rintro e w3 ⟨x1, x2, x3, x4, y1, y2, y3, y4, rfl, hq⟩; have HQA := hid hq; have F1 := hid (F0.out.trans hq.fr (fun _ h _ => h)); have C0 := hid (B0.out.fr hq.fr (fun h => h)); have th := C0.out.there 0 8 (by simp); clear hq)
    | (refine wpList_store_mid rfl 27 (.tmp 2) (.tmp 10) rfl w.heap.size 0 #[.int .i64 (R.few a).kind, .int .i64 (R.few a).xid, .int .i64 (R.few a).table, .slice x1 (R.few a).old.length y1, .slice x2 (R.few a).new.length y2, .slice x3 (R.few a).edits.length y3, .slice x4 (R.few a).xids.length y4, .string (bs (R.few a).note)] rfl rfl th size_Rec (by simp [Value.oneCell']) ?_))
  have hwl := B0.out.lt
  have fs := (Fr.refl (fun k => k = w.heap.size) w3).put w.heap.size 0 [.int .i64 (R.few a).kind, .int .i64 (R.few a).xid, .int .i64 (R.few a).table, .slice x1 (R.few a).old.length y1, .slice x2 (R.few a).new.length y2, .slice x3 (R.few a).edits.length y3, .slice x4 (R.few a).xids.length y4, .string (bs (R.few a).note)] (fun _ => rfl)
  have HRA := hid (HQA.out.rv.fr fs (fun k hk e => by omega))
  have D0 := hid (C0.out.put 0 [.int .i64 (R.few a).kind, .int .i64 (R.few a).xid, .int .i64 (R.few a).table, .slice x1 (R.few a).old.length y1, .slice x2 (R.few a).new.length y2, .slice x3 (R.few a).edits.length y3, .slice x4 (R.few a).xids.length y4, .string (bs (R.few a).note)] (by simp))
  have G1 := hid (F1.out.trans fs (fun k hk hl => by omega))
  clear p0 p1 p2 p3 p4 p5 p6 p7 th fs C0 B0 F0 F1 HFA HQA hwl
  generalize w3.setCells _ _ _ = W3 at *
  generalize R.few a = A at *
  dsimp only at HRA D0
  simp only [List.take_zero, List.nil_append] at D0
  have HA0 : Hid (Blk W3 w.heap.size (rv A (.slice x1 A.old.length y1) (.slice x2 A.new.length y2) (.slice x3 A.edits.length y3) (.slice x4 A.xids.length y4)) 27) := hid D0.out
  clear D0
  go_upto_region 4 with (go_at_call 14; refine (HMD.out _ G1.out).mono ?_; rintro e w4 ⟨q, z1, z2, z3, z4, t1, t2, t3, t4, rfl, hv, hgd, f⟩; have HV := hid hv; have HGD := hid hgd; have F2 := hid f; clear hv hgd f)
  have fa := (Fr.refl (fun _ => False) w4).alloc (.cells (rv q (.slice z1 q.old.length t1) (.slice z2 q.new.length t2) (.slice z3 q.edits.length t3) (.slice z4 q.xids.length t4)).toArray 27)
  have HB1 := hid (Blk.new w4 (rv q (.slice z1 q.old.length t1) (.slice z2 q.new.length t2) (.slice z3 q.edits.length t3) (.slice z4 q.xids.length t4)) 27)
  have HRQ := hid (RV.fre HV.out fa)
  have HA1 := hid (Blk.fr HA0.out (F2.out.trans fa (fun _ h _ => h)) (fun h => h))
  have HRB := hid (RV.fre HRA.out (F2.out.trans fa (fun _ h _ => h)))
  have G2 := hid (G1.out.trans (F2.out.trans fa (fun _ h _ => h)) (fun _ h _ => h))
  clear fa HV F2 HRA HA0 G1 HMD HSA
  unfold rv at HB1 HRQ HA1 HRB G2
  dsimp only at HRQ
  obtain ⟨ba, hba⟩ : ∃ ba, ba = w.heap.size := ⟨_, rfl⟩
  rw [← hba] at HA1 ⊢
  clear hba
  generalize w4.heap.size = bq at *
  generalize w4.alloc _ = W5 at *
  have H_a1 := hid (fun w' (f : Fr (fun _ => False) W5 w') => RRight_go (HRB.out.fre f))
  have H_a2 := hid (fun w' (f : Fr (fun _ => False) W5 w') => r4Right_go (HRB.out.fre f))
  have H_a3 := hid (fun w' (f : Fr (fun _ => False) W5 w') => RBytes_go (HRB.out.fre f))
  have H_a4 := hid (fun w' (f : Fr (fun _ => False) W5 w') => r4Bytes_go (HRB.out.fre f))
  have H_a5 := hid (fun w' (f : Fr (fun _ => False) W5 w') => RFrame_go (HRB.out.fre f))
  have H_a6 := hid (fun w' (f : Fr (fun _ => False) W5 w') => r4Frame_go (HRB.out.fre f))
  have H_q1 := hid (fun w' (f : Fr (fun _ => False) W5 w') => RRight_go (HRQ.out.fre f))
  have H_q2 := hid (fun w' (f : Fr (fun _ => False) W5 w') => r4Right_go (HRQ.out.fre f))
  have H_q3 := hid (fun w' (f : Fr (fun _ => False) W5 w') => RBytes_go (HRQ.out.fre f))
  have H_q4 := hid (fun w' (f : Fr (fun _ => False) W5 w') => r4Bytes_go (HRQ.out.fre f))
  have H_q5 := hid (fun w' (f : Fr (fun _ => False) W5 w') => RFrame_go (HRQ.out.fre f))
  have H_q6 := hid (fun w' (f : Fr (fun _ => False) W5 w') => r4Frame_go (HRQ.out.fre f))
  rw [HGD.out.right] at H_q1
  generalize A.right = ba1 at *
  generalize R.bytes A = la2 at *
  generalize frame A = la3 at *
  generalize R.bytes q = lq2 at *
  generalize frame q = lq3 at *
  have E0 := hid ((Fr.refl (fun _ => False) W5).drew)
  have RA0 := hid (Blk.all _ HA1.out.drew)
  refine wp_region_scr (.take 0 (.take 2 (.op 1 (.op 3 (.take 4 (.take 5 (.take 6 (.take 8 (.op 7 (.op 9 (.take 10 (.take 11 (.take 12 (.take 13 (.take 15 (.op 14 (.op 16 (.take 17 (.take 18 (.take 19 .done)))))))))))))))))))) (fun kz w => (kz ≤ 19 → w.rangeAt ba 0 (rv A (.slice x1 A.old.length y1) (.slice x2 A.new.length y2) (.slice x3 A.edits.length y3) (.slice x4 A.xids.length y4))) ∧ True) (by kernel_rfl) (by kernel_rfl) (by intro c a d v w h; cases d <;> exact h) ?_
  repeat
    first
    | (refine wpT_pure rfl rfl rfl ?_; apply Exists.intro; refine ⟨?_, ?_⟩; intro w; (first | (exact run_load_mid _ _ rfl ba _ rfl _ _ qa Try.underlying27 rfl size_Rec) | (go_simp <;> rfl)); simp only [Act.put, List.setIfInBounds_toArray, List.set_cons_zero, List.set_cons_succ])
    | (refine wpT_take 19 rfl rfl (by decide +kernel) ⟨fun _ => RA0.out, trivial⟩ ?_; apply Exists.intro; refine ⟨?_, ?_⟩; intro w hw; (have qa := hw.1 (Nat.le_refl _); have qb := hw.2); (first | (exact run_load_mid _ _ rfl ba _ rfl _ _ qa Try.underlying27 rfl size_Rec) | (go_simp <;> rfl)); simp only [Act.put, List.setIfInBounds_toArray, List.set_cons_zero, List.set_cons_succ])
    | (refine wpT_skip rfl rfl ?_; simp only [Act.put, List.setIfInBounds_toArray, List.set_cons_zero, List.set_cons_succ])
  refine wpT_op rfl ?_
  go_wp2_with ((go_at_call 15; refine (H_a1.out _ E0.out).mono ?_; rintro e wx1 ⟨rfl, f⟩; have E1 := hid (E0.out.trans f (fun _ h _ => h)); have RA1 := hid (range_fr RA0.out f (fun h => h)); clear f))
  (refine ⟨?_, ?_⟩; focus (intro kz hk hk2 hh; first | (exfalso; simp at hk2; omega) | exact hh | exact (fun h => absurd h (by omega)) | obtain ⟨qa, qb⟩ := hh; first | exact ⟨qa, qb⟩ | (refine ⟨fun h => absurd h (by omega), ?_⟩; first | exact qb | (exact RA1.out)) | (refine ⟨fun h => ?_, ?_⟩; (have qa := qa h); all_goals (first | exact qa | exact qb | (exact RA1.out)))))
  repeat
    first
    | (refine wpT_pure rfl rfl rfl ?_; apply Exists.intro; refine ⟨?_, ?_⟩; intro w; (first | (exact run_load_mid _ _ rfl ba _ rfl _ _ qa Try.underlying27 rfl size_Rec) | (go_simp <;> rfl)); simp only [Act.put, List.setIfInBounds_toArray, List.set_cons_zero, List.set_cons_succ])
    | (refine wpT_take 19 rfl rfl (by decide +kernel) ⟨fun _ => RA1.out, trivial⟩ ?_; apply Exists.intro; refine ⟨?_, ?_⟩; intro w hw; (have qa := hw.1 (Nat.le_refl _); have qb := hw.2); (first | (exact run_load_mid _ _ rfl ba _ rfl _ _ qa Try.underlying27 rfl size_Rec) | (go_simp <;> rfl)); simp only [Act.put, List.setIfInBounds_toArray, List.set_cons_zero, List.set_cons_succ])
    | (refine wpT_skip rfl rfl ?_; simp only [Act.put, List.setIfInBounds_toArray, List.set_cons_zero, List.set_cons_succ])
  refine wpT_op rfl ?_
  go_wp2_with ((go_at_call 16; refine (H_a2.out _ E1.out).mono ?_; rintro e wx2 ⟨rfl, f⟩; have E2 := hid (E1.out.trans f (fun _ h _ => h)); have RA2 := hid (range_fr RA1.out f (fun h => h)); clear f))
  (refine ⟨?_, ?_⟩; focus (intro kz hk hk2 hh; first | (exfalso; simp at hk2; omega) | exact hh | exact (fun h => absurd h (by omega)) | obtain ⟨qa, qb⟩ := hh; first | exact ⟨qa, qb⟩ | (refine ⟨fun h => absurd h (by omega), ?_⟩; first | exact qb | (exact RA2.out)) | (refine ⟨fun h => ?_, ?_⟩; (have qa := qa h); all_goals (first | exact qa | exact qb | (exact RA2.out)))))
  repeat
    first
    | (refine wpT_pure rfl rfl rfl ?_; apply Exists.intro; refine ⟨?_, ?_⟩; intro w; (first | (exact run_load_mid _ _ rfl ba _ rfl _ _ qa Try.underlying27 rfl size_Rec) | (go_simp <;> rfl)); simp only [Act.put, List.setIfInBounds_toArray, List.set_cons_zero, List.set_cons_succ])
    | (refine wpT_take 19 rfl rfl (by decide +kernel) ⟨fun _ => RA2.out, trivial⟩ ?_; apply Exists.intro; refine ⟨?_, ?_⟩; intro w hw; (have qa := hw.1 (Nat.le_refl _); have qb := hw.2); (first | (exact run_load_mid _ _ rfl ba _ rfl _ _ qa Try.underlying27 rfl size_Rec) | (go_simp <;> rfl)); simp only [Act.put, List.setIfInBounds_toArray, List.set_cons_zero, List.set_cons_succ])
    | (refine wpT_skip rfl rfl ?_; simp only [Act.put, List.setIfInBounds_toArray, List.set_cons_zero, List.set_cons_succ])
  refine wpT_op rfl ?_
  go_wp2_with ((go_at_call 17; refine (H_a3.out _ E2.out).mono ?_; rintro e wx3 ⟨rfl, f⟩; have E3 := hid (E2.out.trans f (fun _ h _ => h)); have RA3 := hid (range_fr RA2.out f (fun h => h)); clear f))
  (refine ⟨?_, ?_⟩; focus (intro kz hk hk2 hh; first | (exfalso; simp at hk2; omega) | exact hh | exact (fun h => absurd h (by omega)) | obtain ⟨qa, qb⟩ := hh; first | exact ⟨qa, qb⟩ | (refine ⟨fun h => absurd h (by omega), ?_⟩; first | exact qb | (exact RA3.out)) | (refine ⟨fun h => ?_, ?_⟩; (have qa := qa h); all_goals (first | exact qa | exact qb | (exact RA3.out)))))
  repeat
    first
    | (refine wpT_pure rfl rfl rfl ?_; apply Exists.intro; refine ⟨?_, ?_⟩; intro w; (first | (exact run_load_mid _ _ rfl ba _ rfl _ _ qa Try.underlying27 rfl size_Rec) | (go_simp <;> rfl)); simp only [Act.put, List.setIfInBounds_toArray, List.set_cons_zero, List.set_cons_succ])
    | (refine wpT_take 19 rfl rfl (by decide +kernel) ⟨fun _ => RA3.out, trivial⟩ ?_; apply Exists.intro; refine ⟨?_, ?_⟩; intro w hw; (have qa := hw.1 (Nat.le_refl _); have qb := hw.2); (first | (exact run_load_mid _ _ rfl ba _ rfl _ _ qa Try.underlying27 rfl size_Rec) | (go_simp <;> rfl)); simp only [Act.put, List.setIfInBounds_toArray, List.set_cons_zero, List.set_cons_succ])
    | (refine wpT_skip rfl rfl ?_; simp only [Act.put, List.setIfInBounds_toArray, List.set_cons_zero, List.set_cons_succ])
  refine wpT_op rfl ?_
  go_wp2_with ((go_at_call 18; refine (H_a4.out _ E3.out).mono ?_; rintro e wx4 ⟨rfl, f⟩; have E4 := hid (E3.out.trans f (fun _ h _ => h)); have RA4 := hid (range_fr RA3.out f (fun h => h)); clear f))
  (refine ⟨?_, ?_⟩; focus (intro kz hk hk2 hh; first | (exfalso; simp at hk2; omega) | exact hh | exact (fun h => absurd h (by omega)) | obtain ⟨qa, qb⟩ := hh; first | exact ⟨qa, qb⟩ | (refine ⟨fun h => absurd h (by omega), ?_⟩; first | exact qb | (exact RA4.out)) | (refine ⟨fun h => ?_, ?_⟩; (have qa := qa h); all_goals (first | exact qa | exact qb | (exact RA4.out)))))
  repeat
    first
    | (refine wpT_pure rfl rfl rfl ?_; apply Exists.intro; refine ⟨?_, ?_⟩; intro w; (first | (exact run_load_mid _ _ rfl ba _ rfl _ _ qa Try.underlying27 rfl size_Rec) | (go_simp <;> rfl)); simp only [Act.put, List.setIfInBounds_toArray, List.set_cons_zero, List.set_cons_succ])
    | (refine wpT_take 19 rfl rfl (by decide +kernel) ⟨fun _ => RA4.out, trivial⟩ ?_; apply Exists.intro; refine ⟨?_, ?_⟩; intro w hw; (have qa := hw.1 (Nat.le_refl _); have qb := hw.2); (first | (exact run_load_mid _ _ rfl ba _ rfl _ _ qa Try.underlying27 rfl size_Rec) | (go_simp <;> rfl)); simp only [Act.put, List.setIfInBounds_toArray, List.set_cons_zero, List.set_cons_succ])
    | (refine wpT_skip rfl rfl ?_; simp only [Act.put, List.setIfInBounds_toArray, List.set_cons_zero, List.set_cons_succ])
  refine wpT_op rfl ?_
  go_wp2_with ((go_at_call 19; refine (H_a5.out _ E4.out).mono ?_; rintro e wx5 ⟨rfl, f⟩; have E5 := hid (E4.out.trans f (fun _ h _ => h)); have RA5 := hid (range_fr RA4.out f (fun h => h)); clear f))
  (refine ⟨?_, ?_⟩; focus (intro kz hk hk2 hh; first | (exfalso; simp at hk2; omega) | exact hh | exact (fun h => absurd h (by omega)) | obtain ⟨qa, qb⟩ := hh; first | exact ⟨qa, qb⟩ | (refine ⟨fun h => absurd h (by omega), ?_⟩; first | exact qb | (exact RA5.out)) | (refine ⟨fun h => ?_, ?_⟩; (have qa := qa h); all_goals (first | exact qa | exact qb | (exact RA5.out)))))
  repeat
    first
    | (refine wpT_pure rfl rfl rfl ?_; apply Exists.intro; refine ⟨?_, ?_⟩; intro w; (first | (exact run_load_mid _ _ rfl ba _ rfl _ _ qa Try.underlying27 rfl size_Rec) | (go_simp <;> rfl)); simp only [Act.put, List.setIfInBounds_toArray, List.set_cons_zero, List.set_cons_succ])
    | (refine wpT_take 19 rfl rfl (by decide +kernel) ⟨fun _ => RA5.out, trivial⟩ ?_; apply Exists.intro; refine ⟨?_, ?_⟩; intro w hw; (have qa := hw.1 (Nat.le_refl _); have qb := hw.2); (first | (exact run_load_mid _ _ rfl ba _ rfl _ _ qa Try.underlying27 rfl size_Rec) | (go_simp <;> rfl)); simp only [Act.put, List.setIfInBounds_toArray, List.set_cons_zero, List.set_cons_succ])
    | (refine wpT_skip rfl rfl ?_; simp only [Act.put, List.setIfInBounds_toArray, List.set_cons_zero, List.set_cons_succ])
  refine wpT_op rfl ?_
  go_wp2_with ((go_at_call 20; refine (H_a6.out _ E5.out).mono ?_; rintro e wx6 ⟨rfl, f⟩; have E6 := hid (E5.out.trans f (fun _ h _ => h)); have RA6 := hid (range_fr RA5.out f (fun h => h)); clear f))
  (refine ⟨?_, ?_⟩; focus (intro kz hk hk2 hh; first | (exfalso; simp at hk2; omega) | exact hh | exact (fun h => absurd h (by omega)) | obtain ⟨qa, qb⟩ := hh; first | exact ⟨qa, qb⟩ | (refine ⟨fun h => absurd h (by omega), ?_⟩; first | exact qb | (exact RA6.out)) | (refine ⟨fun h => ?_, ?_⟩; (have qa := qa h); all_goals (first | exact qa | exact qb | (exact RA6.out)))))
  repeat
    first
    | (refine wpT_pure rfl rfl rfl ?_; apply Exists.intro; refine ⟨?_, ?_⟩; intro w; (first | (exact run_load_mid _ _ rfl ba _ rfl _ _ qa Try.underlying27 rfl size_Rec) | (go_simp <;> rfl)); simp only [Act.put, List.setIfInBounds_toArray, List.set_cons_zero, List.set_cons_succ])
    | (refine wpT_take 19 rfl rfl (by decide +kernel) ⟨fun _ => RA6.out, trivial⟩ ?_; apply Exists.intro; refine ⟨?_, ?_⟩; intro w hw; (have qa := hw.1 (Nat.le_refl _); have qb := hw.2); (first | (exact run_load_mid _ _ rfl ba _ rfl _ _ qa Try.underlying27 rfl size_Rec) | (go_simp <;> rfl)); simp only [Act.put, List.setIfInBounds_toArray, List.set_cons_zero, List.set_cons_succ])
    | (refine wpT_skip rfl rfl ?_; simp only [Act.put, List.setIfInBounds_toArray, List.set_cons_zero, List.set_cons_succ])
  refine wpT_nil ?_
  have E7 := hid E6.out.drew
  have RQ7 := hid (Blk.all _ (Blk.fr HB1.out E7.out (fun h => h)))
  go_upto_region 5 with fail
  refine wp_region_scr (.take 0 (.take 1 (.take 2 (.take 3 (.take 4 (.take 5 (.op 6 (.take 7 (.take 8 (.take 9 (.take 11 (.op 10 (.op 12 (.take 13 (.take 14 (.take 15 (.take 16 (.take 18 (.op 17 (.op 19 (.take 20 (.take 21 (.take 22 .done))))))))))))))))))))))) (fun kz w => (kz ≤ 22 → w.rangeAt bq 0 (rv q (.slice z1 q.old.length t1) (.slice z2 q.new.length t2) (.slice z3 q.edits.length t3) (.slice z4 q.xids.length t4))) ∧ True) (by kernel_rfl) (by kernel_rfl) (by intro c a d v w h; cases d <;> exact h) ?_
  repeat
    first
    | (refine wpT_pure rfl rfl rfl ?_; apply Exists.intro; refine ⟨?_, ?_⟩; intro w; (first | (exact run_load_mid _ _ rfl bq _ rfl _ _ qa Try.underlying27 rfl size_Rec) | (go_simp <;> rfl)); simp only [Act.put, List.setIfInBounds_toArray, List.set_cons_zero, List.set_cons_succ])
    | (refine wpT_take 22 rfl rfl (by decide +kernel) ⟨fun _ => RQ7.out, trivial⟩ ?_; apply Exists.intro; refine ⟨?_, ?_⟩; intro w hw; (have qa := hw.1 (Nat.le_refl _); have qb := hw.2); (first | (exact run_load_mid _ _ rfl bq _ rfl _ _ qa Try.underlying27 rfl size_Rec) | (go_simp <;> rfl)); simp only [Act.put, List.setIfInBounds_toArray, List.set_cons_zero, List.set_cons_succ])
    | (refine wpT_skip rfl rfl ?_; simp only [Act.put, List.setIfInBounds_toArray, List.set_cons_zero, List.set_cons_succ])
  refine wpT_op rfl ?_
  go_wp2_with ((go_at_call 15; refine (H_q1.out _ E7.out).mono ?_; rintro e wx8 ⟨rfl, f⟩; have E8 := hid (E7.out.trans f (fun _ h _ => h)); have RQ8 := hid (range_fr RQ7.out f (fun h => h)); clear f))
  (refine ⟨?_, ?_⟩; focus (intro kz hk hk2 hh; first | (exfalso; simp at hk2; omega) | exact hh | exact (fun h => absurd h (by omega)) | obtain ⟨qa, qb⟩ := hh; first | exact ⟨qa, qb⟩ | (refine ⟨fun h => absurd h (by omega), ?_⟩; first | exact qb | (exact RQ8.out)) | (refine ⟨fun h => ?_, ?_⟩; (have qa := qa h); all_goals (first | exact qa | exact qb | (exact RQ8.out)))))
  repeat
    first
    | (refine wpT_pure rfl rfl rfl ?_; apply Exists.intro; refine ⟨?_, ?_⟩; intro w; (first | (exact run_load_mid _ _ rfl bq _ rfl _ _ qa Try.underlying27 rfl size_Rec) | (go_simp <;> rfl)); simp only [Act.put, List.setIfInBounds_toArray, List.set_cons_zero, List.set_cons_succ])
    | (refine wpT_take 22 rfl rfl (by decide +kernel) ⟨fun _ => RQ8.out, trivial⟩ ?_; apply Exists.intro; refine ⟨?_, ?_⟩; intro w hw; (have qa := hw.1 (Nat.le_refl _); have qb := hw.2); (first | (exact run_load_mid _ _ rfl bq _ rfl _ _ qa Try.underlying27 rfl size_Rec) | (go_simp <;> rfl)); simp only [Act.put, List.setIfInBounds_toArray, List.set_cons_zero, List.set_cons_succ])
    | (refine wpT_skip rfl rfl ?_; simp only [Act.put, List.setIfInBounds_toArray, List.set_cons_zero, List.set_cons_succ])
  refine wpT_op rfl ?_
  go_wp2_with ((go_at_call 17; refine (H_q3.out _ E8.out).mono ?_; rintro e wx9 ⟨rfl, f⟩; have E9 := hid (E8.out.trans f (fun _ h _ => h)); have RQ9 := hid (range_fr RQ8.out f (fun h => h)); clear f))
  (refine ⟨?_, ?_⟩; focus (intro kz hk hk2 hh; first | (exfalso; simp at hk2; omega) | exact hh | exact (fun h => absurd h (by omega)) | obtain ⟨qa, qb⟩ := hh; first | exact ⟨qa, qb⟩ | (refine ⟨fun h => absurd h (by omega), ?_⟩; first | exact qb | (exact RQ9.out)) | (refine ⟨fun h => ?_, ?_⟩; (have qa := qa h); all_goals (first | exact qa | exact qb | (exact RQ9.out)))))
  repeat
    first
    | (refine wpT_pure rfl rfl rfl ?_; apply Exists.intro; refine ⟨?_, ?_⟩; intro w; (first | (exact run_load_mid _ _ rfl bq _ rfl _ _ qa Try.underlying27 rfl size_Rec) | (go_simp <;> rfl)); simp only [Act.put, List.setIfInBounds_toArray, List.set_cons_zero, List.set_cons_succ])
    | (refine wpT_take 22 rfl rfl (by decide +kernel) ⟨fun _ => RQ9.out, trivial⟩ ?_; apply Exists.intro; refine ⟨?_, ?_⟩; intro w hw; (have qa := hw.1 (Nat.le_refl _); have qb := hw.2); (first | (exact run_load_mid _ _ rfl bq _ rfl _ _ qa Try.underlying27 rfl size_Rec) | (go_simp <;> rfl)); simp only [Act.put, List.setIfInBounds_toArray, List.set_cons_zero, List.set_cons_succ])
    | (refine wpT_skip rfl rfl ?_; simp only [Act.put, List.setIfInBounds_toArray, List.set_cons_zero, List.set_cons_succ])
  refine wpT_op rfl ?_
  go_wp2_with ((go_at_call 18; refine (H_q4.out _ E9.out).mono ?_; rintro e wx10 ⟨rfl, f⟩; have E10 := hid (E9.out.trans f (fun _ h _ => h)); have RQ10 := hid (range_fr RQ9.out f (fun h => h)); clear f))
  (refine ⟨?_, ?_⟩; focus (intro kz hk hk2 hh; first | (exfalso; simp at hk2; omega) | exact hh | exact (fun h => absurd h (by omega)) | obtain ⟨qa, qb⟩ := hh; first | exact ⟨qa, qb⟩ | (refine ⟨fun h => absurd h (by omega), ?_⟩; first | exact qb | (exact RQ10.out)) | (refine ⟨fun h => ?_, ?_⟩; (have qa := qa h); all_goals (first | exact qa | exact qb | (exact RQ10.out)))))
  repeat
    first
    | (refine wpT_pure rfl rfl rfl ?_; apply Exists.intro; refine ⟨?_, ?_⟩; intro w; (first | (exact run_load_mid _ _ rfl bq _ rfl _ _ qa Try.underlying27 rfl size_Rec) | (go_simp <;> rfl)); simp only [Act.put, List.setIfInBounds_toArray, List.set_cons_zero, List.set_cons_succ])
    | (refine wpT_take 22 rfl rfl (by decide +kernel) ⟨fun _ => RQ10.out, trivial⟩ ?_; apply Exists.intro; refine ⟨?_, ?_⟩; intro w hw; (have qa := hw.1 (Nat.le_refl _); have qb := hw.2); (first | (exact run_load_mid _ _ rfl bq _ rfl _ _ qa Try.underlying27 rfl size_Rec) | (go_simp <;> rfl)); simp only [Act.put, List.setIfInBounds_toArray, List.set_cons_zero, List.set_cons_succ])
    | (refine wpT_skip rfl rfl ?_; simp only [Act.put, List.setIfInBounds_toArray, List.set_cons_zero, List.set_cons_succ])
  refine wpT_op rfl ?_
  go_wp2_with ((go_at_call 19; refine (H_q5.out _ E10.out).mono ?_; rintro e wx11 ⟨rfl, f⟩; have E11 := hid (E10.out.trans f (fun _ h _ => h)); have RQ11 := hid (range_fr RQ10.out f (fun h => h)); clear f))
  (refine ⟨?_, ?_⟩; focus (intro kz hk hk2 hh; first | (exfalso; simp at hk2; omega) | exact hh | exact (fun h => absurd h (by omega)) | obtain ⟨qa, qb⟩ := hh; first | exact ⟨qa, qb⟩ | (refine ⟨fun h => absurd h (by omega), ?_⟩; first | exact qb | (exact RQ11.out)) | (refine ⟨fun h => ?_, ?_⟩; (have qa := qa h); all_goals (first | exact qa | exact qb | (exact RQ11.out)))))
  repeat
    first
    | (refine wpT_pure rfl rfl rfl ?_; apply Exists.intro; refine ⟨?_, ?_⟩; intro w; (first | (exact run_load_mid _ _ rfl bq _ rfl _ _ qa Try.underlying27 rfl size_Rec) | (go_simp <;> rfl)); simp only [Act.put, List.setIfInBounds_toArray, List.set_cons_zero, List.set_cons_succ])
    | (refine wpT_take 22 rfl rfl (by decide +kernel) ⟨fun _ => RQ11.out, trivial⟩ ?_; apply Exists.intro; refine ⟨?_, ?_⟩; intro w hw; (have qa := hw.1 (Nat.le_refl _); have qb := hw.2); (first | (exact run_load_mid _ _ rfl bq _ rfl _ _ qa Try.underlying27 rfl size_Rec) | (go_simp <;> rfl)); simp only [Act.put, List.setIfInBounds_toArray, List.set_cons_zero, List.set_cons_succ])
    | (refine wpT_skip rfl rfl ?_; simp only [Act.put, List.setIfInBounds_toArray, List.set_cons_zero, List.set_cons_succ])
  refine wpT_op rfl ?_
  go_wp2_with ((go_at_call 20; refine (H_q6.out _ E11.out).mono ?_; rintro e wx12 ⟨rfl, f⟩; have E12 := hid (E11.out.trans f (fun _ h _ => h)); have RQ12 := hid (range_fr RQ11.out f (fun h => h)); clear f))
  (refine ⟨?_, ?_⟩; focus (intro kz hk hk2 hh; first | (exfalso; simp at hk2; omega) | exact hh | exact (fun h => absurd h (by omega)) | obtain ⟨qa, qb⟩ := hh; first | exact ⟨qa, qb⟩ | (refine ⟨fun h => absurd h (by omega), ?_⟩; first | exact qb | (exact RQ12.out)) | (refine ⟨fun h => ?_, ?_⟩; (have qa := qa h); all_goals (first | exact qa | exact qb | (exact RQ12.out)))))
  repeat
    first
    | (refine wpT_pure rfl rfl rfl ?_; apply Exists.intro; refine ⟨?_, ?_⟩; intro w; (first | (exact run_load_mid _ _ rfl bq _ rfl _ _ qa Try.underlying27 rfl size_Rec) | (go_simp <;> rfl)); simp only [Act.put, List.setIfInBounds_toArray, List.set_cons_zero, List.set_cons_succ])
    | (refine wpT_take 22 rfl rfl (by decide +kernel) ⟨fun _ => RQ12.out, trivial⟩ ?_; apply Exists.intro; refine ⟨?_, ?_⟩; intro w hw; (have qa := hw.1 (Nat.le_refl _); have qb := hw.2); (first | (exact run_load_mid _ _ rfl bq _ rfl _ _ qa Try.underlying27 rfl size_Rec) | (go_simp <;> rfl)); simp only [Act.put, List.setIfInBounds_toArray, List.set_cons_zero, List.set_cons_succ])
    | (refine wpT_skip rfl rfl ?_; simp only [Act.put, List.setIfInBounds_toArray, List.set_cons_zero, List.set_cons_succ])
  refine wpT_nil ?_
  go_wp2_with (fail)
  go_ret
  exact ⟨ret_bool (by simp), G2.out.trans E12.out (fun _ h _ => h)⟩
end Go.Proofs.Ytfhkmiifndhacaa
namespace Go.Proofs.Ytfhkmiifndhacaa.recordBytes
open Go.ChangeShapes Go.WideShapes Go.ChangeAt Go.RowKit Go.VB Go.VB.Rec
set_option maxHeartbeats 400000 in
set_option maxRecDepth 100000 in
theorem lifted (os : Os) (started : os.Started) (H : Type) (enc : TypeId × Value → H) :
    ReturnsInHanded {} Try.checked os 3 .any (Rows.recordBytesSpec.pre6 enc Try.prog Try.f3 Rows.recordBytesRow.domain false) (Rows.recordBytesSpec.post enc Try.prog Try.f3 false true false false) := by
  refine returnsInHanded_of_change (C := Try.checked) own started (by kernel_rfl) Try.func3
    (ChangeSpec.witness6 (enc := enc) (C := Try.checked) false ⟨#[], #[.agg #[.int .i64 0, .int .i64 0, .int .i64 0, .slice none 0 0, .slice none 0 0, .slice none 0 0, .slice none 0 0, .string ⟨#[]⟩], .slice none 0 0], []⟩ 8 (by kernel_rfl) (by kernel_rfl) (by kernel_rfl) (by kernel_rfl)) ?_
  intro W base args ds gs before hval0 hW hcnd _
  have hval : ∀ (j : Nat) t v, Try.f3.params[j]? = some t → args[j]? = some v → Value.okWide Try.prog W .any base t v := hval0
  have hW' := hW
  obtain ⟨p, q, hA0, hV, rfl, hfz, hnd⟩ := hW
  have hA : DataW.TrodAll enc Try.prog W 0 (fun _ => true) true Try.f3.params.toList args.toList ds p := hA0
  rw [Try.params3] at hA hval
  obtain ⟨v0, vs0, d0, ds0, p0, q0, hargs, rfl, rfl, h0, r0⟩ := trodAll_cons hA
  obtain ⟨v1, vs1, d1, ds1, p1, q1, rfl, rfl, rfl, h1, r1⟩ := trodAll_cons r0
  obtain ⟨rfl, rfl, rfl⟩ := trodAll_nil r1
  obtain rfl : args = #[v0, v1] := by cases args; simp_all
  obtain ⟨rfl, rfl⟩ := trodVars_none hV
  clear hA0 hval0
  refine Calls.mono (R := fun e w' => e = .returned (.bool true) ∧ Fr (fun _ => False) W w') ?_ fun e W' ⟨he, hf⟩ => ⟨_, he, post_law sound (by decide +kernel) rfl rfl (ht := Try.underlying4) (by rfl) hW' hf⟩
  obtain ⟨a, vo, vn, ve, vx, rfl, ha, -⟩ := rec_agg (hval 0 27 v0 rfl rfl) h0
  obtain ⟨L, sL, -, gL⟩ := open_ins (hval 1 25 v1 rfl rfl) h1
  unfold maxLen at gL
  exact Bytes_walk ha sL (by omega)
theorem proved : Rows.RecordBytesSaid :=
  OpenClaim.holds_of_wide 3 Try.f3 rfl rfl rfl rfl rfl rfl rfl ⟨rfl, rfl, rfl, rfl, rfl⟩ rfl rfl rfl rfl rfl (by kernel_rfl) Try.func3 (by kernel_rfl)
    (of_decide_eq_true (by kernel_rfl)) (by unfold Func.isWrapper; first | (rw [if_pos (by decide +kernel)]; kernel_rfl) | (rw [if_neg (by decide +kernel)]; exact ⟨rfl, rfl⟩))
    (fun os started H enc _ => lifted os started H enc)
end Go.Proofs.Ytfhkmiifndhacaa.recordBytes
