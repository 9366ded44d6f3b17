/- Proved: for every call the law ClockNil of chapter 07 returns true, and its argument reads afterwards as before. Conditions: none beyond the given statement. -/
import Derived.Test.YtbkebjgoaeddjaaClkArgs
import Derived.Test.YtbkebjgoaeddjaaFin
set_option linter.unusedVariables false
namespace Go.Proofs.Ytbkebjgoaeddjaa
open Go.RowKit Go.VB Go.VB.Clk
attribute [local go_sem] Oper.semAt_some
theorem Begin_nil (a : Int) (w : World) : Calls Try.prog 22 #[.pointer none, .int .i64 a] w fun e w' => e = .returned (.tuple #[.int .i64 0, .int .i64 1]) ∧ w = w' := by
  go_enter Try.func22, Try.ntmps22
  go_wp2_with (fail)
  go_ret2
  exact ⟨rfl, rfl⟩
theorem End_nil (a s : Int) (w : World) : Calls Try.prog 24 #[.pointer none, .int .i64 a, .int .i64 s] w fun e w' => e = .returned (.int .i64 41) ∧ Fr (fun _ => False) w w' := by
  have HK := hid (fun w => knows_nil a w)
  by_cases h1 : 2 ≤ s ∧ s ≤ 4
  · obtain ⟨h1, h2⟩ := h1
    go_enter Try.func24, Try.ntmps24
    go_wp2_with (first | (go_at_call 56; refine (HK.out _).mono ?_; rintro e w' ⟨rfl, f⟩))
    go_ret
    exact ⟨rfl, f⟩
  · rcases (show s < 2 ∨ 4 < s by omega) with h2 | h2
    all_goals
      clear h1
      go_enter Try.func24, Try.ntmps24
      go_wp2_with (fail)
      go_ret
      exact ⟨rfl, Fr.refl _ _⟩
theorem Reach_nil (a : Int) (w : World) : Calls Try.prog 40 #[.pointer none, .int .i64 a] w fun e w' => e = .returned (.tuple #[]) ∧ w = w' := by
  go_enter Try.func40, Try.ntmps40
  go_wp2_with (fail)
  exact bodyPost_ret (v := .tuple #[]) (results_none rfl _ _ _) rfl ⟨rfl, rfl⟩
theorem Freeze_nil (a : Int) (w : World) : Calls Try.prog 31 #[.pointer none, .int .i64 a] w fun e w' => e = .returned (.tuple #[]) ∧ Fr (fun _ => False) w w' := by
  go_enter Try.func31, Try.ntmps31
  go_wp2_with (fail)
  refine wp_region_scriptE [(true, 0), (true, 1), (true, 2), (true, 3), (false, 4), (true, 5), (true, 6), (true, 7), (true, 8), (true, 9), (true, 10), (true, 11), (true, 13), (true, 14), (true, 15), (true, 16), (true, 17), (false, 12), (false, 18), (false, 19), (true, 20), (true, 21)] (fun kz w => (kz ≤ 22 → True) ∧ True) (by kernel_rfl) (by kernel_rfl) (by intro c a d v w h; cases d <;> exact h) ?_
  repeat
    first
    | (refine wpS_pureE rfl rfl rfl ?_; apply Exists.intro; refine ⟨?_, ?_⟩; intro w; ((go_simp <;> rfl)); simp only [Act.put, List.setIfInBounds_toArray, List.set_cons_zero, List.set_cons_succ])
    | (refine wpS_takeE 22 rfl rfl (by decide +kernel) ⟨fun _ => trivial, trivial⟩ ?_; apply Exists.intro; refine ⟨?_, ?_⟩; intro w hw; (have qa := (hw rfl).1 (Nat.le_refl _); have qb := (hw rfl).2); ((go_simp <;> rfl)); simp only [Act.put, List.setIfInBounds_toArray, List.set_cons_zero, List.set_cons_succ])
    | (refine wpS_skipE rfl rfl ?_; simp only [Act.put, List.setIfInBounds_toArray, List.set_cons_zero, List.set_cons_succ])
  refine wpS_opE rfl ?_
  go_wp2_with (fail)
  (refine ⟨?_, ?_⟩; focus (intro kz hk hk2; rintro ⟨qa, qb⟩; first | (exfalso; simp at hk2; omega) | exact ⟨qa, qb⟩ | (refine ⟨fun h => absurd h (by omega), ?_⟩; first | exact qb | (exact qa)) | (refine ⟨fun h => ?_, ?_⟩; (have qa := qa h); all_goals (first | exact qa | exact qb | (exact qa)))))
  repeat
    first
    | (refine wpS_pureE rfl rfl rfl ?_; apply Exists.intro; refine ⟨?_, ?_⟩; intro w; ((go_simp <;> rfl)); simp only [Act.put, List.setIfInBounds_toArray, List.set_cons_zero, List.set_cons_succ])
    | (refine wpS_takeE 22 rfl rfl (by decide +kernel) ⟨fun _ => trivial, trivial⟩ ?_; apply Exists.intro; refine ⟨?_, ?_⟩; intro w hw; (have qa := (hw rfl).1 (Nat.le_refl _); have qb := (hw rfl).2); ((go_simp <;> rfl)); simp only [Act.put, List.setIfInBounds_toArray, List.set_cons_zero, List.set_cons_succ])
    | (refine wpS_skipE rfl rfl ?_; simp only [Act.put, List.setIfInBounds_toArray, List.set_cons_zero, List.set_cons_succ])
  refine wpS_opE rfl ?_
  go_wp2_with (fail)
  (refine ⟨?_, ?_⟩; focus (intro kz hk hk2; rintro ⟨qa, qb⟩; first | (exfalso; simp at hk2; omega) | exact ⟨qa, qb⟩ | (refine ⟨fun h => absurd h (by omega), ?_⟩; first | exact qb | (exact qa)) | (refine ⟨fun h => ?_, ?_⟩; (have qa := qa h); all_goals (first | exact qa | exact qb | (exact qa)))))
  refine wpS_opE rfl ?_
  go_wp2_with (fail)
  (refine ⟨?_, ?_⟩; focus (intro kz hk hk2; rintro ⟨qa, qb⟩; first | (exfalso; simp at hk2; omega) | exact ⟨qa, qb⟩ | (refine ⟨fun h => absurd h (by omega), ?_⟩; first | exact qb | (exact qa)) | (refine ⟨fun h => ?_, ?_⟩; (have qa := qa h); all_goals (first | exact qa | exact qb | (exact qa)))))
  refine wpS_opE rfl ?_
  go_wp2_with (fail)
  (refine ⟨?_, ?_⟩; focus (intro kz hk hk2; rintro ⟨qa, qb⟩; first | (exfalso; simp at hk2; omega) | exact ⟨qa, qb⟩ | (refine ⟨fun h => absurd h (by omega), ?_⟩; first | exact qb | (exact qa)) | (refine ⟨fun h => ?_, ?_⟩; (have qa := qa h); all_goals (first | exact qa | exact qb | (exact qa)))))
  repeat
    first
    | (refine wpS_pureE rfl rfl rfl ?_; apply Exists.intro; refine ⟨?_, ?_⟩; intro w; ((go_simp <;> rfl)); simp only [Act.put, List.setIfInBounds_toArray, List.set_cons_zero, List.set_cons_succ])
    | (refine wpS_takeE 22 rfl rfl (by decide +kernel) ⟨fun _ => trivial, trivial⟩ ?_; apply Exists.intro; refine ⟨?_, ?_⟩; intro w hw; (have qa := (hw rfl).1 (Nat.le_refl _); have qb := (hw rfl).2); ((go_simp <;> rfl)); simp only [Act.put, List.setIfInBounds_toArray, List.set_cons_zero, List.set_cons_succ])
    | (refine wpS_skipE rfl rfl ?_; simp only [Act.put, List.setIfInBounds_toArray, List.set_cons_zero, List.set_cons_succ])
  refine wpS_nilE ?_
  go_wp2_with (fail)
  go_end0
  exact ⟨rfl, (Fr.refl _ w).drew⟩
theorem Now_nil (w : World) : Calls Try.prog 30 #[.pointer none] w fun e w' => e = .returned (.int .i64 3) ∧ w = w' := by
  go_enter Try.func30, Try.ntmps30
  go_wp2_with (fail)
  go_ret
  exact ⟨rfl, rfl⟩
theorem State_nil (x : Int) (w : World) : Calls Try.prog 25 #[.pointer none, .int .i64 x] w fun e w' => e = .returned (.int .i64 0) ∧ w = w' := by
  go_enter Try.func25, Try.ntmps25
  go_wp2_with (fail)
  go_ret
  exact ⟨rfl, rfl⟩
theorem Top_nil (x : Int) (w : World) : Calls Try.prog 26 #[.pointer none, .int .i64 x] w fun e w' => e = .returned (.int .i64 0) ∧ Fr (fun _ => False) w w' := by
  have HK := hid (fun w => knows_nil x w)
  go_enter Try.func26, Try.ntmps26
  go_wp2_with (first | (go_at_call 56; refine (HK.out _).mono ?_; rintro e w' ⟨rfl, f⟩))
  go_ret
  exact ⟨rfl, f⟩
theorem Below_nil (x : Int) (w : World) : Calls Try.prog 23 #[.pointer none, .int .i64 x] w fun e w' => e = .returned (.slice none 0 0) ∧ Fr (fun _ => False) w w' := by
  have HK := hid (fun w => knows_nil x w)
  have HF0 := hid (((Fr.refl (fun _ => False) w).alloc (.cells #[Value.pointer none] 27)).alloc (.cells #[Value.int .i64 x] 3))
  refine calls_of_wp_marks Try.func23 rfl ?_
  simp only [Try.ntmps23, List.size_toArray, List.length_cons, List.length_nil, Nat.reduceAdd, Nat.reduceSub, Array.replicate_succ, Array.replicate_zero, List.push_toArray, List.append_toArray, List.nil_append, List.cons_append]
  go_wp2_with (first | (go_at_call 56; refine (HK.out _).mono ?_; rintro e w1 ⟨rfl, f1⟩))
  exact leavesM_none (v := .slice none 0 0) (by simp [results, Try.results23, go_sem]) ⟨rfl, HF0.out.trans f1 (fun _ h _ => h)⟩
theorem Snap_nil (w : World) : Calls Try.prog 36 #[.pointer none] w fun e w' => e = .returned (.agg #[.int .i64 0, .slice none 0 0]) ∧ Fr (fun _ => False) w w' := by
  have F0 := ((Fr.refl (fun _ => False) w).alloc (.cells #[Value.pointer none] 27)).alloc (.cells #[Value.int .i64 0, .slice none 0 0] 37)
  have B1 := Blk.new (w.alloc (.cells #[Value.pointer none] 27)) [Value.int .i64 0, .slice none 0 0] 37
  rw [World.size_alloc] at B1
  have hT := B1.there 0 2 (by simp)
  have B2 := B1.put 0 [.int .i64 0, .slice none 0 0] (by simp)
  have F2 := F0.put (w.heap.size + 1) 0 [.int .i64 0, .slice none 0 0] (fun h => absurd h (by omega))
  have HB := hid B2
  have HF := hid F2
  clear F0 B1 B2 F2
  refine calls_of_wp_marks Try.func36 rfl ?_
  simp only [Try.ntmps36, List.size_toArray, List.length_cons, List.length_nil, Nat.reduceAdd, Nat.reduceSub, Array.replicate_succ, Array.replicate_zero, List.push_toArray, List.append_toArray, List.nil_append, List.cons_append]
  go_wp2_with (first
    | (refine wpList_store_mid rfl 37 _ _ rfl (w.heap.size + 1) 0 _ rfl rfl hT Try.size_snap (by simp [Value.oneCell']) ?_; rw [List.toList_toArray]))
  exact leavesM_none (v := .agg #[.int .i64 0, .slice none 0 0]) (results_cell_mid (b := w.heap.size + 1) (o := 0) rfl _ _ rfl (cs := [.int .i64 0, .slice none 0 0]) (Blk.all _ HB.out) Try.underlying37 rfl Try.size_snap) ⟨rfl, HF.out⟩
theorem Bytes_nil (w : World) : Calls Try.prog 41 #[.pointer none] w fun e w' => e = .returned (.string ⟨#[]⟩) ∧ Fr (fun _ => False) w w' := by
  have HF := hid ((Fr.refl (fun _ => False) w).alloc (.cells #[Value.pointer none] 27))
  refine calls_of_wp_marks Try.func41 rfl ?_
  simp only [Try.ntmps41, List.size_toArray, List.length_cons, List.length_nil, Nat.reduceAdd, Nat.reduceSub, Array.replicate_succ, Array.replicate_zero, List.push_toArray, List.append_toArray, List.nil_append, List.cons_append]
  go_wp2_with (fail)
  exact leavesM_none (v := .string ⟨#[]⟩) (by simp [results, Try.results41, go_sem]) ⟨rfl, HF.out⟩
theorem Oldest_nil (w : World) : Calls Try.prog 32 #[.pointer none] w fun e w' => e = .returned (.int .i64 3) ∧ Fr (fun _ => False) w w' := by
  have kf := run_snap_live (.int .i64 0)
  have HS := hid (fun w => Snap_nil w)
  have HN := hid (fun w => Now_nil w)
  go_enter Try.func32, Try.ntmps32
  go_wp2_with (fail)
  refine (HS.out _).mono ?_
  rintro e w1 ⟨rfl, f1⟩
  go_wp2_with (fail)
  refine wp_loop_rounds 1 ?_
  rw [rounds_succ]
  go_wp2_with (fail)
  refine (HN.out _).mono ?_
  rintro e w2 ⟨rfl, rfl⟩
  go_wp2_with (fail)
  go_ret
  exact ⟨rfl, f1⟩
set_option maxRecDepth 20000 in
set_option maxHeartbeats 4000000 in
theorem ClockNil_walk (kind x s : Int) (w : World) : Calls Try.prog 9 #[.agg #[.int .i64 kind, .int .i64 x, .int .i64 s]] w fun e w' => e = .returned (.bool true) ∧ Fr (fun _ => False) w w' := by
  have F0 := (Fr.refl (fun _ => False) w).alloc (.cells #[Value.int .i64 kind, .int .i64 x, .int .i64 s] 48)
  have B0 := Blk.new w [Value.int .i64 kind, .int .i64 x, .int .i64 s] 48
  obtain ⟨w0, hw0⟩ : ∃ w0, w.alloc (.cells #[Value.int .i64 kind, .int .i64 x, .int .i64 s] 48) = w0 := ⟨_, rfl⟩
  have e0 : w.alloc (.cells [Value.int .i64 kind, .int .i64 x, .int .i64 s].toArray 48) = w0 := hw0
  rw [hw0] at F0
  rw [e0] at B0
  have HW := hid hw0
  clear hw0 e0
  have N1 := hid (fun w => Begin_nil x w)
  have N2 := hid (fun w => End_nil x s w)
  have N3 := hid (fun w => Reach_nil x w)
  have N4 := hid (fun w => Freeze_nil x w)
  have N5 := hid (fun w => Now_nil w)
  have N6 := hid (fun w => Oldest_nil w)
  have N7 := hid (fun w => State_nil 5 w)
  have N8 := hid (fun w => Top_nil 5 w)
  have N9 := hid (fun w => Below_nil 5 w)
  have N10 := hid (fun w => Snap_nil w)
  have N11 := hid (fun w => Bytes_nil w)
  have kf := run_snap_high 0 (.slice none 0 0)
  go_enter Try.func9, Try.ntmps9
  go_wp2_with (fail)
  rw [HW.out]
  refine (sanity_go w0).mono ?_
  rintro e w1 ⟨rfl, f1⟩
  have b1 := B0.fr f1 (fun h => h)
  have k1 : w1.cell? ⟨w.heap.size, 1, none⟩ = some (.int .i64 x) := b1.cell 1
  have k2 : w1.cell? ⟨w.heap.size, 2, none⟩ = some (.int .i64 s) := b1.cell 2
  have F1 := F0.trans f1 (fun _ h _ => h)
  have FF := hid F1
  clear B0 F0 f1 F1 b1
  go_wp2_with (fail)
  refine (N1.out _).mono ?_
  rintro e w2 ⟨rfl, rfl⟩
  go_wp2_with (fail)
  refine (N2.out _).mono ?_
  rintro e w2 ⟨rfl, f2⟩
  have k1 := cell_fr k1 f2 (fun h => h)
  have FF := hid (FF.out.trans f2 (fun _ h _ => h))
  clear f2 k2
  go_wp2_with (fail)
  refine (N3.out _).mono ?_
  rintro e w3 ⟨rfl, rfl⟩
  go_wp2_with (fail)
  refine (N4.out _).mono ?_
  rintro e w3 ⟨rfl, f3⟩
  have FF := hid (FF.out.trans f3 (fun _ h _ => h))
  clear f3 k1
  go_wp2_with (fail)
  refine (N5.out _).mono ?_
  rintro e w4 ⟨rfl, rfl⟩
  go_wp2_with (fail)
  refine (N6.out _).mono ?_
  rintro e w4 ⟨rfl, f4⟩
  have FF := hid (FF.out.trans f4 (fun _ h _ => h))
  clear f4
  go_wp2_with (fail)
  refine (N7.out _).mono ?_
  rintro e w5 ⟨rfl, rfl⟩
  go_wp2_with (fail)
  refine (N8.out _).mono ?_
  rintro e w5 ⟨rfl, f5⟩
  have FF := hid (FF.out.trans f5 (fun _ h _ => h))
  clear f5
  go_wp2_with (fail)
  refine (N9.out _).mono ?_
  rintro e w6 ⟨rfl, f6⟩
  have FF := hid (FF.out.trans f6 (fun _ h _ => h))
  clear f6
  go_wp2_with (fail)
  refine (N10.out _).mono ?_
  rintro e w7 ⟨rfl, f7⟩
  have FF := hid (FF.out.trans f7 (fun _ h _ => h))
  clear f7
  go_wp2_with (fail)
  refine (N11.out _).mono ?_
  rintro e w8 ⟨rfl, f8⟩
  have FF := hid (FF.out.trans f8 (fun _ h _ => h))
  clear f8
  go_wp2_with (fail)
  go_ret
  exact ⟨rfl, FF.out⟩
end Go.Proofs.Ytbkebjgoaeddjaa
namespace Go.Proofs.Ytbkebjgoaeddjaa.clockNil
open Go.ChangeShapes Go.WideShapes Go.ChangeAt Go.RowKit Go.VB Go.VB.Clk
set_option maxHeartbeats 400000 in
set_option maxRecDepth 100000 in
theorem lifted (os : Os) (started : os.Started) (H : Type) (enc : TypeId × Value → H) :
    ReturnsInHanded {} Try.checked os 9 .any (Rows.clockNilSpec.pre6 enc Try.prog Try.f9 Rows.clockNilRow.domain false) (Rows.clockNilSpec.post enc Try.prog Try.f9 false true false false) := by
  refine returnsInHanded_of_change (C := Try.checked) own started (by kernel_rfl) Try.func9
    (ChangeSpec.witness6 (enc := enc) (C := Try.checked) false ⟨#[], #[.agg #[.int .i64 0, .int .i64 0, .int .i64 0]], []⟩ 8 (by kernel_rfl) (by kernel_rfl) (by kernel_rfl) (by kernel_rfl)) ?_
  intro W base args ds gs before hval0 hW hcnd _
  have hval : ∀ (j : Nat) t v, Try.f9.params[j]? = some t → args[j]? = some v → Value.okWide Try.prog W .any base t v := hval0
  have hW' := hW
  obtain ⟨p, q, hA0, hV, rfl, hfz, hnd⟩ := hW
  have hA : DataW.TrodAll enc Try.prog W 0 (fun _ => true) true Try.f9.params.toList args.toList ds p := hA0
  rw [Try.params9] at hA hval
  obtain ⟨v0, vs0, d0, ds0, p0, q0, hargs, rfl, rfl, h0, r0⟩ := trodAll_cons hA
  obtain ⟨rfl, rfl, rfl⟩ := trodAll_nil r0
  obtain rfl : args = #[v0] := by cases args; simp_all
  obtain ⟨rfl, rfl⟩ := trodVars_none hV
  clear hA0 hval0
  refine Calls.mono (R := fun e w' => e = .returned (.bool true) ∧ Fr (fun _ => False) W w') ?_ fun e W' ⟨he, hf⟩ => ⟨_, he, post_law sound (by decide +kernel) rfl rfl (ht := Try.underlying4) (by rfl) hW' hf⟩
  obtain ⟨⟨kind, x, s⟩, rfl⟩ := call_agg (hval 0 48 v0 rfl rfl) h0
  exact ClockNil_walk kind x s W
theorem proved : Rows.ClockNilSaid :=
  OpenClaim.holds_of_wide 9 Try.f9 rfl rfl rfl rfl rfl rfl rfl ⟨rfl, rfl, rfl, rfl, rfl⟩ rfl rfl rfl rfl rfl (by kernel_rfl) Try.func9 (by kernel_rfl)
    (of_decide_eq_true (by kernel_rfl)) (by unfold Func.isWrapper; first | (rw [if_pos (by decide +kernel)]; kernel_rfl) | (rw [if_neg (by decide +kernel)]; exact ⟨rfl, rfl⟩))
    (fun os started H enc _ => lifted os started H enc)
end Go.Proofs.Ytbkebjgoaeddjaa.clockNil
