import Derived.Test.YtbkebjgoaeddjaaClkJ
/- law.sanity -/
set_option linter.unusedVariables false
namespace Go.VB.Clk
def sane1 : CM := ((CM.new 126).begin_ 0).1
def sane2 : CM := (sane1.begin_ 126).1
def sane3 : CM := (sane2.end_ 126 2).1
theorem sane_ok0 : (CM.new 126).Ok := Ok_new 126
theorem sane_ok1 : sane1.Ok := Ok_begin sane_ok0 0
theorem sane_ok2 : sane2.Ok := Ok_begin sane_ok1 126
theorem sane_ok3 : sane3.Ok := Ok_end sane_ok2 126 2
theorem sane_a : ((CM.new 126).begin_ 0).2 = (126, 0) := by decide +kernel
theorem sane_b : (sane1.begin_ 126).2 = (127, 0) := by decide +kernel
theorem sane_c : sane2.lives = [126, 127] ∧ sane2.next = 3 := by decide +kernel
theorem sane_d : (sane2.end_ 126 2).2 = 0 := by decide +kernel
theorem sane_e : sane3.state 127 = 2 := by decide +kernel
theorem sane_f : sane3.bytes = [3, 126, 2, 0, 2, 126] := by decide +kernel
theorem sane_g : beforeI 126 4 = true ∧ beforeI 4 126 = false ∧ ageI 126 4 = 3 := by decide +kernel
end Go.VB.Clk
namespace Go.Proofs.Ytbkebjgoaeddjaa
open Go.RowKit Go.VB Go.VB.Clk
set_option maxRecDepth 20000 in
set_option maxHeartbeats 2000000 in
theorem sanity_go (w : World) : Calls Try.prog 13 #[] w fun e w' => e = .returned (.bool true) ∧ Fr (fun _ => False) w w' := by
  go_enter Try.func13, Try.ntmps13
  go_wp2_with (fail)
  refine (New_go 126 w).mono ?_
  rintro e w1 ⟨rfl, h1, f1⟩
  generalize hc : w.heap.size = c at *
  have HC := hid hc
  clear hc
  have hB1 := Begin_go h1 sane_ok0 0
  rw [sane_a] at hB1
  have HX := hid f1
  clear h1 f1
  go_wp2_with (fail)
  refine hB1.mono ?_
  rintro e w2 ⟨rfl, h2, f2⟩
  have h2 : CRep w2 c sane1 := h2
  have hB2 := Begin_go h2 sane_ok1 126
  rw [sane_b] at hB2
  have F2 := hid (HX.out.trans f2 (fun j hj hl => by have := HC.out; omega))
  clear hB1 h2 f2 HX
  go_wp2_with (fail)
  refine hB2.mono ?_
  rintro e w3 ⟨rfl, h3, f3⟩
  have h3 : CRep w3 c sane2 := h3
  have hS := Snap_go h3 sane_ok2
  rw [sane_c.1, sane_c.2] at hS
  have F3 := hid (F2.out.trans f3 (fun j hj hl => by have := HC.out; omega))
  have H3 := hid h3
  clear hB2 h3 f3 F2
  go_wp2_with (fail)
  refine hS.mono ?_
  rintro e w4 ⟨v, rfl, row, f4⟩
  obtain ⟨va, vc, rfl, hvc⟩ := own_slice row.own
  have f5 := ((Fr.refl (fun _ => False) w4).alloc (.cells #[Value.int .i64 3, .slice va 2 vc] 37)).alloc (.cells #[Value.int .i64 126, .int .i64 127] 3)
  have B5 := (Blk.new w4 [Value.int .i64 3, .slice va 2 vc] 37).alloc (.cells #[Value.int .i64 126, .int .i64 127] 3)
  have B6 := Blk.new (w4.alloc (.cells #[Value.int .i64 3, .slice va 2 vc] 37)) [Value.int .i64 126, .int .i64 127] 3
  have hN := Nums_go (nv_range (w' := _) ⟨own_fr row.own f5 (fun _ _ h => h), row.new⟩) (R2 := fun _ => True) (v2 := .slice (some ⟨(w4.alloc (.cells #[Value.int .i64 3, .slice va 2 vc] 37)).heap.size, 0, none⟩) 2 2) (l2 := [126, 127]) ⟨_, 2, rfl, Nat.le_refl _, fun _ => ⟨_, 0, rfl, trivial, B6.all⟩⟩ (by simp) (by simp)
  rw [World.size_alloc] at hN
  have F4 := hid (F3.out.trans f4 (fun _ h _ => h))
  have F5 := hid f5
  have HB5 := hid B5
  have H4 := hid (CRep.fr H3.out f4 (fun h => h))
  clear hS row f4 f5 B5 B6 H3 F3
  go_wp2_with (fail)
  refine hN.mono ?_
  rintro e w6 ⟨rfl, f6⟩
  have b6 := HB5.out.fr f6 (fun h => h)
  have H6 := CRep.fr (CRep.fr H4.out F5.out (fun h => h)) f6 (fun h => h)
  have hE := End_go H6 sane_ok2 126 2
  rw [sane_d] at hE
  have F6 := hid (F4.out.trans (F5.out.trans f6 (fun _ h _ => h)) (fun _ h _ => h))
  have hcs := Blk.lt H6
  have hcne : w4.heap.size ≠ c := by have := Blk.lt H4.out; omega
  have HB6 := hid b6
  clear hN f6 b6 H6 H4 F4 F5 HB5
  go_wp2_with (fail)
  refine hE.mono ?_
  rintro e w7 ⟨rfl, h7, f7⟩
  have h7 : CRep w7 c sane3 := h7
  have b7 := HB6.out.fr f7 hcne
  have F7 := hid (F6.out.trans f7 (fun j hj hl => by have := HC.out; omega))
  have H7 := hid h7
  have s7 : w7.cell? ⟨w4.heap.size, 0, none⟩ = some (.int .i64 3) := b7.cell 0
  have hbf1 := hid (fun w => Before_go 126 4 w)
  have hbf2 := hid (fun w => Before_go 4 126 w)
  have hbf3 := hid (fun w => Age_go 126 4 w)
  rw [sane_g.1] at hbf1
  rw [sane_g.2.1] at hbf2
  rw [sane_g.2.2] at hbf3
  clear hE h7 f7 b7 HB6 F6
  go_wp2_with (first
    | (go_at_call 17; ((with_reducible refine (hbf1.out _).mono ?_); rintro e w' ⟨rfl, rfl⟩))
    | (go_at_call 17; ((with_reducible refine (hbf2.out _).mono ?_); rintro e w' ⟨rfl, rfl⟩))
    | (go_at_call 19; ((with_reducible refine (hbf3.out _).mono ?_); rintro e w' ⟨rfl, rfl⟩)))
  generalize w4.heap.size = sb at *
  refine wp_region_scr (.take 0 (.take 1 (.take 2 (.take 3 (.take 4 (.take 5 (.take 6 (.take 7 (.take 8 (.take 9 (.take 10 (.take 11 (.take 12 (.take 13 (.take 14 (.take 15 (.take 16 (.take 17 (.take 18 (.take 19 (.take 20 (.take 21 (.take 22 (.take 23 (.take 24 (.take 25 (.take 26 (.take 27 (.take 28 (.take 29 (.take 30 (.op 31 (.take 32 (.take 33 (.take 34 (.take 35 (.two 36 37 (.op 37 (.op 38 (.take 39 (.take 40 (.take 41 .done))))) (.two 36 38 (.op 38 (.take 39 (.take 40 (.take 41 .done)))) (.op 36 (.take 39 (.take 40 (.take 41 .done)))))))))))))))))))))))))))))))))))))))))) (fun kz w => (kz ≤ 41 → w.cell? ⟨sb, 0, none⟩ = some (.int .i64 3)) ∧ True) (by kernel_rfl) (by kernel_rfl) (by intro c a d v w h; cases d <;> exact h) ?_
  repeat
    first
    | (refine wpT_pure rfl rfl rfl ?_; apply Exists.intro; refine ⟨?_, ?_⟩; intro w; ((go_simp <;> rfl)); simp only [Act.put, List.setIfInBounds_toArray, List.set_cons_zero, List.set_cons_succ])
    | (refine wpT_take 41 rfl rfl (by decide +kernel) ⟨fun _ => s7, trivial⟩ ?_; apply Exists.intro; refine ⟨?_, ?_⟩; intro w hw; (have qa := hw.1 (Nat.le_refl _); have qb := hw.2); ((go_simp <;> rfl)); simp only [Act.put, List.setIfInBounds_toArray, List.set_cons_zero, List.set_cons_succ])
    | (refine wpT_skip rfl rfl ?_; simp only [Act.put, List.setIfInBounds_toArray, List.set_cons_zero, List.set_cons_succ])
  have hSt := State_go (CRep.drew H7.out) sane_ok3 127
  rw [sane_e] at hSt
  refine wpT_op rfl ?_
  go_wp2_with ((go_at_call 25; refine hSt.mono ?_; rintro e w8 ⟨rfl, f8⟩))
  (refine ⟨?_, ?_⟩; focus (intro kz hk hk2; rintro ⟨qa, qb⟩; first | (exfalso; simp at hk2; omega) | exact ⟨qa, qb⟩ | (refine ⟨fun h => absurd h (by omega), ?_⟩; first | exact qb | (exact cell_fr qa f8 (fun h => h))) | (refine ⟨fun h => ?_, ?_⟩; (have qa := qa h); all_goals (first | exact qa | exact qb | (exact cell_fr qa f8 (fun h => h))))))
  have F8 := hid (F7.out.trans ((Fr.refl (fun _ => False) w7).drew.trans f8 (fun _ h _ => h)) (fun _ h _ => h))
  have H8 := hid (CRep.fr (CRep.drew H7.out) f8 (fun h => h))
  have s8 := cell_fr s7 ((Fr.refl (fun _ => False) w7).drew.trans f8 (fun _ h _ => h)) (fun h => h)
  clear hSt f8 F7 H7 s7
  repeat
    first
    | (refine wpT_pure rfl rfl rfl ?_; apply Exists.intro; refine ⟨?_, ?_⟩; intro w; ((go_simp <;> rfl)); simp only [Act.put, List.setIfInBounds_toArray, List.set_cons_zero, List.set_cons_succ])
    | (refine wpT_take 41 rfl rfl (by decide +kernel) ⟨fun _ => s8, trivial⟩ ?_; apply Exists.intro; refine ⟨?_, ?_⟩; intro w hw; (have qa := hw.1 (Nat.le_refl _); have qb := hw.2); ((go_simp <;> rfl)); simp only [Act.put, List.setIfInBounds_toArray, List.set_cons_zero, List.set_cons_succ])
    | (refine wpT_skip rfl rfl ?_; simp only [Act.put, List.setIfInBounds_toArray, List.set_cons_zero, List.set_cons_succ])
  have FA := hid (fun (W : World) => (Fr.refl (fun _ => False) W).alloc (.cells #[Value.int .u8 3, .int .u8 126, .int .u8 2, .int .u8 0, .int .u8 2, .int .u8 126] 5))
  have BA := hid (fun (W : World) => Blk.new W [Value.int .u8 3, .int .u8 126, .int .u8 2, .int .u8 0, .int .u8 2, .int .u8 126] 5)
  have hNew := hid (fun (W W' : World) (f : Fr (fun _ => False) (W.alloc (.cells #[Value.int .u8 3, .int .u8 126, .int .u8 2, .int .u8 0, .int .u8 2, .int .u8 126] 5)) W') => (run_bytes_string (P := Try.prog) (l := [3, 126, 2, 0, 2, 126]) (src := 64) (dst := 9) (Blk.all W' ((BA.out W).fr f (fun h => h))) Try.underlying64 Try.underlying5 Try.underlying9 6 6 rfl))
  have HBy := hid (fun (W : World) (h : CRep W c sane3) => sane_f ▸ Bytes_go h sane_ok3)
  refine wpT_two ?_ (wpT_op rfl ?_)
  · skip
    refine wpT_op rfl ?_
    go_wp2_with ((go_at_call 41; refine (HBy.out _ H8.out).mono ?_; rintro e w9 ⟨rfl, f9⟩))
    (refine ⟨?_, ?_⟩; focus (intro kz hk hk2; rintro ⟨qa, qb⟩; first | (exfalso; simp at hk2; omega) | exact ⟨qa, qb⟩ | (refine ⟨fun h => absurd h (by omega), ?_⟩; first | exact qb | (exact cell_fr qa f9 (fun h => h))) | (refine ⟨fun h => ?_, ?_⟩; (have qa := qa h); all_goals (first | exact qa | exact qb | (exact cell_fr qa f9 (fun h => h))))))
    have hcv := hNew.out w9 _ (Fr.refl _ _)
    refine wpT_op rfl ?_
    go_wp2_with (fail)
    (refine ⟨?_, ?_⟩; focus (intro kz hk hk2; rintro ⟨qa, qb⟩; first | (exfalso; simp at hk2; omega) | exact ⟨qa, qb⟩ | (refine ⟨fun h => absurd h (by omega), ?_⟩; first | exact qb | (exact cell_fr qa (FA.out _) (fun h => h))) | (refine ⟨fun h => ?_, ?_⟩; (have qa := qa h); all_goals (first | exact qa | exact qb | (exact cell_fr qa (FA.out _) (fun h => h))))))
    refine wpT_op rfl ?_
    go_wp2_with (fail)
    (refine ⟨?_, ?_⟩; focus (intro kz hk hk2; rintro ⟨qa, qb⟩; first | (exfalso; simp at hk2; omega) | exact ⟨qa, qb⟩ | (refine ⟨fun h => absurd h (by omega), ?_⟩; first | exact qb | (exact qa)) | (refine ⟨fun h => ?_, ?_⟩; (have qa := qa h); all_goals (first | exact qa | exact qb | (exact qa)))))
    repeat
      first
      | (refine wpT_pure rfl rfl rfl ?_; apply Exists.intro; refine ⟨?_, ?_⟩; intro w; ((go_simp <;> rfl)); simp only [Act.put, List.setIfInBounds_toArray, List.set_cons_zero, List.set_cons_succ])
      | (refine wpT_take 41 rfl rfl (by decide +kernel) ⟨fun _ => cell_fr (cell_fr s8 f9 (fun h => h)) (FA.out _) (fun h => h), trivial⟩ ?_; apply Exists.intro; refine ⟨?_, ?_⟩; intro w hw; (have qa := hw.1 (Nat.le_refl _); have qb := hw.2); ((go_simp <;> rfl)); simp only [Act.put, List.setIfInBounds_toArray, List.set_cons_zero, List.set_cons_succ])
      | (refine wpT_skip rfl rfl ?_; simp only [Act.put, List.setIfInBounds_toArray, List.set_cons_zero, List.set_cons_succ])
    refine wpT_nil ?_
    go_wp2_with (fail)
    go_ret
    exact ⟨rfl, (F8.out.trans f9 (fun _ h _ => h)).trans (FA.out _) (fun _ h _ => h)⟩
  · go_wp2_with (fail)
    refine ⟨fun kz hk hk2 hh => ⟨fun h => cell_fr (hh.1 h) (FA.out _) (fun h => h), trivial⟩, ?_⟩
    have s9 := cell_fr s8 (FA.out _) (fun h => h)
    have H9 := hid (CRep.fr H8.out (FA.out _) (fun h => h))
    refine wpT_two ?_ ?_
    · skip
      refine wpT_op rfl ?_
      go_wp2_with ((go_at_call 41; refine (HBy.out _ H9.out).mono ?_; rintro e w9 ⟨rfl, f9⟩))
      (refine ⟨?_, ?_⟩; focus (intro kz hk hk2; rintro ⟨qa, qb⟩; first | (exfalso; simp at hk2; omega) | exact ⟨qa, qb⟩ | (refine ⟨fun h => absurd h (by omega), ?_⟩; first | exact qb | (exact cell_fr qa f9 (fun h => h))) | (refine ⟨fun h => ?_, ?_⟩; (have qa := qa h); all_goals (first | exact qa | exact qb | (exact cell_fr qa f9 (fun h => h))))))
      have hcv := hNew.out w8 _ f9
      refine wpT_op rfl ?_
      go_wp2_with (fail)
      (refine ⟨?_, ?_⟩; focus (intro kz hk hk2; rintro ⟨qa, qb⟩; first | (exfalso; simp at hk2; omega) | exact ⟨qa, qb⟩ | (refine ⟨fun h => absurd h (by omega), ?_⟩; first | exact qb | (exact qa)) | (refine ⟨fun h => ?_, ?_⟩; (have qa := qa h); all_goals (first | exact qa | exact qb | (exact qa)))))
      repeat
        first
        | (refine wpT_pure rfl rfl rfl ?_; apply Exists.intro; refine ⟨?_, ?_⟩; intro w; ((go_simp <;> rfl)); simp only [Act.put, List.setIfInBounds_toArray, List.set_cons_zero, List.set_cons_succ])
        | (refine wpT_take 41 rfl rfl (by decide +kernel) ⟨fun _ => cell_fr s9 f9 (fun h => h), trivial⟩ ?_; apply Exists.intro; refine ⟨?_, ?_⟩; intro w hw; (have qa := hw.1 (Nat.le_refl _); have qb := hw.2); ((go_simp <;> rfl)); simp only [Act.put, List.setIfInBounds_toArray, List.set_cons_zero, List.set_cons_succ])
        | (refine wpT_skip rfl rfl ?_; simp only [Act.put, List.setIfInBounds_toArray, List.set_cons_zero, List.set_cons_succ])
      refine wpT_nil ?_
      go_wp2_with (fail)
      go_ret
      exact ⟨rfl, (F8.out.trans (FA.out _) (fun _ h _ => h)).trans f9 (fun _ h _ => h)⟩
    · have hcv := hNew.out w8 _ (Fr.refl _ _)
      refine wpT_op rfl ?_
      go_wp2_with (fail)
      (refine ⟨?_, ?_⟩; focus (intro kz hk hk2; rintro ⟨qa, qb⟩; first | (exfalso; simp at hk2; omega) | exact ⟨qa, qb⟩ | (refine ⟨fun h => absurd h (by omega), ?_⟩; first | exact qb | (exact qa)) | (refine ⟨fun h => ?_, ?_⟩; (have qa := qa h); all_goals (first | exact qa | exact qb | (exact qa)))))
      refine wpT_op rfl ?_
      go_wp2_with ((go_at_call 41; refine (HBy.out _ H9.out).mono ?_; rintro e w9 ⟨rfl, f9⟩))
      (refine ⟨?_, ?_⟩; focus (intro kz hk hk2; rintro ⟨qa, qb⟩; first | (exfalso; simp at hk2; omega) | exact ⟨qa, qb⟩ | (refine ⟨fun h => absurd h (by omega), ?_⟩; first | exact qb | (exact cell_fr qa f9 (fun h => h))) | (refine ⟨fun h => ?_, ?_⟩; (have qa := qa h); all_goals (first | exact qa | exact qb | (exact cell_fr qa f9 (fun h => h))))))
      repeat
        first
        | (refine wpT_pure rfl rfl rfl ?_; apply Exists.intro; refine ⟨?_, ?_⟩; intro w; ((go_simp <;> rfl)); simp only [Act.put, List.setIfInBounds_toArray, List.set_cons_zero, List.set_cons_succ])
        | (refine wpT_take 41 rfl rfl (by decide +kernel) ⟨fun _ => cell_fr s9 f9 (fun h => h), trivial⟩ ?_; apply Exists.intro; refine ⟨?_, ?_⟩; intro w hw; (have qa := hw.1 (Nat.le_refl _); have qb := hw.2); ((go_simp <;> rfl)); simp only [Act.put, List.setIfInBounds_toArray, List.set_cons_zero, List.set_cons_succ])
        | (refine wpT_skip rfl rfl ?_; simp only [Act.put, List.setIfInBounds_toArray, List.set_cons_zero, List.set_cons_succ])
      refine wpT_nil ?_
      go_wp2_with (fail)
      go_ret
      exact ⟨rfl, (F8.out.trans (FA.out _) (fun _ h _ => h)).trans f9 (fun _ h _ => h)⟩
end Go.Proofs.Ytbkebjgoaeddjaa
