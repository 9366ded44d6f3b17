import Derived.Test.YtbkebjgoaeddjaaClkK
/- law.do, law.near: calls on a clock. -/
set_option linter.unusedVariables false
namespace Go.VB.Clk
def CM.dok (m : CM) (kind x s : Int) : CM × (Int × Int) :=
  if kind % 8 = 0 then m.begin_ x
  else if kind % 8 ≤ 3 then ((m.end_ x s).1, (0, (m.end_ x s).2))
  else if kind % 8 = 4 then (m.freeze x, (0, 0))
  else if kind % 8 = 5 then (m.reach x, (0, 0))
  else m.begin_ 0
theorem Ok_dok {m : CM} (ok : m.Ok) (kind x s : Int) : (m.dok kind x s).1.Ok := by
  unfold CM.dok
  split
  · exact Ok_begin ok _
  · split
    · exact Ok_end ok _ _
    · split
      · exact Ok_freeze ok _
      · split
        · exact Ok_reach ok _
        · exact Ok_begin ok _
end Go.VB.Clk
namespace Go.Proofs.Ytbkebjgoaeddjaa
open Go.RowKit Go.VB Go.VB.Clk
variable {w : World} {c : Nat} {m : CM}
set_option maxRecDepth 20000 in
set_option maxHeartbeats 4000000 in
theorem do_go (h : CRep w c m) (ok : m.Ok) (kind x s : Int) : Calls Try.prog 35 #[.pointer (some ⟨c, 0, none⟩), .agg #[.int .i64 kind, .int .i64 x, .int .i64 s]] w fun e w' =>
    e = .returned (.tuple #[.int .i64 (m.dok kind x s).2.1, .int .i64 (m.dok kind x s).2.2]) ∧ CRep w' c (m.dok kind x s).1 ∧ Fr (fun k => k = c) w w' := by
  have hlt := Blk.lt h
  have F0 := (Fr.refl (fun k => k = c) w).alloc (.cells #[Value.int .i64 kind, .int .i64 x, .int .i64 s] 48)
  have B0 := Blk.new w [Value.int .i64 kind, .int .i64 x, .int .i64 s] 48
  have H0 := Blk.alloc h (.cells #[Value.int .i64 kind, .int .i64 x, .int .i64 s] 48)
  obtain ⟨w0, hw0⟩ : ∃ w0, w.alloc (.cells #[Value.int .i64 kind, .int .i64 x, .int .i64 s] 48) = w0 := ⟨_, rfl⟩
  have e0 : w.alloc (.cells [Value.int .i64 kind, .int .i64 x, .int .i64 s].toArray 48) = w0 := hw0
  rw [hw0] at F0 H0
  rw [e0] at B0
  have k0 : w0.cell? ⟨w.heap.size, 0, none⟩ = some (.int .i64 kind) := B0.cell 0
  have k1 : w0.cell? ⟨w.heap.size, 1, none⟩ = some (.int .i64 x) := B0.cell 1
  have k2 : w0.cell? ⟨w.heap.size, 2, none⟩ = some (.int .i64 s) := B0.cell 2
  have HW := hid hw0
  have HF := hid F0
  have R := hid (fun w => rest_any w kind 8 (by omega) (by omega))
  have hc : kind % 8 = 0 ∨ kind % 8 = 1 ∨ kind % 8 = 2 ∨ kind % 8 = 3 ∨ kind % 8 = 4 ∨ kind % 8 = 5 ∨ kind % 8 = 6 ∨ kind % 8 = 7 := by omega
  have C0 := hid (Begin_go H0 ok x)
  have C1 := hid (End_go H0 ok x s)
  have C2 := hid (Freeze_go H0 ok x)
  have C3 := hid (Reach_go H0 ok x)
  have C4 := hid (Begin_go H0 ok 0)
  unfold CM.dok
  clear F0 B0 H0 h hw0 e0
  rcases hc with hc | hc | hc | hc | hc | hc | hc | hc
  · rw [if_pos hc]
    rw [hc] at R
    clear hc C1 C2 C3 C4
    go_enter Try.func35, Try.ntmps35
    go_wp2_with (fail)
    rw [HW.out]
    refine (R.out _).mono ?_
    rintro e w1 ⟨rfl, rfl⟩
    go_wp2_with (fail)
    refine C0.out.mono ?_
    rintro e w5 ⟨rfl, h5, f5⟩
    have H5 := hid h5
    clear h5 C0
    go_wp2_with (fail)
    go_ret2
    exact ⟨rfl, H5.out, HF.out.trans f5 (fun _ h _ => h)⟩
  all_goals try
    (rw [if_neg (by omega), if_pos (by omega)]
     rw [hc] at R
     clear hc C0 C2 C3 C4
     go_enter Try.func35, Try.ntmps35
     go_wp2_with (fail)
     rw [HW.out]
     refine (R.out _).mono ?_
     rintro e w1 ⟨rfl, rfl⟩
     go_wp2_with (fail)
     refine C1.out.mono ?_
     rintro e w5 ⟨rfl, h5, f5⟩
     have H5 := hid h5
     clear h5 C1
     go_wp2_with (fail)
     go_ret2
     exact ⟨rfl, H5.out, HF.out.trans f5 (fun _ h _ => h)⟩)
  · rw [if_neg (by omega), if_neg (by omega), if_pos hc]
    rw [hc] at R
    clear hc C0 C1 C3 C4
    go_enter Try.func35, Try.ntmps35
    go_wp2_with (fail)
    rw [HW.out]
    refine (R.out _).mono ?_
    rintro e w1 ⟨rfl, rfl⟩
    go_wp2_with (fail)
    refine C2.out.mono ?_
    rintro e w5 ⟨rfl, h5, f5⟩
    have H5 := hid h5
    clear h5 C2
    go_wp2_with (fail)
    go_ret2
    exact ⟨rfl, H5.out, HF.out.trans f5 (fun _ h _ => h)⟩
  · rw [if_neg (by omega), if_neg (by omega), if_neg (by omega), if_pos hc]
    rw [hc] at R
    clear hc C0 C1 C2 C4
    go_enter Try.func35, Try.ntmps35
    go_wp2_with (fail)
    rw [HW.out]
    refine (R.out _).mono ?_
    rintro e w1 ⟨rfl, rfl⟩
    go_wp2_with (fail)
    refine C3.out.mono ?_
    rintro e w5 ⟨rfl, h5, f5⟩
    have H5 := hid h5
    clear h5 C3
    go_wp2_with (fail)
    go_ret2
    exact ⟨rfl, H5.out, HF.out.trans f5 (fun _ h _ => h)⟩
  all_goals
    rw [if_neg (by omega), if_neg (by omega), if_neg (by omega), if_neg (by omega)]
    rw [hc] at R
    clear hc C0 C1 C2 C3
    go_enter Try.func35, Try.ntmps35
    go_wp2_with (fail)
    rw [HW.out]
    refine (R.out _).mono ?_
    rintro e w1 ⟨rfl, rfl⟩
    go_wp2_with (fail)
    refine C4.out.mono ?_
    rintro e w5 ⟨rfl, h5, f5⟩
    have H5 := hid h5
    clear h5 C4
    go_wp2_with (fail)
    go_ret2
    exact ⟨rfl, H5.out, HF.out.trans f5 (fun _ h _ => h)⟩
theorem Try.size_call : (Try.prog.info? 48).map (·.size) = some 3 := by kernel_rfl
set_option maxRecDepth 20000 in
set_option maxHeartbeats 4000000 in
theorem near_go (kind x s : Int) (next : Nat) (hn : 3 ≤ next ∧ next ≤ 127) (w : World) : Calls Try.prog 34 #[.agg #[.int .i64 kind, .int .i64 x, .int .i64 s], .int .i64 next] w fun e w' =>
    e = .returned (.agg #[.int .i64 kind, .int .i64 (xat next (x % 125).toNat), .int .i64 (1 + s % 4)]) ∧ Fr (fun _ => False) w w' := by
  obtain ⟨n, hxn⟩ : ∃ n : Nat, x % 125 = n := ⟨(x % 125).toNat, by omega⟩
  have hn5 : n < 125 := by omega
  have R1 := hid (fun w => rest_any w x 125 (by omega) (by omega))
  rw [hxn] at R1 ⊢
  rw [Int.toNat_natCast]
  have R2 := hid (fun w => rest_any w s 4 (by omega) (by omega))
  have TU := hid (fun w => Turn_go next n w hn (by omega))
  have hs4 : 0 ≤ s % 4 ∧ s % 4 < 4 := ⟨by omega, by omega⟩
  generalize s % 4 = q at *
  have HXN := hid hxn
  have F0 := ((Fr.refl (fun _ => False) w).alloc (.cells #[Value.int .i64 kind, .int .i64 x, .int .i64 s] 48)).alloc (.cells #[Value.int .i64 0, .int .i64 0, .int .i64 0] 48)
  have B0 := (Blk.new w [Value.int .i64 kind, .int .i64 x, .int .i64 s] 48).alloc (.cells #[Value.int .i64 0, .int .i64 0, .int .i64 0] 48)
  have B1 := Blk.new (w.alloc (.cells #[Value.int .i64 kind, .int .i64 x, .int .i64 s] 48)) [Value.int .i64 0, .int .i64 0, .int .i64 0] 48
  rw [World.size_alloc] at B1
  clear hxn
  go_enter Try.func34, Try.ntmps34
  go_wp2_with (fail)
  obtain ⟨w0, hw0⟩ : ∃ w0, w0 = (w.alloc (.cells #[Value.int .i64 kind, .int .i64 x, .int .i64 s] 48)).alloc (.cells #[Value.int .i64 0, .int .i64 0, .int .i64 0] 48) := ⟨_, rfl⟩
  have B0 : Blk w0 w.heap.size [Value.int .i64 kind, .int .i64 x, .int .i64 s] 48 := by rw [hw0]; exact B0
  have B1 : Blk w0 (w.heap.size + 1) [Value.int .i64 0, .int .i64 0, .int .i64 0] 48 := by rw [hw0]; exact B1
  rw [← hw0] at F0 ⊢
  clear hw0
  have k0 : w0.cell? ⟨w.heap.size, 0, none⟩ = some (.int .i64 kind) := B0.cell 0
  have k1 : w0.cell? ⟨w.heap.size, 1, none⟩ = some (.int .i64 x) := B0.cell 1
  have k2 : w0.cell? ⟨w.heap.size, 2, none⟩ = some (.int .i64 s) := B0.cell 2
  have hT : w0.drew.there (w.heap.size + 1) 0 3 := B1.drew.there 0 3 (by simp)
  have HF := hid F0
  have HB := hid B1
  clear F0 B0 B1
  generalize hww : w.heap.size = ww at *
  refine wp_region_scr (.take 0 (.take 1 (.take 2 (.take 3 (.take 4 (.take 7 (.take 8 (.op 5 (.op 6 (.op 9 (.take 10 (.op 11 (.op 12 .done))))))))))))) (fun kz w => (kz ≤ 12 → w.cell? ⟨ww, 0, none⟩ = some (.int .i64 kind) ∧ w.cell? ⟨ww, 1, none⟩ = some (.int .i64 x) ∧ w.cell? ⟨ww, 2, none⟩ = some (.int .i64 s)) ∧ True) (by kernel_rfl) (by kernel_rfl) (by intro c a d v w h; cases d <;> exact h) ?_
  repeat
    first
    | (refine wpT_pure rfl rfl rfl ?_; apply Exists.intro; refine ⟨?_, ?_⟩; intro w; ((go_simp <;> rfl)); simp only [Act.put, List.setIfInBounds_toArray, List.set_cons_zero, List.set_cons_succ])
    | (refine wpT_take 12 rfl rfl (by decide +kernel) ⟨fun _ => ⟨k0, k1, k2⟩, trivial⟩ ?_; apply Exists.intro; refine ⟨?_, ?_⟩; intro w hw; (have qa := hw.1 (Nat.le_refl _); have qb := hw.2); ((go_simp <;> rfl)); simp only [Act.put, List.setIfInBounds_toArray, List.set_cons_zero, List.set_cons_succ])
    | (refine wpT_skip rfl rfl ?_; simp only [Act.put, List.setIfInBounds_toArray, List.set_cons_zero, List.set_cons_succ])
  refine wpT_op rfl ?_
  go_wp2_with ((go_at_call 14; refine (R1.out _).mono ?_; rintro e w5 ⟨rfl, rfl⟩))
  (refine ⟨?_, ?_⟩; focus (intro kz hk hk2; rintro ⟨qa, qb⟩; first | (exfalso; simp at hk2; omega) | exact ⟨qa, qb⟩ | (refine ⟨fun h => absurd h (by omega), ?_⟩; first | exact qb | (exact qa)) | (refine ⟨fun h => ?_, ?_⟩; (have qa := qa h); all_goals (first | exact qa | exact qb | (exact qa)))))
  refine wpT_op rfl ?_
  go_wp2_with ((go_at_call 33; refine (TU.out _).mono ?_; rintro e w5 ⟨rfl, rfl⟩))
  (refine ⟨?_, ?_⟩; focus (intro kz hk hk2; rintro ⟨qa, qb⟩; first | (exfalso; simp at hk2; omega) | exact ⟨qa, qb⟩ | (refine ⟨fun h => absurd h (by omega), ?_⟩; first | exact qb | (exact qa)) | (refine ⟨fun h => ?_, ?_⟩; (have qa := qa h); all_goals (first | exact qa | exact qb | (exact qa)))))
  refine wpT_op rfl ?_
  go_wp2_with ((go_at_call 14; refine (R2.out _).mono ?_; rintro e w5 ⟨rfl, rfl⟩))
  (refine ⟨?_, ?_⟩; focus (intro kz hk hk2; rintro ⟨qa, qb⟩; first | (exfalso; simp at hk2; omega) | exact ⟨qa, qb⟩ | (refine ⟨fun h => absurd h (by omega), ?_⟩; first | exact qb | (exact qa)) | (refine ⟨fun h => ?_, ?_⟩; (have qa := qa h); all_goals (first | exact qa | exact qb | (exact qa)))))
  repeat
    first
    | (refine wpT_pure rfl rfl rfl ?_; apply Exists.intro; refine ⟨?_, ?_⟩; intro w; ((go_simp <;> rfl)); simp only [Act.put, List.setIfInBounds_toArray, List.set_cons_zero, List.set_cons_succ])
    | (refine wpT_take 12 rfl rfl (by decide +kernel) ⟨fun _ => ⟨k0, k1, k2⟩, trivial⟩ ?_; apply Exists.intro; refine ⟨?_, ?_⟩; intro w hw; (have qa := hw.1 (Nat.le_refl _); have qb := hw.2); ((go_simp <;> rfl)); simp only [Act.put, List.setIfInBounds_toArray, List.set_cons_zero, List.set_cons_succ])
    | (refine wpT_skip rfl rfl ?_; simp only [Act.put, List.setIfInBounds_toArray, List.set_cons_zero, List.set_cons_succ])
  refine wpT_op rfl ?_
  go_wp2_with (fail)
  (refine ⟨?_, ?_⟩; focus (intro kz hk hk2; rintro ⟨qa, qb⟩; first | (exfalso; simp at hk2; omega) | exact ⟨qa, qb⟩ | (refine ⟨fun h => absurd h (by omega), ?_⟩; first | exact qb | (exact qa)) | (refine ⟨fun h => ?_, ?_⟩; (have qa := qa h); all_goals (first | exact qa | exact qb | (exact qa)))))
  refine wpT_op rfl ?_
  refine wpList_store_mid rfl 48 _ _ rfl (ww + 1) 0 _ rfl rfl hT Try.size_call (by simp [Value.oneCell']) ?_
  rw [List.toList_toArray]
  go_wp2_with (fail)
  refine ⟨fun kz h1 h2 _ => ⟨fun h => absurd h (by omega), trivial⟩, ?_⟩
  refine wpT_nil ?_
  have hw1 : IntKind.i64.wrap (1 + q) = 1 + q := IntWalk.i64_in _ (by omega)
  have B2 : Blk (w0.drew.setCells (ww + 1) 0 [.int .i64 kind, .int .i64 (xat next n), .int .i64 (1 + q)]) (ww + 1) [.int .i64 kind, .int .i64 (xat next n), .int .i64 (1 + q)] 48 := Blk.put HB.out.drew 0 [.int .i64 kind, .int .i64 (xat next n), .int .i64 (1 + q)] (by simp)
  have F2 : Fr (fun _ => False) w (w0.drew.setCells (ww + 1) 0 [.int .i64 kind, .int .i64 (xat next n), .int .i64 (1 + q)]) := HF.out.drew.put _ _ _ (fun h => absurd h (by have := hww; omega))
  go_wp2_with (fail)
  exact bodyPost_ret (v := .agg #[.int .i64 kind, .int .i64 (xat next n), .int .i64 (1 + q)]) (results_cell_mid (b := ww + 1) (o := 0) rfl _ _ rfl (cs := [.int .i64 kind, .int .i64 (xat next n), .int .i64 (1 + q)]) (Blk.all _ B2) Try.underlying48 rfl Try.size_call) rfl ⟨rfl, F2⟩
end Go.Proofs.Ytbkebjgoaeddjaa
