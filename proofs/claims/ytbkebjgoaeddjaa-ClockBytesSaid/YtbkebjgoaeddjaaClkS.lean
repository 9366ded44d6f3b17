import Derived.Test.YtbkebjgoaeddjaaClkRF
/- law.same -/
set_option linter.unusedVariables false
namespace Go.Proofs.Ytbkebjgoaeddjaa
open Go.RowKit Go.VB Go.VB.Clk
variable {w : World} {c d : Nat} {m : CM}
theorem nsl {W : World} {e : TypeId} {v : Value} {l : List Nat} (h : W.ownsRow 0 e 1 v l.length (nv l)) : Sl (fun _ => True) W v l.length (nv l) := own_sl h (fun _ _ => trivial)
theorem below_le60 (ok : m.Ok) (x : Int) : (m.below x).length ≤ 1000000 := by have := m.below_le x; have := ok.far; omega
theorem lives_le60 (ok : m.Ok) : m.lives.length ≤ 1000000 := by
  have h1 := List.length_filter_le m.live m.known
  have h2 := m.known_length
  have h3 := ok.far
  unfold CM.lives
  omega
set_option maxRecDepth 20000 in
set_option maxHeartbeats 8000000 in
theorem same_go (h : CRep w c m) (g : RRep w d m) (ok : m.Ok) : Calls Try.prog 39 #[.pointer (some ⟨c, 0, none⟩), .pointer (some ⟨d, 0, none⟩)] w fun e w' => e = .returned (.bool true) ∧ Fr (fun _ => False) w w' := by
  have HC := hid (fun w' (f : Fr (fun _ => False) w w') => CRep.fr h f (fun h => h))
  have HR := hid (fun w' (f : Fr (fun _ => False) w w') => RRep.fr g f (fun h => h))
  have hll := lives_le60 ok
  have HBL := hid (fun x => below_le60 ok x)
  clear h g
  go_enter Try.func39, Try.ntmps39
  go_wp2_with (fail)
  refine (Snap_go (HC.out w (Fr.refl _ w)) ok).mono ?_
  rintro e w1 ⟨v1, rfl, row1, f1⟩
  obtain ⟨a1, c1, rfl, hc1⟩ := own_slice row1.own
  have fa := (Fr.refl (fun _ => False) w1).alloc (.cells #[Value.int .i64 m.next, .slice a1 m.lives.length c1] 37)
  have ba := Blk.new w1 [Value.int .i64 m.next, .slice a1 m.lives.length c1] 37
  have F1 := hid (f1.trans fa (fun _ h _ => h))
  have HS := hid (rSnap_go (HR.out _ F1.out) ok)
  have S1 := hid (own_fr row1.own fa (fun _ _ h => h))
  have B1 := hid ba
  clear row1 f1 fa ba
  go_wp2_with (fail)
  refine HS.out.mono ?_
  rintro e w2 ⟨v2, rfl, row2, f2⟩
  obtain ⟨a2, c2, rfl, hc2⟩ := row2.slice
  have fb := (Fr.refl (fun _ => False) w2).alloc (.cells #[Value.int .i64 m.next, .slice a2 m.lives.length c2] 37)
  have bb := Blk.new w2 [Value.int .i64 m.next, .slice a2 m.lives.length c2] 37
  have f12 := f2.trans fb (fun _ h _ => h)
  have B1' := B1.out.fr f12 (fun h => h)
  have hN := Nums_go (nsl (own_fr S1.out f12 (fun _ _ h => h))) (nsl (own_fr row2.own fb (fun _ _ h => h))) hll hll
  rw [decide_eq_true rfl] at hN
  have F2 := hid (F1.out.trans f12 (fun _ h _ => h))
  obtain ⟨W3, hW3⟩ : ∃ W3, W3 = w2.alloc (.cells #[Value.int .i64 m.next, .slice a2 m.lives.length c2] 37) := ⟨_, rfl⟩
  have bb : Blk W3 w2.heap.size [Value.int .i64 m.next, .slice a2 m.lives.length c2] 37 := by rw [hW3]; exact bb
  rw [← hW3] at F2 hN B1'
  have HW3 := hid hW3
  have k1 : W3.cell? ⟨w1.heap.size, 0, none⟩ = some (.int .i64 m.next) := B1'.cell 0
  have k2 : W3.cell? ⟨w1.heap.size, 1, none⟩ = some (.slice a1 m.lives.length c1) := B1'.cell 1
  have k3 : W3.cell? ⟨w2.heap.size, 0, none⟩ = some (.int .i64 m.next) := bb.cell 0
  have k4 : W3.cell? ⟨w2.heap.size, 1, none⟩ = some (.slice a2 m.lives.length c2) := bb.cell 1
  have HN := hid hN
  clear row2 f2 fb f12 bb hN hW3 S1 B1 B1' HS
  go_upto_region 3 with (fail)
  rw [← HW3.out]
  clear HW3
  generalize w1.heap.size = b1 at *
  generalize w2.heap.size = b2 at *
  go_wp2_with (fail)
  refine HN.out.mono ?_
  rintro e w4 ⟨rfl, f4⟩
  have F4 := hid (F2.out.trans f4 (fun _ h _ => h))
  have k1 := cell_fr k1 f4 (fun h => h)
  have k3 := cell_fr k3 f4 (fun h => h)
  have l1 := (HR.out _ F4.out).next
  clear HN k2 k4 f4 hc1 hc2
  go_wp2_with (fail)
  refine wp_region_scr (.take 0 (.take 2 (.take 3 (.take 4 (.take 5 (.op 1 (.take 6 (.take 7 (.take 8 (.take 10 (.op 9 (.op 11 (.take 12 (.take 13 (.take 14 (.take 15 (.take 16 (.take 17 (.take 18 (.take 19 (.take 20 (.take 21 (.take 22 (.take 23 (.take 24 (.take 25 (.take 26 (.take 28 (.op 27 (.op 29 (.take 30 (.take 31 .done)))))))))))))))))))))))))))))))) (fun kz w => (kz ≤ 32 → w.cell? ⟨d, 1, none⟩ = some (.int .i64 m.next) ∧ w.cell? ⟨b1, 0, none⟩ = some (.int .i64 m.next) ∧ w.cell? ⟨b2, 0, none⟩ = some (.int .i64 m.next)) ∧ True) (by kernel_rfl) (by kernel_rfl) (by intro c a d v w h; cases d <;> exact h) ?_
  repeat
    first
    | (refine wpT_pure rfl rfl rfl ?_; apply Exists.intro; refine ⟨?_, ?_⟩; intro w; ((go_simp <;> rfl)); simp only [Act.put, List.setIfInBounds_toArray, List.set_cons_zero, List.set_cons_succ])
    | (refine wpT_take 32 rfl rfl (by decide +kernel) ⟨fun _ => ⟨l1, k1, k3⟩, trivial⟩ ?_; apply Exists.intro; refine ⟨?_, ?_⟩; intro w hw; (have qa := hw.1 (Nat.le_refl _); have qb := hw.2); ((go_simp <;> rfl)); simp only [Act.put, List.setIfInBounds_toArray, List.set_cons_zero, List.set_cons_succ])
    | (refine wpT_skip rfl rfl ?_; simp only [Act.put, List.setIfInBounds_toArray, List.set_cons_zero, List.set_cons_succ])
  have F5 := hid (F4.out.drew)
  refine wpT_op rfl ?_
  go_wp2_with ((go_at_call 30; refine (Now_go (HC.out _ F5.out)).mono ?_; rintro e w5 ⟨rfl, rfl⟩))
  (refine ⟨?_, ?_⟩; focus (intro kz hk hk2; rintro ⟨qa, qb⟩; first | (exfalso; simp at hk2; omega) | exact ⟨qa, qb⟩ | (refine ⟨fun h => absurd h (by omega), ?_⟩; first | exact qb | (exact qa)) | (refine ⟨fun h => ?_, ?_⟩; (have qa := qa h); all_goals (first | exact qa | exact qb | (exact qa)))))
  repeat
    first
    | (refine wpT_pure rfl rfl rfl ?_; apply Exists.intro; refine ⟨?_, ?_⟩; intro w; ((go_simp <;> rfl)); simp only [Act.put, List.setIfInBounds_toArray, List.set_cons_zero, List.set_cons_succ])
    | (refine wpT_take 32 rfl rfl (by decide +kernel) ⟨fun _ => ⟨l1, k1, k3⟩, trivial⟩ ?_; apply Exists.intro; refine ⟨?_, ?_⟩; intro w hw; (have qa := hw.1 (Nat.le_refl _); have qb := hw.2); ((go_simp <;> rfl)); simp only [Act.put, List.setIfInBounds_toArray, List.set_cons_zero, List.set_cons_succ])
    | (refine wpT_skip rfl rfl ?_; simp only [Act.put, List.setIfInBounds_toArray, List.set_cons_zero, List.set_cons_succ])
  refine wpT_op rfl ?_
  go_wp2_with ((go_at_call 32; refine (Oldest_go (HC.out _ F5.out) ok).mono ?_; rintro e w6 ⟨rfl, f6⟩))
  (refine ⟨?_, ?_⟩; focus (intro kz hk hk2; rintro ⟨qa, qb⟩; first | (exfalso; simp at hk2; omega) | exact ⟨qa, qb⟩ | (refine ⟨fun h => absurd h (by omega), ?_⟩; first | exact qb | (exact ⟨cell_fr qa.1 f6 (fun h => h), cell_fr qa.2.1 f6 (fun h => h), cell_fr qa.2.2 f6 (fun h => h)⟩)) | (refine ⟨fun h => ?_, ?_⟩; (have qa := qa h); all_goals (first | exact qa | exact qb | (exact ⟨cell_fr qa.1 f6 (fun h => h), cell_fr qa.2.1 f6 (fun h => h), cell_fr qa.2.2 f6 (fun h => h)⟩)))))
  have F6 := hid (F5.out.trans f6 (fun _ h _ => h))
  have G6 := hid ((Fr.refl (fun _ => False) w4).drew.trans f6 (fun _ h _ => h))
  clear f6
  refine wpT_op rfl ?_
  go_wp2_with ((go_at_call 65; refine (rOldest_go (HR.out _ F6.out) ok).mono ?_; rintro e w7 ⟨rfl, f7⟩))
  (refine ⟨?_, ?_⟩; focus (intro kz hk hk2; rintro ⟨qa, qb⟩; first | (exfalso; simp at hk2; omega) | exact ⟨qa, qb⟩ | (refine ⟨fun h => absurd h (by omega), ?_⟩; first | exact qb | (exact ⟨cell_fr qa.1 f7 (fun h => h), cell_fr qa.2.1 f7 (fun h => h), cell_fr qa.2.2 f7 (fun h => h)⟩)) | (refine ⟨fun h => ?_, ?_⟩; (have qa := qa h); all_goals (first | exact qa | exact qb | (exact ⟨cell_fr qa.1 f7 (fun h => h), cell_fr qa.2.1 f7 (fun h => h), cell_fr qa.2.2 f7 (fun h => h)⟩)))))
  have F7 := hid (F6.out.trans f7 (fun _ h _ => h))
  have G7 := hid (G6.out.trans f7 (fun _ h _ => h))
  clear f7
  repeat
    first
    | (refine wpT_pure rfl rfl rfl ?_; apply Exists.intro; refine ⟨?_, ?_⟩; intro w; ((go_simp <;> rfl)); simp only [Act.put, List.setIfInBounds_toArray, List.set_cons_zero, List.set_cons_succ])
    | (refine wpT_take 32 rfl rfl (by decide +kernel) ⟨fun _ => ⟨cell_fr l1 G7.out (fun h => h), cell_fr k1 G7.out (fun h => h), cell_fr k3 G7.out (fun h => h)⟩, trivial⟩ ?_; apply Exists.intro; refine ⟨?_, ?_⟩; intro w hw; (have qa := hw.1 (Nat.le_refl _); have qb := hw.2); ((go_simp <;> rfl)); simp only [Act.put, List.setIfInBounds_toArray, List.set_cons_zero, List.set_cons_succ])
    | (refine wpT_skip rfl rfl ?_; simp only [Act.put, List.setIfInBounds_toArray, List.set_cons_zero, List.set_cons_succ])
  refine wpT_op rfl ?_
  go_wp2_with ((go_at_call 41; refine (Bytes_go (HC.out _ F7.out) ok).mono ?_; rintro e w8 ⟨rfl, f8⟩))
  (refine ⟨?_, ?_⟩; focus (intro kz hk hk2; rintro ⟨qa, qb⟩; first | (exfalso; simp at hk2; omega) | exact ⟨qa, qb⟩ | (refine ⟨fun h => absurd h (by omega), ?_⟩; first | exact qb | (exact ⟨cell_fr qa.1 f8 (fun h => h), cell_fr qa.2.1 f8 (fun h => h), cell_fr qa.2.2 f8 (fun h => h)⟩)) | (refine ⟨fun h => ?_, ?_⟩; (have qa := qa h); all_goals (first | exact qa | exact qb | (exact ⟨cell_fr qa.1 f8 (fun h => h), cell_fr qa.2.1 f8 (fun h => h), cell_fr qa.2.2 f8 (fun h => h)⟩)))))
  have F8 := hid (F7.out.trans f8 (fun _ h _ => h))
  have G8 := hid (G7.out.trans f8 (fun _ h _ => h))
  clear f8
  refine wpT_op rfl ?_
  go_wp2_with ((go_at_call 42; refine (rBytes_go (HR.out _ F8.out) ok).mono ?_; rintro e w9 ⟨rfl, f9⟩))
  (refine ⟨?_, ?_⟩; focus (intro kz hk hk2; rintro ⟨qa, qb⟩; first | (exfalso; simp at hk2; omega) | exact ⟨qa, qb⟩ | (refine ⟨fun h => absurd h (by omega), ?_⟩; first | exact qb | (exact ⟨cell_fr qa.1 f9 (fun h => h), cell_fr qa.2.1 f9 (fun h => h), cell_fr qa.2.2 f9 (fun h => h)⟩)) | (refine ⟨fun h => ?_, ?_⟩; (have qa := qa h); all_goals (first | exact qa | exact qb | (exact ⟨cell_fr qa.1 f9 (fun h => h), cell_fr qa.2.1 f9 (fun h => h), cell_fr qa.2.2 f9 (fun h => h)⟩)))))
  have F9 := hid (F8.out.trans f9 (fun _ h _ => h))
  have G9 := hid (G8.out.trans f9 (fun _ h _ => h))
  clear f9
  repeat
    first
    | (refine wpT_pure rfl rfl rfl ?_; apply Exists.intro; refine ⟨?_, ?_⟩; intro w; ((go_simp <;> rfl)); simp only [Act.put, List.setIfInBounds_toArray, List.set_cons_zero, List.set_cons_succ])
    | (refine wpT_take 32 rfl rfl (by decide +kernel) ⟨fun _ => ⟨cell_fr l1 G9.out (fun h => h), cell_fr k1 G9.out (fun h => h), cell_fr k3 G9.out (fun h => h)⟩, trivial⟩ ?_; apply Exists.intro; refine ⟨?_, ?_⟩; intro w hw; (have qa := hw.1 (Nat.le_refl _); have qb := hw.2); ((go_simp <;> rfl)); simp only [Act.put, List.setIfInBounds_toArray, List.set_cons_zero, List.set_cons_succ])
    | (refine wpT_skip rfl rfl ?_; simp only [Act.put, List.setIfInBounds_toArray, List.set_cons_zero, List.set_cons_succ])
  refine wpT_nil ?_
  clear l1 k1 k3 F8 G8 F7 G7 F6 G6 F5 G9
  go_wp2_with (fail)
  go_loopw [8] (fun i wr => ∃ x : Int, -1 ≤ x ∧ x ≤ 130 ∧ i = .int .i64 x ∧ Fr (fun _ => False) w wr) (fun i _ => (130 - intOf i).toNat)
  case atStart => exact ⟨-1, by omega, by omega, rfl, F9.out⟩
  case round =>
    obtain ⟨x, x1, x2, rfl, fr⟩ := hrel
    by_cases hx : x ≤ 129
    · have hbl := HBL.out x
      have FR := hid fr
      clear fr
      go_wp2_with (fail)
      refine (Below_go (HC.out _ FR.out) ok x).mono ?_
      rintro e u1 ⟨v1, rfl, row1, f1⟩
      have H1 := hid (FR.out.trans f1 (fun _ h _ => h))
      go_wp2_with (fail)
      refine (rBelow_go (HR.out _ H1.out) ok x).mono ?_
      rintro e u2 ⟨v2, rfl, row2, f2⟩
      have hN := Nums_go (nsl (own_fr row1.own f2 (fun _ _ h => h))) (nsl row2.own) hbl hbl
      rw [decide_eq_true rfl] at hN
      have H2 := hid (H1.out.trans f2 (fun _ h _ => h))
      have HN := hid hN
      clear row1 row2 f1 f2 hN
      go_wp2_with (fail)
      refine HN.out.mono ?_
      rintro e u3 ⟨rfl, f3⟩
      have H3 := hid (H2.out.trans f3 (fun _ h _ => h))
      clear f3
      go_wp2_with (fail)
      refine (State_go (HC.out _ H3.out) ok x).mono ?_
      rintro e u4 ⟨rfl, f4⟩
      have H4 := hid (H3.out.trans f4 (fun _ h _ => h))
      clear f4
      go_wp2_with (fail)
      refine (rState_go (HR.out _ H4.out) ok x).mono ?_
      rintro e u5 ⟨rfl, f5⟩
      have H5 := hid (H4.out.trans f5 (fun _ h _ => h))
      clear f5
      go_wp2_with (fail)
      refine (Top_go (HC.out _ H5.out) ok x).mono ?_
      rintro e u6 ⟨rfl, f6⟩
      have H6 := hid (H5.out.trans f6 (fun _ h _ => h))
      clear f6
      go_wp2_with (fail)
      refine (rTop_go (HR.out _ H6.out) ok x).mono ?_
      rintro e u7 ⟨rfl, f7⟩
      have H7 := hid (H6.out.trans f7 (fun _ h _ => h))
      clear f7
      go_wp2_with (fail)
      go_roundw
      case rel => exact ⟨x + 1, by omega, by omega, rfl, H7.out⟩
      case measure => simp [intOf]; omega
    · go_wp2_with (fail)
      go_ret
      exact ⟨rfl, fr⟩
end Go.Proofs.Ytbkebjgoaeddjaa
