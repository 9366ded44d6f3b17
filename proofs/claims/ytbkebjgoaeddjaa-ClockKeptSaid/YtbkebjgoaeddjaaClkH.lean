import Derived.Test.YtbkebjgoaeddjaaClkG
/- The clock under test: Reach, Freeze. -/
set_option linter.unusedVariables false
namespace Go.Proofs.Ytbkebjgoaeddjaa
open Go.RowKit Go.VB Go.VB.Clk
variable {w : World} {c : Nat} {m : CM}
theorem addN_knows {m : CM} (ok : m.Ok) (j k : Nat) (hj : m.n + j ≤ 60) (k1 : 3 ≤ k) (k2 : k ≤ 127) : (m.addN j).knows k = decide (steps m.low k < m.n + j) := by
  obtain ⟨-, h2, h3⟩ := addN_ok ok j hj
  unfold CM.knows
  rw [h2, h3, on_of k1 k2, Bool.true_and, Int.toNat_natCast]
set_option maxRecDepth 20000 in
set_option maxHeartbeats 2000000 in
theorem Reach_go (h : CRep w c m) (ok : m.Ok) (x : Int) : Calls Try.prog 40 #[.pointer (some ⟨c, 0, none⟩), .int .i64 x] w fun e w' => e = .returned (.tuple #[]) ∧ CRep w' c (m.reach x) ∧ Fr (fun k => k = c) w w' := by
  have HH := hid h
  unfold CM.reach
  cases ho : on x with
  | false =>
    rw [if_neg (by simp)]
    have HO := hid (fun w => on_is x w ho)
    clear h ho
    go_enter Try.func40, Try.ntmps40
    go_wp2_with (go_at_call 52; refine (HO.out _).mono ?_; rintro e w' ⟨rfl, rfl⟩)
    exact bodyPost_ret (v := .tuple #[]) (results_none rfl _ _ _) rfl ⟨rfl, HH.out, Fr.refl _ _⟩
  | true =>
    have HO := hid (fun w => on_is x w ho)
    obtain ⟨k, rfl, k1, k2⟩ := on_nat ho
    have hl := ok.lo
    have hx := ok.nx
    have HS := hid (fun w => steps_go m.low k w (by omega) (by omega) (by omega))
    have l0 := h.low
    rw [Int.toNat_natCast]
    by_cases hf : steps m.low k < 60
    · rw [if_pos (by simp [hf])]
      have hd : decide (60 ≤ steps m.low k) = false := by simp; omega
      have HKN := hid (fun j hj => addN_knows ok j k hj k1 k2)
      have HAO := hid (fun j hj => addN_ok ok j hj)
      have hfar := ok.far
      clear h ho
      generalize hp : steps m.low k = p at *
      have HP := hid hp
      clear hp
      go_enter Try.func40, Try.ntmps40
      go_wp2_with (first
        | (go_at_call 52; refine (HO.out _).mono ?_; rintro e w' ⟨rfl, rfl⟩)
        | (go_at_call 54; refine (HS.out _).mono ?_; rintro e w' ⟨rfl, rfl⟩))
      go_loopg [] (p + 1 - m.n) (fun g wr => ∃ j : Nat, g = p + 1 - m.n - j ∧ (j = 0 ∨ m.n + j ≤ p + 1) ∧ CRep wr c (m.addN j) ∧ Fr (fun k => k = c) w wr)
      case atStart => exact ⟨0, by omega, .inl rfl, HH.out, Fr.refl _ _⟩
      case round =>
        obtain ⟨j, hg, hj, hc, fr⟩ := hrel
        have hj60 : m.n + j ≤ 60 := by omega
        obtain ⟨okj, -, hnj⟩ := HAO.out j hj60
        have hkn := HKN.out j hj60
        by_cases hk : p < m.n + j
        · have e : p + 1 - m.n = j := by omega
          rw [decide_eq_true hk] at hkn
          have HK := hid (knows_is hc okj k hkn)
          have HE := hid e
          have HC := hid hc
          clear hc hkn e
          go_wp2_with (go_at_call 56; refine HK.out.mono ?_; rintro e w' ⟨rfl, f⟩)
          go_end0
          exact ⟨rfl, by rw [HE.out]; exact HC.out.fr f (fun h => h), fr.trans f (fun _ h _ => h.elim)⟩
        · rw [decide_eq_false hk] at hkn
          have HK := hid (knows_is hc okj k hkn)
          have HC := hid hc
          have hb := CM.begin_zero (m := m.addN j) (by omega)
          have HB := hid hb
          clear hc hkn hb
          go_wp2_with (fail)
          refine HK.out.mono ?_
          rintro e w1 ⟨rfl, f⟩
          have hB := Begin_go (CRep.fr HC.out f (fun h => h)) okj 0
          rw [HB.out] at hB
          go_wp2_with (fail)
          refine hB.mono ?_
          rintro e w2 ⟨rfl, hc2, f2⟩
          have HC2 := hid hc2
          clear hc2 hB
          go_wp2_with (fail)
          go_roundg (p + 1 - m.n - (j + 1))
          case measure => omega
          case rel => exact ⟨j + 1, rfl, .inr (by omega), HC2.out, (fr.trans f (fun _ h _ => h.elim)).trans f2 (fun _ h _ => h)⟩
    · rw [if_neg (by simp [hf])]
      have hd : decide (60 ≤ steps m.low k) = true := by simp; omega
      clear h ho
      go_enter Try.func40, Try.ntmps40
      go_wp2_with (first
        | (go_at_call 52; refine (HO.out _).mono ?_; rintro e w' ⟨rfl, rfl⟩)
        | (go_at_call 54; refine (HS.out _).mono ?_; rintro e w' ⟨rfl, rfl⟩))
      exact bodyPost_ret (v := .tuple #[]) (results_none rfl _ _ _) rfl ⟨rfl, HH.out, Fr.refl _ _⟩
set_option maxRecDepth 20000 in
set_option maxHeartbeats 2000000 in
theorem Freeze_go (h : CRep w c m) (ok : m.Ok) (x : Int) : Calls Try.prog 31 #[.pointer (some ⟨c, 0, none⟩), .int .i64 x] w fun e w' => e = .returned (.tuple #[]) ∧ CRep w' c (m.freeze x) ∧ Fr (fun k => k = c) w w' := by
  have HH := hid h
  unfold CM.freeze CM.mayF
  cases ho : on x with
  | false =>
    rw [if_neg (by simp)]
    have HO := hid (fun w => on_is x w ho)
    have l0 := h.low
    clear h ho
    go_enter Try.func31, Try.ntmps31
    go_wp2_with (fail)
    refine wp_region_scriptE [(true, 0), (true, 1), (true, 2), (true, 3), (false, 4), (true, 5), (true, 6), (true, 7), (true, 8), (true, 9), (true, 10), (true, 11), (true, 13), (true, 14), (true, 15), (true, 16), (true, 17), (false, 12), (false, 18), (false, 19), (true, 20), (true, 21)] (fun kz w => (kz ≤ 22 → w.cell? ⟨c, 0, none⟩ = some (.int .i64 m.low)) ∧ True) (by kernel_rfl) (by kernel_rfl) (by intro c a d v w h; cases d <;> exact h) ?_
    repeat
      first
      | (refine wpS_pureE rfl rfl rfl ?_; apply Exists.intro; refine ⟨?_, ?_⟩; intro w; ((go_simp <;> rfl)); simp only [Act.put, List.setIfInBounds_toArray, List.set_cons_zero, List.set_cons_succ])
      | (refine wpS_takeE 22 rfl rfl (by decide +kernel) ⟨fun _ => l0, trivial⟩ ?_; apply Exists.intro; refine ⟨?_, ?_⟩; intro w hw; (have qa := (hw rfl).1 (Nat.le_refl _); have qb := (hw rfl).2); ((go_simp <;> rfl)); simp only [Act.put, List.setIfInBounds_toArray, List.set_cons_zero, List.set_cons_succ])
      | (refine wpS_skipE rfl rfl ?_; simp only [Act.put, List.setIfInBounds_toArray, List.set_cons_zero, List.set_cons_succ])
    refine wpS_opE rfl ?_
    go_wp2_with ((go_at_call 52; refine (HO.out _).mono ?_; rintro e w' ⟨rfl, rfl⟩))
    (refine ⟨?_, ?_⟩; focus (intro kz hk hk2; rintro ⟨qa, qb⟩; first | (exfalso; simp at hk2; omega) | exact ⟨qa, qb⟩ | (refine ⟨fun h => absurd h (by omega), ?_⟩; first | exact qb | (exact qa)) | (refine ⟨fun h => ?_, ?_⟩; (have qa := qa h); all_goals (first | exact qa | exact qb | (exact qa)))))
    repeat
      first
      | (refine wpS_pureE rfl rfl rfl ?_; apply Exists.intro; refine ⟨?_, ?_⟩; intro w; ((go_simp <;> rfl)); simp only [Act.put, List.setIfInBounds_toArray, List.set_cons_zero, List.set_cons_succ])
      | (refine wpS_takeE 22 rfl rfl (by decide +kernel) ⟨fun _ => l0, trivial⟩ ?_; apply Exists.intro; refine ⟨?_, ?_⟩; intro w hw; (have qa := (hw rfl).1 (Nat.le_refl _); have qb := (hw rfl).2); ((go_simp <;> rfl)); simp only [Act.put, List.setIfInBounds_toArray, List.set_cons_zero, List.set_cons_succ])
      | (refine wpS_skipE rfl rfl ?_; simp only [Act.put, List.setIfInBounds_toArray, List.set_cons_zero, List.set_cons_succ])
    refine wpS_opE rfl ?_
    go_wp2_with (fail)
    (refine ⟨?_, ?_⟩; focus (intro kz hk hk2; rintro ⟨qa, qb⟩; first | (exfalso; simp at hk2; omega) | exact ⟨qa, qb⟩ | (refine ⟨fun h => absurd h (by omega), ?_⟩; first | exact qb | (exact qa)) | (refine ⟨fun h => ?_, ?_⟩; (have qa := qa h); all_goals (first | exact qa | exact qb | (exact qa)))))
    refine wpS_opE rfl ?_
    go_wp2_with (fail)
    (refine ⟨?_, ?_⟩; focus (intro kz hk hk2; rintro ⟨qa, qb⟩; first | (exfalso; simp at hk2; omega) | exact ⟨qa, qb⟩ | (refine ⟨fun h => absurd h (by omega), ?_⟩; first | exact qb | (exact qa)) | (refine ⟨fun h => ?_, ?_⟩; (have qa := qa h); all_goals (first | exact qa | exact qb | (exact qa)))))
    refine wpS_opE rfl ?_
    go_wp2_with (fail)
    (refine ⟨?_, ?_⟩; focus (intro kz hk hk2; rintro ⟨qa, qb⟩; first | (exfalso; simp at hk2; omega) | exact ⟨qa, qb⟩ | (refine ⟨fun h => absurd h (by omega), ?_⟩; first | exact qb | (exact qa)) | (refine ⟨fun h => ?_, ?_⟩; (have qa := qa h); all_goals (first | exact qa | exact qb | (exact qa)))))
    repeat
      first
      | (refine wpS_pureE rfl rfl rfl ?_; apply Exists.intro; refine ⟨?_, ?_⟩; intro w; ((go_simp <;> rfl)); simp only [Act.put, List.setIfInBounds_toArray, List.set_cons_zero, List.set_cons_succ])
      | (refine wpS_takeE 22 rfl rfl (by decide +kernel) ⟨fun _ => l0, trivial⟩ ?_; apply Exists.intro; refine ⟨?_, ?_⟩; intro w hw; (have qa := (hw rfl).1 (Nat.le_refl _); have qb := (hw rfl).2); ((go_simp <;> rfl)); simp only [Act.put, List.setIfInBounds_toArray, List.set_cons_zero, List.set_cons_succ])
      | (refine wpS_skipE rfl rfl ?_; simp only [Act.put, List.setIfInBounds_toArray, List.set_cons_zero, List.set_cons_succ])
    refine wpS_nilE ?_
    go_wp2_with (fail)
    go_end0
    exact ⟨rfl, HH.out, (Fr.refl _ w).drew⟩
  | true =>
    have HO := hid (fun w => on_is x w ho)
    obtain ⟨k, rfl, k1, k2⟩ := on_nat ho
    have hl := ok.lo
    have hox := m.oldest_on ok
    have HS := hid (fun w => steps_go m.low k w (by omega) (by omega) (by omega))
    have HT := hid (fun w => steps_go m.low m.oldest w (by omega) (by omega) (by omega))
    have l0 := h.low
    rw [Int.toNat_natCast, Bool.true_and]
    have HOL := hid (Oldest_go (CRep.drew h) ok)
    by_cases hf : steps m.low k ≤ steps m.low m.oldest
    · rw [if_pos (by simp [hf])]
      have hd : decide (steps m.low k ≤ steps m.low m.oldest) = true := by simp; omega
      clear h ho
      go_enter Try.func31, Try.ntmps31
      go_wp2_with (fail)
      refine wp_region_scriptE [(true, 0), (true, 1), (true, 2), (true, 3), (false, 4), (true, 5), (true, 6), (true, 7), (true, 8), (true, 9), (true, 10), (true, 11), (true, 13), (true, 14), (true, 15), (true, 16), (true, 17), (false, 12), (false, 18), (false, 19), (true, 20), (true, 21)] (fun kz w => (kz ≤ 22 → w.cell? ⟨c, 0, none⟩ = some (.int .i64 m.low)) ∧ True) (by kernel_rfl) (by kernel_rfl) (by intro c a d v w h; cases d <;> exact h) ?_
      repeat
        first
        | (refine wpS_pureE rfl rfl rfl ?_; apply Exists.intro; refine ⟨?_, ?_⟩; intro w; ((go_simp <;> rfl)); simp only [Act.put, List.setIfInBounds_toArray, List.set_cons_zero, List.set_cons_succ])
        | (refine wpS_takeE 22 rfl rfl (by decide +kernel) ⟨fun _ => l0, trivial⟩ ?_; apply Exists.intro; refine ⟨?_, ?_⟩; intro w hw; (have qa := (hw rfl).1 (Nat.le_refl _); have qb := (hw rfl).2); ((go_simp <;> rfl)); simp only [Act.put, List.setIfInBounds_toArray, List.set_cons_zero, List.set_cons_succ])
        | (refine wpS_skipE rfl rfl ?_; simp only [Act.put, List.setIfInBounds_toArray, List.set_cons_zero, List.set_cons_succ])
      refine wpS_opE rfl ?_
      go_wp2_with ((go_at_call 52; refine (HO.out _).mono ?_; rintro e w' ⟨rfl, rfl⟩))
      (refine ⟨?_, ?_⟩; focus (intro kz hk hk2; rintro ⟨qa, qb⟩; first | (exfalso; simp at hk2; omega) | exact ⟨qa, qb⟩ | (refine ⟨fun h => absurd h (by omega), ?_⟩; first | exact qb | (exact qa)) | (refine ⟨fun h => ?_, ?_⟩; (have qa := qa h); all_goals (first | exact qa | exact qb | (exact qa)))))
      repeat
        first
        | (refine wpS_pureE rfl rfl rfl ?_; apply Exists.intro; refine ⟨?_, ?_⟩; intro w; ((go_simp <;> rfl)); simp only [Act.put, List.setIfInBounds_toArray, List.set_cons_zero, List.set_cons_succ])
        | (refine wpS_takeE 22 rfl rfl (by decide +kernel) ⟨fun _ => l0, trivial⟩ ?_; apply Exists.intro; refine ⟨?_, ?_⟩; intro w hw; (have qa := (hw rfl).1 (Nat.le_refl _); have qb := (hw rfl).2); ((go_simp <;> rfl)); simp only [Act.put, List.setIfInBounds_toArray, List.set_cons_zero, List.set_cons_succ])
        | (refine wpS_skipE rfl rfl ?_; simp only [Act.put, List.setIfInBounds_toArray, List.set_cons_zero, List.set_cons_succ])
      refine wpS_opE rfl ?_
      go_wp2_with ((go_at_call 54; refine (HS.out _).mono ?_; rintro e w' ⟨rfl, rfl⟩))
      (refine ⟨?_, ?_⟩; focus (intro kz hk hk2; rintro ⟨qa, qb⟩; first | (exfalso; simp at hk2; omega) | exact ⟨qa, qb⟩ | (refine ⟨fun h => absurd h (by omega), ?_⟩; first | exact qb | (exact qa)) | (refine ⟨fun h => ?_, ?_⟩; (have qa := qa h); all_goals (first | exact qa | exact qb | (exact qa)))))
      refine wpS_opE rfl ?_
      go_wp2_with ((go_at_call 32; refine HOL.out.mono ?_; rintro e w5 ⟨rfl, f5⟩))
      (refine ⟨?_, ?_⟩; focus (intro kz hk hk2; rintro ⟨qa, qb⟩; first | (exfalso; simp at hk2; omega) | exact ⟨qa, qb⟩ | (refine ⟨fun h => absurd h (by omega), ?_⟩; first | exact qb | (exact cell_fr qa f5 (fun h => h))) | (refine ⟨fun h => ?_, ?_⟩; (have qa := qa h); all_goals (first | exact qa | exact qb | (exact cell_fr qa f5 (fun h => h))))))
      refine wpS_opE rfl ?_
      go_wp2_with ((go_at_call 54; refine (HT.out _).mono ?_; rintro e w' ⟨rfl, rfl⟩))
      (refine ⟨?_, ?_⟩; focus (intro kz hk hk2; rintro ⟨qa, qb⟩; first | (exfalso; simp at hk2; omega) | exact ⟨qa, qb⟩ | (refine ⟨fun h => absurd h (by omega), ?_⟩; first | exact qb | (exact qa)) | (refine ⟨fun h => ?_, ?_⟩; (have qa := qa h); all_goals (first | exact qa | exact qb | (exact qa)))))
      have l5 := cell_fr l0 ((Fr.refl (fun _ => False) w).drew.trans f5 (fun _ h _ => h)) (fun h => h)
      repeat
        first
        | (refine wpS_pureE rfl rfl rfl ?_; apply Exists.intro; refine ⟨?_, ?_⟩; intro w; ((go_simp <;> rfl)); simp only [Act.put, List.setIfInBounds_toArray, List.set_cons_zero, List.set_cons_succ])
        | (refine wpS_takeE 22 rfl rfl (by decide +kernel) ⟨fun _ => l5, trivial⟩ ?_; apply Exists.intro; refine ⟨?_, ?_⟩; intro w hw; (have qa := (hw rfl).1 (Nat.le_refl _); have qb := (hw rfl).2); ((go_simp <;> rfl)); simp only [Act.put, List.setIfInBounds_toArray, List.set_cons_zero, List.set_cons_succ])
        | (refine wpS_skipE rfl rfl ?_; simp only [Act.put, List.setIfInBounds_toArray, List.set_cons_zero, List.set_cons_succ])
      refine wpS_nilE ?_
      have F5 := (Fr.refl (fun _ => False) w).drew.trans f5 (fun _ h _ => h)
      have hB := Blk.set (CRep.fr HH.out F5 (fun h => h)) 0 (.int .i64 k)
      rw [ccells_low m k] at hB
      have hz := Blk.frozen (CRep.fr HH.out F5 (fun h => h)) 0
      have F6 := (F5.mono (T := fun k => k = c) (fun _ h _ => h.elim)).setCell ⟨c, 0, none⟩ (.int .i64 k) (fun _ => rfl)
      have HB := hid hB
      have F6H := hid F6
      clear hB F6 F5 f5
      go_wp2_with (fail)
      go_end0
      exact ⟨rfl, HB.out, F6H.out⟩
    · rw [if_neg (by simp [hf])]
      have hd : decide (steps m.low k ≤ steps m.low m.oldest) = false := by simp; omega
      clear h ho
      go_enter Try.func31, Try.ntmps31
      go_wp2_with (fail)
      refine wp_region_scriptE [(true, 0), (true, 1), (true, 2), (true, 3), (false, 4), (true, 5), (true, 6), (true, 7), (true, 8), (true, 9), (true, 10), (true, 11), (true, 13), (true, 14), (true, 15), (true, 16), (true, 17), (false, 12), (false, 18), (false, 19), (true, 20), (true, 21)] (fun kz w => (kz ≤ 22 → w.cell? ⟨c, 0, none⟩ = some (.int .i64 m.low)) ∧ True) (by kernel_rfl) (by kernel_rfl) (by intro c a d v w h; cases d <;> exact h) ?_
      repeat
        first
        | (refine wpS_pureE rfl rfl rfl ?_; apply Exists.intro; refine ⟨?_, ?_⟩; intro w; ((go_simp <;> rfl)); simp only [Act.put, List.setIfInBounds_toArray, List.set_cons_zero, List.set_cons_succ])
        | (refine wpS_takeE 22 rfl rfl (by decide +kernel) ⟨fun _ => l0, trivial⟩ ?_; apply Exists.intro; refine ⟨?_, ?_⟩; intro w hw; (have qa := (hw rfl).1 (Nat.le_refl _); have qb := (hw rfl).2); ((go_simp <;> rfl)); simp only [Act.put, List.setIfInBounds_toArray, List.set_cons_zero, List.set_cons_succ])
        | (refine wpS_skipE rfl rfl ?_; simp only [Act.put, List.setIfInBounds_toArray, List.set_cons_zero, List.set_cons_succ])
      refine wpS_opE rfl ?_
      go_wp2_with ((go_at_call 52; refine (HO.out _).mono ?_; rintro e w' ⟨rfl, rfl⟩))
      (refine ⟨?_, ?_⟩; focus (intro kz hk hk2; rintro ⟨qa, qb⟩; first | (exfalso; simp at hk2; omega) | exact ⟨qa, qb⟩ | (refine ⟨fun h => absurd h (by omega), ?_⟩; first | exact qb | (exact qa)) | (refine ⟨fun h => ?_, ?_⟩; (have qa := qa h); all_goals (first | exact qa | exact qb | (exact qa)))))
      repeat
        first
        | (refine wpS_pureE rfl rfl rfl ?_; apply Exists.intro; refine ⟨?_, ?_⟩; intro w; ((go_simp <;> rfl)); simp only [Act.put, List.setIfInBounds_toArray, List.set_cons_zero, List.set_cons_succ])
        | (refine wpS_takeE 22 rfl rfl (by decide +kernel) ⟨fun _ => l0, trivial⟩ ?_; apply Exists.intro; refine ⟨?_, ?_⟩; intro w hw; (have qa := (hw rfl).1 (Nat.le_refl _); have qb := (hw rfl).2); ((go_simp <;> rfl)); simp only [Act.put, List.setIfInBounds_toArray, List.set_cons_zero, List.set_cons_succ])
        | (refine wpS_skipE rfl rfl ?_; simp only [Act.put, List.setIfInBounds_toArray, List.set_cons_zero, List.set_cons_succ])
      refine wpS_opE rfl ?_
      go_wp2_with ((go_at_call 54; refine (HS.out _).mono ?_; rintro e w' ⟨rfl, rfl⟩))
      (refine ⟨?_, ?_⟩; focus (intro kz hk hk2; rintro ⟨qa, qb⟩; first | (exfalso; simp at hk2; omega) | exact ⟨qa, qb⟩ | (refine ⟨fun h => absurd h (by omega), ?_⟩; first | exact qb | (exact qa)) | (refine ⟨fun h => ?_, ?_⟩; (have qa := qa h); all_goals (first | exact qa | exact qb | (exact qa)))))
      refine wpS_opE rfl ?_
      go_wp2_with ((go_at_call 32; refine HOL.out.mono ?_; rintro e w5 ⟨rfl, f5⟩))
      (refine ⟨?_, ?_⟩; focus (intro kz hk hk2; rintro ⟨qa, qb⟩; first | (exfalso; simp at hk2; omega) | exact ⟨qa, qb⟩ | (refine ⟨fun h => absurd h (by omega), ?_⟩; first | exact qb | (exact cell_fr qa f5 (fun h => h))) | (refine ⟨fun h => ?_, ?_⟩; (have qa := qa h); all_goals (first | exact qa | exact qb | (exact cell_fr qa f5 (fun h => h))))))
      refine wpS_opE rfl ?_
      go_wp2_with ((go_at_call 54; refine (HT.out _).mono ?_; rintro e w' ⟨rfl, rfl⟩))
      (refine ⟨?_, ?_⟩; focus (intro kz hk hk2; rintro ⟨qa, qb⟩; first | (exfalso; simp at hk2; omega) | exact ⟨qa, qb⟩ | (refine ⟨fun h => absurd h (by omega), ?_⟩; first | exact qb | (exact qa)) | (refine ⟨fun h => ?_, ?_⟩; (have qa := qa h); all_goals (first | exact qa | exact qb | (exact qa)))))
      have F5 := (Fr.refl (fun _ => False) w).drew.trans f5 (fun _ h _ => h)
      have l5 := cell_fr l0 F5 (fun h => h)
      have HF5 := hid F5
      clear F5 f5
      repeat
        first
        | (refine wpS_pureE rfl rfl rfl ?_; apply Exists.intro; refine ⟨?_, ?_⟩; intro w; ((go_simp <;> rfl)); simp only [Act.put, List.setIfInBounds_toArray, List.set_cons_zero, List.set_cons_succ])
        | (refine wpS_takeE 22 rfl rfl (by decide +kernel) ⟨fun _ => l5, trivial⟩ ?_; apply Exists.intro; refine ⟨?_, ?_⟩; intro w hw; (have qa := (hw rfl).1 (Nat.le_refl _); have qb := (hw rfl).2); ((go_simp <;> rfl)); simp only [Act.put, List.setIfInBounds_toArray, List.set_cons_zero, List.set_cons_succ])
        | (refine wpS_skipE rfl rfl ?_; simp only [Act.put, List.setIfInBounds_toArray, List.set_cons_zero, List.set_cons_succ])
      refine wpS_nilE ?_
      go_wp2_with (fail)
      go_end0
      exact ⟨rfl, HH.out.fr HF5.out (fun h => h), HF5.out.mono (fun _ h _ => h.elim)⟩
end Go.Proofs.Ytbkebjgoaeddjaa
