import Derived.Test.YtbkebjgoaeddjaaClkA
import Derived.Test.YtbkebjgoaeddjaaScript
/- The clock under test: New, knows, live, above, State, Now. -/
set_option linter.unusedVariables false
namespace Go.Proofs.Ytbkebjgoaeddjaa
open Go.RowKit Go.VB Go.VB.Clk
variable {w : World} {c : Nat} {m : CM}
theorem CRep.low (h : CRep w c m) : w.cell? ⟨c, 0, none⟩ = some (.int .i64 m.low) := h.cell 0
theorem CRep.next (h : CRep w c m) : w.cell? ⟨c, 1, none⟩ = some (.int .i64 m.next) := h.cell 1
theorem CRep.st (h : CRep w c m) {x : Nat} (hx : x < 128) : w.cell? ⟨c, 2 + x * 2, none⟩ = some (.int .i64 (m.st x)) := by rw [Blk.cell h, ccells_st m x hx]
theorem CRep.ab (h : CRep w c m) {x : Nat} (hx : x < 128) : w.cell? ⟨c, 2 + x * 2 + 1, none⟩ = some (.int .i64 (m.ab x)) := by rw [Blk.cell h, ccells_ab m x hx]
theorem CRep.fr {S : Nat → Prop} {w' : World} (h : CRep w c m) (f : Fr S w w') (hc : ¬ S c) : CRep w' c m := Blk.fr h f hc
theorem zc84 (n : Nat) : (Try.zeroCells84.setIfInBounds 0 (.int .i64 n)).setIfInBounds 1 (.int .i64 n) = (ccells ⟨n, n, fun _ => 0, fun _ => 0⟩).toArray := by
  have h : Try.zeroCells84.toList = ccells ⟨0, 0, fun _ => 0, fun _ => 0⟩ := by kernel_rfl
  apply Array.toList_inj.1
  rw [Array.toList_setIfInBounds, Array.toList_setIfInBounds, h]
  rfl
theorem zc84' : (Try.zeroCells84.setIfInBounds 0 (.int .i64 3)).setIfInBounds 1 (.int .i64 3) = (ccells ⟨3, 3, fun _ => 0, fun _ => 0⟩).toArray := zc84 3
theorem New_go (n : Int) (w : World) : Calls Try.prog 21 #[.int .i64 n] w fun e w' => e = .returned (.pointer (some ⟨w.heap.size, 0, none⟩)) ∧ CRep w' w.heap.size (CM.new n) ∧ Fr (fun _ => False) w w' := by
  cases hn : on n with
  | false =>
    have HN := hid (fun w => on_is n w hn)
    have hm : CM.new n = ⟨3, 3, fun _ => 0, fun _ => 0⟩ := by unfold CM.new; rw [hn]; rfl
    rw [hm]
    clear hn hm
    go_enter Try.func21, Try.ntmps21
    go_wp2_with (first | (go_at_call 52; refine (HN.out _).mono ?_; rintro e w' ⟨rfl, rfl⟩))
    rw [zc84']
    go_ret
    exact ⟨rfl, Blk.new w _ _, (Fr.refl (fun _ => False) w).alloc _⟩
  | true =>
    have HN := hid (fun w => on_is n w hn)
    have hm : CM.new n = ⟨n.toNat, n.toNat, fun _ => 0, fun _ => 0⟩ := by unfold CM.new; rw [hn]; rfl
    rw [hm]
    obtain ⟨k, rfl, -, -⟩ := on_nat hn
    clear hn hm
    go_enter Try.func21, Try.ntmps21
    go_wp2_with (first | (go_at_call 52; refine (HN.out _).mono ?_; rintro e w' ⟨rfl, rfl⟩))
    rw [zc84]
    go_ret
    exact ⟨rfl, Blk.new w _ _, (Fr.refl (fun _ => False) w).alloc _⟩
theorem knows_nil (x : Int) (w : World) : Calls Try.prog 56 #[.pointer none, .int .i64 x] w fun e w' => e = .returned (.bool false) ∧ Fr (fun _ => False) w w' := by
  go_enter Try.func56, Try.ntmps56
  go_wp2_with (fail)
  refine wp_region_script [(true, 0), (true, 1), (true, 2), (true, 3), (false, 4), (true, 5), (true, 6), (true, 7), (true, 8), (true, 9), (true, 10), (true, 11), (true, 13), (true, 14), (true, 15), (true, 16), (true, 17), (true, 18), (true, 19), (true, 20), (false, 12), (false, 21), (true, 22), (true, 23), (true, 24)] (fun kz w => (kz ≤ 24 → True) ∧ True) (by kernel_rfl) (by kernel_rfl) (by intro c a d v w h; cases d <;> exact h) ?_
  repeat
    first
    | (refine wpS_pure rfl rfl rfl ?_; apply Exists.intro; refine ⟨?_, ?_⟩; intro w; ((go_simp <;> rfl)); simp only [Act.put, List.setIfInBounds_toArray, List.set_cons_zero, List.set_cons_succ])
    | (refine wpS_take 24 rfl rfl (by decide +kernel) ⟨fun _ => trivial, trivial⟩ ?_; apply Exists.intro; refine ⟨?_, ?_⟩; intro w hw; (have qa := (hw rfl).1 (Nat.le_refl _); have qb := (hw rfl).2); ((go_simp <;> rfl)); simp only [Act.put, List.setIfInBounds_toArray, List.set_cons_zero, List.set_cons_succ])
    | (refine wpS_skip rfl rfl ?_; simp only [Act.put, List.setIfInBounds_toArray, List.set_cons_zero, List.set_cons_succ])
  refine wpS_op rfl ?_
  go_wp2_with (fail)
  (refine ⟨?_, ?_⟩; focus (intro kz hk hk2; rintro ⟨qa, qb⟩; first | (exfalso; simp at hk2; omega) | exact ⟨qa, qb⟩ | (refine ⟨fun h => absurd h (by omega), ?_⟩; first | exact qb | (exact qa)) | (refine ⟨fun h => ?_, ?_⟩; (have qa := qa h); all_goals (first | exact qa | exact qb | (exact qa)))))
  repeat
    first
    | (refine wpS_pure rfl rfl rfl ?_; apply Exists.intro; refine ⟨?_, ?_⟩; intro w; ((go_simp <;> rfl)); simp only [Act.put, List.setIfInBounds_toArray, List.set_cons_zero, List.set_cons_succ])
    | (refine wpS_take 24 rfl rfl (by decide +kernel) ⟨fun _ => trivial, trivial⟩ ?_; apply Exists.intro; refine ⟨?_, ?_⟩; intro w hw; (have qa := (hw rfl).1 (Nat.le_refl _); have qb := (hw rfl).2); ((go_simp <;> rfl)); simp only [Act.put, List.setIfInBounds_toArray, List.set_cons_zero, List.set_cons_succ])
    | (refine wpS_skip rfl rfl ?_; simp only [Act.put, List.setIfInBounds_toArray, List.set_cons_zero, List.set_cons_succ])
  refine wpS_op rfl ?_
  go_wp2_with (fail)
  (refine ⟨?_, ?_⟩; focus (intro kz hk hk2; rintro ⟨qa, qb⟩; first | (exfalso; simp at hk2; omega) | exact ⟨qa, qb⟩ | (refine ⟨fun h => absurd h (by omega), ?_⟩; first | exact qb | (exact qa)) | (refine ⟨fun h => ?_, ?_⟩; (have qa := qa h); all_goals (first | exact qa | exact qb | (exact qa)))))
  refine wpS_op rfl ?_
  go_wp2_with (fail)
  (refine ⟨?_, ?_⟩; focus (intro kz hk hk2; rintro ⟨qa, qb⟩; first | (exfalso; simp at hk2; omega) | exact ⟨qa, qb⟩ | (refine ⟨fun h => absurd h (by omega), ?_⟩; first | exact qb | (exact qa)) | (refine ⟨fun h => ?_, ?_⟩; (have qa := qa h); all_goals (first | exact qa | exact qb | (exact qa)))))
  repeat
    first
    | (refine wpS_pure rfl rfl rfl ?_; apply Exists.intro; refine ⟨?_, ?_⟩; intro w; ((go_simp <;> rfl)); simp only [Act.put, List.setIfInBounds_toArray, List.set_cons_zero, List.set_cons_succ])
    | (refine wpS_take 24 rfl rfl (by decide +kernel) ⟨fun _ => trivial, trivial⟩ ?_; apply Exists.intro; refine ⟨?_, ?_⟩; intro w hw; (have qa := (hw rfl).1 (Nat.le_refl _); have qb := (hw rfl).2); ((go_simp <;> rfl)); simp only [Act.put, List.setIfInBounds_toArray, List.set_cons_zero, List.set_cons_succ])
    | (refine wpS_skip rfl rfl ?_; simp only [Act.put, List.setIfInBounds_toArray, List.set_cons_zero, List.set_cons_succ])
  refine wpS_nil ?_
  go_wp2
  go_ret
  exact ⟨rfl, (Fr.refl _ w).drew⟩
set_option maxHeartbeats 1000000 in
theorem knows_go (h : CRep w c m) (ok : m.Ok) (x : Int) : Calls Try.prog 56 #[.pointer (some ⟨c, 0, none⟩), .int .i64 x] w fun e w' => e = .returned (.bool (m.knows x)) ∧ Fr (fun _ => False) w w' := by
  have l0 := h.low
  have l1 := h.next
  unfold CM.knows
  cases ho : on x with
  | false =>
    have HO := hid (fun w => on_is x w ho)
    rw [Bool.false_and]
    clear ho h
    go_enter Try.func56, Try.ntmps56
    go_wp2_with (fail)
    refine wp_region_script [(true, 0), (true, 1), (true, 2), (true, 3), (false, 4), (true, 5), (true, 6), (true, 7), (true, 8), (true, 9), (true, 10), (true, 11), (true, 13), (true, 14), (true, 15), (true, 16), (true, 17), (true, 18), (true, 19), (true, 20), (false, 12), (false, 21), (true, 22), (true, 23), (true, 24)] (fun kz w => (kz ≤ 24 → w.cell? ⟨c, 0, none⟩ = some (.int .i64 m.low) ∧ w.cell? ⟨c, 1, none⟩ = some (.int .i64 m.next)) ∧ True) (by kernel_rfl) (by kernel_rfl) (by intro c a d v w h; cases d <;> exact h) ?_
    repeat
      first
      | (refine wpS_pure rfl rfl rfl ?_; apply Exists.intro; refine ⟨?_, ?_⟩; intro w; ((go_simp <;> rfl)); simp only [Act.put, List.setIfInBounds_toArray, List.set_cons_zero, List.set_cons_succ])
      | (refine wpS_take 24 rfl rfl (by decide +kernel) ⟨fun _ => ⟨l0, l1⟩, trivial⟩ ?_; apply Exists.intro; refine ⟨?_, ?_⟩; intro w hw; (have qa := (hw rfl).1 (Nat.le_refl _); have qb := (hw rfl).2); ((go_simp <;> rfl)); simp only [Act.put, List.setIfInBounds_toArray, List.set_cons_zero, List.set_cons_succ])
      | (refine wpS_skip rfl rfl ?_; simp only [Act.put, List.setIfInBounds_toArray, List.set_cons_zero, List.set_cons_succ])
    refine wpS_op rfl ?_
    go_wp2_with ((go_at_call 52; refine (HO.out _).mono ?_; rintro e w' ⟨rfl, rfl⟩))
    (refine ⟨?_, ?_⟩; focus (intro kz hk hk2; rintro ⟨qa, qb⟩; first | (exfalso; simp at hk2; omega) | exact ⟨qa, qb⟩ | (refine ⟨fun h => absurd h (by omega), ?_⟩; first | exact qb | (exact qa)) | (refine ⟨fun h => ?_, ?_⟩; (have qa := qa h); all_goals (first | exact qa | exact qb | (exact qa)))))
    repeat
      first
      | (refine wpS_pure rfl rfl rfl ?_; apply Exists.intro; refine ⟨?_, ?_⟩; intro w; ((go_simp <;> rfl)); simp only [Act.put, List.setIfInBounds_toArray, List.set_cons_zero, List.set_cons_succ])
      | (refine wpS_take 24 rfl rfl (by decide +kernel) ⟨fun _ => ⟨l0, l1⟩, trivial⟩ ?_; apply Exists.intro; refine ⟨?_, ?_⟩; intro w hw; (have qa := (hw rfl).1 (Nat.le_refl _); have qb := (hw rfl).2); ((go_simp <;> rfl)); simp only [Act.put, List.setIfInBounds_toArray, List.set_cons_zero, List.set_cons_succ])
      | (refine wpS_skip rfl rfl ?_; simp only [Act.put, List.setIfInBounds_toArray, List.set_cons_zero, List.set_cons_succ])
    refine wpS_op rfl ?_
    go_wp2_with (fail)
    (refine ⟨?_, ?_⟩; focus (intro kz hk hk2; rintro ⟨qa, qb⟩; first | (exfalso; simp at hk2; omega) | exact ⟨qa, qb⟩ | (refine ⟨fun h => absurd h (by omega), ?_⟩; first | exact qb | (exact qa)) | (refine ⟨fun h => ?_, ?_⟩; (have qa := qa h); all_goals (first | exact qa | exact qb | (exact qa)))))
    refine wpS_op rfl ?_
    go_wp2_with (fail)
    (refine ⟨?_, ?_⟩; focus (intro kz hk hk2; rintro ⟨qa, qb⟩; first | (exfalso; simp at hk2; omega) | exact ⟨qa, qb⟩ | (refine ⟨fun h => absurd h (by omega), ?_⟩; first | exact qb | (exact qa)) | (refine ⟨fun h => ?_, ?_⟩; (have qa := qa h); all_goals (first | exact qa | exact qb | (exact qa)))))
    repeat
      first
      | (refine wpS_pure rfl rfl rfl ?_; apply Exists.intro; refine ⟨?_, ?_⟩; intro w; ((go_simp <;> rfl)); simp only [Act.put, List.setIfInBounds_toArray, List.set_cons_zero, List.set_cons_succ])
      | (refine wpS_take 24 rfl rfl (by decide +kernel) ⟨fun _ => ⟨l0, l1⟩, trivial⟩ ?_; apply Exists.intro; refine ⟨?_, ?_⟩; intro w hw; (have qa := (hw rfl).1 (Nat.le_refl _); have qb := (hw rfl).2); ((go_simp <;> rfl)); simp only [Act.put, List.setIfInBounds_toArray, List.set_cons_zero, List.set_cons_succ])
      | (refine wpS_skip rfl rfl ?_; simp only [Act.put, List.setIfInBounds_toArray, List.set_cons_zero, List.set_cons_succ])
    refine wpS_nil ?_
    go_wp2
    go_ret
    exact ⟨rfl, (Fr.refl _ w).drew⟩
  | true =>
    have HO := hid (fun w => on_is x w ho)
    obtain ⟨k, rfl, k1, k2⟩ := on_nat ho
    have hl := ok.lo
    have hn := ok.nx
    have HS := hid (fun w => steps_go m.low k w (by omega) (by omega) (by omega))
    have HT := hid (fun w => steps_go m.low m.next w (by omega) (by omega) (by omega))
    rw [Bool.true_and, Int.toNat_natCast]
    rw [show m.n = steps m.low m.next from rfl]
    clear ho h
    go_enter Try.func56, Try.ntmps56
    go_wp2_with (fail)
    refine wp_region_script [(true, 0), (true, 1), (true, 2), (true, 3), (false, 4), (true, 5), (true, 6), (true, 7), (true, 8), (true, 9), (true, 10), (true, 11), (true, 13), (true, 14), (true, 15), (true, 16), (true, 17), (true, 18), (true, 19), (true, 20), (false, 12), (false, 21), (true, 22), (true, 23), (true, 24)] (fun kz w => (kz ≤ 24 → w.cell? ⟨c, 0, none⟩ = some (.int .i64 m.low) ∧ w.cell? ⟨c, 1, none⟩ = some (.int .i64 m.next)) ∧ True) (by kernel_rfl) (by kernel_rfl) (by intro c a d v w h; cases d <;> exact h) ?_
    repeat
      first
      | (refine wpS_pure rfl rfl rfl ?_; apply Exists.intro; refine ⟨?_, ?_⟩; intro w; ((go_simp <;> rfl)); simp only [Act.put, List.setIfInBounds_toArray, List.set_cons_zero, List.set_cons_succ])
      | (refine wpS_take 24 rfl rfl (by decide +kernel) ⟨fun _ => ⟨l0, l1⟩, trivial⟩ ?_; apply Exists.intro; refine ⟨?_, ?_⟩; intro w hw; (have qa := (hw rfl).1 (Nat.le_refl _); have qb := (hw rfl).2); ((go_simp <;> rfl)); simp only [Act.put, List.setIfInBounds_toArray, List.set_cons_zero, List.set_cons_succ])
      | (refine wpS_skip rfl rfl ?_; simp only [Act.put, List.setIfInBounds_toArray, List.set_cons_zero, List.set_cons_succ])
    refine wpS_op rfl ?_
    go_wp2_with ((go_at_call 52; refine (HO.out _).mono ?_; rintro e w' ⟨rfl, rfl⟩))
    (refine ⟨?_, ?_⟩; focus (intro kz hk hk2; rintro ⟨qa, qb⟩; first | (exfalso; simp at hk2; omega) | exact ⟨qa, qb⟩ | (refine ⟨fun h => absurd h (by omega), ?_⟩; first | exact qb | (exact qa)) | (refine ⟨fun h => ?_, ?_⟩; (have qa := qa h); all_goals (first | exact qa | exact qb | (exact qa)))))
    repeat
      first
      | (refine wpS_pure rfl rfl rfl ?_; apply Exists.intro; refine ⟨?_, ?_⟩; intro w; ((go_simp <;> rfl)); simp only [Act.put, List.setIfInBounds_toArray, List.set_cons_zero, List.set_cons_succ])
      | (refine wpS_take 24 rfl rfl (by decide +kernel) ⟨fun _ => ⟨l0, l1⟩, trivial⟩ ?_; apply Exists.intro; refine ⟨?_, ?_⟩; intro w hw; (have qa := (hw rfl).1 (Nat.le_refl _); have qb := (hw rfl).2); ((go_simp <;> rfl)); simp only [Act.put, List.setIfInBounds_toArray, List.set_cons_zero, List.set_cons_succ])
      | (refine wpS_skip rfl rfl ?_; simp only [Act.put, List.setIfInBounds_toArray, List.set_cons_zero, List.set_cons_succ])
    refine wpS_op rfl ?_
    go_wp2_with ((go_at_call 54; refine (HS.out _).mono ?_; rintro e w' ⟨rfl, rfl⟩))
    (refine ⟨?_, ?_⟩; focus (intro kz hk hk2; rintro ⟨qa, qb⟩; first | (exfalso; simp at hk2; omega) | exact ⟨qa, qb⟩ | (refine ⟨fun h => absurd h (by omega), ?_⟩; first | exact qb | (exact qa)) | (refine ⟨fun h => ?_, ?_⟩; (have qa := qa h); all_goals (first | exact qa | exact qb | (exact qa)))))
    refine wpS_op rfl ?_
    go_wp2_with ((go_at_call 54; refine (HT.out _).mono ?_; rintro e w' ⟨rfl, rfl⟩))
    (refine ⟨?_, ?_⟩; focus (intro kz hk hk2; rintro ⟨qa, qb⟩; first | (exfalso; simp at hk2; omega) | exact ⟨qa, qb⟩ | (refine ⟨fun h => absurd h (by omega), ?_⟩; first | exact qb | (exact qa)) | (refine ⟨fun h => ?_, ?_⟩; (have qa := qa h); all_goals (first | exact qa | exact qb | (exact qa)))))
    repeat
      first
      | (refine wpS_pure rfl rfl rfl ?_; apply Exists.intro; refine ⟨?_, ?_⟩; intro w; ((go_simp <;> rfl)); simp only [Act.put, List.setIfInBounds_toArray, List.set_cons_zero, List.set_cons_succ])
      | (refine wpS_take 24 rfl rfl (by decide +kernel) ⟨fun _ => ⟨l0, l1⟩, trivial⟩ ?_; apply Exists.intro; refine ⟨?_, ?_⟩; intro w hw; (have qa := (hw rfl).1 (Nat.le_refl _); have qb := (hw rfl).2); ((go_simp <;> rfl)); simp only [Act.put, List.setIfInBounds_toArray, List.set_cons_zero, List.set_cons_succ])
      | (refine wpS_skip rfl rfl ?_; simp only [Act.put, List.setIfInBounds_toArray, List.set_cons_zero, List.set_cons_succ])
    refine wpS_nil ?_
    go_wp2
    go_ret
    exact ⟨ret_bool (by simp), (Fr.refl _ w).drew⟩
theorem knows_is (h : CRep w c m) (ok : m.Ok) (x : Int) {b : Bool} (hb : m.knows x = b) : Calls Try.prog 56 #[.pointer (some ⟨c, 0, none⟩), .int .i64 x] w fun e w' => e = .returned (.bool b) ∧ Fr (fun _ => False) w w' := by rw [← hb]; exact knows_go h ok x
theorem live_go (h : CRep w c m) {x : Nat} (hx : x < 128) : Calls Try.prog 59 #[.pointer (some ⟨c, 0, none⟩), .int .i64 x] w fun e w' => e = .returned (.bool (m.live x)) ∧ w = w' := by
  have l0 := h.st hx
  unfold CM.live liveS
  generalize m.st x = s at *
  clear h
  go_enter Try.func59, Try.ntmps59
  go_wp2
  all_goals
    go_ret
    exact ⟨ret_bool (by rw [Bool.eq_iff_iff]; simp_all), rfl⟩
theorem live_is (h : CRep w c m) {x : Nat} (hx : x < 128) {b : Bool} (hb : m.live x = b) : Calls Try.prog 59 #[.pointer (some ⟨c, 0, none⟩), .int .i64 x] w fun e w' => e = .returned (.bool b) ∧ w = w' := by rw [← hb]; exact live_go h hx
theorem above_go (h : CRep w c m) (ok : m.Ok) {x : Nat} (hx : x < 128) : Calls Try.prog 58 #[.pointer (some ⟨c, 0, none⟩), .int .i64 x] w fun e w' => e = .returned (.int .i64 (m.above x)) ∧ Fr (fun _ => False) w w' := by
  have l0 := h.ab hx
  unfold CM.above
  cases hk : m.knows (m.ab x) with
  | false =>
    have HK := hid (knows_is h ok _ hk)
    rw [if_neg (by simp)]
    clear h hk
    go_enter Try.func58, Try.ntmps58
    go_wp2_with (go_at_call 56; refine HK.out.mono ?_; rintro e w' ⟨rfl, f⟩)
    go_ret
    exact ⟨rfl, f⟩
  | true =>
    have HK := hid (knows_is h ok _ hk)
    rw [if_pos rfl]
    clear h hk
    go_enter Try.func58, Try.ntmps58
    go_wp2_with (go_at_call 56; refine HK.out.mono ?_; rintro e w' ⟨rfl, f⟩)
    go_ret
    exact ⟨rfl, f⟩
theorem Now_go (h : CRep w c m) : Calls Try.prog 30 #[.pointer (some ⟨c, 0, none⟩)] w fun e w' => e = .returned (.int .i64 m.next) ∧ w = w' := by
  have l1 := h.next
  clear h
  go_enter Try.func30, Try.ntmps30
  go_wp2
  go_ret
  exact ⟨rfl, rfl⟩
theorem State_go (h : CRep w c m) (ok : m.Ok) (x : Int) : Calls Try.prog 25 #[.pointer (some ⟨c, 0, none⟩), .int .i64 x] w fun e w' => e = .returned (.int .i64 (m.state x)) ∧ Fr (fun _ => False) w w' := by
  unfold CM.state
  by_cases h2 : x = 2
  · rw [if_pos h2]
    subst h2
    clear h
    go_enter Try.func25, Try.ntmps25
    go_wp2
    go_ret
    exact ⟨rfl, Fr.refl _ _⟩
  · rw [if_neg h2]
    have h2' : (x == 2) = false := by simpa using h2
    cases hk : m.knows x with
    | false =>
      have HK := hid (knows_is h ok _ hk)
      rw [if_neg (by simp)]
      clear h hk
      go_enter Try.func25, Try.ntmps25
      go_wp2_with (go_at_call 56; refine HK.out.mono ?_; rintro e w' ⟨rfl, f⟩)
      go_ret
      exact ⟨rfl, f⟩
    | true =>
      have HK := hid (knows_is h ok _ hk)
      rw [if_pos rfl]
      obtain ⟨k, rfl, k1, k2, -⟩ := m.knows_nat hk
      have l0 := h.st (x := k) (by omega)
      have HH := hid h
      rw [Int.toNat_natCast]
      clear h hk h2 h2'
      have h2 : ((k : Int) == 2) = false := by rw [Bool.eq_false_iff]; simp; omega
      go_enter Try.func25, Try.ntmps25
      go_wp2_with (fail)
      refine HK.out.mono ?_
      rintro e w' ⟨rfl, f⟩
      have l0 := cell_fr l0 f (fun h => h)
      go_wp2_with (fail)
      go_ret
      exact ⟨rfl, f⟩
end Go.Proofs.Ytbkebjgoaeddjaa
