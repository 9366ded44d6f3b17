import Derived.Test.YtfalehgngioheaaDiskDo
/- The methods of a nil disk. -/
set_option linter.unusedVariables false
namespace Go.Proofs.Ytfalehgngioheaa
open Go.RowKit Go.VB Go.VB.Disk
theorem Write_nil (w : World) (n : Int) (s : ByteArray) : Calls Try.prog 17 #[.pointer none, .int .i64 n, .string s] w fun e w' => e = .returned (.int .i64 24) ∧ Fr (fun _ => False) w w' := by
  go_enter Try.func17, Try.ntmps17
  go_wp2_with (go_at_call 36; refine (operate_nil _ _ _).mono ?_; rintro e w' ⟨rfl, rfl⟩)
  go_ret
  exact ⟨rfl, by repeat (first | exact Fr.refl _ _ | apply Fr.alloc)⟩
theorem Sync_nil (w : World) : Calls Try.prog 26 #[.pointer none] w fun e w' => e = .returned (.int .i64 24) ∧ Fr (fun _ => False) w w' := by
  go_enter Try.func26, Try.ntmps26
  go_wp2_with (go_at_call 36; refine (operate_nil _ _ _).mono ?_; rintro e w' ⟨rfl, rfl⟩)
  go_ret
  exact ⟨rfl, by repeat (first | exact Fr.refl _ _ | apply Fr.alloc)⟩
theorem Append_nil (w : World) (s : ByteArray) : Calls Try.prog 21 #[.pointer none, .string s] w fun e w' => e = .returned (.int .i64 24) ∧ Fr (fun _ => False) w w' := by
  go_enter Try.func21, Try.ntmps21
  go_wp2_with (go_at_call 36; refine (operate_nil _ _ _).mono ?_; rintro e w' ⟨rfl, rfl⟩)
  go_ret
  exact ⟨rfl, by repeat (first | exact Fr.refl _ _ | apply Fr.alloc)⟩
theorem Flush_nil (w : World) : Calls Try.prog 24 #[.pointer none] w fun e w' => e = .returned (.int .i64 24) ∧ Fr (fun _ => False) w w' := by
  go_enter Try.func24, Try.ntmps24
  go_wp2_with (go_at_call 36; refine (operate_nil _ _ _).mono ?_; rintro e w' ⟨rfl, rfl⟩)
  go_ret
  exact ⟨rfl, by repeat (first | exact Fr.refl _ _ | apply Fr.alloc)⟩
theorem Cut_nil (w : World) (n : Int) : Calls Try.prog 28 #[.pointer none, .int .i64 n] w fun e w' => e = .returned (.int .i64 24) ∧ Fr (fun _ => False) w w' := by
  go_enter Try.func28, Try.ntmps28
  go_wp2_with (go_at_call 36; refine (operate_nil _ _ _).mono ?_; rintro e w' ⟨rfl, rfl⟩)
  go_ret
  exact ⟨rfl, by repeat (first | exact Fr.refl _ _ | apply Fr.alloc)⟩
theorem Crash_nil (w : World) (a : Option Addr) (n c : Nat) : Calls Try.prog 19 #[.pointer none, .slice a n c] w fun e w' => e = .returned (.tuple #[]) ∧ Fr (fun _ => False) w w' := by
  refine calls_of_wp_marks Try.func19 rfl ?_
  simp only [Try.ntmps19, List.size_toArray, List.length_cons, List.length_nil, Nat.reduceAdd, Nat.reduceSub, Array.replicate_succ, Array.replicate_zero, List.push_toArray, List.append_toArray, List.nil_append, List.cons_append]
  go_wp2
  exact leavesM_none (v := .tuple #[]) (results_none rfl _ _ _) ⟨rfl, (Fr.refl _ _).alloc _⟩
def nilRes (kind : Int) : Int := if kind % 9 = 5 then 22 else if kind % 9 = 6 then 0 else if kind % 9 = 7 then 0 else 24
set_option maxHeartbeats 2000000 in
theorem do_nil (w : World) (kind n : Int) (s : Bytes) (hs : s.length ≤ 1000000) (a : Option Addr) (len cap : Nat) :
    Calls Try.prog 30 #[.pointer none, .agg #[.int .i64 kind, .int .i64 n, .string (bs s), .slice a len cap]] w fun e w' => e = .returned (.tuple #[.string ⟨#[]⟩, .int .i64 (nilRes kind)]) ∧ Fr (fun _ => False) w w' := by
  have F0 := (Fr.refl (fun _ => False) w).alloc (.cells [Value.int .i64 kind, .int .i64 n, .string (bs s), .slice a len cap].toArray 52)
  have B0 := Blk.new w [Value.int .i64 kind, .int .i64 n, .string (bs s), .slice a len cap] 52
  have k0 : (w.alloc (.cells [Value.int .i64 kind, .int .i64 n, .string (bs s), .slice a len cap].toArray 52)).cell? ⟨w.heap.size, 0, none⟩ = some (.int .i64 kind) := B0.cell 0
  have k1 : (w.alloc (.cells [Value.int .i64 kind, .int .i64 n, .string (bs s), .slice a len cap].toArray 52)).cell? ⟨w.heap.size, 1, none⟩ = some (.int .i64 n) := B0.cell 1
  have k2 : (w.alloc (.cells [Value.int .i64 kind, .int .i64 n, .string (bs s), .slice a len cap].toArray 52)).cell? ⟨w.heap.size, 2, none⟩ = some (.string (bs s)) := B0.cell 2
  have k3 : (w.alloc (.cells [Value.int .i64 kind, .int .i64 n, .string (bs s), .slice a len cap].toArray 52)).cell? ⟨w.heap.size, 3, none⟩ = some (.slice a len cap) := B0.cell 3
  have he : bs [] = ⟨#[]⟩ := rfl
  have hRd := fun w n => Read_nil w n
  have hSf := fun w n => Safe_nil w n
  rw [he] at hRd hSf
  have HRD := hid hRd
  have HSF := hid hSf
  clear hRd hSf he
  generalize hW0 : w.alloc (.cells [Value.int .i64 kind, .int .i64 n, .string (bs s), .slice a len cap].toArray 52) = w0 at *
  have HW := hid hW0
  clear hW0 B0
  have hc : kind % 9 = 0 ∨ kind % 9 = 1 ∨ kind % 9 = 2 ∨ kind % 9 = 3 ∨ kind % 9 = 4 ∨ kind % 9 = 5 ∨ kind % 9 = 6 ∨ kind % 9 = 7 ∨ kind % 9 = 8 := by omega
  rcases hc with hc | hc | hc | hc | hc | hc | hc | hc | hc
  · have HC := hid hc
    clear hc
    rw [show nilRes kind = 24 from by unfold nilRes; rw [HC.out]; rfl]
    go_enter Try.func30, Try.ntmps30
    go_wp2_with (first | (go_at_call 18; rw [HW.out]; refine (rest_any _ _ _ (by omega) (by omega)).mono ?_; rintro e w' ⟨rfl, rfl⟩; rw [HC.out]) | fail)
    generalize w.heap.size = b0 at *
    refine wp_region_script [(true, 0), (true, 1), (true, 2), (true, 3), (true, 4), (false, 5), (false, 6), (true, 7), (true, 8)] (fun kz w => (kz ≤ 8 → w.cell? ⟨b0, 1, none⟩ = some (.int .i64 n) ∧ w.cell? ⟨b0, 2, none⟩ = some (.string (bs s))) ∧ True) (by kernel_rfl) (by kernel_rfl) (by intro c a d v w h; cases d <;> exact h) ?_
    repeat
      first
      | (refine wpS_pure rfl rfl rfl ?_; apply Exists.intro; refine ⟨?_, ?_⟩; intro w; ((go_simp <;> rfl)); simp only [Act.put, List.setIfInBounds_toArray, List.set_cons_zero, List.set_cons_succ])
      | (refine wpS_take 8 rfl rfl (by decide +kernel) ⟨fun _ => ⟨k1, k2⟩, trivial⟩ ?_; apply Exists.intro; refine ⟨?_, ?_⟩; intro w hw; (have qa := (hw rfl).1 (Nat.le_refl _); have qb := (hw rfl).2); ((go_simp <;> rfl)); simp only [Act.put, List.setIfInBounds_toArray, List.set_cons_zero, List.set_cons_succ])
      | (refine wpS_skip rfl rfl ?_; simp only [Act.put, List.setIfInBounds_toArray, List.set_cons_zero, List.set_cons_succ])
    refine wpS_op rfl ?_
    go_wp2_with ((go_at_call 16; refine (Fill_go _ _ (by omega)).mono ?_; rintro e w5 ⟨rfl, f5⟩))
    (refine ⟨?_, ?_⟩; focus (intro kz hk hk2; rintro ⟨qa, qb⟩; first | (exfalso; simp at hk2; omega) | exact ⟨qa, qb⟩ | (refine ⟨fun h => absurd h (by omega), ?_⟩; first | exact qb | (exact ⟨cell_fr qa.1 f5 (fun h => h), cell_fr qa.2 f5 (fun h => h)⟩)) | (refine ⟨fun h => ?_, ?_⟩; (have qa := qa h); all_goals (first | exact qa | exact qb | (exact ⟨cell_fr qa.1 f5 (fun h => h), cell_fr qa.2 f5 (fun h => h)⟩)))))
    have F5 := (F0.drew).trans f5 (fun _ h _ => h)
    refine wpS_op rfl ?_
    go_wp2_with ((go_at_call 17; refine (Write_nil _ _ _).mono ?_; rintro e w6 ⟨rfl, f6⟩))
    (refine ⟨?_, ?_⟩; focus (intro kz hk hk2; rintro ⟨qa, qb⟩; first | (exfalso; simp at hk2; omega) | exact ⟨qa, qb⟩ | (refine ⟨fun h => absurd h (by omega), ?_⟩; first | exact qb | (exact ⟨cell_fr qa.1 f6 (fun h => h), cell_fr qa.2 f6 (fun h => h)⟩)) | (refine ⟨fun h => ?_, ?_⟩; (have qa := qa h); all_goals (first | exact qa | exact qb | (exact ⟨cell_fr qa.1 f6 (fun h => h), cell_fr qa.2 f6 (fun h => h)⟩)))))
    repeat
      first
      | (refine wpS_pure rfl rfl rfl ?_; apply Exists.intro; refine ⟨?_, ?_⟩; intro w; ((go_simp <;> rfl)); simp only [Act.put, List.setIfInBounds_toArray, List.set_cons_zero, List.set_cons_succ])
      | (refine wpS_take 8 rfl rfl (by decide +kernel) ⟨fun _ => ⟨cell_fr (cell_fr k1 ((Fr.refl (fun _ => False) w0).drew.trans f5 (fun _ h _ => h)) (fun h => h)) f6 (fun h => h), cell_fr (cell_fr k2 ((Fr.refl (fun _ => False) w0).drew.trans f5 (fun _ h _ => h)) (fun h => h)) f6 (fun h => h)⟩, trivial⟩ ?_; apply Exists.intro; refine ⟨?_, ?_⟩; intro w hw; (have qa := (hw rfl).1 (Nat.le_refl _); have qb := (hw rfl).2); ((go_simp <;> rfl)); simp only [Act.put, List.setIfInBounds_toArray, List.set_cons_zero, List.set_cons_succ])
      | (refine wpS_skip rfl rfl ?_; simp only [Act.put, List.setIfInBounds_toArray, List.set_cons_zero, List.set_cons_succ])
    refine wpS_nil ?_
    go_wp2
    go_ret2
    exact ⟨rfl, F5.trans f6 (fun _ h _ => h)⟩
  · have HC := hid hc
    clear hc
    rw [show nilRes kind = 24 from by unfold nilRes; rw [HC.out]; rfl]
    go_enter Try.func30, Try.ntmps30
    go_wp2_with (first
      | (go_at_call 18; rw [HW.out]; refine (rest_any _ _ _ (by omega) (by omega)).mono ?_; rintro e w' ⟨rfl, rfl⟩; rw [HC.out])
      | (go_at_call 26; refine (Sync_nil _).mono ?_; rintro e w5 ⟨rfl, f5⟩))
    go_ret2
    exact ⟨rfl, F0.trans f5 (fun _ h _ => h)⟩
  · have HC := hid hc
    clear hc
    rw [show nilRes kind = 24 from by unfold nilRes; rw [HC.out]; rfl]
    go_enter Try.func30, Try.ntmps30
    go_wp2_with (first
      | (go_at_call 18; rw [HW.out]; refine (rest_any _ _ _ (by omega) (by omega)).mono ?_; rintro e w' ⟨rfl, rfl⟩; rw [HC.out])
      | (go_at_call 21; refine (Append_nil _ _).mono ?_; rintro e w5 ⟨rfl, f5⟩))
    go_ret2
    exact ⟨rfl, F0.trans f5 (fun _ h _ => h)⟩
  · have HC := hid hc
    clear hc
    rw [show nilRes kind = 24 from by unfold nilRes; rw [HC.out]; rfl]
    go_enter Try.func30, Try.ntmps30
    go_wp2_with (first
      | (go_at_call 18; rw [HW.out]; refine (rest_any _ _ _ (by omega) (by omega)).mono ?_; rintro e w' ⟨rfl, rfl⟩; rw [HC.out])
      | (go_at_call 24; refine (Flush_nil _).mono ?_; rintro e w5 ⟨rfl, f5⟩))
    go_ret2
    exact ⟨rfl, F0.trans f5 (fun _ h _ => h)⟩
  · have HC := hid hc
    clear hc
    rw [show nilRes kind = 24 from by unfold nilRes; rw [HC.out]; rfl]
    go_enter Try.func30, Try.ntmps30
    go_wp2_with (first
      | (go_at_call 18; rw [HW.out]; refine (rest_any _ _ _ (by omega) (by omega)).mono ?_; rintro e w' ⟨rfl, rfl⟩; rw [HC.out])
      | (go_at_call 20; refine (HRD.out _ _).mono ?_; rintro e w5 ⟨rfl, rfl⟩))
    go_ret2
    exact ⟨rfl, F0⟩
  · have HC := hid hc
    clear hc
    rw [show nilRes kind = 22 from by unfold nilRes; rw [HC.out]; rfl]
    go_enter Try.func30, Try.ntmps30
    go_wp2_with (first
      | (go_at_call 18; rw [HW.out]; refine (rest_any _ _ _ (by omega) (by omega)).mono ?_; rintro e w' ⟨rfl, rfl⟩; rw [HC.out])
      | (go_at_call 27; refine (HSF.out _ _).mono ?_; rintro e w5 ⟨rfl, rfl⟩))
    go_ret2
    exact ⟨rfl, F0⟩
  · have HC := hid hc
    clear hc
    rw [show nilRes kind = 0 from by unfold nilRes; rw [HC.out]; rfl]
    go_enter Try.func30, Try.ntmps30
    go_wp2_with (first
      | (go_at_call 18; rw [HW.out]; refine (rest_any _ _ _ (by omega) (by omega)).mono ?_; rintro e w' ⟨rfl, rfl⟩; rw [HC.out])
      | (go_at_call 29; refine (Arm_nil _ _).mono ?_; rintro e w5 ⟨rfl, rfl⟩))
    go_ret2
    exact ⟨rfl, F0⟩
  · have HC := hid hc
    clear hc
    rw [show nilRes kind = 0 from by unfold nilRes; rw [HC.out]; rfl]
    go_enter Try.func30, Try.ntmps30
    go_wp2_with (first
      | (go_at_call 18; rw [HW.out]; refine (rest_any _ _ _ (by omega) (by omega)).mono ?_; rintro e w' ⟨rfl, rfl⟩; rw [HC.out])
      | (go_at_call 19; refine (Crash_nil _ _ _ _).mono ?_; rintro e w5 ⟨rfl, f5⟩))
    go_ret2
    exact ⟨rfl, F0.trans f5 (fun _ h _ => h)⟩
  · have HC := hid hc
    clear hc
    rw [show nilRes kind = 24 from by unfold nilRes; rw [HC.out]; rfl]
    go_enter Try.func30, Try.ntmps30
    go_wp2_with (first
      | (go_at_call 18; rw [HW.out]; refine (rest_any _ _ _ (by omega) (by omega)).mono ?_; rintro e w' ⟨rfl, rfl⟩; rw [HC.out])
      | (go_at_call 28; refine (Cut_nil _ _).mono ?_; rintro e w5 ⟨rfl, f5⟩))
    go_ret2
    exact ⟨rfl, F0.trans f5 (fun _ h _ => h)⟩
