import Derived.Test.YtfalehgngioheaaDiskY
import Derived.Test.YtfalehgngioheaaOwn
import Derived.Test.YtfalehgngioheaaScript
/- law.do: a call on a disk. -/
set_option linter.unusedVariables false
namespace Go.VB.Disk
def DM.dok (fill : Bytes → Bytes) (m : DM) (kind n : Int) (s : Bytes) (q : List Int) : DM × (Bytes × Int) :=
  if kind % 9 = 0 then ((m.write n (fill s)).1, ([], (m.write n (fill s)).2))
  else if kind % 9 = 1 then (m.sync.1, ([], m.sync.2))
  else if kind % 9 = 2 then ((m.append s).1, ([], (m.append s).2))
  else if kind % 9 = 3 then (m.flush.1, ([], m.flush.2))
  else if kind % 9 = 4 then (m, m.read n)
  else if kind % 9 = 5 then (m, m.safeOf n)
  else if kind % 9 = 6 then (m.arm n, ([], 0))
  else if kind % 9 = 8 then ((m.cut n).1, ([], (m.cut n).2))
  else (m.crash q, ([], 0))
end Go.VB.Disk
namespace Go.Proofs.Ytfalehgngioheaa
open Go.RowKit Go.VB Go.VB.Disk
theorem Ok_dok {m : DM} {k : Nat} (ok : m.Ok k) (kind n : Int) (s : Bytes) (q : List Int) : (m.dok fill kind n s q).1.Ok (k + 1) := by
  have up := Ok_mono ok (Nat.le_succ k)
  unfold DM.dok
  repeat (split; first | exact Ok_write ok _ _ | exact Ok_sync up | exact Ok_append up _ | exact Ok_flush up | exact up | exact Ok_arm up _ | exact Ok_cut up _)
  exact Ok_crash up _
set_option maxHeartbeats 2000000 in
theorem do_G {X : Nat → Prop} {w : World} {d : Nat} {m : DM} {kk : Nat} (g : G X w d m) (ok : m.Ok kk) (hkk : kk ≤ 1000000) (kind n : Int) (s : Bytes) (hs : s.length ≤ 1000000) {vq : Value} {q : List Int} (hq : QRep X w vq q) (hql : q.length ≤ 9223372036854775807) :
    Calls Try.prog 30 #[.pointer (some ⟨d, 0, none⟩), .agg #[.int .i64 kind, .int .i64 n, .string (bs s), vq]] w fun e w' =>
      e = .returned (.tuple #[.string (bs (m.dok fill kind n s q).2.1), .int .i64 (m.dok fill kind n s q).2.2]) ∧ G X w' d (m.dok fill kind n s q).1 ∧ Fr (fun k => ¬ X k) w w' := by
  have F0 := (Fr.refl (fun _ => False) w).alloc (.cells [Value.int .i64 kind, .int .i64 n, .string (bs s), vq].toArray 52)
  have B0 := Blk.new w [Value.int .i64 kind, .int .i64 n, .string (bs s), vq] 52
  have g0 := g.fr F0 (fun _ h => h.elim)
  have g1 := g.own (F0.mono (fun _ h _ => h.elim))
  have hb0 : w.heap.size < (w.alloc (.cells [Value.int .i64 kind, .int .i64 n, .string (bs s), vq].toArray 52)).heap.size := by simp
  have q0 := hq.fr F0 (fun _ _ h => h)
  have ne : ∀ r : DM × (Bytes × Int), m.dok fill kind n s q = r → ((Calls Try.prog 30 #[.pointer (some ⟨d, 0, none⟩), .agg #[.int .i64 kind, .int .i64 n, .string (bs s), vq]] w fun e w' =>
      e = .returned (.tuple #[.string (bs r.2.1), .int .i64 r.2.2]) ∧ G X w' d r.1 ∧ Fr (fun k => ¬ X k) (w.alloc (.cells [Value.int .i64 kind, .int .i64 n, .string (bs s), vq].toArray 52)) w')) →
      Calls Try.prog 30 #[.pointer (some ⟨d, 0, none⟩), .agg #[.int .i64 kind, .int .i64 n, .string (bs s), vq]] w fun e w' =>
      e = .returned (.tuple #[.string (bs (m.dok fill kind n s q).2.1), .int .i64 (m.dok fill kind n s q).2.2]) ∧ G X w' d (m.dok fill kind n s q).1 ∧ Fr (fun k => ¬ X k) w w' := by
    intro r hr h
    rw [hr]
    refine h.mono ?_
    rintro e w' ⟨rfl, h1, h2⟩
    exact ⟨rfl, h1, (F0.mono (fun _ h _ => h.elim)).trans h2 (fun _ h _ => h)⟩
  have k0 : (w.alloc (.cells [Value.int .i64 kind, .int .i64 n, .string (bs s), vq].toArray 52)).cell? ⟨w.heap.size, 0, none⟩ = some (.int .i64 kind) := B0.cell 0
  have k1 : (w.alloc (.cells [Value.int .i64 kind, .int .i64 n, .string (bs s), vq].toArray 52)).cell? ⟨w.heap.size, 1, none⟩ = some (.int .i64 n) := B0.cell 1
  have k2 : (w.alloc (.cells [Value.int .i64 kind, .int .i64 n, .string (bs s), vq].toArray 52)).cell? ⟨w.heap.size, 2, none⟩ = some (.string (bs s)) := B0.cell 2
  have k3 : (w.alloc (.cells [Value.int .i64 kind, .int .i64 n, .string (bs s), vq].toArray 52)).cell? ⟨w.heap.size, 3, none⟩ = some vq := B0.cell 3
  have he : bs [] = ⟨#[]⟩ := rfl
  have HE := hid he
  clear he
  generalize hW0 : w.alloc (.cells [Value.int .i64 kind, .int .i64 n, .string (bs s), vq].toArray 52) = w0 at *
  have HW := hid hW0
  clear hW0
  have hc : kind % 9 = 0 ∨ kind % 9 = 1 ∨ kind % 9 = 2 ∨ kind % 9 = 3 ∨ kind % 9 = 4 ∨ kind % 9 = 5 ∨ kind % 9 = 6 ∨ kind % 9 = 7 ∨ kind % 9 = 8 := by omega
  have HN := hid ne
  have HQ := hid q0
  have G0 := hid g0
  have G1 := hid g1
  clear ne B0 F0 hq g q0 g0 g1
  rcases hc with hc | hc | hc | hc | hc | hc | hc | hc | hc
  · refine HN.out ((m.write n (fill s)).1, ([], (m.write n (fill s)).2)) (by simp [DM.dok, hc]) ?_
    try rw [HE.out]
    have HC := hid hc
    clear hc HN
    go_enter Try.func30, Try.ntmps30
    go_wp2_with (first | (go_at_call 18; rw [HW.out]; refine (rest_any _ _ _ (by omega) (by omega)).mono ?_; rintro e w' ⟨rfl, rfl⟩; rw [HC.out]) | fail)
    generalize w.heap.size = b0 at *
    refine wp_region_script [(true, 0), (true, 1), (true, 2), (true, 3), (true, 4), (false, 5), (false, 6), (true, 7), (true, 8)] (fun kz w => (kz ≤ 8 → w.cell? ⟨b0, 1, none⟩ = some (.int .i64 n) ∧ w.cell? ⟨b0, 2, none⟩ = some (.string (bs s))) ∧ True) (by kernel_rfl) (by kernel_rfl) (by intro c a d v w h; cases d <;> exact h) ?_
    repeat
      first
      | (refine wpS_pure rfl rfl rfl ?_; apply Exists.intro; refine ⟨?_, ?_⟩; intro w; ((go_simp <;> rfl)); simp only [Act.put, List.setIfInBounds_toArray, List.set_cons_zero, List.set_cons_succ])
      | (refine wpS_take 8 rfl rfl (by decide +kernel) ⟨fun _ => ⟨k1, k2⟩, trivial⟩ ?_; apply Exists.intro; refine ⟨?_, ?_⟩; intro w hw; (have qa := (hw rfl).1 (Nat.le_refl _); have qb := (hw rfl).2); ((go_simp <;> rfl)); simp only [Act.put, List.setIfInBounds_toArray, List.set_cons_zero, List.set_cons_succ])
      | (refine wpS_skip rfl rfl ?_; simp only [Act.put, List.setIfInBounds_toArray, List.set_cons_zero, List.set_cons_succ])
    refine wpS_op rfl ?_
    go_wp2_with ((go_at_call 16; refine (Fill_go _ _ (by omega)).mono ?_; rintro e w5 ⟨rfl, f5⟩))
    (refine ⟨?_, ?_⟩; focus (intro kz hk hk2; rintro ⟨qa, qb⟩; first | (exfalso; simp at hk2; omega) | exact ⟨qa, qb⟩ | (refine ⟨fun h => absurd h (by omega), ?_⟩; first | exact qb | (exact ⟨cell_fr qa.1 f5 (fun h => h), cell_fr qa.2 f5 (fun h => h)⟩)) | (refine ⟨fun h => ?_, ?_⟩; (have qa := qa h); all_goals (first | exact qa | exact qb | (exact ⟨cell_fr qa.1 f5 (fun h => h), cell_fr qa.2 f5 (fun h => h)⟩)))))
    have F5 := (Fr.refl (fun _ => False) w0).drew.trans f5 (fun _ h _ => h)
    have hWr := Write_G (G1.out.fr F5 (fun _ h => h.elim)) ok hkk n (fill s)
    refine wpS_op rfl ?_
    go_wp2_with ((go_at_call 17; refine hWr.mono ?_; rintro e w6 ⟨rfl, g6, f6⟩))
    (refine ⟨?_, ?_⟩; focus (intro kz hk hk2; rintro ⟨qa, qb⟩; first | (exfalso; simp at hk2; omega) | exact ⟨qa, qb⟩ | (refine ⟨fun h => absurd h (by omega), ?_⟩; first | exact qb | (exact ⟨cell_fr qa.1 f6 (fun h => h (.inr ⟨Nat.le_refl _, hb0⟩)), cell_fr qa.2 f6 (fun h => h (.inr ⟨Nat.le_refl _, hb0⟩))⟩)) | (refine ⟨fun h => ?_, ?_⟩; (have qa := qa h); all_goals (first | exact qa | exact qb | (exact ⟨cell_fr qa.1 f6 (fun h => h (.inr ⟨Nat.le_refl _, hb0⟩)), cell_fr qa.2 f6 (fun h => h (.inr ⟨Nat.le_refl _, hb0⟩))⟩)))))
    repeat
      first
      | (refine wpS_pure rfl rfl rfl ?_; apply Exists.intro; refine ⟨?_, ?_⟩; intro w; ((go_simp <;> rfl)); simp only [Act.put, List.setIfInBounds_toArray, List.set_cons_zero, List.set_cons_succ])
      | (refine wpS_take 8 rfl rfl (by decide +kernel) ⟨fun _ => ⟨cell_fr (cell_fr k1 F5 (fun h => h)) f6 (fun h => h (.inr ⟨Nat.le_refl _, hb0⟩)), cell_fr (cell_fr k2 F5 (fun h => h)) f6 (fun h => h (.inr ⟨Nat.le_refl _, hb0⟩))⟩, trivial⟩ ?_; apply Exists.intro; refine ⟨?_, ?_⟩; intro w hw; (have qa := (hw rfl).1 (Nat.le_refl _); have qb := (hw rfl).2); ((go_simp <;> rfl)); simp only [Act.put, List.setIfInBounds_toArray, List.set_cons_zero, List.set_cons_succ])
      | (refine wpS_skip rfl rfl ?_; simp only [Act.put, List.setIfInBounds_toArray, List.set_cons_zero, List.set_cons_succ])
    refine wpS_nil ?_
    go_wp2
    go_ret2
    exact ⟨rfl, g6.shrink (fun j h => .inl h), (F5.mono (fun _ h _ => h.elim)).trans f6 (fun _ h _ hx => h (.inl hx))⟩
  · refine HN.out (m.sync.1, ([], m.sync.2)) (by simp [DM.dok, hc]) ?_
    try rw [HE.out]
    have HC := hid hc
    clear hc HN
    go_enter Try.func30, Try.ntmps30
    go_wp2_with (first
      | (go_at_call 18; rw [HW.out]; refine (rest_any _ _ _ (by omega) (by omega)).mono ?_; rintro e w' ⟨rfl, rfl⟩; rw [HC.out])
      | (go_at_call 26; refine (Sync_G G0.out ok hkk).mono ?_; rintro e w5 ⟨rfl, g5, f5⟩))
    go_ret2
    exact ⟨rfl, g5, f5⟩
  · refine HN.out ((m.append s).1, ([], (m.append s).2)) (by simp [DM.dok, hc]) ?_
    try rw [HE.out]
    have HC := hid hc
    clear hc HN
    go_enter Try.func30, Try.ntmps30
    go_wp2_with (first
      | (go_at_call 18; rw [HW.out]; refine (rest_any _ _ _ (by omega) (by omega)).mono ?_; rintro e w' ⟨rfl, rfl⟩; rw [HC.out])
      | (go_at_call 21; refine (Append_G G0.out ok s (by omega)).mono ?_; rintro e w5 ⟨rfl, g5, f5⟩))
    go_ret2
    exact ⟨rfl, g5, f5⟩
  · refine HN.out (m.flush.1, ([], m.flush.2)) (by simp [DM.dok, hc]) ?_
    try rw [HE.out]
    have HC := hid hc
    clear hc HN
    go_enter Try.func30, Try.ntmps30
    go_wp2_with (first
      | (go_at_call 18; rw [HW.out]; refine (rest_any _ _ _ (by omega) (by omega)).mono ?_; rintro e w' ⟨rfl, rfl⟩; rw [HC.out])
      | (go_at_call 24; refine (Flush_G G0.out).mono ?_; rintro e w5 ⟨rfl, g5, f5⟩))
    go_ret2
    exact ⟨rfl, g5, f5⟩
  · refine HN.out (m, m.read n) (by simp [DM.dok, hc]) ?_
    try rw [HE.out]
    have HC := hid hc
    clear hc HN
    go_enter Try.func30, Try.ntmps30
    go_wp2_with (first
      | (go_at_call 18; rw [HW.out]; refine (rest_any _ _ _ (by omega) (by omega)).mono ?_; rintro e w' ⟨rfl, rfl⟩; rw [HC.out])
      | (go_at_call 20; refine (Read_G G0.out ok hkk n).mono ?_; rintro e w5 ⟨rfl, g5, f5⟩))
    go_ret2
    exact ⟨rfl, g5, f5.mono (fun _ h _ => h.elim)⟩
  · refine HN.out (m, m.safeOf n) (by simp [DM.dok, hc]) ?_
    try rw [HE.out]
    have HC := hid hc
    clear hc HN
    go_enter Try.func30, Try.ntmps30
    go_wp2_with (first
      | (go_at_call 18; rw [HW.out]; refine (rest_any _ _ _ (by omega) (by omega)).mono ?_; rintro e w' ⟨rfl, rfl⟩; rw [HC.out])
      | (go_at_call 27; refine (Safe_G G0.out ok n).mono ?_; rintro e w5 ⟨rfl, g5, f5⟩))
    go_ret2
    exact ⟨rfl, g5, f5.mono (fun _ h _ => h.elim)⟩
  · refine HN.out (m.arm n, ([], 0)) (by simp [DM.dok, hc]) ?_
    try rw [HE.out]
    have HC := hid hc
    clear hc HN
    go_enter Try.func30, Try.ntmps30
    go_wp2_with (first
      | (go_at_call 18; rw [HW.out]; refine (rest_any _ _ _ (by omega) (by omega)).mono ?_; rintro e w' ⟨rfl, rfl⟩; rw [HC.out])
      | (go_at_call 29; refine (Arm_G G0.out n).mono ?_; rintro e w5 ⟨rfl, g5, f5⟩))
    go_ret2
    exact ⟨rfl, g5, f5⟩
  · refine HN.out (m.crash q, ([], 0)) (by simp [DM.dok, hc]) ?_
    try rw [HE.out]
    have HC := hid hc
    clear hc HN
    go_enter Try.func30, Try.ntmps30
    go_wp2_with (first
      | (go_at_call 18; rw [HW.out]; refine (rest_any _ _ _ (by omega) (by omega)).mono ?_; rintro e w' ⟨rfl, rfl⟩; rw [HC.out])
      | (go_at_call 19; refine (Crash_G G0.out ok hkk HQ.out hql).mono ?_; rintro e w5 ⟨rfl, g5, f5⟩))
    go_ret2
    exact ⟨rfl, g5, f5⟩
  · refine HN.out ((m.cut n).1, ([], (m.cut n).2)) (by simp [DM.dok, hc]) ?_
    try rw [HE.out]
    have HC := hid hc
    clear hc HN
    go_enter Try.func30, Try.ntmps30
    go_wp2_with (first
      | (go_at_call 18; rw [HW.out]; refine (rest_any _ _ _ (by omega) (by omega)).mono ?_; rintro e w' ⟨rfl, rfl⟩; rw [HC.out])
      | (go_at_call 28; refine (Cut_G G0.out n).mono ?_; rintro e w5 ⟨rfl, g5, f5⟩))
    go_ret2
    exact ⟨rfl, g5, f5⟩
