import Derived.Test.YtfalehgngioheaaRefJ
import Derived.Test.YtfalehgngioheaaEver
/- law.same: the two disks answer alike, for they stand for one model. -/
set_option linter.unusedVariables false
namespace Go.Proofs.Ytfalehgngioheaa
open Go.RowKit Go.VB Go.VB.Disk
set_option maxHeartbeats 2000000 in
theorem same_ref {X S : Nat → Prop} {w : World} {d e : Nat} {m : DM} {pv : Value} {wv : List Value} (g : G X w d m) (h : RRep S w e m pv wv) (hlen : m.pages.length ≤ 400) {kk : Nat} (ok : m.Ok kk) (hkk : kk ≤ 1000000) :
    Calls Try.prog 34 #[.pointer (some ⟨d, 0, none⟩), .pointer (some ⟨e, 0, none⟩)] w fun r w' => r = .returned (.bool true) ∧ Fr (fun _ => False) w w' := by
  obtain ⟨pa, pc, rfl, hpc⟩ := own_slice h.own
  rw [show m.pages.length = m.pages.length from rfl] at h
  have c0 := h.b.cell 0
  have c1 : w.cell? ⟨e, 1, none⟩ = some (.string (bs m.log)) := h.b.cell 1
  have c2 : w.cell? ⟨e, 2, none⟩ = some (.int .i64 m.flushed) := h.b.cell 2
  have c3 : w.cell? ⟨e, 3, none⟩ = some (.bool (!m.off)) := h.b.cell 3
  have H := hid h
  have GG := hid g
  have HOK := hid ok
  replace c0 : w.cell? ⟨e, 0, none⟩ = some (.slice pa m.pages.length pc) := c0
  clear h g ok
  go_enter Try.func34, Try.ntmps34
  go_wp2_with (fail)
  refine wp_region_scriptE [(true, 0), (true, 2), (true, 3), (true, 4), (true, 5), (true, 6), (false, 1), (true, 7), (true, 8), (true, 9), (true, 11), (true, 12), (true, 13), (true, 14), (false, 10), (true, 15), (true, 16), (true, 17), (true, 18), (true, 20), (true, 21), (true, 22), (true, 23), (false, 19), (true, 24), (true, 25), (true, 26), (true, 27), (true, 29), (true, 30), (true, 31), (true, 32), (false, 28), (true, 33), (true, 34)] (fun kz w => (kz ≤ 35 → w.cell? ⟨e, 0, none⟩ = some (.slice pa m.pages.length pc) ∧ w.cell? ⟨e, 1, none⟩ = some (.string (bs m.log)) ∧ w.cell? ⟨e, 2, none⟩ = some (.int .i64 m.flushed) ∧ w.cell? ⟨e, 3, none⟩ = some (.bool (!m.off))) ∧ True) (by kernel_rfl) (by kernel_rfl) (by intro c a d v w h; cases d <;> exact h) ?_
  repeat
    first
    | (refine wpS_pureE rfl rfl rfl ?_; apply Exists.intro; refine ⟨?_, ?_⟩; intro w; ((go_simp <;> rfl)); simp only [Act.put, List.setIfInBounds_toArray, List.set_cons_zero, List.set_cons_succ])
    | (refine wpS_takeE 35 rfl rfl (by decide +kernel) ⟨fun _ => ⟨c0, c1, c2, c3⟩, trivial⟩ ?_; apply Exists.intro; refine ⟨?_, ?_⟩; intro w hw; (have qa := (hw rfl).1 (Nat.le_refl _); have qb := (hw rfl).2); ((go_simp <;> rfl)); simp only [Act.put, List.setIfInBounds_toArray, List.set_cons_zero, List.set_cons_succ])
    | (refine wpS_skipE rfl rfl ?_; simp only [Act.put, List.setIfInBounds_toArray, List.set_cons_zero, List.set_cons_succ])
  refine wpS_opE rfl ?_
  go_wp2_with ((go_at_call 35; refine (Pages_G (GG.out.fr (Fr.refl (fun _ => False) w).drew (fun _ h => h.elim))).mono ?_; rintro _ w' ⟨rfl, rfl⟩))
  (refine ⟨?_, ?_⟩; focus (intro kz hk hk2; rintro ⟨qa, qb⟩; first | (exfalso; simp at hk2; omega) | exact ⟨qa, qb⟩ | (refine ⟨fun h => absurd h (by omega), ?_⟩; first | exact qb | (exact qa)) | (refine ⟨fun h => ?_, ?_⟩; (have qa := qa h); all_goals (first | exact qa | exact qb | (exact qa)))))
  repeat
    first
    | (refine wpS_pureE rfl rfl rfl ?_; apply Exists.intro; refine ⟨?_, ?_⟩; intro w; ((go_simp <;> rfl)); simp only [Act.put, List.setIfInBounds_toArray, List.set_cons_zero, List.set_cons_succ])
    | (refine wpS_takeE 35 rfl rfl (by decide +kernel) ⟨fun _ => ⟨c0, c1, c2, c3⟩, trivial⟩ ?_; apply Exists.intro; refine ⟨?_, ?_⟩; intro w hw; (have qa := (hw rfl).1 (Nat.le_refl _); have qb := (hw rfl).2); ((go_simp <;> rfl)); simp only [Act.put, List.setIfInBounds_toArray, List.set_cons_zero, List.set_cons_succ])
    | (refine wpS_skipE rfl rfl ?_; simp only [Act.put, List.setIfInBounds_toArray, List.set_cons_zero, List.set_cons_succ])
  refine wpS_opE rfl ?_
  go_wp2_with ((go_at_call 22; refine (Log_G (GG.out.fr (Fr.refl (fun _ => False) w).drew (fun _ h => h.elim))).mono ?_; rintro _ w' ⟨rfl, rfl⟩))
  (refine ⟨?_, ?_⟩; focus (intro kz hk hk2; rintro ⟨qa, qb⟩; first | (exfalso; simp at hk2; omega) | exact ⟨qa, qb⟩ | (refine ⟨fun h => absurd h (by omega), ?_⟩; first | exact qb | (exact qa)) | (refine ⟨fun h => ?_, ?_⟩; (have qa := qa h); all_goals (first | exact qa | exact qb | (exact qa)))))
  repeat
    first
    | (refine wpS_pureE rfl rfl rfl ?_; apply Exists.intro; refine ⟨?_, ?_⟩; intro w; ((go_simp <;> rfl)); simp only [Act.put, List.setIfInBounds_toArray, List.set_cons_zero, List.set_cons_succ])
    | (refine wpS_takeE 35 rfl rfl (by decide +kernel) ⟨fun _ => ⟨c0, c1, c2, c3⟩, trivial⟩ ?_; apply Exists.intro; refine ⟨?_, ?_⟩; intro w hw; (have qa := (hw rfl).1 (Nat.le_refl _); have qb := (hw rfl).2); ((go_simp <;> rfl)); simp only [Act.put, List.setIfInBounds_toArray, List.set_cons_zero, List.set_cons_succ])
    | (refine wpS_skipE rfl rfl ?_; simp only [Act.put, List.setIfInBounds_toArray, List.set_cons_zero, List.set_cons_succ])
  refine wpS_opE rfl ?_
  go_wp2_with ((go_at_call 25; refine (Flushed_G (GG.out.fr (Fr.refl (fun _ => False) w).drew (fun _ h => h.elim))).mono ?_; rintro _ w' ⟨rfl, rfl⟩))
  (refine ⟨?_, ?_⟩; focus (intro kz hk hk2; rintro ⟨qa, qb⟩; first | (exfalso; simp at hk2; omega) | exact ⟨qa, qb⟩ | (refine ⟨fun h => absurd h (by omega), ?_⟩; first | exact qb | (exact qa)) | (refine ⟨fun h => ?_, ?_⟩; (have qa := qa h); all_goals (first | exact qa | exact qb | (exact qa)))))
  repeat
    first
    | (refine wpS_pureE rfl rfl rfl ?_; apply Exists.intro; refine ⟨?_, ?_⟩; intro w; ((go_simp <;> rfl)); simp only [Act.put, List.setIfInBounds_toArray, List.set_cons_zero, List.set_cons_succ])
    | (refine wpS_takeE 35 rfl rfl (by decide +kernel) ⟨fun _ => ⟨c0, c1, c2, c3⟩, trivial⟩ ?_; apply Exists.intro; refine ⟨?_, ?_⟩; intro w hw; (have qa := (hw rfl).1 (Nat.le_refl _); have qb := (hw rfl).2); ((go_simp <;> rfl)); simp only [Act.put, List.setIfInBounds_toArray, List.set_cons_zero, List.set_cons_succ])
    | (refine wpS_skipE rfl rfl ?_; simp only [Act.put, List.setIfInBounds_toArray, List.set_cons_zero, List.set_cons_succ])
  refine wpS_opE rfl ?_
  go_wp2_with ((go_at_call 23; refine (On_G (GG.out.fr (Fr.refl (fun _ => False) w).drew (fun _ h => h.elim))).mono ?_; rintro _ w' ⟨rfl, rfl⟩))
  (refine ⟨?_, ?_⟩; focus (intro kz hk hk2; rintro ⟨qa, qb⟩; first | (exfalso; simp at hk2; omega) | exact ⟨qa, qb⟩ | (refine ⟨fun h => absurd h (by omega), ?_⟩; first | exact qb | (exact qa)) | (refine ⟨fun h => ?_, ?_⟩; (have qa := qa h); all_goals (first | exact qa | exact qb | (exact qa)))))
  repeat
    first
    | (refine wpS_pureE rfl rfl rfl ?_; apply Exists.intro; refine ⟨?_, ?_⟩; intro w; ((go_simp <;> rfl)); simp only [Act.put, List.setIfInBounds_toArray, List.set_cons_zero, List.set_cons_succ])
    | (refine wpS_takeE 35 rfl rfl (by decide +kernel) ⟨fun _ => ⟨c0, c1, c2, c3⟩, trivial⟩ ?_; apply Exists.intro; refine ⟨?_, ?_⟩; intro w hw; (have qa := (hw rfl).1 (Nat.le_refl _); have qb := (hw rfl).2); ((go_simp <;> rfl)); simp only [Act.put, List.setIfInBounds_toArray, List.set_cons_zero, List.set_cons_succ])
    | (refine wpS_skipE rfl rfl ?_; simp only [Act.put, List.setIfInBounds_toArray, List.set_cons_zero, List.set_cons_succ])
  refine wpS_nilE ?_
  go_wp2_with (fail)
  clear c1 c2 c3
  go_loopw [5] (fun i wr => ∃ j : Nat, j ≤ m.pages.length + 2 ∧ i = .int .i64 ((j : Int) - 1) ∧ Fr (fun _ => False) w wr) (fun i _ => m.pages.length + 2 - (intOf i + 1).toNat)
  case atStart => exact ⟨0, by omega, rfl, (Fr.refl _ w).drew⟩
  case round =>
    obtain ⟨j, hj, rfl, fR⟩ := hrel
    replace c0 : wr.cell? ⟨e, 0, none⟩ = some (.slice pa m.pages.length pc) := cell_fr c0 fR (fun h => h)
    have HG := hid (GG.out.fr fR (fun _ h => h.elim))
    have HH := hid (H.out.fr fR (fun _ _ h => h))
    have FR := hid fR
    clear fR
    by_cases hjl : (j : Int) - 1 ≤ m.pages.length
    · have hw : IntKind.i64.wrap ((j : Int) - 1 + 1) = j := by rw [IntWalk.i64_in _ (by omega)]; omega
      go_wp2_with (fail)
      refine (Read_G HG.out HOK.out hkk _).mono ?_
      rintro _ w1 ⟨rfl, -, f1⟩
      have HG1 := hid (HG.out.fr f1 (fun _ h => h.elim))
      go_wp2_with (fail)
      refine (Safe_G HG1.out HOK.out _).mono ?_
      rintro _ w2 ⟨rfl, -, f2⟩
      have f12 := f1.trans f2 (fun _ h _ => h)
      have HH2 := hid (HH.out.fr f12 (fun _ _ h => h))
      go_wp2_with (fail)
      refine (Read_ref HH2.out _ hlen HOK.out hkk).mono ?_
      rintro _ w3 ⟨rfl, f3⟩
      have HH3 := hid (HH2.out.fr f3 (fun _ _ h => h))
      go_wp2_with (fail)
      have f4 := (Fr.refl (fun _ => False) w3).alloc (.cells #[Value.string (bs (m.read ((j : Int) - 1)).1), .int .i64 (m.read ((j : Int) - 1)).2] 62)
      refine (Safe_ref (HH3.out.fr f4 (fun _ _ h => h)) _ hlen).mono ?_
      rintro _ w5 ⟨rfl, f5⟩
      have F5 := hid (FR.out.trans (f12.trans (f3.trans (f4.trans f5 (fun _ h _ => h)) (fun _ h _ => h)) (fun _ h _ => h)) (fun _ h _ => h))
      have B5 := (Blk.new w3 [Value.string (bs (m.read ((j : Int) - 1)).1), .int .i64 (m.read ((j : Int) - 1)).2] 62).fr f5 (fun h => h)
      have k0 : w5.cell? ⟨w3.heap.size, 0, none⟩ = some (.string (bs (m.read ((j : Int) - 1)).1)) := B5.cell 0
      have k1 : w5.cell? ⟨w3.heap.size, 1, none⟩ = some (.int .i64 (m.read ((j : Int) - 1)).2) := B5.cell 1
      have hlt := lt_of_cell k0
      go_wp2_with (fail)
      go_roundw
      case rel => exact ⟨j + 1, by omega, by simp, F5.out.trans ((Fr.refl (fun _ => False) w5).alloc _) (fun _ h _ => h)⟩
      case measure => simp [intOf]; omega
    · go_wp2
      go_ret
      exact ⟨rfl, FR.out⟩
end Go.Proofs.Ytfalehgngioheaa
