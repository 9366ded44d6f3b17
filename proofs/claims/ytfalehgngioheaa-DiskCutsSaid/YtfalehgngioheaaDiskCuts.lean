/- Proved: for every three strings and every integer the law DiskCuts of chapter 05 returns true, and its arguments read afterwards as before. Conditions: none beyond the given statement. -/
import Derived.Test.YtfalehgngioheaaDiskLogM
import Derived.Test.YtfalehgngioheaaScript
import Derived.Test.YtfalehgngioheaaFin
set_option linter.unusedVariables false
namespace Go.Proofs.Ytfalehgngioheaa
open Go.RowKit Go.VB Go.VB.Disk
/-- the three strings, as many as have been cut -/
def stage (c0 c1 c2 : Bytes) (k : Nat) : List Bytes := [if 0 < k then c0 else [], if 1 < k then c1 else [], if 2 < k then c2 else []]
structure CutInv (t0 t1 t2 : Bytes) (d b0 bS : Nat) (w wr : World) (X : Nat → Prop) (k : Nat) : Prop where
  g : G X wr d (LogM.M [] 0 0)
  x : ∀ j, j < w.heap.size → X j
  x0 : X b0
  xS : X bS
  ne : b0 ≠ bS
  sz : w.heap.size ≤ bS
  bt : Blk wr b0 (sv [t0, t1, t2]) 46
  bs : Blk wr bS (sv (stage (t0.take 40) (t1.take 40) (t2.take 40) k)) 46
  fr : Fr (fun _ => False) w wr
theorem stage_set {t0 t1 t2 : Bytes} (h0 : t0.length ≤ 9223372036854775807) (h1 : t1.length ≤ 9223372036854775807) (h2 : t2.length ≤ 9223372036854775807) {k : Nat} (hk : k < 3) :
    ∃ t x : Bytes, (sv [t0, t1, t2])[k]? = some (.string (bs t)) ∧ t.length ≤ 9223372036854775807 ∧ (sv (stage (t0.take 40) (t1.take 40) (t2.take 40) k))[k]? = some (.string (bs x)) ∧ (sv (stage (t0.take 40) (t1.take 40) (t2.take 40) k)).set k (.string (bs (t.take 40))) = sv (stage (t0.take 40) (t1.take 40) (t2.take 40) (k + 1)) := by
  rcases (show k = 0 ∨ k = 1 ∨ k = 2 by omega) with rfl | rfl | rfl
  · exact ⟨t0, [], rfl, h0, rfl, rfl⟩
  · exact ⟨t1, [], rfl, h1, rfl, rfl⟩
  · exact ⟨t2, [], rfl, h2, rfl, rfl⟩
set_option maxHeartbeats 2000000 in
theorem DiskCuts_walk (t0 t1 t2 : Bytes) (h0 : t0.length ≤ maxLen) (h1 : t1.length ≤ maxLen) (h2 : t2.length ≤ maxLen) (a1 : Int) (w : World) :
    Calls Try.prog 8 #[.agg (sv [t0, t1, t2]).toArray, .int .i64 a1] w fun e w' => e = .returned (.bool true) ∧ Fr (fun _ => False) w w' := by
  unfold maxLen at h0 h1 h2
  have B0 := Blk.new w (sv [t0, t1, t2]) 46
  have F0 := (Fr.refl (fun _ => False) w).alloc (.cells (sv [t0, t1, t2]).toArray 46)
  have z0 : (w.alloc (.cells (sv [t0, t1, t2]).toArray 46)).heap.size = w.heap.size + 1 := by simp
  generalize hW0 : w.alloc (.cells (sv [t0, t1, t2]).toArray 46) = W0 at *
  have HW0 := hid hW0
  have Z0 := hid z0
  clear hW0 z0
  go_enter Try.func8, Try.ntmps8
  go_wp2_with (fail)
  rw [HW0.out]
  refine (sanity_go _).mono ?_
  rintro e w1 ⟨rfl, f1⟩
  go_wp2_with (fail)
  refine (New_G _ _).mono ?_
  rintro e w2 ⟨rfl, g2, f2⟩
  have F2 := (F0.trans f1 (fun _ h _ => h)).trans f2 (fun _ h _ => h)
  have B2 := (B0.fr f1 (fun h => h)).fr f2 (fun h => h)
  have l1 := B0.lt
  have s1 := f1.size
  have s2 := f2.size
  have gsz : w2.heap.size ≥ w1.heap.size := s2
  generalize hd : w1.heap.size + 1 = d at *
  have H0 : ∀ W3, W3 = w2.alloc (.cells (sv (stage (t0.take 40) (t1.take 40) (t2.take 40) 0)).toArray 46) → CutInv t0 t1 t2 d w.heap.size w2.heap.size w W3 (fun j => j < w1.heap.size ∨ (w2.heap.size ≤ j ∧ j < W3.heap.size)) 0 := by
    rintro W3 rfl
    have f3 := (Fr.refl (fun j => j < w1.heap.size) w2).alloc (.cells (sv (stage (t0.take 40) (t1.take 40) (t2.take 40) 0)).toArray 46)
    have z := Z0.out
    exact ⟨g2.own f3, fun j hj => .inl (by omega), .inl (by omega), .inr ⟨Nat.le_refl _, by simp⟩, by omega, by omega, B2.alloc _, Blk.new _ _ _, F2.alloc _⟩
  have HH := hid H0
  clear H0 g2 f1 f2 F2 B0 B2 F0 hd
  go_wp2
  go_loopw [8] (fun i wr => ∃ (k : Nat) (X : Nat → Prop), k ≤ 3 ∧ i = .int .i64 k ∧ CutInv t0 t1 t2 d w.heap.size w2.heap.size w wr X k) (fun i _ => 3 - (intOf i).toNat)
  case atStart => exact ⟨0, _, by omega, rfl, HH.out _ rfl⟩
  case round =>
    obtain ⟨k, X, hk3, rfl, inv⟩ := hrel
    clear HH HW0 Z0 l1 s1 s2 gsz
    generalize w.heap.size = b0 at *
    generalize w2.heap.size = bS at *
    by_cases hk : k < 3
    · obtain ⟨t, x, e1, ht, e2, e3⟩ := stage_set h0 h1 h2 hk
      have hcell : wr.cell? ⟨b0, k, none⟩ = some (.string (bs t)) := by rw [inv.bt.cell, e1]
      have hold : wr.cell? ⟨bS, k, none⟩ = some (.string (bs x)) := by rw [inv.bs.cell, e2]
      have hfz : wr.frozen? ⟨bS, k, none⟩ = false := inv.bs.frozen k
      obtain ⟨q, hm, hq1, hq2⟩ := cut_str t 40
      have hm := hm 40 rfl
      have hs := bs_size t
      generalize bs t = b at *
      have HE := hid e3
      clear e1 e2 e3
      go_wp2
      refine wp_region_script [(true, 0), (true, 1), (true, 2), (true, 3), (true, 4), (true, 5), (true, 6), (true, 7), (true, 8), (true, 9), (true, 10), (false, 11)] (fun kz w => (kz ≤ 11 → w.cell? ⟨b0, k, none⟩ = some (.string b)) ∧ True) (by kernel_rfl) (by kernel_rfl) (by intro c a d v w h; cases d <;> exact h) ?_
      repeat
        first
        | (refine wpS_pure rfl rfl rfl ?_; apply Exists.intro; refine ⟨?_, ?_⟩; intro w; ((go_simp <;> rfl)); simp only [Act.put, List.setIfInBounds_toArray, List.set_cons_zero, List.set_cons_succ])
        | (refine wpS_take 11 rfl rfl (by decide +kernel) ⟨fun _ => hcell, trivial⟩ ?_; apply Exists.intro; refine ⟨?_, ?_⟩; intro w hw; (have qa := (hw rfl).1 (Nat.le_refl _); have qb := (hw rfl).2); ((go_simp <;> rfl)); simp only [Act.put, List.setIfInBounds_toArray, List.set_cons_zero, List.set_cons_succ])
        | (refine wpS_skip rfl rfl ?_; simp only [Act.put, List.setIfInBounds_toArray, List.set_cons_zero, List.set_cons_succ])
      refine wpS_op rfl ?_
      go_wp2_with (fail)
      (refine ⟨?_, ?_⟩; focus (intro kz hk hk2; rintro ⟨qa, qb⟩; first | (exfalso; simp at hk2; omega) | exact ⟨qa, qb⟩ | (refine ⟨fun h => absurd h (by omega), ?_⟩; first | exact qb | (exact cell_fr qa ((Fr.refl (fun j => j = bS) _).setCell _ _ (fun _ => rfl)) inv.ne)) | (refine ⟨fun h => ?_, ?_⟩; (have qa := qa h); all_goals (first | exact qa | exact qb | (exact cell_fr qa ((Fr.refl (fun j => j = bS) _).setCell _ _ (fun _ => rfl)) inv.ne)))))
      refine wpS_nil ?_
      have fs := ((Fr.refl (fun j => j = bS) wr).setCell ⟨bS, k, none⟩ (.string (bs (t.take 40))) (fun _ => rfl)).drew
      have inv' : CutInv t0 t1 t2 d b0 bS w (wr.setCell ⟨bS, k, none⟩ (.string (bs (t.take 40)))).drew X (k + 1) := by
        refine ⟨inv.g.fr fs (fun j hj => by subst hj; exact inv.xS), inv.x, inv.x0, inv.xS, inv.ne, inv.sz, inv.bt.fr fs inv.ne, ?_, (inv.fr.setCell _ _ (fun h => by have := inv.sz; exact absurd h (by show ¬ bS < w.heap.size; omega))).drew⟩
        rw [← HE.out]
        exact (inv.bs.set k _).drew
      clear inv fs hold hfz hcell
      generalize (wr.setCell ⟨bS, k, none⟩ (.string (bs (t.take 40)))).drew = wn at *
      go_wp2
      go_roundw
      case rel => exact ⟨k + 1, X, by omega, by go_num, inv'⟩
      case measure => simp [intOf]; omega
    · obtain rfl : k = 3 := by omega
      obtain ⟨hg, hx, x0, xS, hne, hsz, bt, bS3, hfr⟩ := inv
      have l0 : (t0.take 40).length ≤ 40 := by simp; omega
      have l1 : (t1.take 40).length ≤ 40 := by simp; omega
      have l2 : (t2.take 40).length ≤ 40 := by simp; omega
      have hst : sv (stage (t0.take 40) (t1.take 40) (t2.take 40) 3) = sv [t0.take 40, t1.take 40, t2.take 40] := rfl
      rw [hst] at bS3
      clear hst
      generalize t0.take 40 = c0 at *
      generalize t1.take 40 = c1 at *
      generalize t2.take 40 = c2 at *
      have hA := Append_G hg (LogM.ok (by simp) (by simp)) c0 (by omega)
      rw [LogM.append (by simp; omega), List.nil_append] at hA
      have k0 : wr.cell? ⟨bS, 0, none⟩ = some (.string (bs c0)) := bS3.cell 0
      have HX := hid hx
      clear hx bt x0 h0 h1 h2
      go_wp2_with (fail)
      refine hA.mono ?_
      rintro e w3 ⟨rfl, g3, f3⟩
      have F3 := hfr.trans f3 (fun j hj hlt => hj (HX.out j hlt))
      have B3 := bS3.fr f3 (fun h => h xS)
      clear hA f3 hfr bS3 hg k0
      have hF := Flush_G g3
      rw [LogM.flush] at hF
      go_wp2_with (fail)
      refine hF.mono ?_
      rintro e w4 ⟨rfl, g4, f4⟩
      have F4 := F3.trans f4 (fun j hj hlt => hj (HX.out j hlt))
      have B4 := B3.fr f4 (fun h => h xS)
      clear hF f4 F3 B3 g3
      have hA := Append_G g4 (LogM.ok (by omega) (Nat.le_refl _)) c1 (by omega)
      rw [LogM.append (by omega)] at hA
      have k1 : w4.cell? ⟨bS, 1, none⟩ = some (.string (bs c1)) := B4.cell 1
      go_wp2_with (fail)
      refine hA.mono ?_
      rintro e w5 ⟨rfl, g5, f5⟩
      have F5 := F4.trans f5 (fun j hj hlt => hj (HX.out j hlt))
      have B5 := B4.fr f5 (fun h => h xS)
      clear hA f5 F4 B4 g4 k1
      obtain ⟨n, hn, hnl⟩ : ∃ n : Nat, a1 % ((c0 ++ c1).length + 1 : Int) = n ∧ n ≤ (c0 ++ c1).length := ⟨(a1 % ((c0 ++ c1).length + 1 : Int)).toNat, by have := Int.emod_nonneg a1 (show ((c0 ++ c1).length : Int) + 1 ≠ 0 by omega); omega, by have := Int.emod_lt_of_pos a1 (show 0 < ((c0 ++ c1).length : Int) + 1 by omega); have := Int.emod_nonneg a1 (show ((c0 ++ c1).length : Int) + 1 ≠ 0 by omega); omega⟩
      have HN := hid hn
      clear hn
      have k0 : w5.cell? ⟨bS, 0, none⟩ = some (.string (bs c0)) := B5.cell 0
      have k1 : w5.cell? ⟨bS, 1, none⟩ = some (.string (bs c1)) := B5.cell 1
      have k2 : w5.cell? ⟨bS, 2, none⟩ = some (.string (bs c2)) := B5.cell 2
      have e1 := run_add_bs (P := Try.prog) w5 c0 c1 (by omega)
      have sall := bs_size (c0 ++ c1)
      have hall : (c0 ++ c1).length ≤ 80 := by simp; omega
      have hC1 := Cut_G g5 ((c0 ++ c1).length + 1)
      rw [LogM.cut_wrong (by omega)] at hC1
      generalize hall0 : c0 ++ c1 = all at *
      have HALL := hid hall0
      clear hall0
      go_wp2_with (go_at_call 18; refine (rest_any _ _ _ (by omega) (by omega)).mono ?_; rintro e w' ⟨rfl, rfl⟩; rw [HN.out])
      refine hC1.mono ?_
      rintro e w6 ⟨rfl, g6, f6⟩
      have F6 := F5.trans f6 (fun j hj hlt => hj (HX.out j hlt))
      have B6 := B5.fr f6 (fun h => h xS)
      clear hC1 f6 F5 B5 g5 k1 k2 k0 e1
      have hC1 := Cut_G g6 (-1)
      rw [LogM.cut_wrong (by omega)] at hC1
      go_wp2_with (fail)
      refine hC1.mono ?_
      rintro e w7 ⟨rfl, g7, f7⟩
      have F7 := F6.trans f7 (fun j hj hlt => hj (HX.out j hlt))
      have B7 := B6.fr f7 (fun h => h xS)
      clear hC1 f7 F6 B6 g6
      have hC2 := Cut_G (g7.fr (Fr.refl (fun _ => False) w7).drew (fun _ h => h.elim)) n
      rw [LogM.cut hnl] at hC2
      obtain ⟨q, hq⟩ : ∃ q : Nat, q = min c0.length n := ⟨_, rfl⟩
      rw [← hq] at hC2
      have hm1 : (if (c0.length : Int) < (n : Int) then (c0.length : Int) else (n : Int)) = (q : Int) := by split <;> omega
      have hm2 : (if c0.length < n then (c0.length : Int) else (n : Int)) = (q : Int) := by split <;> omega
      have hqn : q ≤ n := by omega
      have hql : (q : Int) ≤ all.length := by omega
      have hni : (n : Int) ≤ all.length := by omega
      have k0 : w7.cell? ⟨bS, 0, none⟩ = some (.string (bs c0)) := B7.cell 0
      have sc0 := bs_size c0
      have ee : (bs all).extract 0 n = bs (all.take n) := by apply ByteArray.ext; simp [bs]
      clear hq
      go_wp2_with (fail)
      refine wp_region_script [(true, 0), (true, 1), (false, 2), (true, 3), (true, 4), (true, 5), (true, 7), (true, 8), (true, 9), (false, 6), (true, 10), (true, 11), (true, 12), (true, 13), (true, 15), (true, 16), (true, 17), (true, 18), (true, 19), (false, 14), (true, 20), (true, 21), (true, 22)] (fun kz w => (kz ≤ 22 → w.cell? ⟨bS, 0, none⟩ = some (.string (bs c0))) ∧ True) (by kernel_rfl) (by kernel_rfl) (by intro c a d v w h; cases d <;> exact h) ?_
      repeat
        first
        | (refine wpS_pure rfl rfl rfl ?_; apply Exists.intro; refine ⟨?_, ?_⟩; intro w; ((go_simp <;> rfl)); simp only [Act.put, List.setIfInBounds_toArray, List.set_cons_zero, List.set_cons_succ])
        | (refine wpS_take 22 rfl rfl (by decide +kernel) ⟨fun _ => k0, trivial⟩ ?_; apply Exists.intro; refine ⟨?_, ?_⟩; intro w hw; (have qa := (hw rfl).1 (Nat.le_refl _); have qb := (hw rfl).2); ((go_simp <;> rfl)); simp only [Act.put, List.setIfInBounds_toArray, List.set_cons_zero, List.set_cons_succ])
        | (refine wpS_skip rfl rfl ?_; simp only [Act.put, List.setIfInBounds_toArray, List.set_cons_zero, List.set_cons_succ])
      refine wpS_op rfl ?_
      go_wp2_with ((go_at_call 28; refine hC2.mono ?_; rintro e w8 ⟨rfl, g8, f8⟩))
      (refine ⟨?_, ?_⟩; focus (intro kz hk hk2; rintro ⟨qa, qb⟩; first | (exfalso; simp at hk2; omega) | exact ⟨qa, qb⟩ | (refine ⟨fun h => absurd h (by omega), ?_⟩; first | exact qb | (exact cell_fr qa f8 (fun h => h xS))) | (refine ⟨fun h => ?_, ?_⟩; (have qa := qa h); all_goals (first | exact qa | exact qb | (exact cell_fr qa f8 (fun h => h xS))))))
      have F8 := F7.drew.trans f8 (fun j hj hlt => hj (HX.out j hlt))
      have B8 := B7.drew.fr f8 (fun h => h xS)
      have k8 : w8.cell? ⟨bS, 0, none⟩ = some (.string (bs c0)) := B8.cell 0
      have h1 : Calls Try.prog 22 #[.pointer (some ⟨d, 0, none⟩)] w8 fun e w' => e = .returned (.string (bs (all.take n))) ∧ w8 = w' := Log_G g8
      have h2 : Calls Try.prog 25 #[.pointer (some ⟨d, 0, none⟩)] w8 fun e w' => e = .returned (.int .i64 q) ∧ w8 = w' := Flushed_G g8
      have H1 := hid h1
      have H2 := hid h2
      clear h1 h2 hC2 f8 F7 B7 g7 k0
      repeat
        first
        | (refine wpS_pure rfl rfl rfl ?_; apply Exists.intro; refine ⟨?_, ?_⟩; intro w; ((go_simp <;> rfl)); simp only [Act.put, List.setIfInBounds_toArray, List.set_cons_zero, List.set_cons_succ])
        | (refine wpS_take 22 rfl rfl (by decide +kernel) ⟨fun _ => k8, trivial⟩ ?_; apply Exists.intro; refine ⟨?_, ?_⟩; intro w hw; (have qa := (hw rfl).1 (Nat.le_refl _); have qb := (hw rfl).2); ((go_simp <;> rfl)); simp only [Act.put, List.setIfInBounds_toArray, List.set_cons_zero, List.set_cons_succ])
        | (refine wpS_skip rfl rfl ?_; simp only [Act.put, List.setIfInBounds_toArray, List.set_cons_zero, List.set_cons_succ])
      refine wpS_op rfl ?_
      go_wp2_with ((go_at_call 22; refine H1.out.mono ?_; rintro e w' ⟨rfl, rfl⟩))
      (refine ⟨?_, ?_⟩; focus (intro kz hk hk2; rintro ⟨qa, qb⟩; first | (exfalso; simp at hk2; omega) | exact ⟨qa, qb⟩ | (refine ⟨fun h => absurd h (by omega), ?_⟩; first | exact qb | (exact qa)) | (refine ⟨fun h => ?_, ?_⟩; (have qa := qa h); all_goals (first | exact qa | exact qb | (exact qa)))))
      repeat
        first
        | (refine wpS_pure rfl rfl rfl ?_; apply Exists.intro; refine ⟨?_, ?_⟩; intro w; ((go_simp <;> rfl)); simp only [Act.put, List.setIfInBounds_toArray, List.set_cons_zero, List.set_cons_succ])
        | (refine wpS_take 22 rfl rfl (by decide +kernel) ⟨fun _ => k8, trivial⟩ ?_; apply Exists.intro; refine ⟨?_, ?_⟩; intro w hw; (have qa := (hw rfl).1 (Nat.le_refl _); have qb := (hw rfl).2); ((go_simp <;> rfl)); simp only [Act.put, List.setIfInBounds_toArray, List.set_cons_zero, List.set_cons_succ])
        | (refine wpS_skip rfl rfl ?_; simp only [Act.put, List.setIfInBounds_toArray, List.set_cons_zero, List.set_cons_succ])
      refine wpS_op rfl ?_
      go_wp2_with ((go_at_call 25; refine H2.out.mono ?_; rintro e w' ⟨rfl, rfl⟩))
      (refine ⟨?_, ?_⟩; focus (intro kz hk hk2; rintro ⟨qa, qb⟩; first | (exfalso; simp at hk2; omega) | exact ⟨qa, qb⟩ | (refine ⟨fun h => absurd h (by omega), ?_⟩; first | exact qb | (exact qa)) | (refine ⟨fun h => ?_, ?_⟩; (have qa := qa h); all_goals (first | exact qa | exact qb | (exact qa)))))
      repeat
        first
        | (refine wpS_pure rfl rfl rfl ?_; apply Exists.intro; refine ⟨?_, ?_⟩; intro w; ((go_simp <;> rfl)); simp only [Act.put, List.setIfInBounds_toArray, List.set_cons_zero, List.set_cons_succ])
        | (refine wpS_take 22 rfl rfl (by decide +kernel) ⟨fun _ => k8, trivial⟩ ?_; apply Exists.intro; refine ⟨?_, ?_⟩; intro w hw; (have qa := (hw rfl).1 (Nat.le_refl _); have qb := (hw rfl).2); ((go_simp <;> rfl)); simp only [Act.put, List.setIfInBounds_toArray, List.set_cons_zero, List.set_cons_succ])
        | (refine wpS_skip rfl rfl ?_; simp only [Act.put, List.setIfInBounds_toArray, List.set_cons_zero, List.set_cons_succ])
      refine wpS_nil ?_
      have htn : (all.take n).length = n := by rw [List.length_take]; omega
      have hA := Append_G g8 (LogM.ok (by rw [htn]; omega) (by rw [htn]; exact hqn)) c2 (by omega)
      rw [LogM.append (by rw [htn]; omega)] at hA
      have k2 : w8.cell? ⟨bS, 2, none⟩ = some (.string (bs c2)) := B8.cell 2
      clear H1 H2 k8
      go_wp2_with (fail)
      refine hA.mono ?_
      rintro e w9 ⟨rfl, g9, f9⟩
      have F9 := F8.trans f9 (fun j hj hlt => hj (HX.out j hlt))
      have B9 := B8.fr f9 (fun h => h xS)
      have h1 : Calls Try.prog 22 #[.pointer (some ⟨d, 0, none⟩)] w9.drew fun e w' => e = .returned (.string (bs (all.take n ++ c2))) ∧ w9.drew = w' := Log_G (g9.fr (Fr.refl (fun _ => False) w9).drew (fun _ h => h.elim))
      have H1 := hid h1
      have k9 : w9.cell? ⟨bS, 2, none⟩ = some (.string (bs c2)) := B9.cell 2
      have e2 := fun w => run_add_bs (P := Try.prog) w (all.take n) c2 (by rw [htn]; omega)
      clear hA f9 F8 B8 g8 h1 k2
      go_wp2_with (fail)
      refine wp_region_script [(true, 0), (true, 2), (true, 3), (true, 4), (true, 5), (true, 6), (true, 7), (false, 1), (true, 8), (true, 9)] (fun kz w => (kz ≤ 9 → w.cell? ⟨bS, 2, none⟩ = some (.string (bs c2))) ∧ True) (by kernel_rfl) (by kernel_rfl) (by intro c a d v w h; cases d <;> exact h) ?_
      repeat
        first
        | (refine wpS_pure rfl rfl rfl ?_; apply Exists.intro; refine ⟨?_, ?_⟩; intro w; ((go_simp <;> rfl)); simp only [Act.put, List.setIfInBounds_toArray, List.set_cons_zero, List.set_cons_succ])
        | (refine wpS_take 9 rfl rfl (by decide +kernel) ⟨fun _ => k9, trivial⟩ ?_; apply Exists.intro; refine ⟨?_, ?_⟩; intro w hw; (have qa := (hw rfl).1 (Nat.le_refl _); have qb := (hw rfl).2); ((go_simp <;> rfl)); simp only [Act.put, List.setIfInBounds_toArray, List.set_cons_zero, List.set_cons_succ])
        | (refine wpS_skip rfl rfl ?_; simp only [Act.put, List.setIfInBounds_toArray, List.set_cons_zero, List.set_cons_succ])
      refine wpS_op rfl ?_
      go_wp2_with ((go_at_call 22; refine H1.out.mono ?_; rintro e w' ⟨rfl, rfl⟩))
      (refine ⟨?_, ?_⟩; focus (intro kz hk hk2; rintro ⟨qa, qb⟩; first | (exfalso; simp at hk2; omega) | exact ⟨qa, qb⟩ | (refine ⟨fun h => absurd h (by omega), ?_⟩; first | exact qb | (exact qa)) | (refine ⟨fun h => ?_, ?_⟩; (have qa := qa h); all_goals (first | exact qa | exact qb | (exact qa)))))
      repeat
        first
        | (refine wpS_pure rfl rfl rfl ?_; apply Exists.intro; refine ⟨?_, ?_⟩; intro w; ((go_simp <;> rfl)); simp only [Act.put, List.setIfInBounds_toArray, List.set_cons_zero, List.set_cons_succ])
        | (refine wpS_take 9 rfl rfl (by decide +kernel) ⟨fun _ => k9, trivial⟩ ?_; apply Exists.intro; refine ⟨?_, ?_⟩; intro w hw; (have qa := (hw rfl).1 (Nat.le_refl _); have qb := (hw rfl).2); ((go_simp <;> rfl)); simp only [Act.put, List.setIfInBounds_toArray, List.set_cons_zero, List.set_cons_succ])
        | (refine wpS_skip rfl rfl ?_; simp only [Act.put, List.setIfInBounds_toArray, List.set_cons_zero, List.set_cons_succ])
      refine wpS_nil ?_
      have hC := Crash_G (g9.fr (Fr.refl (fun _ => False) w9).drew (fun _ h => h.elim)) (LogM.ok (by simp; omega) (by simp; omega)) (by omega) (QRep_nil (R := X)) (by simp)
      rw [LogM.crash_nil, List.take_append_of_le_length (by rw [htn]; exact hqn), List.take_take, Nat.min_eq_left hqn] at hC
      clear H1 k9 e2 ee
      go_wp2_with (fail)
      refine hC.mono ?_
      rintro e w10 ⟨rfl, g10, f10⟩
      have F10 := F9.drew.trans f10 (fun j hj hlt => hj (HX.out j hlt))
      have B10 := B9.drew.fr f10 (fun h => h xS)
      have h1 : Calls Try.prog 22 #[.pointer (some ⟨d, 0, none⟩)] w10.drew fun e w' => e = .returned (.string (bs (all.take q))) ∧ w10.drew = w' := Log_G (g10.fr (Fr.refl (fun _ => False) w10).drew (fun _ h => h.elim))
      have H1 := hid h1
      have k10 : w10.cell? ⟨bS, 0, none⟩ = some (.string (bs c0)) := B10.cell 0
      have ee : (bs all).extract 0 q = bs (all.take q) := by apply ByteArray.ext; simp [bs]
      clear hC f10 F9 B9 g9 h1
      go_wp2_with (fail)
      refine wp_region_script [(true, 0), (true, 1), (true, 2), (true, 3), (true, 4), (true, 5), (true, 6), (true, 7), (true, 8), (true, 9), (true, 10), (true, 11), (true, 13), (true, 14), (true, 15), (true, 16), (true, 17), (true, 18), (true, 19), (false, 12), (true, 20), (true, 21), (true, 22)] (fun kz w => (kz ≤ 22 → w.cell? ⟨bS, 0, none⟩ = some (.string (bs c0))) ∧ True) (by kernel_rfl) (by kernel_rfl) (by intro c a d v w h; cases d <;> exact h) ?_
      repeat
        first
        | (refine wpS_pure rfl rfl rfl ?_; apply Exists.intro; refine ⟨?_, ?_⟩; intro w; ((go_simp <;> rfl)); simp only [Act.put, List.setIfInBounds_toArray, List.set_cons_zero, List.set_cons_succ])
        | (refine wpS_take 22 rfl rfl (by decide +kernel) ⟨fun _ => k10, trivial⟩ ?_; apply Exists.intro; refine ⟨?_, ?_⟩; intro w hw; (have qa := (hw rfl).1 (Nat.le_refl _); have qb := (hw rfl).2); ((go_simp <;> rfl)); simp only [Act.put, List.setIfInBounds_toArray, List.set_cons_zero, List.set_cons_succ])
        | (refine wpS_skip rfl rfl ?_; simp only [Act.put, List.setIfInBounds_toArray, List.set_cons_zero, List.set_cons_succ])
      refine wpS_op rfl ?_
      go_wp2_with ((go_at_call 22; refine H1.out.mono ?_; rintro e w' ⟨rfl, rfl⟩))
      (refine ⟨?_, ?_⟩; focus (intro kz hk hk2; rintro ⟨qa, qb⟩; first | (exfalso; simp at hk2; omega) | exact ⟨qa, qb⟩ | (refine ⟨fun h => absurd h (by omega), ?_⟩; first | exact qb | (exact qa)) | (refine ⟨fun h => ?_, ?_⟩; (have qa := qa h); all_goals (first | exact qa | exact qb | (exact qa)))))
      repeat
        first
        | (refine wpS_pure rfl rfl rfl ?_; apply Exists.intro; refine ⟨?_, ?_⟩; intro w; ((go_simp <;> rfl)); simp only [Act.put, List.setIfInBounds_toArray, List.set_cons_zero, List.set_cons_succ])
        | (refine wpS_take 22 rfl rfl (by decide +kernel) ⟨fun _ => k10, trivial⟩ ?_; apply Exists.intro; refine ⟨?_, ?_⟩; intro w hw; (have qa := (hw rfl).1 (Nat.le_refl _); have qb := (hw rfl).2); ((go_simp <;> rfl)); simp only [Act.put, List.setIfInBounds_toArray, List.set_cons_zero, List.set_cons_succ])
        | (refine wpS_skip rfl rfl ?_; simp only [Act.put, List.setIfInBounds_toArray, List.set_cons_zero, List.set_cons_succ])
      refine wpS_nil ?_
      go_wp2
      go_ret
      exact ⟨rfl, F10.drew⟩
theorem list3 {α : Type} {L : List α} (h : L.length = 3) : ∃ a b c, L = [a, b, c] := by
  match L, h with
  | [a, b, c], _ => exact ⟨a, b, c, rfl⟩
end Go.Proofs.Ytfalehgngioheaa
namespace Go.Proofs.Ytfalehgngioheaa.diskCuts
open Go.ChangeShapes Go.WideShapes Go.ChangeAt Go.RowKit Go.VB
set_option maxHeartbeats 400000 in
set_option maxRecDepth 100000 in
theorem lifted (os : Os) (started : os.Started) (H : Type) (enc : TypeId × Value → H) :
    ReturnsInHanded {} Try.checked os 8 .any (Rows.diskCutsSpec.pre6 enc Try.prog Try.f8 Rows.diskCutsRow.domain false) (Rows.diskCutsSpec.post enc Try.prog Try.f8 false true false false) := by
  refine returnsInHanded_of_change (C := Try.checked) own started (by kernel_rfl) Try.func8
    (ChangeSpec.witness6 (enc := enc) (C := Try.checked) false ⟨#[], #[.agg #[.string ⟨#[]⟩, .string ⟨#[]⟩, .string ⟨#[]⟩], .int .i64 0], []⟩ 8 (by kernel_rfl) (by kernel_rfl) (by kernel_rfl) (by kernel_rfl)) ?_
  intro W base args ds gs before hval0 hW hcnd _
  have hval : ∀ (j : Nat) t v, Try.f8.params[j]? = some t → args[j]? = some v → Value.okWide Try.prog W .any base t v := hval0
  have hW' := hW
  obtain ⟨p, q, hA0, hV, rfl, hfz, hnd⟩ := hW
  have hA : DataW.TrodAll enc Try.prog W 0 (fun _ => true) true Try.f8.params.toList args.toList ds p := hA0
  rw [Try.params8] at hA hval
  obtain ⟨v0, vs0, d0, ds0, p0, q0, hargs, rfl, rfl, h0, r0⟩ := trodAll_cons hA
  obtain ⟨v1, vs1, d1, ds1, p1, q1, rfl, rfl, rfl, h1, r1⟩ := trodAll_cons r0
  obtain ⟨rfl, rfl, rfl⟩ := trodAll_nil r1
  obtain rfl : args = #[v0, v1] := by cases args; simp_all
  obtain ⟨rfl, rfl⟩ := trodVars_none hV
  clear hA0 hval0
  refine Calls.mono (R := fun e w' => e = .returned (.bool true) ∧ Fr (fun _ => False) W w') ?_ fun e W' ⟨he, hf⟩ => ⟨_, he, post_law sound (by decide +kernel) rfl rfl (ht := Try.underlying4) (by rfl) hW' hf⟩
  obtain ⟨a1, rfl, -, -, -⟩ := open_int Try.underlying3 (hval 1 3 v1 rfl rfl) h1
  obtain ⟨L, rfl, hl, hg⟩ := open_ar Try.underlying46 (k := 1) (by kernel_rfl) (by kernel_rfl) (hval 0 46 v0 rfl rfl) h0 (fun s => [Value.string (bs s)]) (fun s => s.length ≤ maxLen) (fun fuel cs r h => elem_string Try.underlying9 fuel cs r h)
  rw [sv_flat]
  obtain ⟨t0, t1, t2, rfl⟩ := list3 hl
  exact DiskCuts_walk t0 t1 t2 (hg t0 (by simp)) (hg t1 (by simp)) (hg t2 (by simp)) a1 W
theorem proved : Rows.DiskCutsSaid :=
  OpenClaim.holds_of_wide 8 Try.f8 rfl rfl rfl rfl rfl rfl rfl ⟨rfl, rfl, rfl, rfl, rfl⟩ rfl rfl rfl rfl rfl (by kernel_rfl) Try.func8 (by kernel_rfl)
    (of_decide_eq_true (by kernel_rfl)) (by unfold Func.isWrapper; first | (rw [if_pos (by decide +kernel)]; kernel_rfl) | (rw [if_neg (by decide +kernel)]; exact ⟨rfl, rfl⟩))
    (fun os started H enc _ => lifted os started H enc)
end Go.Proofs.Ytfalehgngioheaa.diskCuts
