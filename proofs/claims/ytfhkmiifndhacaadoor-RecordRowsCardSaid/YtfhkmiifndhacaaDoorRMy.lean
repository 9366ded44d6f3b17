import Derived.Test.YtfhkmiifndhacaaDoorRM
/- vintnerlaw04.may: a valid row made of any row. -/
set_option linter.unusedVariables false
namespace Go.Proofs.YtfhkmiifndhacaaDoor
open Go.RowKit Go.VB Go.VB.Oct Go.VB.Rec
set_option maxRecDepth 20000 in
set_option maxHeartbeats 4000000 in
theorem may_go {P : Nat → Prop} {w : World} {va : Value} {r : List V} (h : Sl P w va r.length (r.flatMap V.cells)) (hn : r.length ≤ 9223372036854775807) :
    Calls Tryd.prog 6 #[va] w fun e w' => ∃ (a : Option Addr) (c : Nat), e = .returned (.slice a (mayRow r).length c) ∧ Row 50 3 w.heap.size w' (.slice a (mayRow r).length c) (mayRow r).length ((mayRow r).flatMap V.cells) ∧ Fr (fun _ => False) w w' := by
  obtain ⟨a, c, rfl, hc, hx⟩ := h
  have HX := hid (show Sl P w (.slice a r.length c) r.length (r.flatMap V.cells) from ⟨a, c, rfl, hc, hx⟩)
  clear hx
  have F0 := hid ((Fr.refl (fun _ => False) w).alloc (.cells #[] 50))
  have R0 := hid (Row.built (e := 50) (n := 0) (size := 3) (B := w.heap.size) w (l := []) rfl (by decide) (Nat.le_refl _))
  go_enter Tryd.func6, Tryd.ntmps6
  go_wp2_with (fail)
  go_loopw [3, 4] (fun v3 i wr => ∃ (j : Nat) (l : List V), j ≤ 6 ∧ j ≤ r.length ∧ i = .int .i64 j ∧ l = (r.take j).map V.may ∧ l.length = j ∧ Row 50 3 w.heap.size wr v3 l.length (l.flatMap V.cells) ∧ Fr (fun _ => False) w wr) (fun _ i _ => 6 - (intOf i).toNat)
  case atStart => exact ⟨0, [], by omega, by omega, rfl, rfl, rfl, R0.out, F0.out⟩
  case round =>
    obtain ⟨j, l, hj8, hjr, rfl, hl, hll, hrow, fr⟩ := hrel
    have HROW := hid hrow
    have FR := hid fr
    have HL := hid hl
    have HLL := hid hll
    obtain ⟨va, cc, rfl, _⟩ := hrow.slice
    clear hrow fr hl hll F0 R0
    have i1 : (0 : Int) ≤ (j : Int) := by omega
    by_cases hc6 : j < 6 ∧ j < r.length
    · obtain ⟨h8, hjl⟩ := hc6
      have i2 : (j : Int) < r.length := by omega
      have i3 : (j : Int) < 6 := by omega
      obtain ⟨g, o, rfl, hg, q0, q1, q2⟩ := sl_three (f := V.cells) vcells_len HX.out hjl
      have HSN := hid (map_snoc V.may r hjl)
      obtain ⟨x, hx⟩ : ∃ x, x = r[j] := ⟨_, rfl⟩
      rw [← hx] at q0 q1 q2 HSN
      clear hx
      obtain ⟨k, n, s⟩ := x
      simp only [V.cells, List.getElem?_cons_zero, List.getElem?_cons_succ] at q0 q1 q2
      have Z0 := hid q0
      have Z1 := hid q1
      have Z2 := hid q2
      replace q0 := cell_fr q0 FR.out (fun h => h)
      replace q1 := cell_fr q1 FR.out (fun h => h)
      replace q2 := cell_fr q2 FR.out (fun h => h)
      obtain ⟨q, hm, e1, hq⟩ := cut_str s 40
      obtain ⟨hm1, hm2⟩ := hm 40 rfl
      have e2 := bs_size s
      have i4 : (0 : Int) ≤ (q : Int) := by omega
      obtain ⟨y, hy1, hy2, hy3⟩ := and_16 k
      obtain ⟨m, hmm, hmo, hml⟩ : ∃ m : Nat, (y : Int).tmod 3 = (m : Int) ∧ (y : Int) % 3 = (m : Int) ∧ m < 3 := ⟨y % 3, by rw [Int.tmod_eq_emod_of_nonneg (by omega)]; omega, by omega, by omega⟩
      have hkm : (k % 65536) % 3 = (m : Int) := by omega
      have HCE := hid (show V.cells (V.may ⟨k, n, s⟩) = [.int .i64 (m : Int), .int .i64 n, .string (bs (s.take 40))] from by unfold V.may V.cells; dsimp only; rw [hkm])
      have HMM := hid hmm
      have HM3 := hid (show ¬ (3 : Int) = 0 by decide)
      have FD := hid ((Fr.refl (fun _ => False) wr).drew)
      have Q0 := hid (cell_fr q0 FD.out (fun h => h))
      have Q1 := hid (cell_fr q1 FD.out (fun h => h))
      have Q2 := hid (cell_fr q2 FD.out (fun h => h))
      have HR2 := hid (HROW.out.fre FD.out)
      have HF2 := hid (FR.out.trans FD.out (fun _ h _ => h))
      clear hm hkm hmm q0 q1 q2 hy3
      go_upto_region 5 with fail
      refine wp_region_scr (.take 0 (.take 1 (.take 2 (.take 3 (.take 4 (.take 5 (.take 6 (.take 7 (.take 8 (.take 9 (.take 10 (.take 11 (.take 12 (.take 13 (.take 14 (.take 15 (.take 16 (.take 17 (.take 18 (.take 19 (.take 20 (.take 21 (.take 22 (.take 23 (.take 24 (.take 25 (.op 26 (.op 27 (.op 28 (.take 29 .done)))))))))))))))))))))))))))))) (fun kz w => (kz ≤ 29 → w.cell? ⟨g, o + j * 3, none⟩ = some (.int .i64 k) ∧ w.cell? ⟨g, o + j * 3 + 1, none⟩ = some (.int .i64 n) ∧ w.cell? ⟨g, o + j * 3 + 2, none⟩ = some (.string (bs s))) ∧ True) (by kernel_rfl) (by kernel_rfl) (by intro c a d v w h; cases d <;> exact h) ?_
      repeat
        first
        | (refine wpT_pure rfl rfl rfl ?_; apply Exists.intro; refine ⟨?_, ?_⟩; intro w; (first | (first | (obtain ⟨qa1, qa2, qa3⟩ := qa; go_simp <;> rfl) | (refine Eq.trans (b := Result.ok (Next.value (.int .i64 (m : Int))) w) ?_ rfl; go_simp; first | done | rw [HMM.out] | rw [if_neg HM3.out, HMM.out] | rw [if_neg HM3.out]) | (refine Eq.trans (b := Result.ok (Next.value (.int .i64 (q : Int))) w) ?_ rfl; go_simp; first | done | rw [hm1] | rw [hm2]) | (refine Eq.trans (b := Result.ok (Next.value (.string (bs (s.take 40)))) w) ?_ rfl; go_simp; first | done | rw [e1] | rw [if_pos ⟨i4, hq⟩, e1]) | (go_simp <;> rfl)) | (go_simp <;> rfl)); simp only [Act.put, List.setIfInBounds_toArray, List.set_cons_zero, List.set_cons_succ])
        | (refine wpT_take 29 rfl rfl (by decide +kernel) ⟨fun _ => ⟨Q0.out, Q1.out, Q2.out⟩, trivial⟩ ?_; apply Exists.intro; refine ⟨?_, ?_⟩; intro w hw; (have qa := hw.1 (Nat.le_refl _); have qb := hw.2); (first | (first | (obtain ⟨qa1, qa2, qa3⟩ := qa; go_simp <;> rfl) | (refine Eq.trans (b := Result.ok (Next.value (.int .i64 (m : Int))) w) ?_ rfl; go_simp; first | done | rw [HMM.out] | rw [if_neg HM3.out, HMM.out] | rw [if_neg HM3.out]) | (refine Eq.trans (b := Result.ok (Next.value (.int .i64 (q : Int))) w) ?_ rfl; go_simp; first | done | rw [hm1] | rw [hm2]) | (refine Eq.trans (b := Result.ok (Next.value (.string (bs (s.take 40)))) w) ?_ rfl; go_simp; first | done | rw [e1] | rw [if_pos ⟨i4, hq⟩, e1]) | (go_simp <;> rfl)) | (go_simp <;> rfl)); simp only [Act.put, List.setIfInBounds_toArray, List.set_cons_zero, List.set_cons_succ])
        | (refine wpT_skip rfl rfl ?_; simp only [Act.put, List.setIfInBounds_toArray, List.set_cons_zero, List.set_cons_succ])
      have A0 := hid (fun o => cell_fr Q0.out ((Fr.refl (fun _ => False) wr.drew).alloc o) (fun h => h))
      have A1 := hid (fun o => cell_fr Q1.out ((Fr.refl (fun _ => False) wr.drew).alloc o) (fun h => h))
      have A2 := hid (fun o => cell_fr Q2.out ((Fr.refl (fun _ => False) wr.drew).alloc o) (fun h => h))
      refine wpT_op rfl ?_
      go_wp2_with (fail)
      (refine ⟨?_, ?_⟩; focus (intro kz hk hk2 hh; first | (exfalso; simp at hk2; omega) | exact hh | exact (fun h => absurd h (by omega)) | obtain ⟨qa, qb⟩ := hh; first | exact ⟨qa, qb⟩ | (refine ⟨fun h => absurd h (by omega), ?_⟩; first | exact qb | (exact ⟨Q0.out, Q1.out, Q2.out⟩)) | (refine ⟨fun h => ?_, ?_⟩; (have qa := qa h); all_goals (first | exact qa | exact qb | (exact ⟨Q0.out, Q1.out, Q2.out⟩)))))
      refine wpT_op rfl ?_
      go_wp2_with (fail)
      (refine ⟨?_, ?_⟩; focus (intro kz hk hk2 hh; first | (exfalso; simp at hk2; omega) | exact hh | exact (fun h => absurd h (by omega)) | obtain ⟨qa, qb⟩ := hh; first | exact ⟨qa, qb⟩ | (refine ⟨fun h => absurd h (by omega), ?_⟩; first | exact qb | (exact ⟨A0.out _, A1.out _, A2.out _⟩)) | (refine ⟨fun h => ?_, ?_⟩; (have qa := qa h); all_goals (first | exact qa | exact qb | (exact ⟨A0.out _, A1.out _, A2.out _⟩)))))
      refine wpT_op rfl ?_
      go_wp2_with ((at_builtin; refine wpList_app1 rfl (s := .tmp 16) (x := .tmp 43) (t := 23) rfl Tryd.underlying23 info_val val_cells rfl rfl HR2.out HF2.out.size rfl (by simp [Value.oneCell']) (by have := HLL.out; omega) (by have := HLL.out; omega) ?_; intro ab ac wg APP; have HG := hid (show Row 50 3 w.heap.size wg (.slice ab (l.length + 1) ac) (l ++ [V.may ⟨k, n, s⟩]).length ((l ++ [V.may ⟨k, n, s⟩]).flatMap V.cells) ∧ Fr (fun _ => False) w wg from ⟨APP.row.cast (by simp) (by simp [HCE.out]), HF2.out.trans APP.fr (fun k hk hl => by have := HR2.out.new k hk; omega)⟩); clear APP))
      (refine ⟨?_, ?_⟩; focus (intro kz hk hk2 hh; first | (exfalso; simp at hk2; omega) | exact hh | exact (fun h => absurd h (by omega)) | obtain ⟨qa, qb⟩ := hh; first | exact ⟨qa, qb⟩ | (refine ⟨fun h => absurd h (by omega), ?_⟩; first | exact qb | (exact ⟨cell_fr Z0.out HG.out.2 (fun h => h), cell_fr Z1.out HG.out.2 (fun h => h), cell_fr Z2.out HG.out.2 (fun h => h)⟩)) | (refine ⟨fun h => ?_, ?_⟩; (have qa := qa h); all_goals (first | exact qa | exact qb | (exact ⟨cell_fr Z0.out HG.out.2 (fun h => h), cell_fr Z1.out HG.out.2 (fun h => h), cell_fr Z2.out HG.out.2 (fun h => h)⟩)))))
      repeat
        first
        | (refine wpT_pure rfl rfl rfl ?_; apply Exists.intro; refine ⟨?_, ?_⟩; intro w; ((go_simp <;> rfl)); simp only [Act.put, List.setIfInBounds_toArray, List.set_cons_zero, List.set_cons_succ])
        | (refine wpT_take 29 rfl rfl (by decide +kernel) ⟨fun _ => ⟨cell_fr Z0.out HG.out.2 (fun h => h), cell_fr Z1.out HG.out.2 (fun h => h), cell_fr Z2.out HG.out.2 (fun h => h)⟩, trivial⟩ ?_; apply Exists.intro; refine ⟨?_, ?_⟩; intro w hw; (have qa := hw.1 (Nat.le_refl _); have qb := hw.2); ((go_simp <;> rfl)); simp only [Act.put, List.setIfInBounds_toArray, List.set_cons_zero, List.set_cons_succ])
        | (refine wpT_skip rfl rfl ?_; simp only [Act.put, List.setIfInBounds_toArray, List.set_cons_zero, List.set_cons_succ])
      refine wpT_nil ?_
      go_wp2_with (fail)
      go_roundw
      case rel => exact ⟨j + 1, l ++ [V.may ⟨k, n, s⟩], by omega, by omega, by simp, by rw [HSN.out, HL.out], by have := HLL.out; simp; omega, HG.out.1, HG.out.2⟩
      case measure => simp [intOf]; omega
    · have hcut : l = mayRow r := by
        rw [HL.out]
        unfold mayRow
        congr 1
        have : j = min 6 r.length := by omega
        rw [this, take_min]
      have HCU := hid hcut
      clear hcut
      have hor : (6 : Int) ≤ (j : Int) ∨ (r.length : Int) ≤ (j : Int) := by omega
      rcases hor with h8 | h8
      all_goals
        go_wp2_with (fail)
        all_goals (go_ret; rw [← HCU.out]; exact ⟨_, _, rfl, HROW.out, FR.out⟩)
end Go.Proofs.YtfhkmiifndhacaaDoor
