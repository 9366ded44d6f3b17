import Derived.Test.YtgkfdlpijefgkaaGreatDoorCtU
import Derived.Test.YtgkfdlpijefgkaaGreatDoorSort
/- Comparing two values: the world only grows. slices.SortFunc of values. -/
set_option linter.unusedVariables false
namespace Go.VB
open Go.RowKit
/-- the world has grown: draws, new blocks, nothing else -/
structure FG (w w' : World) : Prop where
  fr : Fr (fun _ => False) w w'
  gw : ∃ (q : Nat) (os : Array Obj), w' = Go.Sort.grow (w.drewN q) os
namespace FG
variable {w w' w'' : World}
theorem refl (w : World) : FG w w := ⟨Fr.refl _ w, 0, #[], by rw [Go.Sort.grow_empty]; rfl⟩
theorem alloc (h : FG w w') (o : Obj) : FG w (w'.alloc o) := by
  obtain ⟨q, os, e⟩ := h.gw
  exact ⟨h.fr.alloc o, q, os ++ #[o], by rw [e, Go.Sort.alloc_eq_grow, Go.Sort.grow_grow]⟩
theorem drew (h : FG w w') : FG w w'.drew := by
  obtain ⟨q, os, e⟩ := h.gw
  exact ⟨h.fr.drew, q + 1, os, by rw [e]; rfl⟩
theorem trans (h : FG w w') (g : FG w' w'') : FG w w'' := by
  obtain ⟨q, os, e⟩ := h.gw
  obtain ⟨q', os', e'⟩ := g.gw
  refine ⟨h.fr.trans g.fr (fun _ h _ => h), q + q', os ++ os', ?_⟩
  rw [e', e]
  unfold Go.Sort.grow World.drewN
  simp only [Nat.add_assoc, Array.append_assoc]
end FG
end Go.VB
namespace Go.Proofs.YtgkfdlpijefgkaaGreatDoor
open Go.RowKit Go.VB Go.VB.Oct Go.VB.Cat Go.VB.Rec
theorem kind0G_go (a b : V) (w : World) : Calls Tryz.prog 160 #[vagg a, vagg b] w fun e w' => e = .returned (.int .i64 0) ∧ FG w w' := by
  unfold vagg V.cells
  go_enter Tryz.func160, Tryz.ntmps160
  go_wp2
  go_ret
  exact ⟨rfl, ((FG.refl w).alloc _).alloc _⟩
theorem kind1G_go (a b : V) (w : World) : Calls Tryz.prog 161 #[vagg a, vagg b] w fun e w' => e = .returned (.int .i64 (Lib.compareInt a.n b.n)) ∧ FG w w' := by
  unfold vagg V.cells
  go_enter Tryz.func161, Tryz.ntmps161
  go_wp2_with (go_at_call 162; refine (cmp64_go _ _ _).mono ?_; rintro e w1 ⟨rfl, rfl⟩)
  go_ret
  exact ⟨rfl, ((FG.refl w).alloc _).alloc _⟩
theorem kind2G_go (a b : V) (w : World) : Calls Tryz.prog 163 #[vagg a, vagg b] w fun e w' => e = .returned (.int .i64 (Lib.compareBytes a.s b.s)) ∧ FG w w' := by
  unfold vagg V.cells
  go_enter Tryz.func163, Tryz.ntmps163
  go_wp2_with (go_at_call 164; refine (Tryz.strings_Compare _ _ _).mono ?_; rintro e w1 ⟨rfl, rfl⟩)
  go_ret
  exact ⟨rfl, ((FG.refl w).alloc _).alloc _⟩
theorem VCompareG_go (a b : V) {w : World} (K : Kn w) : Calls Tryz.prog 40 #[vagg a, vagg b] w fun e w' => e = .returned (.int .i64 (V.cmp a b)) ∧ FG w w' := by
  have KH := hid K
  have HC := hid (fun w => Tryz.cmp_Compare_int (rank a.k) (rank b.k) w)
  have HA := hid (fun w => rank_go a.k w)
  have HB := hid (fun w => rank_go b.k w)
  have B0 := hid ((Blk.new w a.cells 46).alloc (.cells b.cells.toArray 46)).drew
  have B1 := hid (Blk.new (w.alloc (.cells a.cells.toArray 46)) b.cells 46).drew
  have FZ := hid (((FG.refl w).alloc (.cells a.cells.toArray 46)).alloc (.cells b.cells.toArray 46)).drew
  have HK0 := hid (fun w => kind0G_go a b w)
  have HK1 := hid (fun w => kind1G_go a b w)
  have HK2 := hid (fun w => kind2G_go a b w)
  have hvc : V.cmp a b = (if rank a.k ≠ rank b.k then Lib.compareInt (rank a.k) (rank b.k) else if a.k = 1 then Lib.compareInt a.n b.n else if a.k = 2 then Lib.compareBytes a.s b.s else 0) := rfl
  rw [hvc]
  obtain ⟨z, hz⟩ : ∃ z, (if rank a.k ≠ rank b.k then Lib.compareInt (rank a.k) (rank b.k) else if a.k = 1 then Lib.compareInt a.n b.n else if a.k = 2 then Lib.compareBytes a.s b.s else 0) = z := ⟨_, rfl⟩
  rw [hz]
  have HZ := hid hz
  clear hz
  have hrk : ∀ k : Int, (rank k = k ∧ 0 ≤ k ∧ k ≤ 2) ∨ (rank k = 3 ∧ ¬ (0 ≤ k ∧ k ≤ 2)) := fun k => by
    by_cases h : 0 ≤ k ∧ k ≤ 2
    · exact .inl ⟨by unfold rank; rw [if_pos h], h⟩
    · exact .inr ⟨by unfold rank; rw [if_neg h], h⟩
  have HRA := hid (hrk a.k)
  have HRB := hid (hrk b.k)
  have HKA := hid (fun w => known_go a.k w)
  unfold vagg V.cells at *
  obtain ⟨ak, an, ax⟩ := a
  obtain ⟨bk, bn, bx⟩ := b
  dsimp only at *
  clear hvc hrk K
  generalize hra : rank ak = ra at *
  generalize hrb : rank bk = rb at *
  obtain ⟨c, hc⟩ : ∃ c, Lib.compareInt ra rb = c := ⟨_, rfl⟩
  have hcz : c = 0 ↔ ra = rb := by
    rw [← hc]; unfold Lib.compareInt; split
    · omega
    · split <;> omega
  rw [hc] at HC HZ
  have HCZ := hid hcz
  clear hc hcz hra hrb
  go_enter Tryz.func40, Tryz.ntmps40
  go_upto_region 1 with fail
  simp only [World.size_alloc] at B1
  generalize w.heap.size = p at *
  refine wp_region_scr (.take 0 (.take 1 (.take 3 (.take 4 (.op 2 (.op 5 (.op 6 (.take 7 .done)))))))) (fun kz w => (kz ≤ 8 → w.cell? ⟨p, 0, none⟩ = some (.int .i64 ak) ∧ w.cell? ⟨p + 1, 0, none⟩ = some (.int .i64 bk)) ∧ True) (by kernel_rfl) (by kernel_rfl) (by intro c a d v w h; cases d <;> exact h) ?_
  repeat
    first
    | (refine wpT_pure rfl rfl rfl ?_; apply Exists.intro; refine ⟨?_, ?_⟩; intro w; (first | (first | (obtain ⟨qa1, qa2⟩ := qa; go_simp <;> rfl)) | (go_simp <;> rfl)); simp only [Act.put, List.setIfInBounds_toArray, List.set_cons_zero, List.set_cons_succ])
    | (refine wpT_take 8 rfl rfl (by decide +kernel) ⟨fun _ => ⟨B0.out.cell 0, B1.out.cell 0⟩, trivial⟩ ?_; apply Exists.intro; refine ⟨?_, ?_⟩; intro w hw; (have qa := hw.1 (Nat.le_refl _); have qb := hw.2); (first | (first | (obtain ⟨qa1, qa2⟩ := qa; go_simp <;> rfl)) | (go_simp <;> rfl)); simp only [Act.put, List.setIfInBounds_toArray, List.set_cons_zero, List.set_cons_succ])
    | (refine wpT_skip rfl rfl ?_; simp only [Act.put, List.setIfInBounds_toArray, List.set_cons_zero, List.set_cons_succ])
  refine wpT_op rfl ?_
  go_wp2_with ((go_at_call 70; refine (HA.out _).mono ?_; rintro e w1 ⟨rfl, rfl⟩))
  (refine ⟨?_, ?_⟩; focus (intro kz hk hk2 hh; first | (exfalso; simp at hk2; omega) | exact hh | exact (fun h => absurd h (by omega)) | obtain ⟨qa, qb⟩ := hh; first | exact ⟨qa, qb⟩ | (refine ⟨fun h => absurd h (by omega), ?_⟩; first | exact qb | (exact ⟨B0.out.cell 0, B1.out.cell 0⟩)) | (refine ⟨fun h => ?_, ?_⟩; (have qa := qa h); all_goals (first | exact qa | exact qb | (exact ⟨B0.out.cell 0, B1.out.cell 0⟩)))))
  refine wpT_op rfl ?_
  go_wp2_with ((go_at_call 70; refine (HB.out _).mono ?_; rintro e w1 ⟨rfl, rfl⟩))
  (refine ⟨?_, ?_⟩; focus (intro kz hk hk2 hh; first | (exfalso; simp at hk2; omega) | exact hh | exact (fun h => absurd h (by omega)) | obtain ⟨qa, qb⟩ := hh; first | exact ⟨qa, qb⟩ | (refine ⟨fun h => absurd h (by omega), ?_⟩; first | exact qb | (exact ⟨B0.out.cell 0, B1.out.cell 0⟩)) | (refine ⟨fun h => ?_, ?_⟩; (have qa := qa h); all_goals (first | exact qa | exact qb | (exact ⟨B0.out.cell 0, B1.out.cell 0⟩)))))
  refine wpT_op rfl ?_
  go_wp2_with ((go_at_call 41; refine (HC.out _).mono ?_; rintro e w1 ⟨rfl, rfl⟩))
  (refine ⟨?_, ?_⟩; focus (intro kz hk hk2 hh; first | (exfalso; simp at hk2; omega) | exact hh | exact (fun h => absurd h (by omega)) | obtain ⟨qa, qb⟩ := hh; first | exact ⟨qa, qb⟩ | (refine ⟨fun h => absurd h (by omega), ?_⟩; first | exact qb | (exact ⟨B0.out.cell 0, B1.out.cell 0⟩)) | (refine ⟨fun h => ?_, ?_⟩; (have qa := qa h); all_goals (first | exact qa | exact qb | (exact ⟨B0.out.cell 0, B1.out.cell 0⟩)))))
  repeat
    first
    | (refine wpT_pure rfl rfl rfl ?_; apply Exists.intro; refine ⟨?_, ?_⟩; intro w; ((go_simp <;> rfl)); simp only [Act.put, List.setIfInBounds_toArray, List.set_cons_zero, List.set_cons_succ])
    | (refine wpT_take 8 rfl rfl (by decide +kernel) ⟨fun _ => ⟨B0.out.cell 0, B1.out.cell 0⟩, trivial⟩ ?_; apply Exists.intro; refine ⟨?_, ?_⟩; intro w hw; (have qa := hw.1 (Nat.le_refl _); have qb := hw.2); ((go_simp <;> rfl)); simp only [Act.put, List.setIfInBounds_toArray, List.set_cons_zero, List.set_cons_succ])
    | (refine wpT_skip rfl rfl ?_; simp only [Act.put, List.setIfInBounds_toArray, List.set_cons_zero, List.set_cons_succ])
  refine wpT_nil ?_
  by_cases hne : ra = rb
  · obtain rfl : c = 0 := HCZ.out.2 hne
    by_cases hr : 0 ≤ ak ∧ ak ≤ 2
    · have h1 : (decide (0 ≤ ak) && decide (ak ≤ 2)) = true := by simp [hr]
      rw [h1] at HKA
      have HR := hid hr
      have HNE := hid hne
      have c0 : ((w.alloc (.cells #[.int .i64 ak, .int .i64 an, .string (bs ax)] 46)).alloc (.cells #[.int .i64 bk, .int .i64 bn, .string (bs bx)] 46)).drew.cell? ⟨p, 0, none⟩ = some (.int .i64 ak) := B0.out.cell 0
      clear h1 hr hne
      rcases (by have := HR.out; omega : ak = 0 ∨ ak = 1 ∨ ak = 2) with hk | hk | hk
      · obtain rfl : ak = 0 := hk
        go_upto_region 4 with (go_at_call 33; refine (HKA.out _).mono ?_; rintro e w1 ⟨rfl, rfl⟩)
        have KD := hid (KH.out.fre FZ.out.drew.fr)
        have R0 := hid (B0.out.drew.all)
        have R1 := hid (B1.out.drew.all)
        clear HKA HA HB HC HCZ HRA HRB
        refine wp_region_scr (.take 0 (.take 1 (.take 2 (.take 3 (.take 4 (.take 5 (.op 6 (.take 7 .done)))))))) (fun kz w => (kz ≤ 8 → w.rangeAt p 0 [.int .i64 0, .int .i64 an, .string (bs ax)]) ∧ (w.rangeAt (p + 1) 0 [.int .i64 bk, .int .i64 bn, .string (bs bx)] ∧ w.cell? ⟨p, 0, none⟩ = some (.int .i64 0) ∧ w.cell? ⟨0, 0, none⟩ = some (.func (.func 160) #[] #[]))) (by kernel_rfl) (by kernel_rfl) (by intro c a d v w h; cases d <;> exact h) ?_
        repeat
          first
          | (refine wpT_pure rfl rfl rfl ?_; apply Exists.intro; refine ⟨?_, ?_⟩; intro w; (first | (first | exact run_load_mid _ _ rfl p _ rfl _ _ qa Tryz.underlying46 rfl size_V | exact run_load_mid _ _ rfl (p + 1) _ rfl _ _ qb.1 Tryz.underlying46 rfl size_V | (obtain ⟨qb1, qb2, qb3⟩ := qb; go_simp <;> rfl)) | (go_simp <;> rfl)); simp only [Act.put, List.setIfInBounds_toArray, List.set_cons_zero, List.set_cons_succ])
          | (refine wpT_take 8 rfl rfl (by decide +kernel) ⟨fun _ => R0.out, R1.out, B0.out.drew.cell 0, KD.out.k0⟩ ?_; apply Exists.intro; refine ⟨?_, ?_⟩; intro w hw; (have qa := hw.1 (Nat.le_refl _); have qb := hw.2); (first | (first | exact run_load_mid _ _ rfl p _ rfl _ _ qa Tryz.underlying46 rfl size_V | exact run_load_mid _ _ rfl (p + 1) _ rfl _ _ qb.1 Tryz.underlying46 rfl size_V | (obtain ⟨qb1, qb2, qb3⟩ := qb; go_simp <;> rfl)) | (go_simp <;> rfl)); simp only [Act.put, List.setIfInBounds_toArray, List.set_cons_zero, List.set_cons_succ])
          | (refine wpT_skip rfl rfl ?_; simp only [Act.put, List.setIfInBounds_toArray, List.set_cons_zero, List.set_cons_succ])
        refine wpT_op rfl ?_
        go_wp2_with ((go_at_call 160; refine (HK0.out _).mono ?_; rintro e w9 ⟨rfl, f⟩; have F9 := hid f; have R2 := hid (fun i u hu => cell_fr (R0.out i u hu) f.fr (fun h => h) : w9.rangeAt p 0 [.int .i64 0, .int .i64 an, .string (bs ax)]); have R3 := hid (fun i u hu => cell_fr (R1.out i u hu) f.fr (fun h => h) : w9.rangeAt (p + 1) 0 [.int .i64 bk, .int .i64 bn, .string (bs bx)]); have R4 := hid (cell_fr (B0.out.drew.cell 0) f.fr (fun h => h)); have R5 := hid (KD.out.fre f.fr); clear f))
        (refine ⟨?_, ?_⟩; focus (intro kz hk hk2 hh; first | (exfalso; simp at hk2; omega) | exact hh | exact (fun h => absurd h (by omega)) | obtain ⟨qa, qb⟩ := hh; first | exact ⟨qa, qb⟩ | (refine ⟨fun h => absurd h (by omega), ?_⟩; first | exact qb | (first | exact R2.out | exact ⟨R3.out, R4.out, R5.out.k0⟩)) | (refine ⟨fun h => ?_, ?_⟩; (have qa := qa h); all_goals (first | exact qa | exact qb | (first | exact R2.out | exact ⟨R3.out, R4.out, R5.out.k0⟩)))))
        repeat
          first
          | (refine wpT_pure rfl rfl rfl ?_; apply Exists.intro; refine ⟨?_, ?_⟩; intro w; ((go_simp <;> rfl)); simp only [Act.put, List.setIfInBounds_toArray, List.set_cons_zero, List.set_cons_succ])
          | (refine wpT_take 8 rfl rfl (by decide +kernel) ⟨fun h => absurd h (by omega), trivial⟩ ?_; apply Exists.intro; refine ⟨?_, ?_⟩; intro w hw; (have qa := hw.1 (Nat.le_refl _); have qb := hw.2); ((go_simp <;> rfl)); simp only [Act.put, List.setIfInBounds_toArray, List.set_cons_zero, List.set_cons_succ])
          | (refine wpT_skip rfl rfl ?_; simp only [Act.put, List.setIfInBounds_toArray, List.set_cons_zero, List.set_cons_succ])
        refine wpT_nil ?_
        go_wp2_with (fail)
        go_ret
        exact ⟨ret_int (by rw [← HZ.out, if_neg (fun h => h HNE.out)]; simp), FZ.out.drew.trans F9.out⟩
      · obtain rfl : ak = 1 := hk
        go_upto_region 4 with (go_at_call 33; refine (HKA.out _).mono ?_; rintro e w1 ⟨rfl, rfl⟩)
        have KD := hid (KH.out.fre FZ.out.drew.fr)
        have R0 := hid (B0.out.drew.all)
        have R1 := hid (B1.out.drew.all)
        clear HKA HA HB HC HCZ HRA HRB
        refine wp_region_scr (.take 0 (.take 1 (.take 2 (.take 3 (.take 4 (.take 5 (.op 6 (.take 7 .done)))))))) (fun kz w => (kz ≤ 8 → w.rangeAt p 0 [.int .i64 1, .int .i64 an, .string (bs ax)]) ∧ (w.rangeAt (p + 1) 0 [.int .i64 bk, .int .i64 bn, .string (bs bx)] ∧ w.cell? ⟨p, 0, none⟩ = some (.int .i64 1) ∧ w.cell? ⟨0, 1, none⟩ = some (.func (.func 161) #[] #[]))) (by kernel_rfl) (by kernel_rfl) (by intro c a d v w h; cases d <;> exact h) ?_
        repeat
          first
          | (refine wpT_pure rfl rfl rfl ?_; apply Exists.intro; refine ⟨?_, ?_⟩; intro w; (first | (first | exact run_load_mid _ _ rfl p _ rfl _ _ qa Tryz.underlying46 rfl size_V | exact run_load_mid _ _ rfl (p + 1) _ rfl _ _ qb.1 Tryz.underlying46 rfl size_V | (obtain ⟨qb1, qb2, qb3⟩ := qb; go_simp <;> rfl)) | (go_simp <;> rfl)); simp only [Act.put, List.setIfInBounds_toArray, List.set_cons_zero, List.set_cons_succ])
          | (refine wpT_take 8 rfl rfl (by decide +kernel) ⟨fun _ => R0.out, R1.out, B0.out.drew.cell 0, KD.out.k1⟩ ?_; apply Exists.intro; refine ⟨?_, ?_⟩; intro w hw; (have qa := hw.1 (Nat.le_refl _); have qb := hw.2); (first | (first | exact run_load_mid _ _ rfl p _ rfl _ _ qa Tryz.underlying46 rfl size_V | exact run_load_mid _ _ rfl (p + 1) _ rfl _ _ qb.1 Tryz.underlying46 rfl size_V | (obtain ⟨qb1, qb2, qb3⟩ := qb; go_simp <;> rfl)) | (go_simp <;> rfl)); simp only [Act.put, List.setIfInBounds_toArray, List.set_cons_zero, List.set_cons_succ])
          | (refine wpT_skip rfl rfl ?_; simp only [Act.put, List.setIfInBounds_toArray, List.set_cons_zero, List.set_cons_succ])
        refine wpT_op rfl ?_
        go_wp2_with ((go_at_call 161; refine (HK1.out _).mono ?_; rintro e w9 ⟨rfl, f⟩; have F9 := hid f; have R2 := hid (fun i u hu => cell_fr (R0.out i u hu) f.fr (fun h => h) : w9.rangeAt p 0 [.int .i64 1, .int .i64 an, .string (bs ax)]); have R3 := hid (fun i u hu => cell_fr (R1.out i u hu) f.fr (fun h => h) : w9.rangeAt (p + 1) 0 [.int .i64 bk, .int .i64 bn, .string (bs bx)]); have R4 := hid (cell_fr (B0.out.drew.cell 0) f.fr (fun h => h)); have R5 := hid (KD.out.fre f.fr); clear f))
        (refine ⟨?_, ?_⟩; focus (intro kz hk hk2 hh; first | (exfalso; simp at hk2; omega) | exact hh | exact (fun h => absurd h (by omega)) | obtain ⟨qa, qb⟩ := hh; first | exact ⟨qa, qb⟩ | (refine ⟨fun h => absurd h (by omega), ?_⟩; first | exact qb | (first | exact R2.out | exact ⟨R3.out, R4.out, R5.out.k1⟩)) | (refine ⟨fun h => ?_, ?_⟩; (have qa := qa h); all_goals (first | exact qa | exact qb | (first | exact R2.out | exact ⟨R3.out, R4.out, R5.out.k1⟩)))))
        repeat
          first
          | (refine wpT_pure rfl rfl rfl ?_; apply Exists.intro; refine ⟨?_, ?_⟩; intro w; ((go_simp <;> rfl)); simp only [Act.put, List.setIfInBounds_toArray, List.set_cons_zero, List.set_cons_succ])
          | (refine wpT_take 8 rfl rfl (by decide +kernel) ⟨fun h => absurd h (by omega), trivial⟩ ?_; apply Exists.intro; refine ⟨?_, ?_⟩; intro w hw; (have qa := hw.1 (Nat.le_refl _); have qb := hw.2); ((go_simp <;> rfl)); simp only [Act.put, List.setIfInBounds_toArray, List.set_cons_zero, List.set_cons_succ])
          | (refine wpT_skip rfl rfl ?_; simp only [Act.put, List.setIfInBounds_toArray, List.set_cons_zero, List.set_cons_succ])
        refine wpT_nil ?_
        go_wp2_with (fail)
        go_ret
        exact ⟨ret_int (by rw [← HZ.out, if_neg (fun h => h HNE.out)]; simp), FZ.out.drew.trans F9.out⟩
      · obtain rfl : ak = 2 := hk
        go_upto_region 4 with (go_at_call 33; refine (HKA.out _).mono ?_; rintro e w1 ⟨rfl, rfl⟩)
        have KD := hid (KH.out.fre FZ.out.drew.fr)
        have R0 := hid (B0.out.drew.all)
        have R1 := hid (B1.out.drew.all)
        clear HKA HA HB HC HCZ HRA HRB
        refine wp_region_scr (.take 0 (.take 1 (.take 2 (.take 3 (.take 4 (.take 5 (.op 6 (.take 7 .done)))))))) (fun kz w => (kz ≤ 8 → w.rangeAt p 0 [.int .i64 2, .int .i64 an, .string (bs ax)]) ∧ (w.rangeAt (p + 1) 0 [.int .i64 bk, .int .i64 bn, .string (bs bx)] ∧ w.cell? ⟨p, 0, none⟩ = some (.int .i64 2) ∧ w.cell? ⟨0, 2, none⟩ = some (.func (.func 163) #[] #[]))) (by kernel_rfl) (by kernel_rfl) (by intro c a d v w h; cases d <;> exact h) ?_
        repeat
          first
          | (refine wpT_pure rfl rfl rfl ?_; apply Exists.intro; refine ⟨?_, ?_⟩; intro w; (first | (first | exact run_load_mid _ _ rfl p _ rfl _ _ qa Tryz.underlying46 rfl size_V | exact run_load_mid _ _ rfl (p + 1) _ rfl _ _ qb.1 Tryz.underlying46 rfl size_V | (obtain ⟨qb1, qb2, qb3⟩ := qb; go_simp <;> rfl)) | (go_simp <;> rfl)); simp only [Act.put, List.setIfInBounds_toArray, List.set_cons_zero, List.set_cons_succ])
          | (refine wpT_take 8 rfl rfl (by decide +kernel) ⟨fun _ => R0.out, R1.out, B0.out.drew.cell 0, KD.out.k2⟩ ?_; apply Exists.intro; refine ⟨?_, ?_⟩; intro w hw; (have qa := hw.1 (Nat.le_refl _); have qb := hw.2); (first | (first | exact run_load_mid _ _ rfl p _ rfl _ _ qa Tryz.underlying46 rfl size_V | exact run_load_mid _ _ rfl (p + 1) _ rfl _ _ qb.1 Tryz.underlying46 rfl size_V | (obtain ⟨qb1, qb2, qb3⟩ := qb; go_simp <;> rfl)) | (go_simp <;> rfl)); simp only [Act.put, List.setIfInBounds_toArray, List.set_cons_zero, List.set_cons_succ])
          | (refine wpT_skip rfl rfl ?_; simp only [Act.put, List.setIfInBounds_toArray, List.set_cons_zero, List.set_cons_succ])
        refine wpT_op rfl ?_
        go_wp2_with ((go_at_call 163; refine (HK2.out _).mono ?_; rintro e w9 ⟨rfl, f⟩; have F9 := hid f; have R2 := hid (fun i u hu => cell_fr (R0.out i u hu) f.fr (fun h => h) : w9.rangeAt p 0 [.int .i64 2, .int .i64 an, .string (bs ax)]); have R3 := hid (fun i u hu => cell_fr (R1.out i u hu) f.fr (fun h => h) : w9.rangeAt (p + 1) 0 [.int .i64 bk, .int .i64 bn, .string (bs bx)]); have R4 := hid (cell_fr (B0.out.drew.cell 0) f.fr (fun h => h)); have R5 := hid (KD.out.fre f.fr); clear f))
        (refine ⟨?_, ?_⟩; focus (intro kz hk hk2 hh; first | (exfalso; simp at hk2; omega) | exact hh | exact (fun h => absurd h (by omega)) | obtain ⟨qa, qb⟩ := hh; first | exact ⟨qa, qb⟩ | (refine ⟨fun h => absurd h (by omega), ?_⟩; first | exact qb | (first | exact R2.out | exact ⟨R3.out, R4.out, R5.out.k2⟩)) | (refine ⟨fun h => ?_, ?_⟩; (have qa := qa h); all_goals (first | exact qa | exact qb | (first | exact R2.out | exact ⟨R3.out, R4.out, R5.out.k2⟩)))))
        repeat
          first
          | (refine wpT_pure rfl rfl rfl ?_; apply Exists.intro; refine ⟨?_, ?_⟩; intro w; ((go_simp <;> rfl)); simp only [Act.put, List.setIfInBounds_toArray, List.set_cons_zero, List.set_cons_succ])
          | (refine wpT_take 8 rfl rfl (by decide +kernel) ⟨fun h => absurd h (by omega), trivial⟩ ?_; apply Exists.intro; refine ⟨?_, ?_⟩; intro w hw; (have qa := hw.1 (Nat.le_refl _); have qb := hw.2); ((go_simp <;> rfl)); simp only [Act.put, List.setIfInBounds_toArray, List.set_cons_zero, List.set_cons_succ])
          | (refine wpT_skip rfl rfl ?_; simp only [Act.put, List.setIfInBounds_toArray, List.set_cons_zero, List.set_cons_succ])
        refine wpT_nil ?_
        go_wp2_with (fail)
        go_ret
        exact ⟨ret_int (by rw [← HZ.out, if_neg (fun h => h HNE.out)]; simp), FZ.out.drew.trans F9.out⟩
    · have h1 : (decide (0 ≤ ak) && decide (ak ≤ 2)) = false := by
        rw [Bool.and_eq_false_iff, decide_eq_false_iff_not, decide_eq_false_iff_not]; omega
      rw [h1] at HKA
      have HR := hid hr
      have HNE := hid hne
      have c0 : ((w.alloc (.cells #[.int .i64 ak, .int .i64 an, .string (bs ax)] 46)).alloc (.cells #[.int .i64 bk, .int .i64 bn, .string (bs bx)] 46)).drew.cell? ⟨p, 0, none⟩ = some (.int .i64 ak) := B0.out.cell 0
      clear h1 hr hne
      go_wp2_with (go_at_call 33; refine (HKA.out _).mono ?_; rintro e w1 ⟨rfl, rfl⟩)
      go_ret
      exact ⟨ret_int (by rw [← HZ.out, if_neg (fun h => h HNE.out), if_neg (by have := HR.out; omega), if_neg (by have := HR.out; omega)]), FZ.out⟩
  · have hcb : (c != 0) = true := by simp; intro h; exact hne (HCZ.out.1 h)
    have hcn : ¬ c = 0 := fun h => hne (HCZ.out.1 h)
    go_wp2_with (fail)
    go_ret
    exact ⟨ret_int (by rw [← HZ.out, if_pos hne]), FZ.out⟩
theorem Kn.lt {w : World} (h : Kn w) : 0 < w.heap.size := lt_of_cell h.k0
instance : Inhabited V := ⟨⟨0, 0, []⟩⟩
theorem flatK_list {α : Type} [Inhabited α] (enc : α → List Value) {k : Nat} (hk : 0 < k) (hl : ∀ x, (enc x).length = k) (d : Array α) : (Go.Sort.flatK enc k d).toList = d.toList.flatMap enc := by
  apply List.ext_getElem?
  intro t
  by_cases ht : t < d.size * k
  · have h1 : t / k < d.toList.length := by rw [Array.length_toList]; exact Nat.div_lt_of_lt_mul (by rw [Nat.mul_comm]; exact ht)
    have h2 : t % k < k := Nat.mod_lt _ hk
    have h3 := Cat.flatK enc hl d.toList (t / k) h1 (t % k) h2
    rw [Nat.div_add_mod'] at h3
    rw [h3]
    have hs : t < (Go.Sort.flatK enc k d).size := by rw [Go.Sort.size_flatK]; exact ht
    have h4 := Go.Sort.get_flatK enc k d t ht
    rw [getElem!_pos _ t hs] at h4
    have h5 : t / k < d.size := by simpa using h1
    have h6 : t % k < (enc d[t / k]).length := by rw [hl]; exact h2
    rw [getElem!_pos d (t / k) h5, getElem!_pos (enc d[t / k]) (t % k) h6] at h4
    rw [List.getElem?_eq_getElem (by simpa using hs), Array.getElem_toList, h4]
    show _ = (enc d[t / k])[t % k]?
    rw [List.getElem?_eq_getElem h6]
  · rw [List.getElem?_eq_none (by rw [Array.length_toList, Go.Sort.size_flatK]; omega), List.getElem?_eq_none (by rw [flat_len hl, Array.length_toList]; omega)]
theorem swo_cmp : Go.Sort.SWO (ltOf V.cmp) := by
  have H := ord_cmp
  refine ⟨fun x => ?_, fun x y z h1 h2 => ?_, fun x y z h1 h2 => ?_⟩
  · unfold ltOf; rw [H.refl x]; rfl
  · unfold ltOf at *
    rw [decide_eq_true_eq] at *
    exact H.lt1 h1 (by omega)
  · unfold ltOf at *
    rw [decide_eq_false_iff_not] at *
    have := H.ge (a := x) (b := y) (d := z) (by omega) (by omega)
    omega
/-- a world of the sort's -/
theorem sort_fr (w : World) (g m : Nat) (d : Array V) (os : Array Obj) : Fr (fun k => k = g) w (sortWorldK V.cells 3 w g 0 m d os) := by
  refine ⟨rfl, rfl, rfl, ?_, fun k hk hn => ?_⟩
  · show w.heap.size ≤ ((Go.Sort.putRowK V.cells 3 (Go.Sort.ahead w m) g 0 d).heap ++ os).size
    rw [Array.size_append]
    have : (Go.Sort.putRowK V.cells 3 (Go.Sort.ahead w m) g 0 d).heap.size = w.heap.size := Array.size_modify ..
    omega
  · have hs : (Go.Sort.putRowK V.cells 3 (Go.Sort.ahead w m) g 0 d).heap.size = w.heap.size := Array.size_modify ..
    rw [sortWorldK, Go.Sort.heap_grow_old _ _ (by rw [hs]; exact hk)]
    show (w.heap.modify g _)[k]? = w.heap[k]?
    rw [Array.getElem?_modify, if_neg (fun e => hn e.symm)]
theorem putCells_list (F c : Array Value) (h : F.size ≤ c.size) : (Go.Sort.putCells id 0 F c).toList = F.toList ++ c.toList.drop F.size := by
  apply List.ext_getElem?
  intro t
  unfold Go.Sort.putCells
  rw [Array.getElem?_toList, Array.getElem?_mapIdx]
  by_cases ht : t < F.size
  · rw [List.getElem?_append_left (by simpa using ht), Array.getElem?_toList, Array.getElem?_eq_getElem ht, Array.getElem?_eq_getElem (by omega), Option.map_some, if_pos ⟨by omega, by omega⟩]
    simp [ht]
  · rw [List.getElem?_append_right (by simpa using ht), List.getElem?_drop, Array.length_toList, Array.getElem?_toList, show F.size + (t - F.size) = t by omega]
    cases hc : c[t]? with
    | none => rfl
    | some x => rw [Option.map_some, if_neg (by omega)]
theorem row_putK {B n cap g m : Nat} {w : World} {l l' : List V} (h : Row 46 3 B w (.slice (some ⟨g, 0, none⟩) n cap) n (l.flatMap V.cells)) (hl : l'.length = n) (os : Array Obj) :
    Row 46 3 B (sortWorldK V.cells 3 w g 0 m l'.toArray os) (.slice (some ⟨g, 0, none⟩) n cap) n (l'.flatMap V.cells) := by
  refine ⟨⟨by rw [flat_len v_len3, hl], ?_⟩, h.new⟩
  rcases h.own.2 with ⟨h1, _⟩ | ⟨g', cap', cur, h1, hb, hgg, h2, h3, h4, h5⟩
  · cases h1
  · cases h1
    have hlt : g < w.heap.size := (Array.getElem?_eq_some_iff.1 hgg).1
    have hF : (Go.Sort.flatK V.cells 3 l'.toArray).size = n * 3 := by rw [Go.Sort.size_flatK, List.size_toArray, hl]
    have hle : (Go.Sort.flatK V.cells 3 l'.toArray).size ≤ cur.size := by rw [hF, h4]; exact Nat.mul_le_mul_right 3 h2
    refine .inr ⟨g, cap, Go.Sort.putCells id 0 (Go.Sort.flatK V.cells 3 l'.toArray) cur, rfl, hb, ?_, h2, h3, ?_, ?_⟩
    · have hs : (Go.Sort.putRowK V.cells 3 (Go.Sort.ahead w m) g 0 l'.toArray).heap.size = w.heap.size := Array.size_modify ..
      rw [sortWorldK, Go.Sort.heap_grow_old _ _ (by rw [hs]; exact hlt)]
      show (w.heap.modify g _)[g]? = _
      rw [Array.getElem?_modify, if_pos rfl, hgg]
      rfl
    · unfold Go.Sort.putCells
      rw [Array.size_mapIdx]
      exact h4
    · rw [putCells_list _ _ hle, List.take_append_of_le_length (by rw [Array.length_toList, hF]; exact Nat.le_refl _), List.take_of_length_le (by rw [Array.length_toList, hF]; exact Nat.le_refl _), flatK_list V.cells (by decide) v_len3]
theorem row_holdsK {B n cap g : Nat} {w : World} {l : List V} (h : Row 46 3 B w (.slice (some ⟨g, 0, none⟩) n cap) n (l.flatMap V.cells)) : Go.Sort.HoldsK V.cells 3 w g 0 l.toArray := by
  intro j hj
  obtain ⟨lg, hb⟩ := row_blk h (k := g) rfl
  have e := flatK_list V.cells (by decide) v_len3 l.toArray
  have hx : l.flatMap V.cells ≠ [] := by
    intro e2
    have e3 := congrArg List.length (e.trans e2)
    rw [Array.length_toList, List.length_nil] at e3
    omega
  obtain ⟨g', h1, _, h3⟩ := row_range h hx
  cases h1
  refine ⟨?_, hb.frozen _⟩
  refine h3 j _ ?_
  rw [show l.flatMap V.cells = (Go.Sort.flatK V.cells 3 l.toArray).toList from e.symm, Array.getElem?_toList, Array.getElem?_eq_getElem hj, getElem!_pos _ j hj]
  rfl
theorem cmpLays (g : Nat) (n : Nat) {w : World} (K : Kn w) (hg : 0 ≠ g) : CmpLays Tryz.prog 40 #[] V.cells 3 V.cmp g 0 n w := by
  intro m os dk hs x y
  have K' : Kn (sortWorldK V.cells 3 w g 0 m dk os) := by
    have := sort_fr w g m dk os
    exact K.fr this hg
  exact (VCompareG_go x y K').mono fun e w' h => ⟨h.1, h.2.gw⟩
theorem SortV_go {B n : Nat} {w : World} {v : Value} {l : List V} (h : Row 46 3 B w v n (l.flatMap V.cells)) (hn : l.length = n) (K : Kn w) (hB : 0 < B) (hsz : n < 4611686018427387904) :
    Calls Tryz.prog 61 #[v, .func (.func 40) #[] #[]] w fun e w' => e = .returned (.tuple #[]) ∧ ∃ l' : List V, l'.Perm l ∧ l'.Pairwise (fun a b => V.cmp a b ≤ 0) ∧ Row 46 3 B w' v n (l'.flatMap V.cells) ∧ Fr (fun k => v.ownBlock = some k) w w' := by
  subst hn
  obtain ⟨a, cap, rfl, _⟩ := h.slice
  cases l with
  | nil =>
    refine (AnyF.slices_SortFunc_none Tryz.sortV a cap (.func (.func 40) #[] #[]) w).mono ?_
    rintro e w' ⟨rfl, rfl⟩
    exact ⟨rfl, [], List.Perm.refl _, List.Pairwise.nil, h, Fr.refl _ _⟩
  | cons x l =>
    obtain ⟨g, rfl, hg, _⟩ := row_range h (by simp [V.cells])
    have eg : ∀ args w, (callFunc 40 args).run Tryz.prog w = .ok (.enter 40 args) w := enters_of Tryz.func40 (by kernel_rfl) rfl
    have hc := AnyQ.slices_SortFunc Tryz.sortV 3 Tryz.isAgg46 Tryz.sizeOf46 V.cells v_len3 (fun x u hu => by
      simp only [V.cells, List.mem_cons, List.not_mem_nil, or_false] at hu
      rcases hu with rfl | rfl | rfl <;> rfl) V.cmp swo_cmp 40 #[] g 0 cap (x :: l).toArray w eg (cmpLays g _ K (by omega)) (row_holdsK h) (h.lt rfl) (by simpa using hsz)
    refine Calls.mono hc ?_
    rintro e w' ⟨rfl, d', m, os, ⟨hp1, _, hp3⟩, hs, rfl⟩
    have hsz' : d'.size = (x :: l).length := by simpa using hp1
    have e1 : d'.toList.toArray = d' := by simp
    refine ⟨rfl, d'.toList, ?_, ?_, ?_, ?_⟩
    · have e2 : (d'.extract 0 (x :: l).toArray.size).toList = d'.toList := by rw [show (x :: l).toArray.size = d'.size from hp1.symm, Array.extract_size]
      have e3 : ((x :: l).toArray.extract 0 (x :: l).toArray.size).toList = x :: l := by rw [Array.extract_size]
      rw [e2, e3] at hp3
      exact hp3
    · rw [List.pairwise_iff_getElem]
      intro i j hi hj hij
      have hi' : i < d'.size := by simpa using hi
      have hj' : j < d'.size := by simpa using hj
      have := hs i j (Nat.zero_le _) hij (by rw [← hp1]; exact hj')
      rw [getElem!_pos d' i hi', getElem!_pos d' j hj'] at this
      unfold ltOf at this
      rw [decide_eq_false_iff_not] at this
      have ha := ord_cmp.anti d'[i] d'[j]
      rw [Array.getElem_toList, Array.getElem_toList]
      omega
    · have := row_putK (m := m) (l' := d'.toList) h (by rw [Array.length_toList]; exact hsz') os
      rw [e1] at this
      exact this
    · exact (sort_fr w g m d' os).mono (fun k hk _ => by rw [hk]; rfl)
end Go.Proofs.YtgkfdlpijefgkaaGreatDoor
