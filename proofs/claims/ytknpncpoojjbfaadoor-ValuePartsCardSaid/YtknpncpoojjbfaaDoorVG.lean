import Derived.Test.YtknpncpoojjbfaaDoorVM
import Derived.Lib.LaidTab
/- value.Compare and what it calls: the table of comparing functions in memory. -/
set_option linter.unusedVariables false
namespace Go.Proofs.YtknpncpoojjbfaaDoor
open Go.RowKit Go.VB Go.VB.Oct Go.VB.Rec
/-- the three comparing functions lie in the table -/
structure Kn (w : World) : Prop where
  k0 : w.cell? ⟨0, 0, none⟩ = some (.func (.func 108) #[] #[])
  k1 : w.cell? ⟨0, 1, none⟩ = some (.func (.func 109) #[] #[])
  k2 : w.cell? ⟨0, 2, none⟩ = some (.func (.func 111) #[] #[])
theorem Kn.fre {w w' : World} (h : Kn w) (f : Fr (fun _ => False) w w') : Kn w' := ⟨cell_fr h.k0 f (fun h => h), cell_fr h.k1 f (fun h => h), cell_fr h.k2 f (fun h => h)⟩
theorem Kn.fr {S : Nat → Prop} {w w' : World} (h : Kn w) (f : Fr S w w') (hS : ¬ S 0) : Kn w' := ⟨cell_fr h.k0 f hS, cell_fr h.k1 f hS, cell_fr h.k2 f hS⟩
theorem rank_go (k : Int) (w : World) : Calls Tryd.prog 38 #[.int .i64 k] w fun e w' => e = .returned (.int .i64 (rank k)) ∧ w' = w := by
  by_cases h : 0 ≤ k ∧ k ≤ 2
  · have h1 : (decide (0 ≤ k) && decide (k ≤ 2)) = true := by simp [h]
    have HK := hid (fun w => h1 ▸ known_go k w)
    have hr : rank k = k := by unfold rank; rw [if_pos h]
    rw [hr]
    clear h1 h hr
    go_enter Tryd.func38, Tryd.ntmps38
    go_wp2_with (go_at_call 36; refine (HK.out _).mono ?_; rintro e w1 ⟨rfl, rfl⟩)
    go_ret
    exact ⟨rfl, rfl⟩
  · have h1 : (decide (0 ≤ k) && decide (k ≤ 2)) = false := by
      rw [Bool.and_eq_false_iff, decide_eq_false_iff_not, decide_eq_false_iff_not]; omega
    have HK := hid (fun w => h1 ▸ known_go k w)
    have hr : rank k = 3 := by unfold rank; rw [if_neg h]
    rw [hr]
    clear h1 h hr
    go_enter Tryd.func38, Tryd.ntmps38
    go_wp2_with (go_at_call 36; refine (HK.out _).mono ?_; rintro e w1 ⟨rfl, rfl⟩)
    go_ret
    exact ⟨rfl, rfl⟩
theorem nan64_go (x : Int) (w : World) : Calls Tryd.prog 113 #[.int .i64 x] w fun e w' => e = .returned (.bool false) ∧ w' = w := by
  have hx : (x != x) = false := bne_self_eq_false _
  go_enter Tryd.func113, Tryd.ntmps113
  go_wp2
  go_ret
  exact ⟨rfl, rfl⟩
theorem cmp64_go (x y : Int) (w : World) : Calls Tryd.prog 110 #[.int .i64 x, .int .i64 y] w fun e w' => e = .returned (.int .i64 (Lib.compareInt x y)) ∧ w' = w := by
  rcases (by omega : x < y ∨ x = y ∨ y < x) with h | h | h
  · have hc : Lib.compareInt x y = -1 := by unfold Lib.compareInt; rw [if_pos h]
    rw [hc]
    go_enter Tryd.func110, Tryd.ntmps110
    go_wp2_with (go_at_call 113; refine (nan64_go _ _).mono ?_; rintro e w1 ⟨rfl, rfl⟩)
    go_ret
    exact ⟨rfl, rfl⟩
  · subst h
    have hc : Lib.compareInt x x = 0 := by unfold Lib.compareInt; rw [if_neg (by omega), if_neg (by omega)]
    rw [hc]
    have h1 : ¬ x < x := by omega
    go_enter Tryd.func110, Tryd.ntmps110
    go_wp2_with (go_at_call 113; refine (nan64_go _ _).mono ?_; rintro e w1 ⟨rfl, rfl⟩)
    go_ret
    exact ⟨rfl, rfl⟩
  · have hc : Lib.compareInt x y = 1 := by unfold Lib.compareInt; rw [if_neg (by omega), if_pos (by omega)]
    have h1 : ¬ x < y := by omega
    rw [hc]
    go_enter Tryd.func110, Tryd.ntmps110
    go_wp2_with (go_at_call 113; refine (nan64_go _ _).mono ?_; rintro e w1 ⟨rfl, rfl⟩)
    go_ret
    exact ⟨rfl, rfl⟩
theorem kind0_go (a b : V) (w : World) : Calls Tryd.prog 108 #[vagg a, vagg b] w fun e w' => e = .returned (.int .i64 0) ∧ Fr (fun _ => False) w w' := by
  unfold vagg V.cells
  go_enter Tryd.func108, Tryd.ntmps108
  go_wp2
  go_ret
  exact ⟨rfl, ((Fr.refl (fun _ => False) w).alloc _).alloc _⟩
theorem kind1_go (a b : V) (w : World) : Calls Tryd.prog 109 #[vagg a, vagg b] w fun e w' => e = .returned (.int .i64 (Lib.compareInt a.n b.n)) ∧ Fr (fun _ => False) w w' := by
  unfold vagg V.cells
  go_enter Tryd.func109, Tryd.ntmps109
  go_wp2_with (go_at_call 110; refine (cmp64_go _ _ _).mono ?_; rintro e w1 ⟨rfl, rfl⟩)
  go_ret
  exact ⟨rfl, ((Fr.refl (fun _ => False) w).alloc _).alloc _⟩
theorem kind2_go (a b : V) (w : World) : Calls Tryd.prog 111 #[vagg a, vagg b] w fun e w' => e = .returned (.int .i64 (Lib.compareBytes a.s b.s)) ∧ Fr (fun _ => False) w w' := by
  unfold vagg V.cells
  go_enter Tryd.func111, Tryd.ntmps111
  go_wp2_with (go_at_call 112; refine (Tryd.strings_Compare _ _ _).mono ?_; rintro e w1 ⟨rfl, rfl⟩)
  go_ret
  exact ⟨rfl, ((Fr.refl (fun _ => False) w).alloc _).alloc _⟩
theorem size_V : (Tryd.prog.info? 28).map (·.size) = some 3 := by kernel_rfl
theorem VCompare_go (a b : V) {w : World} (K : Kn w) : Calls Tryd.prog 17 #[vagg a, vagg b] w fun e w' => e = .returned (.int .i64 (V.cmp a b)) ∧ Fr (fun _ => False) w w' := by
  have KH := hid K
  have HC := hid (fun w => Tryd.cmp_Compare_int (rank a.k) (rank b.k) w)
  have HA := hid (fun w => rank_go a.k w)
  have HB := hid (fun w => rank_go b.k w)
  have B0 := hid ((Blk.new w a.cells 28).alloc (.cells b.cells.toArray 28)).drew
  have B1 := hid (Blk.new (w.alloc (.cells a.cells.toArray 28)) b.cells 28).drew
  have FZ := hid (((Fr.refl (fun _ => False) w).alloc (.cells a.cells.toArray 28)).alloc (.cells b.cells.toArray 28)).drew
  have HK0 := hid (fun w => kind0_go a b w)
  have HK1 := hid (fun w => kind1_go a b w)
  have HK2 := hid (fun w => kind2_go a b w)
  have hvc : V.cmp a b = (if rank a.k ≠ rank b.k then Lib.compareInt (rank a.k) (rank b.k) else if a.k = 1 then Lib.compareInt a.n b.n else if a.k = 2 then Lib.compareBytes a.s b.s else 0) := rfl
  rw [hvc]
  obtain ⟨z, hz⟩ : ∃ z, (if rank a.k ≠ rank b.k then Lib.compareInt (rank a.k) (rank b.k) else if a.k = 1 then Lib.compareInt a.n b.n else if a.k = 2 then Lib.compareBytes a.s b.s else 0) = z := ⟨_, rfl⟩
  rw [hz]
  have HZ := hid hz
  clear hz
  have hrk : ∀ k : Int, (rank k = k ∧ 0 ≤ k ∧ k ≤ 2) ∨ (rank k = 3 ∧ ¬ (0 ≤ k ∧ k ≤ 2)) := fun k => by
    by_cases h : 0 ≤ k ∧ k ≤ 2
    · exact .inl ⟨by unfold rank; rw [if_pos h], h⟩
    · exact .inr ⟨by unfold rank; rw [if_neg h], h⟩
  have HRA := hid (hrk a.k)
  have HRB := hid (hrk b.k)
  have HKA := hid (fun w => known_go a.k w)
  unfold vagg V.cells at *
  obtain ⟨ak, an, ax⟩ := a
  obtain ⟨bk, bn, bx⟩ := b
  dsimp only at *
  clear hvc hrk K
  generalize hra : rank ak = ra at *
  generalize hrb : rank bk = rb at *
  obtain ⟨c, hc⟩ : ∃ c, Lib.compareInt ra rb = c := ⟨_, rfl⟩
  have hcz : c = 0 ↔ ra = rb := by
    rw [← hc]; unfold Lib.compareInt; split
    · omega
    · split <;> omega
  rw [hc] at HC HZ
  have HCZ := hid hcz
  clear hc hcz hra hrb
  go_enter Tryd.func17, Tryd.ntmps17
  go_upto_region 1 with fail
  simp only [World.size_alloc] at B1
  generalize w.heap.size = p at *
  refine wp_region_scr (.take 0 (.take 1 (.take 3 (.take 4 (.op 2 (.op 5 (.op 6 (.take 7 .done)))))))) (fun kz w => (kz ≤ 8 → w.cell? ⟨p, 0, none⟩ = some (.int .i64 ak) ∧ w.cell? ⟨p + 1, 0, none⟩ = some (.int .i64 bk)) ∧ True) (by kernel_rfl) (by kernel_rfl) (by intro c a d v w h; cases d <;> exact h) ?_
  repeat
    first
    | (refine wpT_pure rfl rfl rfl ?_; apply Exists.intro; refine ⟨?_, ?_⟩; intro w; (first | (first | (obtain ⟨qa1, qa2⟩ := qa; go_simp <;> rfl)) | (go_simp <;> rfl)); simp only [Act.put, List.setIfInBounds_toArray, List.set_cons_zero, List.set_cons_succ])
    | (refine wpT_take 8 rfl rfl (by decide +kernel) ⟨fun _ => ⟨B0.out.cell 0, B1.out.cell 0⟩, trivial⟩ ?_; apply Exists.intro; refine ⟨?_, ?_⟩; intro w hw; (have qa := hw.1 (Nat.le_refl _); have qb := hw.2); (first | (first | (obtain ⟨qa1, qa2⟩ := qa; go_simp <;> rfl)) | (go_simp <;> rfl)); simp only [Act.put, List.setIfInBounds_toArray, List.set_cons_zero, List.set_cons_succ])
    | (refine wpT_skip rfl rfl ?_; simp only [Act.put, List.setIfInBounds_toArray, List.set_cons_zero, List.set_cons_succ])
  refine wpT_op rfl ?_
  go_wp2_with ((go_at_call 38; refine (HA.out _).mono ?_; rintro e w1 ⟨rfl, rfl⟩))
  (refine ⟨?_, ?_⟩; focus (intro kz hk hk2 hh; first | (exfalso; simp at hk2; omega) | exact hh | exact (fun h => absurd h (by omega)) | obtain ⟨qa, qb⟩ := hh; first | exact ⟨qa, qb⟩ | (refine ⟨fun h => absurd h (by omega), ?_⟩; first | exact qb | (exact ⟨B0.out.cell 0, B1.out.cell 0⟩)) | (refine ⟨fun h => ?_, ?_⟩; (have qa := qa h); all_goals (first | exact qa | exact qb | (exact ⟨B0.out.cell 0, B1.out.cell 0⟩)))))
  refine wpT_op rfl ?_
  go_wp2_with ((go_at_call 38; refine (HB.out _).mono ?_; rintro e w1 ⟨rfl, rfl⟩))
  (refine ⟨?_, ?_⟩; focus (intro kz hk hk2 hh; first | (exfalso; simp at hk2; omega) | exact hh | exact (fun h => absurd h (by omega)) | obtain ⟨qa, qb⟩ := hh; first | exact ⟨qa, qb⟩ | (refine ⟨fun h => absurd h (by omega), ?_⟩; first | exact qb | (exact ⟨B0.out.cell 0, B1.out.cell 0⟩)) | (refine ⟨fun h => ?_, ?_⟩; (have qa := qa h); all_goals (first | exact qa | exact qb | (exact ⟨B0.out.cell 0, B1.out.cell 0⟩)))))
  refine wpT_op rfl ?_
  go_wp2_with ((go_at_call 37; refine (HC.out _).mono ?_; rintro e w1 ⟨rfl, rfl⟩))
  (refine ⟨?_, ?_⟩; focus (intro kz hk hk2 hh; first | (exfalso; simp at hk2; omega) | exact hh | exact (fun h => absurd h (by omega)) | obtain ⟨qa, qb⟩ := hh; first | exact ⟨qa, qb⟩ | (refine ⟨fun h => absurd h (by omega), ?_⟩; first | exact qb | (exact ⟨B0.out.cell 0, B1.out.cell 0⟩)) | (refine ⟨fun h => ?_, ?_⟩; (have qa := qa h); all_goals (first | exact qa | exact qb | (exact ⟨B0.out.cell 0, B1.out.cell 0⟩)))))
  repeat
    first
    | (refine wpT_pure rfl rfl rfl ?_; apply Exists.intro; refine ⟨?_, ?_⟩; intro w; ((go_simp <;> rfl)); simp only [Act.put, List.setIfInBounds_toArray, List.set_cons_zero, List.set_cons_succ])
    | (refine wpT_take 8 rfl rfl (by decide +kernel) ⟨fun _ => ⟨B0.out.cell 0, B1.out.cell 0⟩, trivial⟩ ?_; apply Exists.intro; refine ⟨?_, ?_⟩; intro w hw; (have qa := hw.1 (Nat.le_refl _); have qb := hw.2); ((go_simp <;> rfl)); simp only [Act.put, List.setIfInBounds_toArray, List.set_cons_zero, List.set_cons_succ])
    | (refine wpT_skip rfl rfl ?_; simp only [Act.put, List.setIfInBounds_toArray, List.set_cons_zero, List.set_cons_succ])
  refine wpT_nil ?_
  by_cases hne : ra = rb
  · obtain rfl : c = 0 := HCZ.out.2 hne
    by_cases hr : 0 ≤ ak ∧ ak ≤ 2
    · have h1 : (decide (0 ≤ ak) && decide (ak ≤ 2)) = true := by simp [hr]
      rw [h1] at HKA
      have HR := hid hr
      have HNE := hid hne
      have c0 : ((w.alloc (.cells #[.int .i64 ak, .int .i64 an, .string (bs ax)] 28)).alloc (.cells #[.int .i64 bk, .int .i64 bn, .string (bs bx)] 28)).drew.cell? ⟨p, 0, none⟩ = some (.int .i64 ak) := B0.out.cell 0
      clear h1 hr hne
      rcases (by have := HR.out; omega : ak = 0 ∨ ak = 1 ∨ ak = 2) with hk | hk | hk
      · obtain rfl : ak = 0 := hk
        go_upto_region 4 with (go_at_call 36; refine (HKA.out _).mono ?_; rintro e w1 ⟨rfl, rfl⟩)
        have KD := hid (KH.out.fre FZ.out.drew)
        have R0 := hid (B0.out.drew.all)
        have R1 := hid (B1.out.drew.all)
        clear HKA HA HB HC HCZ HRA HRB
        refine wp_region_scr (.take 0 (.take 1 (.take 2 (.take 3 (.take 4 (.take 5 (.op 6 (.take 7 .done)))))))) (fun kz w => (kz ≤ 8 → w.rangeAt p 0 [.int .i64 0, .int .i64 an, .string (bs ax)]) ∧ (w.rangeAt (p + 1) 0 [.int .i64 bk, .int .i64 bn, .string (bs bx)] ∧ w.cell? ⟨p, 0, none⟩ = some (.int .i64 0) ∧ w.cell? ⟨0, 0, none⟩ = some (.func (.func 108) #[] #[]))) (by kernel_rfl) (by kernel_rfl) (by intro c a d v w h; cases d <;> exact h) ?_
        repeat
          first
          | (refine wpT_pure rfl rfl rfl ?_; apply Exists.intro; refine ⟨?_, ?_⟩; intro w; (first | (first | exact run_load_mid _ _ rfl p _ rfl _ _ qa Tryd.underlying28 rfl size_V | exact run_load_mid _ _ rfl (p + 1) _ rfl _ _ qb.1 Tryd.underlying28 rfl size_V | (obtain ⟨qb1, qb2, qb3⟩ := qb; go_simp <;> rfl)) | (go_simp <;> rfl)); simp only [Act.put, List.setIfInBounds_toArray, List.set_cons_zero, List.set_cons_succ])
          | (refine wpT_take 8 rfl rfl (by decide +kernel) ⟨fun _ => R0.out, R1.out, B0.out.drew.cell 0, KD.out.k0⟩ ?_; apply Exists.intro; refine ⟨?_, ?_⟩; intro w hw; (have qa := hw.1 (Nat.le_refl _); have qb := hw.2); (first | (first | exact run_load_mid _ _ rfl p _ rfl _ _ qa Tryd.underlying28 rfl size_V | exact run_load_mid _ _ rfl (p + 1) _ rfl _ _ qb.1 Tryd.underlying28 rfl size_V | (obtain ⟨qb1, qb2, qb3⟩ := qb; go_simp <;> rfl)) | (go_simp <;> rfl)); simp only [Act.put, List.setIfInBounds_toArray, List.set_cons_zero, List.set_cons_succ])
          | (refine wpT_skip rfl rfl ?_; simp only [Act.put, List.setIfInBounds_toArray, List.set_cons_zero, List.set_cons_succ])
        refine wpT_op rfl ?_
        go_wp2_with ((go_at_call 108; refine (HK0.out _).mono ?_; rintro e w9 ⟨rfl, f⟩; have F9 := hid f; have R2 := hid (fun i u hu => cell_fr (R0.out i u hu) f (fun h => h) : w9.rangeAt p 0 [.int .i64 0, .int .i64 an, .string (bs ax)]); have R3 := hid (fun i u hu => cell_fr (R1.out i u hu) f (fun h => h) : w9.rangeAt (p + 1) 0 [.int .i64 bk, .int .i64 bn, .string (bs bx)]); have R4 := hid (cell_fr (B0.out.drew.cell 0) f (fun h => h)); have R5 := hid (KD.out.fre f); clear f))
        (refine ⟨?_, ?_⟩; focus (intro kz hk hk2 hh; first | (exfalso; simp at hk2; omega) | exact hh | exact (fun h => absurd h (by omega)) | obtain ⟨qa, qb⟩ := hh; first | exact ⟨qa, qb⟩ | (refine ⟨fun h => absurd h (by omega), ?_⟩; first | exact qb | (first | exact R2.out | exact ⟨R3.out, R4.out, R5.out.k0⟩)) | (refine ⟨fun h => ?_, ?_⟩; (have qa := qa h); all_goals (first | exact qa | exact qb | (first | exact R2.out | exact ⟨R3.out, R4.out, R5.out.k0⟩)))))
        repeat
          first
          | (refine wpT_pure rfl rfl rfl ?_; apply Exists.intro; refine ⟨?_, ?_⟩; intro w; ((go_simp <;> rfl)); simp only [Act.put, List.setIfInBounds_toArray, List.set_cons_zero, List.set_cons_succ])
          | (refine wpT_take 8 rfl rfl (by decide +kernel) ⟨fun h => absurd h (by omega), trivial⟩ ?_; apply Exists.intro; refine ⟨?_, ?_⟩; intro w hw; (have qa := hw.1 (Nat.le_refl _); have qb := hw.2); ((go_simp <;> rfl)); simp only [Act.put, List.setIfInBounds_toArray, List.set_cons_zero, List.set_cons_succ])
          | (refine wpT_skip rfl rfl ?_; simp only [Act.put, List.setIfInBounds_toArray, List.set_cons_zero, List.set_cons_succ])
        refine wpT_nil ?_
        go_wp2_with (fail)
        go_ret
        exact ⟨ret_int (by rw [← HZ.out, if_neg (fun h => h HNE.out)]; simp), FZ.out.drew.trans F9.out (fun _ h _ => h)⟩
      · obtain rfl : ak = 1 := hk
        go_upto_region 4 with (go_at_call 36; refine (HKA.out _).mono ?_; rintro e w1 ⟨rfl, rfl⟩)
        have KD := hid (KH.out.fre FZ.out.drew)
        have R0 := hid (B0.out.drew.all)
        have R1 := hid (B1.out.drew.all)
        clear HKA HA HB HC HCZ HRA HRB
        refine wp_region_scr (.take 0 (.take 1 (.take 2 (.take 3 (.take 4 (.take 5 (.op 6 (.take 7 .done)))))))) (fun kz w => (kz ≤ 8 → w.rangeAt p 0 [.int .i64 1, .int .i64 an, .string (bs ax)]) ∧ (w.rangeAt (p + 1) 0 [.int .i64 bk, .int .i64 bn, .string (bs bx)] ∧ w.cell? ⟨p, 0, none⟩ = some (.int .i64 1) ∧ w.cell? ⟨0, 1, none⟩ = some (.func (.func 109) #[] #[]))) (by kernel_rfl) (by kernel_rfl) (by intro c a d v w h; cases d <;> exact h) ?_
        repeat
          first
          | (refine wpT_pure rfl rfl rfl ?_; apply Exists.intro; refine ⟨?_, ?_⟩; intro w; (first | (first | exact run_load_mid _ _ rfl p _ rfl _ _ qa Tryd.underlying28 rfl size_V | exact run_load_mid _ _ rfl (p + 1) _ rfl _ _ qb.1 Tryd.underlying28 rfl size_V | (obtain ⟨qb1, qb2, qb3⟩ := qb; go_simp <;> rfl)) | (go_simp <;> rfl)); simp only [Act.put, List.setIfInBounds_toArray, List.set_cons_zero, List.set_cons_succ])
          | (refine wpT_take 8 rfl rfl (by decide +kernel) ⟨fun _ => R0.out, R1.out, B0.out.drew.cell 0, KD.out.k1⟩ ?_; apply Exists.intro; refine ⟨?_, ?_⟩; intro w hw; (have qa := hw.1 (Nat.le_refl _); have qb := hw.2); (first | (first | exact run_load_mid _ _ rfl p _ rfl _ _ qa Tryd.underlying28 rfl size_V | exact run_load_mid _ _ rfl (p + 1) _ rfl _ _ qb.1 Tryd.underlying28 rfl size_V | (obtain ⟨qb1, qb2, qb3⟩ := qb; go_simp <;> rfl)) | (go_simp <;> rfl)); simp only [Act.put, List.setIfInBounds_toArray, List.set_cons_zero, List.set_cons_succ])
          | (refine wpT_skip rfl rfl ?_; simp only [Act.put, List.setIfInBounds_toArray, List.set_cons_zero, List.set_cons_succ])
        refine wpT_op rfl ?_
        go_wp2_with ((go_at_call 109; refine (HK1.out _).mono ?_; rintro e w9 ⟨rfl, f⟩; have F9 := hid f; have R2 := hid (fun i u hu => cell_fr (R0.out i u hu) f (fun h => h) : w9.rangeAt p 0 [.int .i64 1, .int .i64 an, .string (bs ax)]); have R3 := hid (fun i u hu => cell_fr (R1.out i u hu) f (fun h => h) : w9.rangeAt (p + 1) 0 [.int .i64 bk, .int .i64 bn, .string (bs bx)]); have R4 := hid (cell_fr (B0.out.drew.cell 0) f (fun h => h)); have R5 := hid (KD.out.fre f); clear f))
        (refine ⟨?_, ?_⟩; focus (intro kz hk hk2 hh; first | (exfalso; simp at hk2; omega) | exact hh | exact (fun h => absurd h (by omega)) | obtain ⟨qa, qb⟩ := hh; first | exact ⟨qa, qb⟩ | (refine ⟨fun h => absurd h (by omega), ?_⟩; first | exact qb | (first | exact R2.out | exact ⟨R3.out, R4.out, R5.out.k1⟩)) | (refine ⟨fun h => ?_, ?_⟩; (have qa := qa h); all_goals (first | exact qa | exact qb | (first | exact R2.out | exact ⟨R3.out, R4.out, R5.out.k1⟩)))))
        repeat
          first
          | (refine wpT_pure rfl rfl rfl ?_; apply Exists.intro; refine ⟨?_, ?_⟩; intro w; ((go_simp <;> rfl)); simp only [Act.put, List.setIfInBounds_toArray, List.set_cons_zero, List.set_cons_succ])
          | (refine wpT_take 8 rfl rfl (by decide +kernel) ⟨fun h => absurd h (by omega), trivial⟩ ?_; apply Exists.intro; refine ⟨?_, ?_⟩; intro w hw; (have qa := hw.1 (Nat.le_refl _); have qb := hw.2); ((go_simp <;> rfl)); simp only [Act.put, List.setIfInBounds_toArray, List.set_cons_zero, List.set_cons_succ])
          | (refine wpT_skip rfl rfl ?_; simp only [Act.put, List.setIfInBounds_toArray, List.set_cons_zero, List.set_cons_succ])
        refine wpT_nil ?_
        go_wp2_with (fail)
        go_ret
        exact ⟨ret_int (by rw [← HZ.out, if_neg (fun h => h HNE.out)]; simp), FZ.out.drew.trans F9.out (fun _ h _ => h)⟩
      · obtain rfl : ak = 2 := hk
        go_upto_region 4 with (go_at_call 36; refine (HKA.out _).mono ?_; rintro e w1 ⟨rfl, rfl⟩)
        have KD := hid (KH.out.fre FZ.out.drew)
        have R0 := hid (B0.out.drew.all)
        have R1 := hid (B1.out.drew.all)
        clear HKA HA HB HC HCZ HRA HRB
        refine wp_region_scr (.take 0 (.take 1 (.take 2 (.take 3 (.take 4 (.take 5 (.op 6 (.take 7 .done)))))))) (fun kz w => (kz ≤ 8 → w.rangeAt p 0 [.int .i64 2, .int .i64 an, .string (bs ax)]) ∧ (w.rangeAt (p + 1) 0 [.int .i64 bk, .int .i64 bn, .string (bs bx)] ∧ w.cell? ⟨p, 0, none⟩ = some (.int .i64 2) ∧ w.cell? ⟨0, 2, none⟩ = some (.func (.func 111) #[] #[]))) (by kernel_rfl) (by kernel_rfl) (by intro c a d v w h; cases d <;> exact h) ?_
        repeat
          first
          | (refine wpT_pure rfl rfl rfl ?_; apply Exists.intro; refine ⟨?_, ?_⟩; intro w; (first | (first | exact run_load_mid _ _ rfl p _ rfl _ _ qa Tryd.underlying28 rfl size_V | exact run_load_mid _ _ rfl (p + 1) _ rfl _ _ qb.1 Tryd.underlying28 rfl size_V | (obtain ⟨qb1, qb2, qb3⟩ := qb; go_simp <;> rfl)) | (go_simp <;> rfl)); simp only [Act.put, List.setIfInBounds_toArray, List.set_cons_zero, List.set_cons_succ])
          | (refine wpT_take 8 rfl rfl (by decide +kernel) ⟨fun _ => R0.out, R1.out, B0.out.drew.cell 0, KD.out.k2⟩ ?_; apply Exists.intro; refine ⟨?_, ?_⟩; intro w hw; (have qa := hw.1 (Nat.le_refl _); have qb := hw.2); (first | (first | exact run_load_mid _ _ rfl p _ rfl _ _ qa Tryd.underlying28 rfl size_V | exact run_load_mid _ _ rfl (p + 1) _ rfl _ _ qb.1 Tryd.underlying28 rfl size_V | (obtain ⟨qb1, qb2, qb3⟩ := qb; go_simp <;> rfl)) | (go_simp <;> rfl)); simp only [Act.put, List.setIfInBounds_toArray, List.set_cons_zero, List.set_cons_succ])
          | (refine wpT_skip rfl rfl ?_; simp only [Act.put, List.setIfInBounds_toArray, List.set_cons_zero, List.set_cons_succ])
        refine wpT_op rfl ?_
        go_wp2_with ((go_at_call 111; refine (HK2.out _).mono ?_; rintro e w9 ⟨rfl, f⟩; have F9 := hid f; have R2 := hid (fun i u hu => cell_fr (R0.out i u hu) f (fun h => h) : w9.rangeAt p 0 [.int .i64 2, .int .i64 an, .string (bs ax)]); have R3 := hid (fun i u hu => cell_fr (R1.out i u hu) f (fun h => h) : w9.rangeAt (p + 1) 0 [.int .i64 bk, .int .i64 bn, .string (bs bx)]); have R4 := hid (cell_fr (B0.out.drew.cell 0) f (fun h => h)); have R5 := hid (KD.out.fre f); clear f))
        (refine ⟨?_, ?_⟩; focus (intro kz hk hk2 hh; first | (exfalso; simp at hk2; omega) | exact hh | exact (fun h => absurd h (by omega)) | obtain ⟨qa, qb⟩ := hh; first | exact ⟨qa, qb⟩ | (refine ⟨fun h => absurd h (by omega), ?_⟩; first | exact qb | (first | exact R2.out | exact ⟨R3.out, R4.out, R5.out.k2⟩)) | (refine ⟨fun h => ?_, ?_⟩; (have qa := qa h); all_goals (first | exact qa | exact qb | (first | exact R2.out | exact ⟨R3.out, R4.out, R5.out.k2⟩)))))
        repeat
          first
          | (refine wpT_pure rfl rfl rfl ?_; apply Exists.intro; refine ⟨?_, ?_⟩; intro w; ((go_simp <;> rfl)); simp only [Act.put, List.setIfInBounds_toArray, List.set_cons_zero, List.set_cons_succ])
          | (refine wpT_take 8 rfl rfl (by decide +kernel) ⟨fun h => absurd h (by omega), trivial⟩ ?_; apply Exists.intro; refine ⟨?_, ?_⟩; intro w hw; (have qa := hw.1 (Nat.le_refl _); have qb := hw.2); ((go_simp <;> rfl)); simp only [Act.put, List.setIfInBounds_toArray, List.set_cons_zero, List.set_cons_succ])
          | (refine wpT_skip rfl rfl ?_; simp only [Act.put, List.setIfInBounds_toArray, List.set_cons_zero, List.set_cons_succ])
        refine wpT_nil ?_
        go_wp2_with (fail)
        go_ret
        exact ⟨ret_int (by rw [← HZ.out, if_neg (fun h => h HNE.out)]; simp), FZ.out.drew.trans F9.out (fun _ h _ => h)⟩
    · have h1 : (decide (0 ≤ ak) && decide (ak ≤ 2)) = false := by
        rw [Bool.and_eq_false_iff, decide_eq_false_iff_not, decide_eq_false_iff_not]; omega
      rw [h1] at HKA
      have HR := hid hr
      have HNE := hid hne
      have c0 : ((w.alloc (.cells #[.int .i64 ak, .int .i64 an, .string (bs ax)] 28)).alloc (.cells #[.int .i64 bk, .int .i64 bn, .string (bs bx)] 28)).drew.cell? ⟨p, 0, none⟩ = some (.int .i64 ak) := B0.out.cell 0
      clear h1 hr hne
      go_wp2_with (go_at_call 36; refine (HKA.out _).mono ?_; rintro e w1 ⟨rfl, rfl⟩)
      go_ret
      exact ⟨ret_int (by rw [← HZ.out, if_neg (fun h => h HNE.out), if_neg (by have := HR.out; omega), if_neg (by have := HR.out; omega)]), FZ.out⟩
  · have hcb : (c != 0) = true := by simp; intro h; exact hne (HCZ.out.1 h)
    have hcn : ¬ c = 0 := fun h => hne (HCZ.out.1 h)
    go_wp2_with (fail)
    go_ret
    exact ⟨ret_int (by rw [← HZ.out, if_pos hne]), FZ.out⟩
end Go.Proofs.YtknpncpoojjbfaaDoor
