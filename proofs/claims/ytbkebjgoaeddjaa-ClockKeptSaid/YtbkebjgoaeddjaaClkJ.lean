import Derived.Test.YtbkebjgoaeddjaaClkI
/- The reference's ring; law.rest, Nums. -/
set_option linter.unusedVariables false
namespace Go.Proofs.Ytbkebjgoaeddjaa
open Go.RowKit Go.VB Go.VB.Clk
theorem rest_any (w : World) (x n : Int) (hn : 0 < n) (hn2 : n ≤ 1099511627776) : Calls Try.prog 14 #[.int .i64 x, .int .i64 n] w fun e w' => e = .returned (.int .i64 (x % n)) ∧ w = w' := by
  have h1 := Int.tmod_lt_of_pos x hn
  have h2 : -n < x.tmod n := Int.lt_tmod_of_pos x hn
  have h3 := tmod_fix x n hn
  go_enter Try.func14, Try.ntmps14
  go_wp2
  go_ret
  exact ⟨rfl, rfl⟩
theorem rOn_go (x : Int) (w : World) : Calls Try.prog 53 #[.int .i64 x] w fun e w' => e = .returned (.bool (on x)) ∧ w = w' := by
  unfold on
  go_enter Try.func53, Try.ntmps53
  go_wp2
  all_goals
    go_ret
    exact ⟨ret_bool (by rw [Bool.eq_iff_iff]; simp; omega), rfl⟩
theorem rOn_is (x : Int) (w : World) {b : Bool} (h : on x = b) : Calls Try.prog 53 #[.int .i64 x] w fun e w' => e = .returned (.bool b) ∧ w = w' := by rw [← h]; exact rOn_go x w
theorem rNext_go (x : Int) (w : World) (h : -9223372036854775808 ≤ x ∧ x ≤ 9223372036854775807) : Calls Try.prog 16 #[.int .i64 x] w fun e w' => e = .returned (.int .i64 (nextI x)) ∧ w = w' := by
  unfold nextI
  cases hx : on x with
  | false =>
    simp only [Bool.false_and, Bool.false_eq_true, if_false]
    have HO := hid (fun w => rOn_is x w hx)
    clear hx
    go_enter Try.func16, Try.ntmps16
    go_wp2_with (go_at_call 53; refine (HO.out _).mono ?_; rintro e w' ⟨rfl, rfl⟩)
    go_ret
    exact ⟨rfl, rfl⟩
  | true =>
    simp only [Bool.true_and, decide_eq_true_eq]
    have HO := hid (fun w => rOn_is x w hx)
    obtain ⟨k, rfl, h1, h2⟩ := on_nat hx
    clear hx
    by_cases h7 : (k : Int) = 127
    · rw [if_neg (by omega)]
      rw [h7] at HO ⊢
      go_enter Try.func16, Try.ntmps16
      go_wp2_with (go_at_call 53; refine (HO.out _).mono ?_; rintro e w' ⟨rfl, rfl⟩)
      go_ret
      exact ⟨rfl, rfl⟩
    · rw [if_pos h7]
      have h7' : decide ((k : Int) = 127) = false := by simpa using h7
      go_enter Try.func16, Try.ntmps16
      go_wp2_with (go_at_call 53; refine (HO.out _).mono ?_; rintro e w' ⟨rfl, rfl⟩)
      go_ret
      exact ⟨rfl, rfl⟩
theorem rNext_nat (a : Nat) (w : World) (ha : 3 ≤ a ∧ a ≤ 127) : Calls Try.prog 16 #[.int .i64 a] w fun e w' => e = .returned (.int .i64 (nxt a)) ∧ w = w' := by
  rw [← nextI_nat ha]
  exact rNext_go a w (by omega)
theorem rSteps_go (a b : Nat) (w : World) (ha : 3 ≤ a ∧ a ≤ 127) (hb : 3 ≤ b ∧ b ≤ 127) : Calls Try.prog 55 #[.int .i64 a, .int .i64 b] w fun e w' => e = .returned (.int .i64 (steps a b)) ∧ w = w' := by
  have hlt := steps_lt a b
  go_enter Try.func55, Try.ntmps55
  go_wp2
  go_loop [0, 5] (fun x n => ∃ j : Nat, j ≤ steps a b ∧ x = .int .i64 (xat a j) ∧ n = .int .i64 j) (fun _ n => 125 - (intOf n).toNat)
  case atStart => exact ⟨0, by omega, by rw [xat_zero ha], rfl⟩
  case round =>
    obtain ⟨j, hj, rfl, rfl⟩ := hrel
    have hon := xat_on a j
    have hs := steps_xat ha (i := j) (by omega)
    by_cases hjb : j < steps a b
    · have hne : ((xat a j : Int) != (b : Int)) = true := by
        have : xat a j ≠ b := by intro e; rw [e] at hs; omega
        simp; omega
      have HN := hid (rNext_nat (xat a j) w hon)
      have HS := hid (xat_succ ha j)
      clear hs
      go_wp2_with (go_at_call 16; refine HN.out.mono ?_; rintro e w' ⟨rfl, rfl⟩)
      go_round
      case rel => exact ⟨j + 1, by omega, by rw [HS.out], by go_num⟩
      case measure => simp [intOf]; omega
    · have e : j = steps a b := by omega
      have hxb : xat a j = b := by rw [e]; exact xat_steps ha hb
      have hne : ((xat a j : Int) != (b : Int)) = false := by simp [hxb]
      have HE := hid e
      clear hs e hxb hj hlt
      go_wp2
      go_ret
      exact ⟨ret_int (by rw [HE.out]), rfl⟩
theorem rBefore_go (a b : Int) (w : World) : Calls Try.prog 18 #[.int .i64 a, .int .i64 b] w fun e w' => e = .returned (.bool (beforeI a b)) ∧ w = w' := by
  unfold beforeI
  by_cases h2 : a = 2
  · rw [if_pos h2]
    subst h2
    go_enter Try.func18, Try.ntmps18
    go_wp2_with (go_at_call 53; refine (rOn_go _ _).mono ?_; rintro e w' ⟨rfl, rfl⟩)
    go_ret
    exact ⟨rfl, rfl⟩
  · rw [if_neg h2]
    have h2'' : (a == 2) = false := by simpa using h2
    cases ha : on a with
    | false =>
      have HA := hid (fun w => rOn_is a w ha)
      have HB := hid (fun w => rOn_go b w)
      simp only [Bool.false_and]
      clear ha h2
      generalize on b = bb at *
      go_enter Try.func18, Try.ntmps18
      go_wp2_with (first
          | (go_at_call 53; ((with_reducible refine (HA.out _).mono ?_); rintro e w' ⟨rfl, rfl⟩))
          | (go_at_call 53; ((with_reducible refine (HB.out _).mono ?_); rintro e w' ⟨rfl, rfl⟩)))
      go_ret
      exact ⟨rfl, rfl⟩
    | true =>
      have HA := hid (fun w => rOn_is a w ha)
      obtain ⟨i, rfl, i1, i2⟩ := on_nat ha
      cases hb : on b with
      | false =>
        have HB := hid (fun w => rOn_is b w hb)
        simp only [Bool.false_and, Bool.and_false]
        clear ha h2 hb
        go_enter Try.func18, Try.ntmps18
        go_wp2_with (first
          | (go_at_call 53; ((with_reducible refine (HA.out _).mono ?_); rintro e w' ⟨rfl, rfl⟩))
          | (go_at_call 53; ((with_reducible refine (HB.out _).mono ?_); rintro e w' ⟨rfl, rfl⟩)))
        go_ret
        exact ⟨rfl, rfl⟩
      | true =>
        have HB := hid (fun w => rOn_is b w hb)
        obtain ⟨j, rfl, j1, j2⟩ := on_nat hb
        have HS := hid (fun w => rSteps_go i j w ⟨i1, i2⟩ ⟨j1, j2⟩)
        simp only [Bool.true_and, Int.toNat_natCast]
        clear ha h2 hb
        go_enter Try.func18, Try.ntmps18
        go_wp2_with (first
          | (go_at_call 53; ((with_reducible refine (HA.out _).mono ?_); rintro e w' ⟨rfl, rfl⟩))
          | (go_at_call 53; ((with_reducible refine (HB.out _).mono ?_); rintro e w' ⟨rfl, rfl⟩))
          | (go_at_call 55; ((with_reducible refine (HS.out _).mono ?_); rintro e w' ⟨rfl, rfl⟩)))
        all_goals
          go_ret
          exact ⟨ret_bool (by rw [Bool.eq_iff_iff]; simp; omega), rfl⟩
theorem rAge_go (a b : Int) (w : World) : Calls Try.prog 20 #[.int .i64 a, .int .i64 b] w fun e w' => e = .returned (.int .i64 (ageI a b)) ∧ w = w' := by
  unfold ageI
  cases ha : on a with
  | false =>
    have HA := hid (fun w => rOn_is a w ha)
    have HB := hid (fun w => rOn_go b w)
    simp only [Bool.false_and, Bool.false_eq_true, if_false]
    clear ha
    generalize on b = bb at *
    go_enter Try.func20, Try.ntmps20
    go_wp2_with (first
          | (go_at_call 53; ((with_reducible refine (HA.out _).mono ?_); rintro e w' ⟨rfl, rfl⟩))
          | (go_at_call 53; ((with_reducible refine (HB.out _).mono ?_); rintro e w' ⟨rfl, rfl⟩)))
    go_ret
    exact ⟨rfl, rfl⟩
  | true =>
    have HA := hid (fun w => rOn_is a w ha)
    obtain ⟨i, rfl, i1, i2⟩ := on_nat ha
    cases hb : on b with
    | false =>
      have HB := hid (fun w => rOn_is b w hb)
      simp only [Bool.and_false, Bool.false_eq_true, if_false]
      clear ha hb
      go_enter Try.func20, Try.ntmps20
      go_wp2_with (first
          | (go_at_call 53; ((with_reducible refine (HA.out _).mono ?_); rintro e w' ⟨rfl, rfl⟩))
          | (go_at_call 53; ((with_reducible refine (HB.out _).mono ?_); rintro e w' ⟨rfl, rfl⟩)))
      go_ret
      exact ⟨rfl, rfl⟩
    | true =>
      have HB := hid (fun w => rOn_is b w hb)
      obtain ⟨j, rfl, j1, j2⟩ := on_nat hb
      have HS := hid (fun w => rSteps_go i j w ⟨i1, i2⟩ ⟨j1, j2⟩)
      simp only [Bool.and_self, if_true, Int.toNat_natCast]
      clear ha hb
      go_enter Try.func20, Try.ntmps20
      go_wp2_with (first
          | (go_at_call 53; ((with_reducible refine (HA.out _).mono ?_); rintro e w' ⟨rfl, rfl⟩))
          | (go_at_call 53; ((with_reducible refine (HB.out _).mono ?_); rintro e w' ⟨rfl, rfl⟩))
          | (go_at_call 55; ((with_reducible refine (HS.out _).mono ?_); rintro e w' ⟨rfl, rfl⟩)))
      go_ret
      exact ⟨rfl, rfl⟩
/-- the number by steps further on -/
theorem Turn_go (a n : Nat) (w : World) (ha : 3 ≤ a ∧ a ≤ 127) (hn : n ≤ 1000000) : Calls Try.prog 33 #[.int .i64 a, .int .i64 n] w fun e w' => e = .returned (.int .i64 (xat a n)) ∧ w = w' := by
  have HA := hid (fun w => rOn_is (a : Int) w (on_of ha.1 ha.2))
  go_enter Try.func33, Try.ntmps33
  go_wp2_with (go_at_call 53; refine (HA.out _).mono ?_; rintro e w' ⟨rfl, rfl⟩)
  go_loop [0, 6] (fun x i => ∃ j : Nat, j ≤ n ∧ x = .int .i64 (xat a j) ∧ i = .int .i64 j) (fun _ i => n - (intOf i).toNat)
  case atStart => exact ⟨0, by omega, by rw [xat_zero ha], rfl⟩
  case round =>
    obtain ⟨j, hj, rfl, rfl⟩ := hrel
    have hon := xat_on a j
    by_cases hjb : j < n
    · have HN := hid (rNext_nat (xat a j) w hon)
      have HS := hid (xat_succ ha j)
      go_wp2_with (go_at_call 16; refine HN.out.mono ?_; rintro e w' ⟨rfl, rfl⟩)
      go_round
      case rel => exact ⟨j + 1, by omega, by rw [HS.out], by go_num⟩
      case measure => simp [intOf]; omega
    · obtain rfl : j = n := by omega
      go_wp2
      go_ret
      exact ⟨rfl, rfl⟩
theorem Turn_off (a : Int) (n : Int) (w : World) (ha : on a = false) : Calls Try.prog 33 #[.int .i64 a, .int .i64 n] w fun e w' => e = .returned (.int .i64 a) ∧ w = w' := by
  have HA := hid (fun w => rOn_is a w ha)
  clear ha
  go_enter Try.func33, Try.ntmps33
  go_wp2_with (go_at_call 53; refine (HA.out _).mono ?_; rintro e w' ⟨rfl, rfl⟩)
  go_ret
  exact ⟨rfl, rfl⟩
theorem take_snoc_eq {l m : List Nat} {j : Nat} (h1 : j < l.length) (h2 : j < m.length) (ht : l.take j = m.take j) (he : l[j] = m[j]) : l.take (j + 1) = m.take (j + 1) := by
  rw [List.take_add_one, List.take_add_one, ht, List.getElem?_eq_getElem h1, List.getElem?_eq_getElem h2, he]
theorem nv_cell {R : Nat → Prop} {w : World} {a : Option Addr} {l : List Nat} {n c : Nat} (h : nv l ≠ [] → ∃ g o, a = some ⟨g, o, none⟩ ∧ R g ∧ w.rangeAt g o (nv l)) {j : Nat} (hj : j < l.length) : ∃ g o, a = some ⟨g, o, none⟩ ∧ w.cell? ⟨g, o + j, none⟩ = some (.int .i64 (l[j] : Nat)) := by
  obtain ⟨g, o, rfl, -, hr⟩ := h (by intro e; have : (nv l).length = 0 := congrArg List.length e; rw [nv_length] at this; omega)
  exact ⟨g, o, rfl, hr j _ (by simp [nv, hj])⟩
set_option maxHeartbeats 1000000 in
theorem Nums_go {R1 R2 : Nat → Prop} {w : World} {v1 v2 : Value} {l1 l2 : List Nat} (h1 : Sl R1 w v1 l1.length (nv l1)) (h2 : Sl R2 w v2 l2.length (nv l2)) (b1 : l1.length ≤ 1000000) (b2 : l2.length ≤ 1000000) :
    Calls Try.prog 51 #[v1, v2] w fun e w' => e = .returned (.bool (decide (l1 = l2))) ∧ Fr (fun _ => False) w w' := by
  obtain ⟨a1, c1, rfl, hc1, hr1⟩ := h1
  obtain ⟨a2, c2, rfl, hc2, hr2⟩ := h2
  have HR1 := hid (fun j (hj : j < l1.length) => nv_cell (n := 0) (c := 0) hr1 hj)
  have HR2 := hid (fun j (hj : j < l2.length) => nv_cell (n := 0) (c := 0) hr2 hj)
  clear hr1 hr2
  by_cases hl : l1.length = l2.length
  · have hd : decide (((l1.length : Nat) : Int) = (l2.length : Nat)) = true := by simp [hl]
    have hle1 : l1.length ≤ l2.length := Nat.le_of_eq hl
    have hle2 : l2.length ≤ l1.length := Nat.le_of_eq hl.symm
    have hne : (((l1.length : Nat) : Int) != (l2.length : Nat)) = false := by simp [hl]
    have HL := hid hl
    clear hl
    go_enter Try.func51, Try.ntmps51
    go_wp2_with (fail)
    go_loopw [5] (fun i wr => ∃ j : Nat, j ≤ l1.length ∧ i = .int .i64 j ∧ Hid (l1.take j = l2.take j) ∧ Fr (fun _ => False) w wr) (fun i _ => l1.length - (intOf i).toNat)
    case atStart => exact ⟨0, by omega, rfl, hid (by simp), Fr.refl _ _⟩
    case round =>
      obtain ⟨j, hj, rfl, ht, fr⟩ := hrel
      by_cases hjl : j < l1.length
      · obtain ⟨g1, o1, rfl, k1⟩ := HR1.out j hjl
        obtain ⟨g2, o2, rfl, k2⟩ := HR2.out j (by omega)
        have q1 := cell_fr k1 fr (fun h => h)
        have q2 := cell_fr k2 fr (fun h => h)
        have i1 : (0 : Int) ≤ j := by omega
        have i2 : (j : Int) < l1.length := by omega
        have i3 : (j : Int) < l2.length := by omega
        have i4 : j < l2.length := by omega
        by_cases he : l1[j] = l2[j]'(by omega)
        · have hT := hid (take_snoc_eq hjl (by omega) ht.out he)
          have hb : (((l1[j] : Nat) : Int) != ((l2[j]'(by omega) : Nat) : Int)) = false := by simp [he]
          generalize l1[j] = x at *
          generalize l2[j]'(by omega) = y at *
          clear he k1 k2
          go_wp2_with (fail)
          refine wp_region_scr (.take 0 (.take 1 (.take 2 (.take 3 (.take 4 (.take 5 (.take 6 (.take 7 (.take 8 .done))))))))) (fun kz w => (kz ≤ 9 → w.cell? ⟨g1, o1 + j, none⟩ = some (.int .i64 x) ∧ w.cell? ⟨g2, o2 + j, none⟩ = some (.int .i64 y)) ∧ True) (by kernel_rfl) (by kernel_rfl) (by intro c a d v w h; cases d <;> exact h) ?_
          repeat
            first
            | (refine wpT_pure rfl rfl rfl ?_; apply Exists.intro; refine ⟨?_, ?_⟩; intro w; ((go_simp <;> rfl)); simp only [Act.put, List.setIfInBounds_toArray, List.set_cons_zero, List.set_cons_succ])
            | (refine wpT_take 9 rfl rfl (by decide +kernel) ⟨fun _ => ⟨q1, q2⟩, trivial⟩ ?_; apply Exists.intro; refine ⟨?_, ?_⟩; intro w hw; (have qa := hw.1 (Nat.le_refl _); have qb := hw.2); ((go_simp <;> rfl)); simp only [Act.put, List.setIfInBounds_toArray, List.set_cons_zero, List.set_cons_succ])
            | (refine wpT_skip rfl rfl ?_; simp only [Act.put, List.setIfInBounds_toArray, List.set_cons_zero, List.set_cons_succ])
          refine wpT_nil ?_
          go_wp2_with (fail)
          go_roundw
          case rel => exact ⟨j + 1, by omega, by go_num, hT, fr.drew⟩
          case measure => simp [intOf]; omega
        · have hne2 : l1 ≠ l2 := by intro e; subst e; exact he rfl
          have hdd : decide (l1 = l2) = false := by simp [hne2]
          have hb : (((l1[j] : Nat) : Int) != ((l2[j]'(by omega) : Nat) : Int)) = true := by simp; omega
          generalize l1[j] = x at *
          generalize l2[j]'(by omega) = y at *
          have HDD := hid hdd
          clear he k1 k2 hne2 hdd
          go_wp2_with (fail)
          refine wp_region_scr (.take 0 (.take 1 (.take 2 (.take 3 (.take 4 (.take 5 (.take 6 (.take 7 (.take 8 .done))))))))) (fun kz w => (kz ≤ 9 → w.cell? ⟨g1, o1 + j, none⟩ = some (.int .i64 x) ∧ w.cell? ⟨g2, o2 + j, none⟩ = some (.int .i64 y)) ∧ True) (by kernel_rfl) (by kernel_rfl) (by intro c a d v w h; cases d <;> exact h) ?_
          repeat
            first
            | (refine wpT_pure rfl rfl rfl ?_; apply Exists.intro; refine ⟨?_, ?_⟩; intro w; ((go_simp <;> rfl)); simp only [Act.put, List.setIfInBounds_toArray, List.set_cons_zero, List.set_cons_succ])
            | (refine wpT_take 9 rfl rfl (by decide +kernel) ⟨fun _ => ⟨q1, q2⟩, trivial⟩ ?_; apply Exists.intro; refine ⟨?_, ?_⟩; intro w hw; (have qa := hw.1 (Nat.le_refl _); have qb := hw.2); ((go_simp <;> rfl)); simp only [Act.put, List.setIfInBounds_toArray, List.set_cons_zero, List.set_cons_succ])
            | (refine wpT_skip rfl rfl ?_; simp only [Act.put, List.setIfInBounds_toArray, List.set_cons_zero, List.set_cons_succ])
          refine wpT_nil ?_
          go_wp2_with (fail)
          go_ret
          exact ⟨ret_bool HDD.out.symm, fr.drew⟩
      · obtain rfl : j = l1.length := by omega
        have hT := ht.out
        rw [List.take_length, HL.out, List.take_length] at hT
        have HDD := hid (show decide (l1 = l2) = true by simp [hT])
        clear hT ht
        go_wp2_with (fail)
        go_ret
        exact ⟨ret_bool HDD.out.symm, fr⟩
  · have hne : (((l1.length : Nat) : Int) != (l2.length : Nat)) = true := by simp; omega
    have HDD := hid (show decide (l1 = l2) = false by simp; intro e; exact hl (by rw [e]))
    clear hl
    go_enter Try.func51, Try.ntmps51
    go_wp2_with (fail)
    go_ret
    exact ⟨ret_bool HDD.out.symm, Fr.refl _ _⟩
end Go.Proofs.Ytbkebjgoaeddjaa
