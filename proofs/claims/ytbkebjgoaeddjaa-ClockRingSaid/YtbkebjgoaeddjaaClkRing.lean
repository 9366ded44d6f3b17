/- Proved: for every two integers the law ClockRing of chapter 07 returns true, and its arguments read afterwards as before. Conditions: none beyond the given statement. -/
import Derived.Test.YtbkebjgoaeddjaaClkK
import Derived.Test.YtbkebjgoaeddjaaFin
set_option linter.unusedVariables false
namespace Go.Proofs.Ytbkebjgoaeddjaa
open Go.RowKit Go.VB Go.VB.Clk
theorem before_two {k : Nat} (h : 3 ≤ k ∧ k ≤ 127) : beforeI 2 k = true := by
  unfold beforeI
  rw [if_pos rfl]
  exact on_of h.1 h.2
theorem before_nat {i j : Nat} (hi : 3 ≤ i ∧ i ≤ 127) (hj : 3 ≤ j ∧ j ≤ 127) : beforeI i j = (decide (1 ≤ steps i j) && decide (steps i j ≤ 62)) := by
  unfold beforeI
  rw [if_neg (by omega), on_of hi.1 hi.2, on_of hj.1 hj.2]
  simp
theorem before_self {i : Nat} (hi : 3 ≤ i ∧ i ≤ 127) : beforeI i i = false := by
  rw [before_nat hi hi, steps_self]
  rfl
theorem before_ne {i j : Nat} (hi : 3 ≤ i ∧ i ≤ 127) (hj : 3 ≤ j ∧ j ≤ 127) (h : i ≠ j) : beforeI j i = !beforeI i j := by
  rw [before_nat hi hj, before_nat hj hi, Bool.eq_iff_iff]
  unfold steps
  simp
  omega
set_option maxRecDepth 20000 in
set_option maxHeartbeats 4000000 in
theorem ClockRing_walk (a b : Int) (w : World) (ha : -9223372036854775808 ≤ a ∧ a ≤ 9223372036854775807) (hb : -9223372036854775808 ≤ b ∧ b ≤ 9223372036854775807) :
    Calls Try.prog 3 #[.int .i64 a, .int .i64 b] w fun e w' => e = .returned (.bool true) ∧ Fr (fun _ => False) w w' := by
  obtain ⟨x, hx⟩ : ∃ x : Nat, ((x : Nat) : Int) = 3 + a % 125 := ⟨(3 + a % 125).toNat, by omega⟩
  obtain ⟨y, hy⟩ : ∃ y : Nat, ((y : Nat) : Int) = 3 + b % 125 := ⟨(3 + b % 125).toNat, by omega⟩
  have hx1 : 3 ≤ x ∧ x ≤ 127 := by omega
  have hy1 : 3 ≤ y ∧ y ≤ 127 := by omega
  have b2 := before_two hy1
  have bs := before_self hx1
  have N1 := hid (fun w => Next_go a w ha)
  have N2 := hid (fun w => rNext_go a w ha)
  have N3 := hid (fun w => Next_go x w (by omega))
  have N4 := hid (fun w => rNext_go x w (by omega))
  have RA := hid (fun w => rest_any w a 125 (by omega) (by omega))
  have RB := hid (fun w => rest_any w b 125 (by omega) (by omega))
  have P1 := hid (fun w => Before_go a b w)
  have P2 := hid (fun w => rBefore_go a b w)
  have P3 := hid (fun w => Before_go x y w)
  have P4 := hid (fun w => rBefore_go x y w)
  have P5 := hid (fun w => b2 ▸ Before_go 2 y w)
  have P6 := hid (fun w => bs ▸ Before_go x x w)
  have P7 := hid (fun w => Before_go y x w)
  have A1 := hid (fun w => Age_go a b w)
  have A2 := hid (fun w => rAge_go a b w)
  have A3 := hid (fun w => Age_go x y w)
  have A4 := hid (fun w => rAge_go x y w)
  clear b2 bs
  have hxy : x = y ∨ (x ≠ y ∧ beforeI y x = !beforeI x y) := by
    by_cases h : x = y
    · exact .inl h
    · exact .inr ⟨h, before_ne hx1 hy1 h⟩
  generalize beforeI a b = pab at *
  generalize nextI a = na at *
  generalize nextI x = nx at *
  generalize ageI a b = aab at *
  generalize ageI x y = axy at *
  have HX := hid hx
  have HY := hid hy
  have HXY := hid hxy
  clear hx hy hxy
  go_enter Try.func3, Try.ntmps3
  go_wp2_with (fail)
  refine (sanity_go w).mono ?_
  rintro e w1 ⟨rfl, f1⟩
  go_wp2_with (fail)
  refine (RA.out _).mono ?_
  rintro e w2 ⟨rfl, rfl⟩
  go_wp2_with (fail)
  refine (RB.out _).mono ?_
  rintro e w2 ⟨rfl, rfl⟩
  go_wp2_with (fail)
  rw [← HX.out, ← HY.out]
  rcases HXY.out with h | ⟨h, h2⟩
  · have hd : ((x : Int) == (y : Int)) = true := by simp [h]
    clear h HXY
    go_wp2_with (first
    | (go_at_call 15; ((with_reducible refine (N1.out _).mono ?_); rintro e w' ⟨rfl, rfl⟩))
    | (go_at_call 16; ((with_reducible refine (N2.out _).mono ?_); rintro e w' ⟨rfl, rfl⟩))
    | (go_at_call 15; ((with_reducible refine (N3.out _).mono ?_); rintro e w' ⟨rfl, rfl⟩))
    | (go_at_call 16; ((with_reducible refine (N4.out _).mono ?_); rintro e w' ⟨rfl, rfl⟩))
    | (go_at_call 17; ((with_reducible refine (P1.out _).mono ?_); rintro e w' ⟨rfl, rfl⟩))
    | (go_at_call 18; ((with_reducible refine (P2.out _).mono ?_); rintro e w' ⟨rfl, rfl⟩))
    | (go_at_call 17; ((with_reducible refine (P3.out _).mono ?_); rintro e w' ⟨rfl, rfl⟩))
    | (go_at_call 18; ((with_reducible refine (P4.out _).mono ?_); rintro e w' ⟨rfl, rfl⟩))
    | (go_at_call 17; ((with_reducible refine (P5.out _).mono ?_); rintro e w' ⟨rfl, rfl⟩))
    | (go_at_call 17; ((with_reducible refine (P6.out _).mono ?_); rintro e w' ⟨rfl, rfl⟩))
    | (go_at_call 17; ((with_reducible refine (P7.out _).mono ?_); rintro e w' ⟨rfl, rfl⟩))
    | (go_at_call 19; ((with_reducible refine (A1.out _).mono ?_); rintro e w' ⟨rfl, rfl⟩))
    | (go_at_call 20; ((with_reducible refine (A2.out _).mono ?_); rintro e w' ⟨rfl, rfl⟩))
    | (go_at_call 19; ((with_reducible refine (A3.out _).mono ?_); rintro e w' ⟨rfl, rfl⟩))
    | (go_at_call 20; ((with_reducible refine (A4.out _).mono ?_); rintro e w' ⟨rfl, rfl⟩)))
    go_ret
    exact ⟨rfl, f1⟩
  · have hd : ((x : Int) == (y : Int)) = false := by rw [Bool.eq_false_iff]; simp; omega
    rw [h2] at P7
    generalize beforeI x y = q at *
    clear h h2 HXY
    cases q
    all_goals
      go_wp2_with (first
    | (go_at_call 15; ((with_reducible refine (N1.out _).mono ?_); rintro e w' ⟨rfl, rfl⟩))
    | (go_at_call 16; ((with_reducible refine (N2.out _).mono ?_); rintro e w' ⟨rfl, rfl⟩))
    | (go_at_call 15; ((with_reducible refine (N3.out _).mono ?_); rintro e w' ⟨rfl, rfl⟩))
    | (go_at_call 16; ((with_reducible refine (N4.out _).mono ?_); rintro e w' ⟨rfl, rfl⟩))
    | (go_at_call 17; ((with_reducible refine (P1.out _).mono ?_); rintro e w' ⟨rfl, rfl⟩))
    | (go_at_call 18; ((with_reducible refine (P2.out _).mono ?_); rintro e w' ⟨rfl, rfl⟩))
    | (go_at_call 17; ((with_reducible refine (P3.out _).mono ?_); rintro e w' ⟨rfl, rfl⟩))
    | (go_at_call 18; ((with_reducible refine (P4.out _).mono ?_); rintro e w' ⟨rfl, rfl⟩))
    | (go_at_call 17; ((with_reducible refine (P5.out _).mono ?_); rintro e w' ⟨rfl, rfl⟩))
    | (go_at_call 17; ((with_reducible refine (P6.out _).mono ?_); rintro e w' ⟨rfl, rfl⟩))
    | (go_at_call 17; ((with_reducible refine (P7.out _).mono ?_); rintro e w' ⟨rfl, rfl⟩))
    | (go_at_call 19; ((with_reducible refine (A1.out _).mono ?_); rintro e w' ⟨rfl, rfl⟩))
    | (go_at_call 20; ((with_reducible refine (A2.out _).mono ?_); rintro e w' ⟨rfl, rfl⟩))
    | (go_at_call 19; ((with_reducible refine (A3.out _).mono ?_); rintro e w' ⟨rfl, rfl⟩))
    | (go_at_call 20; ((with_reducible refine (A4.out _).mono ?_); rintro e w' ⟨rfl, rfl⟩)))
      go_ret
      exact ⟨rfl, f1⟩
end Go.Proofs.Ytbkebjgoaeddjaa
namespace Go.Proofs.Ytbkebjgoaeddjaa.clockRing
open Go.ChangeShapes Go.WideShapes Go.ChangeAt Go.RowKit Go.VB Go.VB.Clk
set_option maxHeartbeats 400000 in
set_option maxRecDepth 100000 in
theorem lifted (os : Os) (started : os.Started) (H : Type) (enc : TypeId × Value → H) :
    ReturnsInHanded {} Try.checked os 3 .any (Rows.clockRingSpec.pre6 enc Try.prog Try.f3 Rows.clockRingRow.domain false) (Rows.clockRingSpec.post enc Try.prog Try.f3 false true false false) := by
  refine returnsInHanded_of_change (C := Try.checked) own started (by kernel_rfl) Try.func3
    (ChangeSpec.witness6 (enc := enc) (C := Try.checked) false ⟨#[], #[.int .i64 0, .int .i64 0], []⟩ 8 (by kernel_rfl) (by kernel_rfl) (by kernel_rfl) (by kernel_rfl)) ?_
  intro W base args ds gs before hval0 hW hcnd _
  have hval : ∀ (j : Nat) t v, Try.f3.params[j]? = some t → args[j]? = some v → Value.okWide Try.prog W .any base t v := hval0
  have hW' := hW
  obtain ⟨p, q, hA0, hV, rfl, hfz, hnd⟩ := hW
  have hA : DataW.TrodAll enc Try.prog W 0 (fun _ => true) true Try.f3.params.toList args.toList ds p := hA0
  rw [Try.params3] at hA hval
  obtain ⟨v0, vs0, d0, ds0, p0, q0, hargs, rfl, rfl, h0, r0⟩ := trodAll_cons hA
  obtain ⟨v1, vs1, d1, ds1, p1, q1, rfl, rfl, rfl, h1, r1⟩ := trodAll_cons r0
  obtain ⟨rfl, rfl, rfl⟩ := trodAll_nil r1
  obtain rfl : args = #[v0, v1] := by cases args; simp_all
  obtain ⟨rfl, rfl⟩ := trodVars_none hV
  clear hA0 hval0
  refine Calls.mono (R := fun e w' => e = .returned (.bool true) ∧ Fr (fun _ => False) W w') ?_ fun e W' ⟨he, hf⟩ => ⟨_, he, post_law sound (by decide +kernel) rfl rfl (ht := Try.underlying4) (by rfl) hW' hf⟩
  obtain ⟨a0, rfl, -, -, w0⟩ := open_int Try.underlying3 (hval 0 3 v0 rfl rfl) h0
  obtain ⟨a1, rfl, -, -, w1⟩ := open_int Try.underlying3 (hval 1 3 v1 rfl rfl) h1
  exact ClockRing_walk a0 a1 W (bounds_i64 w0) (bounds_i64 w1)
theorem proved : Rows.ClockRingSaid :=
  OpenClaim.holds_of_wide 3 Try.f3 rfl rfl rfl rfl rfl rfl rfl ⟨rfl, rfl, rfl, rfl, rfl⟩ rfl rfl rfl rfl rfl (by kernel_rfl) Try.func3 (by kernel_rfl)
    (of_decide_eq_true (by kernel_rfl)) (by unfold Func.isWrapper; first | (rw [if_pos (by decide +kernel)]; kernel_rfl) | (rw [if_neg (by decide +kernel)]; exact ⟨rfl, rfl⟩))
    (fun os started H enc _ => lifted os started H enc)
end Go.Proofs.Ytbkebjgoaeddjaa.clockRing
