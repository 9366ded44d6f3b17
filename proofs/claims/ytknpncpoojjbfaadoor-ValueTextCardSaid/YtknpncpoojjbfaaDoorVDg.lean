import Derived.Test.YtknpncpoojjbfaaDoorVR
/- The reference's Digits, exactly. -/
set_option linter.unusedVariables false
namespace Go.VB.Rec
/-- where the loop of Digits stands: k is left, s is written, b: nothing is written yet -/
structure DgS (N k : Nat) (b : Bool) (s : List UInt8) : Prop where
  t : b = true → k = N ∧ s = []
  z : b = false → k = 0 → Lib.decDigits N = s
  m : b = false → k ≠ 0 → Lib.decDigits N = Lib.decDigits k ++ s
  l : s.length ≤ 20
  w : k ≠ 0 → k * 10 ^ s.length ≤ 9223372036854775808
theorem DgS.start (N : Nat) (h : N ≤ 9223372036854775808) : DgS N N true [] := ⟨fun _ => ⟨rfl, rfl⟩, (fun h => by cases h), (fun h => by cases h), by simp, fun _ => by simpa using h⟩
theorem DgS.step {N k : Nat} {b : Bool} {s : List UInt8} (h : DgS N k b s) (hc : ¬ (b = false ∧ k = 0)) : DgS N (k / 10) false (UInt8.ofNat (48 + k % 10) :: s) := by
  have hd : Lib.decDigits N = Lib.decDigits k ++ s := by
    cases b with
    | true => obtain ⟨h1, h2⟩ := h.t rfl; rw [h1, h2, List.append_nil]
    | false => exact h.m rfl (fun e => hc ⟨rfl, e⟩)
  refine ⟨(fun h => by cases h), fun _ h0 => ?_, fun _ h0 => ?_, ?_, fun h0 => ?_⟩
  · have hk : k < 10 := by omega
    rw [hd, Lib.decDigits_one hk, Nat.mod_eq_of_lt hk]; rfl
  · have hk : ¬ k < 10 := by omega
    rw [hd]
    conv => lhs; rw [Lib.decDigits, dif_neg hk]
    simp
  · rw [List.length_cons]
    cases b with
    | true => rw [(h.t rfl).2]; simp
    | false =>
      have hk : k ≠ 0 := fun e => hc ⟨rfl, e⟩
      have hw := h.w hk
      rcases Nat.lt_or_ge s.length 19 with g | g
      · omega
      · have h1 : 10 ^ 19 ≤ 10 ^ s.length := Nat.pow_le_pow_right (by omega) g
        have h2 : 10 ^ s.length ≤ k * 10 ^ s.length := Nat.le_mul_of_pos_left _ (by omega)
        have h3 : (10 : Nat) ^ 19 = 10000000000000000000 := by decide
        omega
  · have hk : k ≠ 0 := by omega
    have hw := h.w hk
    rw [List.length_cons, Nat.pow_succ]
    have h1 : k / 10 * (10 ^ s.length * 10) = (k / 10 * 10) * 10 ^ s.length := by rw [Nat.mul_comm (10 ^ s.length) 10, Nat.mul_assoc]
    rw [h1]
    exact Nat.le_trans (Nat.mul_le_mul_right _ (Nat.div_mul_le_self k 10)) hw
end Go.VB.Rec
namespace Go.Proofs.YtknpncpoojjbfaaDoor
open Go.RowKit Go.VB Go.VB.Oct Go.VB.Rec
set_option maxRecDepth 20000 in
set_option maxHeartbeats 1000000 in
theorem DigitsP_go (N : Nat) (hn : N ≤ 9223372036854775807) (w : World) : Calls Tryd.prog 57 #[.int .i64 (N : Int)] w fun e w' => e = .returned (.string (bs (Lib.decDigits N))) ∧ Fr (fun _ => False) w w' := by
  have F0 := hid (Fr.refl (fun _ => False) w)
  have HST := hid (DgS.start N (by omega))
  obtain ⟨dn, hdn⟩ : ∃ dn, Lib.decDigits N = dn := ⟨_, rfl⟩
  rw [hdn]
  have HDN := hid hdn
  clear hdn
  go_enter Tryd.func57, Tryd.ntmps57
  go_wp2_with (fail)
  go_loopw [3, 4, 5] (fun s3 m4 f5 wr => ∃ (s : List UInt8) (k : Nat) (b : Bool), s3 = .string (bs s) ∧ m4 = .int .i64 (k : Int) ∧ f5 = .bool b ∧ DgS N k b s ∧ k ≤ N ∧ Fr (fun _ => False) w wr) (fun _ m4 f5 _ => (intOf m4).natAbs + firstOf f5)
  case atStart => exact ⟨[], N, true, rfl, rfl, rfl, HST.out, Nat.le_refl _, F0.out⟩
  case round =>
    obtain ⟨s, k, b, rfl, rfl, rfl, hd, hkN, fr⟩ := hrel
    have FR := hid fr
    have HD := hid hd
    have HL := hid hd.l
    clear fr hd F0 HST
    by_cases hc : b = false ∧ k = 0
    · obtain ⟨rfl, rfl⟩ := hc
      have hz := HD.out.z rfl rfl
      rw [HDN.out] at hz
      subst hz
      have hlt : ¬ (N : Int) < 0 := by omega
      have e0 : (((0 : Nat) : Int) != 0) = false := by decide
      go_wp2_with (fail)
      go_ret
      exact ⟨rfl, FR.out⟩
    · have HN := hid (HD.out.step hc)
      obtain ⟨d, hd⟩ : ∃ d : Nat, k % 10 = d := ⟨_, rfl⟩
      have hd10 : d < 10 := by omega
      have HO : Hid (∀ w, Calls Tryd.prog 43 #[.int .i64 (48 + (d : Int))] w fun e w' => e = .returned (.string (bs [UInt8.ofNat (48 + d)])) ∧ Fr (fun _ => False) w w') := hid (fun w => by rw [show (48 : Int) + (d : Int) = ((48 + d : Nat) : Int) by omega]; exact rone_go (48 + d) (by omega) w)
      obtain ⟨q, hq⟩ : ∃ q : Nat, k / 10 = q := ⟨_, rfl⟩
      rw [hd, hq] at HN
      have hqk : q ≤ k := by omega
      have hq0 : k ≠ 0 → q < k := by omega
      generalize hcd : UInt8.ofNat (48 + d) = c at *
      clear hcd
      obtain ⟨m1, hm1, hl1, hadd1⟩ := add_is [c] s (by have := HL.out; simp; omega)
      have hr : (k : Int) % 10 = (d : Int) := by omega
      have hdv : (k : Int) / 10 = (q : Int) := by omega
      have hr2 : (k : Int).tmod 10 = (d : Int) := by rw [Int.tmod_eq_emod_of_nonneg (by omega)]; omega
      have hdv2 : (k : Int).tdiv 10 = (q : Int) := by rw [Int.tdiv_eq_ediv_of_nonneg (by omega)]; omega
      have HC := hid hc
      have HQ0 := hid hq0
      clear hl1 hd hq hq0 hc
      cases b with
      | true =>
        have hdn : ¬ (d : Int) < 0 := by omega
        go_wp2_with (go_at_call 43; refine (HO.out _).mono ?_; rintro e w4 ⟨rfl, f⟩; have F4 := hid (FR.out.trans f (fun _ h _ => h)); clear f)
        go_roundw
        case rel => exact ⟨_ :: s, q, false, by rw [hm1.out]; rfl, by first | rfl | simp, rfl, HN.out, by omega, F4.out⟩
        case measure => simp [intOf, firstOf]; omega
      | false =>
        have hk0 : k ≠ 0 := fun e => HC.out ⟨rfl, e⟩
        have hkb : ((k : Int) != 0) = true := by simpa using hk0
        have HK0 := hid hk0
        clear hk0
        have hdn : ¬ (d : Int) < 0 := by omega
        go_wp2_with (go_at_call 43; refine (HO.out _).mono ?_; rintro e w4 ⟨rfl, f⟩; have F4 := hid (FR.out.trans f (fun _ h _ => h)); clear f)
        go_roundw
        case rel => exact ⟨_ :: s, q, false, by rw [hm1.out]; rfl, by first | rfl | simp, rfl, HN.out, by omega, F4.out⟩
        case measure => have := HQ0.out HK0.out; simp [intOf, firstOf]; omega
set_option maxRecDepth 20000 in
set_option maxHeartbeats 1000000 in
theorem DigitsN_go (N : Nat) (hn1 : 1 ≤ N) (hn : N ≤ 9223372036854775808) (w : World) : Calls Tryd.prog 57 #[.int .i64 (-(N : Int))] w fun e w' => e = .returned (.string (bs (45 :: Lib.decDigits N))) ∧ Fr (fun _ => False) w w' := by
  have F0 := hid (Fr.refl (fun _ => False) w)
  have HST := hid (DgS.start N (by omega))
  obtain ⟨dn, hdn⟩ : ∃ dn, Lib.decDigits N = dn := ⟨_, rfl⟩
  rw [hdn]
  have HDN := hid hdn
  clear hdn
  go_enter Tryd.func57, Tryd.ntmps57
  go_wp2_with (fail)
  go_loopw [3, 4, 5] (fun s3 m4 f5 wr => ∃ (s : List UInt8) (k : Nat) (b : Bool), s3 = .string (bs s) ∧ m4 = .int .i64 (-(k : Int)) ∧ f5 = .bool b ∧ DgS N k b s ∧ k ≤ N ∧ Fr (fun _ => False) w wr) (fun _ m4 f5 _ => (intOf m4).natAbs + firstOf f5)
  case atStart => exact ⟨[], N, true, rfl, rfl, rfl, HST.out, Nat.le_refl _, F0.out⟩
  case round =>
    obtain ⟨s, k, b, rfl, rfl, rfl, hd, hkN, fr⟩ := hrel
    have FR := hid fr
    have HD := hid hd
    have HL := hid hd.l
    clear fr hd F0 HST
    by_cases hc : b = false ∧ k = 0
    · obtain ⟨rfl, rfl⟩ := hc
      have hz := HD.out.z rfl rfl
      rw [HDN.out] at hz
      subst hz
      have hlt : (-(N : Int)) < 0 := by omega
      have e0 : ((-((0 : Nat) : Int)) != 0) = false := by decide
      have hadd : ∀ w : World, (Op.stringOp .add ⟨#[45]⟩ (bs dn)).run Tryd.prog w = .ok (.string (bs (45 :: dn))) w := fun w => run_add_bs (P := Tryd.prog) w [45] dn (by have := HL.out; simp; omega)
      go_wp2_with (fail)
      go_ret
      exact ⟨rfl, FR.out⟩
    · have HN := hid (HD.out.step hc)
      obtain ⟨d, hd⟩ : ∃ d : Nat, k % 10 = d := ⟨_, rfl⟩
      have hd10 : d < 10 := by omega
      have HO : Hid (∀ w, Calls Tryd.prog 43 #[.int .i64 (48 + (d : Int))] w fun e w' => e = .returned (.string (bs [UInt8.ofNat (48 + d)])) ∧ Fr (fun _ => False) w w') := hid (fun w => by rw [show (48 : Int) + (d : Int) = ((48 + d : Nat) : Int) by omega]; exact rone_go (48 + d) (by omega) w)
      obtain ⟨q, hq⟩ : ∃ q : Nat, k / 10 = q := ⟨_, rfl⟩
      rw [hd, hq] at HN
      have hqk : q ≤ k := by omega
      have hq0 : k ≠ 0 → q < k := by omega
      generalize hcd : UInt8.ofNat (48 + d) = c at *
      clear hcd
      obtain ⟨m1, hm1, hl1, hadd1⟩ := add_is [c] s (by have := HL.out; simp; omega)
      have hr : (-(k : Int)).tmod 10 = -(d : Int) := by rw [Int.neg_tmod, Int.tmod_eq_emod_of_nonneg (by omega)]; omega
      have hdv : (-(k : Int)).tdiv 10 = -(q : Int) := by rw [Int.neg_tdiv, Int.tdiv_eq_ediv_of_nonneg (by omega)]; omega
      have HC := hid hc
      have HQ0 := hid hq0
      clear hl1 hd hq hq0 hc
      cases b with
      | true =>
        by_cases d0 : d = 0
        · subst d0
          have hdn : ¬ (-((0 : Nat) : Int)) < 0 := by decide
          go_wp2_with (go_at_call 43; refine (HO.out _).mono ?_; rintro e w4 ⟨rfl, f⟩; have F4 := hid (FR.out.trans f (fun _ h _ => h)); clear f)
          go_roundw
          case rel => exact ⟨_ :: s, q, false, by rw [hm1.out]; rfl, by first | rfl | simp, rfl, HN.out, by omega, F4.out⟩
          case measure => simp [intOf, firstOf]; omega

        · have hdn : (-(d : Int)) < 0 := by omega
          go_wp2_with (go_at_call 43; refine (HO.out _).mono ?_; rintro e w4 ⟨rfl, f⟩; have F4 := hid (FR.out.trans f (fun _ h _ => h)); clear f)
          go_roundw
          case rel => exact ⟨_ :: s, q, false, by rw [hm1.out]; rfl, by first | rfl | simp, rfl, HN.out, by omega, F4.out⟩
          case measure => simp [intOf, firstOf]; omega

      | false =>
        have hk0 : k ≠ 0 := fun e => HC.out ⟨rfl, e⟩
        have hkb : ((-(k : Int)) != 0) = true := by simpa using hk0
        have HK0 := hid hk0
        clear hk0
        by_cases d0 : d = 0
        · subst d0
          have hdn : ¬ (-((0 : Nat) : Int)) < 0 := by decide
          go_wp2_with (go_at_call 43; refine (HO.out _).mono ?_; rintro e w4 ⟨rfl, f⟩; have F4 := hid (FR.out.trans f (fun _ h _ => h)); clear f)
          go_roundw
          case rel => exact ⟨_ :: s, q, false, by rw [hm1.out]; rfl, by first | rfl | simp, rfl, HN.out, by omega, F4.out⟩
          case measure => have := HQ0.out HK0.out; simp [intOf, firstOf]; omega

        · have hdn : (-(d : Int)) < 0 := by omega
          go_wp2_with (go_at_call 43; refine (HO.out _).mono ?_; rintro e w4 ⟨rfl, f⟩; have F4 := hid (FR.out.trans f (fun _ h _ => h)); clear f)
          go_roundw
          case rel => exact ⟨_ :: s, q, false, by rw [hm1.out]; rfl, by first | rfl | simp, rfl, HN.out, by omega, F4.out⟩
          case measure => have := HQ0.out HK0.out; simp [intOf, firstOf]; omega

end Go.Proofs.YtknpncpoojjbfaaDoor
