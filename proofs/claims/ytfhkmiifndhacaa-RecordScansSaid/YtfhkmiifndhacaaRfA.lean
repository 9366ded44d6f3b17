import Derived.Test.YtfhkmiifndhacaaRecC
/- The reference: a value, a row valid. -/
set_option linter.unusedVariables false
namespace Go.Proofs.Ytfhkmiifndhacaa
open Go.RowKit Go.VB Go.VB.Oct Go.VB.Rec
theorem rfRight_go (v : V) (w : World) : Calls Try.prog 67 #[vagg v] w fun e w' => e = .returned (.bool v.right) ∧ Fr (fun _ => False) w w' := by
  obtain ⟨k, n, s⟩ := v
  have e1 := bs_size s
  unfold vagg V.cells V.right
  dsimp only
  rcases (by omega : k = 0 ∨ k = 1 ∨ k = 2 ∨ (k < 0 ∨ 2 < k)) with rfl | rfl | rfl | hk
  focus
    go_enter Try.func67, Try.ntmps67
    go_wp2
    all_goals (go_ret; exact ⟨ret_bool (by simp_all <;> omega), (Fr.refl _ w).alloc _⟩)
  focus
    go_enter Try.func67, Try.ntmps67
    go_wp2
    all_goals (go_ret; exact ⟨ret_bool (by simp_all <;> omega), (Fr.refl _ w).alloc _⟩)
  focus
    go_enter Try.func67, Try.ntmps67
    go_wp2
    all_goals (go_ret; exact ⟨ret_bool (by simp_all <;> omega), (Fr.refl _ w).alloc _⟩)
  have h0 : (k == 0) = false := by simp; omega
  have h1 : (k == 1) = false := by simp; omega
  have h2 : (k == 2) = false := by simp; omega
  have hd : (decide (0 ≤ k) && decide (k ≤ 2) && (decide (k ≠ 2) || decide (s.length ≤ 40))) = false := by
    rcases hk with hk | hk
    · rw [decide_eq_false (by omega : ¬ 0 ≤ k)]; rfl
    · rw [decide_eq_false (by omega : ¬ k ≤ 2), Bool.and_false]; rfl
  rw [hd]
  clear hd hk
  go_enter Try.func67, Try.ntmps67
  go_wp2
  all_goals (go_ret; exact ⟨rfl, (Fr.refl _ w).alloc _⟩)
theorem row_no {r : List V} {j : Nat} (hj : j < r.length) (h : r[j].right = false) : row r = false := by
  cases hr : row r with
  | false => rfl
  | true =>
    unfold row at hr
    simp only [Bool.and_eq_true, List.all_eq_true] at hr
    rw [hr.2 _ (List.getElem_mem hj)] at h
    cases h
theorem row_all {r : List V} (h : ∀ i (hi : i < r.length), r[i].right = true) : row r = decide (r.length ≤ 6) := by
  unfold row
  have : r.all V.right = true := by
    rw [List.all_eq_true]
    intro x hx
    obtain ⟨i, hi, rfl⟩ := List.getElem_of_mem hx
    exact h i hi
  rw [this, Bool.and_true]
set_option maxRecDepth 20000 in
theorem RightRow_go {R : Nat → Prop} {w : World} {va : Value} {r : List V} (h : Sl R w va r.length (r.flatMap V.cells)) (hn : r.length ≤ 1099511627776) : Calls Try.prog 29 #[va] w fun e w' => e = .returned (.bool (row r)) ∧ Fr (fun _ => False) w w' := by
  obtain ⟨a, c, rfl, hc, hx⟩ := h
  have HX := hid (show Sl R w (.slice a r.length c) r.length (r.flatMap V.cells) from ⟨a, c, rfl, hc, hx⟩)
  clear hx
  have F0 := hid (Fr.refl (fun _ => False) w)
  have HROW := hid (rfl : row r = row r)
  generalize hrr : row r = rr at *
  have HRR := hid hrr
  clear hrr HROW
  go_enter Try.func29, Try.ntmps29
  go_wp2_with (fail)
  go_loopw [3] (fun i wr => ∃ j : Nat, j ≤ r.length ∧ i = .int .i64 j ∧ (∀ i (hi : i < j) (hr : i < r.length), r[i].right = true) ∧ Fr (fun _ => False) w wr) (fun i _ => r.length - (intOf i).toNat)
  case atStart => exact ⟨0, by omega, rfl, fun i hi => by omega, F0.out⟩
  case round =>
    obtain ⟨j, hj, rfl, hall, fr⟩ := hrel
    by_cases hjl : j < r.length
    · obtain ⟨g, o, rfl, hg, q0, q1, q2⟩ := sl_three (f := V.cells) vcells_len (HX.out.fr fr (fun _ _ h => h)) hjl
      have HM := hid (fun w => rfRight_go r[j] w)
      have FR := hid fr
      have HA := hid hall
      have i1 : (0 : Int) ≤ (j : Int) := by omega
      have i2 : (j : Int) < r.length := by omega
      simp only [V.cells, List.getElem?_cons_zero, List.getElem?_cons_succ] at q0 q1 q2
      have HP : ∀ b, r[j].right = b → Hid (r[j].right = b) := fun b h => hid h
      clear fr hall HX
      cases hr : r[j].right with
      | false =>
        have HR := HP _ hr
        rw [hr] at HM
        have hno := hid (row_no hjl hr)
        clear hr HP HR
        go_wp2_with (go_at_call 67; refine (HM.out _).mono ?_; rintro e w1 ⟨rfl, f1⟩; have F1 := hid (FR.out.trans f1 (fun _ h _ => h)); clear f1)
        go_ret
        exact ⟨by rw [← HRR.out, hno.out]; exact ret_bool rfl, F1.out⟩
      | true =>
        have HR := HP _ hr
        clear hr HP
        go_wp2_with (go_at_call 67; refine (HM.out _).mono ?_; rw [HR.out]; rintro e w1 ⟨rfl, f1⟩; have F1 := hid (FR.out.trans f1 (fun _ h _ => h)); clear f1)
        go_roundw
        case rel => exact ⟨j + 1, by omega, by go_num, fun i hi hr => by
          by_cases hij : i = j
          · subst hij; exact HR.out
          · exact HA.out i (by omega) hr, F1.out⟩
        case measure => simp [intOf]; omega
    · obtain rfl : j = r.length := by omega
      have FR := hid fr
      have hall2 := hid (row_all (fun i hi => hall i hi hi))
      clear HX fr hall
      go_wp2_with (fail)
      go_ret
      exact ⟨by rw [← HRR.out, hall2.out]; exact ret_bool (by simp; try omega), FR.out⟩
end Go.Proofs.Ytfhkmiifndhacaa
