import Derived.Test.YtknpncpoojjbfaaDoorVR
/- The reference's Fits. -/
set_option linter.unusedVariables false
namespace Go.Proofs.YtknpncpoojjbfaaDoor
open Go.RowKit Go.VB Go.VB.Oct Go.VB.Rec
set_option maxRecDepth 20000 in
set_option maxHeartbeats 2000000 in
theorem r2Fits_go (a : V) (op : Int) (b : V) (ha : a.s.length ≤ 1099511627776) (hb : b.s.length ≤ 1099511627776) (w : World) : Calls Tryd.prog 33 #[vagg a, .int .i64 op, vagg b] w fun e w' => e = .returned (.bool (a.fits op b)) ∧ Fr (fun _ => False) w w' := by
  have FA := hid (((Fr.refl (fun _ => False) w).alloc (.cells a.cells.toArray 28)).alloc (.cells b.cells.toArray 28))
  have HA := hid (fun w => place_go a.k w)
  have HB := hid (fun w => place_go b.k w)
  have HC := hid (fun w => r2Compare_go a b ha hb w)
  obtain ⟨z, hz⟩ : ∃ z, a.fits op b = z := ⟨_, rfl⟩
  rw [hz]
  have hrk : ∀ k : Int, (rank k = k ∧ 0 ≤ k ∧ k ≤ 2) ∨ (rank k = 3 ∧ ¬ (0 ≤ k ∧ k ≤ 2)) := fun k => by
    by_cases h : 0 ≤ k ∧ k ≤ 2
    · exact .inl ⟨rank_in h, h⟩
    · exact .inr ⟨rank3 h, h⟩
  have HRA := hid (hrk a.k)
  have HRB := hid (hrk b.k)
  unfold V.fits at hz
  generalize V.cmp a b = c at *
  obtain ⟨ak, an, ax⟩ := a
  obtain ⟨bk, bn, bx⟩ := b
  unfold vagg V.cells at *
  dsimp only at *
  clear hrk
  generalize hra : rank ak = ra at *
  generalize hrb : rank bk = rb at *
  have HZ := hid hz
  clear hz hra hrb
  by_cases ha : ra = 0
  · subst ha
    have HZ2 : Hid (z = false) := hid (by rw [← HZ.out, if_pos (by have := HRA.out; have := HRB.out; omega)])
    go_enter Tryd.func33, Tryd.ntmps33
    go_wp2_with (first
        | (go_at_call 39; (with_reducible refine (HA.out _).mono ?_); rintro e w1 ⟨rfl, rfl⟩)
        | (go_at_call 39; (with_reducible refine (HB.out _).mono ?_); rintro e w1 ⟨rfl, rfl⟩)
        | (go_at_call 18; refine (HC.out _).mono ?_; rintro e w1 ⟨rfl, f⟩; have F1 := hid f; clear f))
    go_ret
    exact ⟨ret_bool HZ2.out.symm, FA.out⟩
  · have ea : (ra == 0) = false := by simpa using ha
    by_cases hb : rb = 0
    · subst hb
      have HZ2 : Hid (z = false) := hid (by rw [← HZ.out, if_pos (by have := HRA.out; have := HRB.out; omega)])
      go_enter Tryd.func33, Tryd.ntmps33
      go_wp2_with (first
          | (go_at_call 39; (with_reducible refine (HA.out _).mono ?_); rintro e w1 ⟨rfl, rfl⟩)
          | (go_at_call 39; (with_reducible refine (HB.out _).mono ?_); rintro e w1 ⟨rfl, rfl⟩)
          | (go_at_call 18; refine (HC.out _).mono ?_; rintro e w1 ⟨rfl, f⟩; have F1 := hid f; clear f))
      go_ret
      exact ⟨ret_bool HZ2.out.symm, FA.out⟩
    · have eb : (rb == 0) = false := by simpa using hb
      by_cases hc : ra = 3
      · subst hc
        have HZ2 : Hid (z = false) := hid (by rw [← HZ.out, if_pos (by have := HRA.out; have := HRB.out; omega)])
        go_enter Tryd.func33, Tryd.ntmps33
        go_wp2_with (first
            | (go_at_call 39; (with_reducible refine (HA.out _).mono ?_); rintro e w1 ⟨rfl, rfl⟩)
            | (go_at_call 39; (with_reducible refine (HB.out _).mono ?_); rintro e w1 ⟨rfl, rfl⟩)
            | (go_at_call 18; refine (HC.out _).mono ?_; rintro e w1 ⟨rfl, f⟩; have F1 := hid f; clear f))
        go_ret
        exact ⟨ret_bool HZ2.out.symm, FA.out⟩
      · have ec : (ra == 3) = false := by simpa using hc
        by_cases hd : rb = 3
        · subst hd
          have HZ2 : Hid (z = false) := hid (by rw [← HZ.out, if_pos (by have := HRA.out; have := HRB.out; omega)])
          go_enter Tryd.func33, Tryd.ntmps33
          go_wp2_with (first
              | (go_at_call 39; (with_reducible refine (HA.out _).mono ?_); rintro e w1 ⟨rfl, rfl⟩)
              | (go_at_call 39; (with_reducible refine (HB.out _).mono ?_); rintro e w1 ⟨rfl, rfl⟩)
              | (go_at_call 18; refine (HC.out _).mono ?_; rintro e w1 ⟨rfl, f⟩; have F1 := hid f; clear f))
          go_ret
          exact ⟨ret_bool HZ2.out.symm, FA.out⟩
        · have ed : (rb == 3) = false := by simpa using hd
          by_cases hne : ra = rb
          · subst hne
            have hbb : (ra != ra) = false := bne_self_eq_false _
            have HZ2 : Hid (z = opHolds op c) := hid (by rw [← HZ.out, if_neg (by have := HRA.out; have := HRB.out; omega), if_neg (by have := HRA.out; have := HRB.out; omega)])
            by_cases h1 : op = 1
            · subst h1
              go_enter Tryd.func33, Tryd.ntmps33
              go_wp2_with (first
                  | (go_at_call 39; (with_reducible refine (HA.out _).mono ?_); rintro e w1 ⟨rfl, rfl⟩)
                  | (go_at_call 39; (with_reducible refine (HB.out _).mono ?_); rintro e w1 ⟨rfl, rfl⟩)
                  | (go_at_call 18; refine (HC.out _).mono ?_; rintro e w1 ⟨rfl, f⟩; have F1 := hid f; clear f))
              go_ret
              exact ⟨ret_bool (by rw [HZ2.out]; simp [opHolds]), FA.out.trans F1.out (fun _ h _ => h)⟩
            · have e1 : (op == 1) = false := by simpa using h1
              by_cases h2 : op = 2
              · subst h2
                go_enter Tryd.func33, Tryd.ntmps33
                go_wp2_with (first
                    | (go_at_call 39; (with_reducible refine (HA.out _).mono ?_); rintro e w1 ⟨rfl, rfl⟩)
                    | (go_at_call 39; (with_reducible refine (HB.out _).mono ?_); rintro e w1 ⟨rfl, rfl⟩)
                    | (go_at_call 18; refine (HC.out _).mono ?_; rintro e w1 ⟨rfl, f⟩; have F1 := hid f; clear f))
                go_ret
                exact ⟨ret_bool (by rw [HZ2.out]; simp [opHolds]), FA.out.trans F1.out (fun _ h _ => h)⟩
              · have e2 : (op == 2) = false := by simpa using h2
                by_cases h3 : op = 3
                · subst h3
                  go_enter Tryd.func33, Tryd.ntmps33
                  go_wp2_with (first
                      | (go_at_call 39; (with_reducible refine (HA.out _).mono ?_); rintro e w1 ⟨rfl, rfl⟩)
                      | (go_at_call 39; (with_reducible refine (HB.out _).mono ?_); rintro e w1 ⟨rfl, rfl⟩)
                      | (go_at_call 18; refine (HC.out _).mono ?_; rintro e w1 ⟨rfl, f⟩; have F1 := hid f; clear f))
                  go_ret
                  exact ⟨ret_bool (by rw [HZ2.out]; simp [opHolds]), FA.out.trans F1.out (fun _ h _ => h)⟩
                · have e3 : (op == 3) = false := by simpa using h3
                  by_cases h4 : op = 4
                  · subst h4
                    go_enter Tryd.func33, Tryd.ntmps33
                    go_wp2_with (first
                        | (go_at_call 39; (with_reducible refine (HA.out _).mono ?_); rintro e w1 ⟨rfl, rfl⟩)
                        | (go_at_call 39; (with_reducible refine (HB.out _).mono ?_); rintro e w1 ⟨rfl, rfl⟩)
                        | (go_at_call 18; refine (HC.out _).mono ?_; rintro e w1 ⟨rfl, f⟩; have F1 := hid f; clear f))
                    go_ret
                    exact ⟨ret_bool (by rw [HZ2.out]; simp [opHolds]), FA.out.trans F1.out (fun _ h _ => h)⟩
                  · have e4 : (op == 4) = false := by simpa using h4
                    by_cases h5 : op = 5
                    · subst h5
                      go_enter Tryd.func33, Tryd.ntmps33
                      go_wp2_with (first
                          | (go_at_call 39; (with_reducible refine (HA.out _).mono ?_); rintro e w1 ⟨rfl, rfl⟩)
                          | (go_at_call 39; (with_reducible refine (HB.out _).mono ?_); rintro e w1 ⟨rfl, rfl⟩)
                          | (go_at_call 18; refine (HC.out _).mono ?_; rintro e w1 ⟨rfl, f⟩; have F1 := hid f; clear f))
                      go_ret
                      exact ⟨ret_bool (by rw [HZ2.out]; simp [opHolds]), FA.out.trans F1.out (fun _ h _ => h)⟩
                    · have e5 : (op == 5) = false := by simpa using h5
                      by_cases h6 : op = 6
                      · subst h6
                        go_enter Tryd.func33, Tryd.ntmps33
                        go_wp2_with (first
                            | (go_at_call 39; (with_reducible refine (HA.out _).mono ?_); rintro e w1 ⟨rfl, rfl⟩)
                            | (go_at_call 39; (with_reducible refine (HB.out _).mono ?_); rintro e w1 ⟨rfl, rfl⟩)
                            | (go_at_call 18; refine (HC.out _).mono ?_; rintro e w1 ⟨rfl, f⟩; have F1 := hid f; clear f))
                        go_ret
                        exact ⟨ret_bool (by rw [HZ2.out]; simp [opHolds]), FA.out.trans F1.out (fun _ h _ => h)⟩
                      · have e6 : (op == 6) = false := by simpa using h6
                        go_enter Tryd.func33, Tryd.ntmps33
                        go_wp2_with (first
                            | (go_at_call 39; (with_reducible refine (HA.out _).mono ?_); rintro e w1 ⟨rfl, rfl⟩)
                            | (go_at_call 39; (with_reducible refine (HB.out _).mono ?_); rintro e w1 ⟨rfl, rfl⟩)
                            | (go_at_call 18; refine (HC.out _).mono ?_; rintro e w1 ⟨rfl, f⟩; have F1 := hid f; clear f))
                        go_ret
                        exact ⟨ret_bool (by rw [HZ2.out]; simp [opHolds, h1, h2, h3, h4, h5, h6]), FA.out.trans F1.out (fun _ h _ => h)⟩
          · have hbb : (ra != rb) = true := by simpa using hne
            have HZ2 : Hid (z = (op == 2)) := hid (by rw [← HZ.out, if_neg (by have := HRA.out; have := HRB.out; omega), if_pos (by have := HRA.out; have := HRB.out; omega)]; by_cases h : op = 2 <;> simp [h])
            go_enter Tryd.func33, Tryd.ntmps33
            go_wp2_with (first
                | (go_at_call 39; (with_reducible refine (HA.out _).mono ?_); rintro e w1 ⟨rfl, rfl⟩)
                | (go_at_call 39; (with_reducible refine (HB.out _).mono ?_); rintro e w1 ⟨rfl, rfl⟩)
                | (go_at_call 18; refine (HC.out _).mono ?_; rintro e w1 ⟨rfl, f⟩; have F1 := hid f; clear f))
            go_ret
            exact ⟨ret_bool HZ2.out.symm, FA.out⟩
end Go.Proofs.YtknpncpoojjbfaaDoor
