import Derived.Test.YtbkebjgoaeddjaaClkL
/- ClockEnds: the model's part: what a snapshot has seen end does not change with the calls behind it. -/
set_option linter.unusedVariables false
namespace Go.VB.Clk
structure Later (m0 m : CM) : Prop where
  ok : m.Ok
  low : m.low = m0.low
  n : m0.n ≤ m.n
  st : ∀ y : Nat, m0.knows y = true → m0.live y = false → m.st y = m0.st y
theorem Later.refl {m : CM} (ok : m.Ok) : Later m m := ⟨ok, rfl, Nat.le_refl _, fun _ _ _ => rfl⟩
theorem Later.add {m0 m : CM} (h : Later m0 m) (hn : m.n < 60) (a : Nat) (ha : a = 0 ∨ m.knows a = true) : Later m0 (m.add a) := by
  refine ⟨Ok_add h.ok hn a ha, h.low, ?_, fun y hy hl => ?_⟩
  · have h1 := m.add_n h.ok a
    have h2 := h.n
    omega
  · have hk := CM.knows_iff.1 hy
    have h2 := h.n
    have h3 := h.low
    have hne : y ≠ m.next := by
      rintro rfl
      have h4 : m.n = steps m.low m.next := rfl
      rw [h3] at h4
      omega
    show put m.st m.next 1 y = m0.st y
    unfold put
    rw [if_neg hne]
    exact h.st y hy hl
theorem Later.addN {m0 m : CM} (h : Later m0 m) : ∀ k, m.n + k ≤ 60 → Later m0 (m.addN k)
  | 0, _ => h
  | k + 1, hk => by
    have ih := Later.addN h k (by omega)
    have h2 := (addN_ok h.ok k (by omega)).2.2
    exact ih.add (by omega) 0 (.inl rfl)
theorem Later.begin_ {m0 m : CM} (h : Later m0 m) (a : Int) : Later m0 (m.begin_ a).1 := by
  unfold CM.begin_
  split
  · rename_i hb
    split
    · exact h
    · obtain ⟨k, rfl, hk⟩ := CM.mayB_nat hb
      exact h.add (by omega) _ (hk.imp id (fun h => h.1))
  · exact h
theorem Later.end_ {m0 m : CM} (h : Later m0 m) (x s : Int) : Later m0 (m.end_ x s).1 := by
  refine ⟨Ok_end h.ok x s, ?_, ?_, fun y hy hl => ?_⟩
  · unfold CM.end_; split <;> exact h.low
  · unfold CM.end_; split <;> exact h.n
  · have hs := h.st y hy hl
    unfold CM.end_
    split
    · show endS _ s m.st y = m0.st y
      unfold endS
      have hf : liveS (m.st y) = false := by rw [hs]; exact hl
      rw [hf, if_neg (fun hh => Bool.noConfusion hh.2)]
      exact hs
    · exact hs
theorem Later.reach {m0 m : CM} (h : Later m0 m) (x : Int) : Later m0 (m.reach x) := by
  unfold CM.reach
  split
  · rename_i hc
    simp only [Bool.and_eq_true, decide_eq_true_eq] at hc
    by_cases hle : steps m.low x.toNat + 1 ≤ m.n
    · rw [Nat.sub_eq_zero_of_le hle]; exact h
    · exact h.addN _ (by omega)
  · exact h
theorem Later.dok {m0 m : CM} (h : Later m0 m) (kind x s : Int) (h4 : kind % 8 ≠ 4) : Later m0 (m.dok kind x s).1 := by
  unfold CM.dok
  split
  · exact h.begin_ _
  · split
    · exact h.end_ _ _
    · split
      · exact h.reach _
      · exact h.begin_ _
/-- what the snapshot taken at m0 says of x by the statuses of m -/
def saw (m0 m : CM) (x : Int) : Bool := endedI m0.next (m0.lives.map fun n : Nat => (n : Int)) x (m.state x)
theorem Later.saw {m0 m : CM} (ok0 : m0.Ok) (h : Later m0 m) (x : Int) : saw m0 m x = saw m0 m0 x ∧ (saw m0 m0 x = true → x ≠ 2 → m.state x = 2) := by
  unfold Clk.saw endedI
  by_cases h2 : x = 2
  · rw [if_pos h2, if_pos h2]
    exact ⟨rfl, fun _ h => absurd h2 h⟩
  rw [if_neg h2, if_neg h2]
  by_cases hon : on x = true
  · obtain ⟨k, rfl, k1, k2⟩ := on_nat hon
    by_cases hb : beforeI (k : Int) m0.next = true
    · by_cases hl : (m0.lives.map fun n : Nat => (n : Int)).contains (k : Int) = true
      · rw [hl]
        simp
      · have hkl : k ∉ m0.lives := fun hh => hl (List.contains_iff_mem.2 (List.mem_map.2 ⟨k, hh, rfl⟩))
        have hst : m.state k = m0.state k := by
          unfold CM.state
          rw [if_neg h2, if_neg h2, Int.toNat_natCast]
          have hlow := h.low
          have hn := h.n
          have hf := h.ok.far
          have h0 := ok0.lo
          have h1 := ok0.nx
          by_cases hk : m0.knows k = true
          · have hk' := CM.knows_iff.1 hk
            rw [if_pos hk, if_pos (CM.knows_iff.2 ⟨k1, k2, by rw [hlow]; omega⟩)]
            refine h.st k hk ?_
            rw [Bool.eq_false_iff]
            exact fun hh => hkl (List.mem_filter.2 ⟨(m0.known_mem ok0).2 hk, hh⟩)
          · have hk' : ¬ steps m0.low k < m0.n := fun hh => hk (CM.knows_iff.2 ⟨k1, k2, hh⟩)
            have hm : ¬ m.knows k = true := by
              intro hh
              have hh := (CM.knows_iff.1 hh).2.2
              rw [hlow] at hh
              unfold beforeI at hb
              rw [if_neg h2] at hb
              simp only [Bool.and_eq_true, decide_eq_true_eq, Int.toNat_natCast] at hb
              obtain ⟨⟨-, b1⟩, b2⟩ := hb
              have hn0 : m0.n = steps m0.low m0.next := rfl
              rw [hn0] at hk'
              generalize m.n = nn at *
              unfold steps at *
              omega
            rw [if_neg hk, if_neg hm]
        rw [hst]
        refine ⟨rfl, fun hh _ => ?_⟩
        simp only [Bool.and_eq_true, decide_eq_true_eq] at hh
        exact hh.2
    · rw [Bool.not_eq_true] at hb
      rw [hb]
      simp
  · rw [Bool.not_eq_true] at hon
    rw [hon]
    simp
end Go.VB.Clk
