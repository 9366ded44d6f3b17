import Derived.Test.YtknpncpoojjbfaaDoorVO
import Derived.Lib.ItoaNum
/- Literals are equal exactly when valid values compare equal (no program in sight). -/
set_option linter.unusedVariables false
namespace Go.VB.Rec
def dval (l : List UInt8) : Nat := l.foldl (fun a c => a * 10 + (c.toNat - 48)) 0
theorem dval_dec : ∀ u : Nat, dval (Lib.decDigits u) = u
  | u => by
    rw [Lib.decDigits]
    by_cases h : u < 10
    · rw [dif_pos h]
      simp only [dval, List.foldl_cons, List.foldl_nil, UInt8.toNat_ofNat']
      omega
    · rw [dif_neg h]
      have ih := dval_dec (u / 10)
      unfold dval at ih ⊢
      rw [List.foldl_append, ih]
      simp only [List.foldl_cons, List.foldl_nil, UInt8.toNat_ofNat']
      omega
theorem dec_inj {a b : Nat} (h : Lib.decDigits a = Lib.decDigits b) : a = b := by rw [← dval_dec a, h, dval_dec]
theorem dec_head : ∀ u : Nat, ∃ c l, Lib.decDigits u = c :: l ∧ 48 ≤ c.toNat ∧ c.toNat ≤ 57
  | u => by
    rw [Lib.decDigits]
    by_cases h : u < 10
    · rw [dif_pos h]
      exact ⟨_, _, rfl, by simp only [UInt8.toNat_ofNat']; omega, by simp only [UInt8.toNat_ofNat']; omega⟩
    · rw [dif_neg h]
      obtain ⟨c, l, e, h1, h2⟩ := dec_head (u / 10)
      exact ⟨c, l ++ _, by rw [e]; rfl, h1, h2⟩
theorem itoa_inj {a b : Int} (h : Lib.itoa a = Lib.itoa b) : a = b := by
  unfold Lib.itoa at h
  obtain ⟨c, l, e, h1, h2⟩ := dec_head a.toNat
  obtain ⟨c', l', e', h1', h2'⟩ := dec_head b.toNat
  by_cases ha : a < 0 <;> by_cases hb : b < 0
  · rw [if_pos ha, if_pos hb] at h
    have := dec_inj (List.cons.inj h).2
    omega
  · rw [if_pos ha, if_neg hb, e'] at h
    have := (List.cons.inj h).1
    rw [← this] at h1'
    exact absurd h1' (by decide)
  · rw [if_neg ha, if_pos hb, e] at h
    have := (List.cons.inj h).1
    rw [this] at h1
    exact absurd h1 (by decide)
  · rw [if_neg ha, if_neg hb] at h
    have := dec_inj h
    omega
theorem itoa_head (n : Int) : ∃ c l, Lib.itoa n = c :: l ∧ c ≠ 110 ∧ c ≠ 39 := by
  unfold Lib.itoa
  by_cases h : n < 0
  · rw [if_pos h]; exact ⟨_, _, rfl, by decide, by decide⟩
  · rw [if_neg h]
    obtain ⟨c, l, e, h1, h2⟩ := dec_head n.toNat
    refine ⟨c, l, e, ?_, ?_⟩
    · rintro rfl; exact absurd h2 (by decide)
    · rintro rfl; exact absurd h1 (by decide)
theorem esc_inj : ∀ s t : List UInt8, esc 39 [39, 39] s = esc 39 [39, 39] t → s = t
  | [], [], _ => rfl
  | [], b :: t, h => by
    unfold esc at h
    rw [List.flatMap_nil, List.flatMap_cons] at h
    split at h <;> simp at h
  | a :: s, [], h => by
    unfold esc at h
    rw [List.flatMap_nil, List.flatMap_cons] at h
    split at h <;> simp at h
  | a :: s, b :: t, h => by
    have ih := esc_inj s t
    unfold esc at h ih
    rw [List.flatMap_cons, List.flatMap_cons] at h
    by_cases ha : a = 39 <;> by_cases hb : b = 39
    · rw [if_pos ha, if_pos hb] at h
      rw [ha, hb, ih (by simpa using h)]
    · rw [if_pos ha, if_neg hb] at h
      exact absurd (List.cons.inj h).1.symm hb
    · rw [if_neg ha, if_pos hb] at h
      exact absurd (List.cons.inj h).1 ha
    · rw [if_neg ha, if_neg hb] at h
      obtain ⟨h1, h2⟩ := List.cons.inj h
      rw [h1, ih h2]
theorem cmpInt0 {a b : Int} : Lib.compareInt a b = 0 ↔ a = b := by unfold Lib.compareInt; split <;> (try split) <;> omega
theorem cmpBytes0 : ∀ a b : List UInt8, Lib.compareBytes a b = 0 → a = b
  | a, b, h => by
    rw [bytes_lex] at h
    induction a generalizing b with
    | nil => cases b with
      | nil => rfl
      | cons y b => simp [lexC] at h
    | cons x a ih => cases b with
      | nil => simp [lexC] at h
      | cons y b =>
        unfold lexC at h
        split at h
        · omega
        · rename_i g
          have e : x = y := UInt8.toNat_inj.1 (by have := cmpInt0.1 (Decidable.not_not.1 g); omega)
          rw [e, ih b h]
theorem text_eq {a b : V} (ha : a.right = true) (hb : b.right = true) : (a.text == b.text) = (V.cmp a b == 0) := by
  unfold V.right at ha hb
  simp only [Bool.and_eq_true, decide_eq_true_eq] at ha hb
  obtain ⟨⟨a0, a2⟩, -⟩ := ha
  obtain ⟨⟨b0, b2⟩, -⟩ := hb
  have hc : V.cmp a b = 0 ↔ a.k = b.k ∧ (a.k = 1 → a.n = b.n) ∧ (a.k = 2 → a.s = b.s) := by
    unfold V.cmp
    have ra : rank a.k = a.k := by unfold rank; rw [if_pos (by omega)]
    have rb : rank b.k = b.k := by unfold rank; rw [if_pos (by omega)]
    rw [ra, rb]
    by_cases h : a.k = b.k
    · rw [if_neg (fun g => g h)]
      by_cases h1 : a.k = 1
      · rw [if_pos h1, cmpInt0]
        exact ⟨fun e => ⟨h, fun _ => e, fun g => by omega⟩, fun e => e.2.1 h1⟩
      · rw [if_neg h1]
        by_cases h2 : a.k = 2
        · rw [if_pos h2]
          exact ⟨fun e => ⟨h, fun g => by omega, fun _ => cmpBytes0 _ _ e⟩, fun e => by rw [e.2.2 h2]; exact ord_bytes.refl _⟩
        · rw [if_neg h2]
          exact ⟨fun _ => ⟨h, fun g => absurd g h1, fun g => absurd g h2⟩, fun _ => rfl⟩
    · rw [if_pos h, cmpInt0]
      exact ⟨fun e => absurd e h, fun e => e.1⟩
  have ht : a.text = b.text ↔ a.k = b.k ∧ (a.k = 1 → a.n = b.n) ∧ (a.k = 2 → a.s = b.s) := by
    obtain ⟨c, l, e, h1, h2⟩ := itoa_head a.n
    obtain ⟨c', l', e', h1', h2'⟩ := itoa_head b.n
    unfold V.text
    have ka : a.k = 0 ∨ a.k = 1 ∨ a.k = 2 := by omega
    have kb : b.k = 0 ∨ b.k = 1 ∨ b.k = 2 := by omega
    rcases ka with ka | ka | ka <;> rcases kb with kb | kb | kb <;> rw [ka, kb]
    · simp
    · simp [e', Ne.symm h1']
    · simp
    · simp [e, h1]
    · simpa using ⟨fun h => itoa_inj h, fun h => by rw [h]⟩
    · simp [e, h2]
    · simp
    · simp [e', Ne.symm h2']
    · simpa using ⟨fun h => esc_inj _ _ h, fun h => by rw [h]⟩
  by_cases h : a.text = b.text
  · rw [beq_iff_eq.2 h, beq_iff_eq.2 (hc.2 (ht.1 h))]
  · rw [beq_eq_false_iff_ne.2 h, beq_eq_false_iff_ne.2 (fun g => h (ht.2 (hc.1 g)))]
end Go.VB.Rec
