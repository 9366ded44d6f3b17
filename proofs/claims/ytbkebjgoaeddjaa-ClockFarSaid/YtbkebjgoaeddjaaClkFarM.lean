import Derived.Test.YtbkebjgoaeddjaaClkG
/- ClockFar: the model's part. -/
set_option linter.unusedVariables false
namespace Go.VB.Clk
/-- i xids from p on, all committed -/
structure Far (m : CM) (p i : Nat) : Prop where
  ok : m.Ok
  low : m.low = p
  n : m.n = i
  st : ∀ y : Nat, m.knows y = true → m.st y = 2
theorem far_step {m : CM} {p i : Nat} (h : Far m p i) (hi : i < 60) : m.begin_ 0 = (m.add 0, ((m.next : Int), 0)) ∧ m.next = xat p i ∧ ((m.add 0).end_ m.next 2).2 = 0 ∧ Far ((m.add 0).end_ m.next 2).1 p (i + 1) ∧ ageI p m.next = i := by
  obtain ⟨ok, hl, hn, hst⟩ := h
  have okA := Ok_add ok (by omega) 0 (.inl rfl)
  have hnA := m.add_n ok 0
  have hnx := ok.nx
  have hlo := ok.lo
  have hns : steps m.low m.next = m.n := rfl
  have hxa : m.next = xat p i := by rw [← hl, ← hn, ← hns, xat_steps hlo hnx]
  have hkn : (m.add 0).knows m.next = true := by
    rw [CM.knows_iff, hnA]
    exact ⟨hnx.1, hnx.2, show steps m.low m.next < m.n + 1 by omega⟩
  have hst1 : (m.add 0).st m.next = 1 := by simp [CM.add, put]
  have hmay : (m.add 0).mayE m.next 2 = true := by
    unfold CM.mayE CM.live
    rw [Int.toNat_natCast, hst1, hkn]
    rfl
  have he : (m.add 0).end_ m.next 2 = ({ m.add 0 with st := endS (m.next :: (m.add 0).below m.next) 2 (m.add 0).st }, 0) := by
    unfold CM.end_
    rw [if_pos hmay, Int.toNat_natCast]
  have okE := Ok_end okA m.next 2
  refine ⟨CM.begin_zero (by omega), hxa, by rw [he], ⟨okE, by rw [he]; exact hl, ?_, fun y hy => ?_⟩, ?_⟩
  · rw [he]
    show (m.add 0).n = i + 1
    omega
  · rw [he] at hy ⊢
    have hy : (m.add 0).knows y = true := hy
    show endS (m.next :: (m.add 0).below m.next) 2 (m.add 0).st y = 2
    unfold endS
    split
    · rfl
    · rename_i hno
      by_cases hyn : y = m.next
      · subst hyn
        exact absurd ⟨List.mem_cons_self, by rw [hst1]; rfl⟩ hno
      · have hy2 : (m.add 0).st y = m.st y := by simp [CM.add, put, hyn]
        rw [hy2]
        refine hst y ?_
        obtain ⟨y1, y2, y3⟩ := CM.knows_iff.1 hy
        rw [CM.knows_iff]
        refine ⟨y1, y2, ?_⟩
        have hne : steps m.low y ≠ steps m.low m.next := fun e => hyn (steps_inj hlo ⟨y1, y2⟩ hnx e)
        have y3 : steps m.low y < (m.add 0).n := y3
        omega
  · unfold ageI
    rw [on_of (by omega) (by omega), on_of hnx.1 hnx.2]
    simp only [Bool.and_self, if_true, Int.toNat_natCast]
    rw [← hl, hns, hn]
theorem far_full {m : CM} {p : Nat} (h : Far m p 60) : m.begin_ 0 = (m, (0, 40)) ∧ m.state p = 2 ∧ Far (m.freeze m.next) m.next 0 ∧ (m.freeze m.next).next = m.next ∧ (m.freeze m.next).state p = 0 ∧ (m.freeze m.next).oldest = m.next := by
  obtain ⟨ok, hl, hn, hst⟩ := h
  have hlo := ok.lo
  have hnx := ok.nx
  have hkp : m.knows p = true := by
    rw [CM.knows_iff, ← hl, steps_self]
    exact ⟨hlo.1, hlo.2, by omega⟩
  have hlv : m.lives = [] := by
    unfold CM.lives
    rw [List.filter_eq_nil_iff]
    intro y hy
    rw [CM.live, hst y ((m.known_mem ok).1 hy)]
    decide
  have hold : m.oldest = m.next := by unfold CM.oldest; rw [hlv]; rfl
  have hfz : m.freeze m.next = { m with low := m.next } := by
    unfold CM.freeze
    rw [if_pos (by unfold CM.mayF; rw [on_of hnx.1 hnx.2, Int.toNat_natCast, hold]; simp), Int.toNat_natCast]
  have hn0 : ({ m with low := m.next } : CM).n = 0 := by simp [CM.n, steps_self]
  have okF := Ok_freeze ok m.next
  have hkno : ∀ y : Int, ({ m with low := m.next } : CM).knows y = false := by
    intro y
    unfold CM.knows
    rw [hn0]
    simp
  refine ⟨?_, ?_, ⟨okF, by rw [hfz], by rw [hfz]; exact hn0, fun y hy => ?_⟩, by rw [hfz], ?_, ?_⟩
  · unfold CM.begin_
    rw [if_pos (by simp [CM.mayB]), if_pos (by omega)]
  · unfold CM.state
    rw [if_neg (by omega), if_pos hkp, Int.toNat_natCast]
    exact hst p hkp
  · rw [hfz, hkno] at hy
    cases hy
  · unfold CM.state
    rw [if_neg (by omega), hfz, hkno]
    rfl
  · rw [hfz]
    unfold CM.oldest CM.lives CM.known
    rw [hn0]
    rfl
theorem far_new (x : Nat) (hx : 3 ≤ x ∧ x ≤ 127) : Far (CM.new x) x 0 ∧ (CM.new x).next = x := by
  have e : CM.new x = { low := x, next := x, st := fun _ => 0, ab := fun _ => 0 } := by
    unfold CM.new
    rw [if_pos (on_of hx.1 hx.2), Int.toNat_natCast]
  have hn0 : (CM.new x).n = 0 := by rw [e]; simp [CM.n, steps_self]
  refine ⟨⟨Ok_new x, by rw [e], hn0, fun y hy => ?_⟩, by rw [e]⟩
  unfold CM.knows at hy
  rw [hn0] at hy
  simp at hy
end Go.VB.Clk
