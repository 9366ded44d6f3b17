import Derived.Test.YtbkebjgoaeddjaaClkM
/- The model of a clock: what its methods keep. -/
set_option linter.unusedVariables false
namespace Go.VB.Clk
theorem CM.topF_more {m : CM} (ok : m.Ok) : ∀ (f g y : Nat), m.knows y = true → steps m.low y ≤ f → f ≤ g → m.topF (f + 1) y = m.topF (g + 1) y := by
  intro f
  induction f with
  | zero =>
    intro g y hy h0 _
    have : m.knows (m.ab y) = false := by
      rw [Bool.eq_false_iff]
      intro hp
      have := m.par_lt ok hy hp
      omega
    simp [CM.topF, this]
  | succ f ih =>
    intro g y hy h0 hg
    obtain ⟨g, rfl⟩ : ∃ g', g = g' + 1 := ⟨g - 1, by omega⟩
    conv => lhs; rw [CM.topF]
    conv => rhs; rw [CM.topF]
    by_cases hp : m.knows (m.ab y) = true
    · have := m.par_lt ok hy hp
      rw [if_pos hp, if_pos hp, ih g (m.ab y) hp (by omega) (by omega)]
    · rw [if_neg hp, if_neg hp]
theorem CM.topF_up {m : CM} (ok : m.Ok) (y : Nat) (hy : m.knows y = true) : m.topF 128 y = if m.knows (m.ab y) then m.topF 128 (m.ab y) else y := by
  conv => lhs; rw [CM.topF]
  by_cases hp : m.knows (m.ab y) = true
  · obtain ⟨-, -, h3⟩ := CM.knows_iff.1 hp
    have := ok.far
    rw [if_pos hp, if_pos hp, m.topF_more ok 126 127 (m.ab y) hp (by omega) (by omega)]
  · rw [if_neg hp, if_neg hp]
theorem CM.lives_mem {m : CM} (ok : m.Ok) {x : Nat} (h : x ∈ m.lives) : m.knows x = true := (m.known_mem ok).1 (List.mem_filter.1 h).1
theorem CM.oldest_on {m : CM} (ok : m.Ok) : 3 ≤ m.oldest ∧ m.oldest ≤ 127 := by
  unfold CM.oldest
  cases h : m.lives with
  | nil => exact ok.nx
  | cons a l =>
    have := CM.knows_iff.1 (m.lives_mem ok (x := a) (by rw [h]; simp))
    exact ⟨this.1, this.2.1⟩
theorem CM.oldest_le {m : CM} (ok : m.Ok) : steps m.low m.oldest ≤ m.n := by
  unfold CM.oldest
  cases h : m.lives with
  | nil => exact Nat.le_refl _
  | cons a l => exact Nat.le_of_lt (CM.knows_iff.1 (m.lives_mem ok (x := a) (by rw [h]; simp))).2.2
theorem Ok_new (n : Int) : (CM.new n).Ok := by
  have h : ∀ a, 3 ≤ a → a ≤ 127 → ({ low := a, next := a, st := fun _ => 0, ab := fun _ => 0 } : CM).Ok := fun a h1 h2 =>
    ⟨⟨h1, h2⟩, ⟨h1, h2⟩, by simp [CM.n, steps_self], fun _ => ⟨by simp, by simp⟩, fun _ => by simp, fun y _ _ h => by simp [CM.n, steps_self] at h, fun y _ _ h => by simp [CM.n, steps_self] at h⟩
  unfold CM.new
  split
  · rename_i hn
    obtain ⟨k, rfl, h1, h2⟩ := on_nat hn
    exact h k h1 h2
  · exact h 3 (by omega) (by omega)
theorem CM.add_n {m : CM} (ok : m.Ok) (a : Nat) : (m.add a).n = m.n + 1 := by
  have := ok.far
  exact steps_next ok.lo ok.nx (show steps m.low m.next < 124 by have : steps m.low m.next = m.n := rfl; omega)
theorem Ok_add {m : CM} (ok : m.Ok) (h : m.n < 60) (a : Nat) (ha : a = 0 ∨ m.knows a = true) : (m.add a).Ok := by
  have hn := m.add_n ok a
  have ha2 : a < 128 := by
    rcases ha with h | h
    · omega
    · have := CM.knows_iff.1 h; omega
  refine ⟨ok.lo, nxt_on ok.nx, by omega, fun x => ?_, fun x => ?_, fun y h1 h2 h3 => ?_, fun y h1 h2 h3 => ?_⟩
  · show 0 ≤ put m.st m.next 1 x ∧ _
    unfold CM.add put
    dsimp only
    split
    · omega
    · exact ok.st x
  · show putN m.ab m.next a x < 128
    unfold putN
    split
    · exact ha2
    · exact ok.ab x
  · have h3 : steps m.low y < (m.add a).n := h3
    show 1 ≤ put m.st m.next 1 y
    unfold put
    split
    · omega
    · rename_i hne
      refine ok.run y h1 h2 ?_
      have hy : steps m.low y ≠ steps m.low m.next := fun e => hne (steps_inj ok.lo ⟨h1, h2⟩ ok.nx e)
      have : steps m.low m.next = m.n := rfl
      omega
  · have h3 : steps m.low y < (m.add a).n := h3
    show putN m.ab m.next a y = 0 ∨ (3 ≤ putN m.ab m.next a y ∧ putN m.ab m.next a y ≤ 127 ∧ 1 ≤ steps (putN m.ab m.next a y) y ∧ steps (putN m.ab m.next a y) y ≤ 59)
    unfold putN
    split
    · rename_i he
      subst he
      rcases ha with ha | ha
      · exact .inl ha
      · obtain ⟨k1, k2, k3⟩ := CM.knows_iff.1 ha
        refine .inr ⟨k1, k2, ?_⟩
        have : steps m.low m.next = m.n := rfl
        have hl := ok.lo
        have hx := ok.nx
        unfold steps at *
        omega
    · rename_i hne
      refine ok.par y h1 h2 ?_
      have hy : steps m.low y ≠ steps m.low m.next := fun e => hne (steps_inj ok.lo ⟨h1, h2⟩ ok.nx e)
      have : steps m.low m.next = m.n := rfl
      omega
theorem CM.mayB_nat {m : CM} {a : Int} (h : m.mayB a = true) : ∃ k : Nat, a = k ∧ (k = 0 ∨ (m.knows k = true ∧ m.st k = 1)) := by
  simp only [CM.mayB, Bool.or_eq_true, Bool.and_eq_true, decide_eq_true_eq] at h
  rcases h with h | ⟨h1, h2⟩
  · exact ⟨0, h, .inl rfl⟩
  · obtain ⟨k, rfl, -⟩ := m.knows_nat h1
    exact ⟨k, rfl, .inr ⟨h1, h2⟩⟩
theorem Ok_begin {m : CM} (ok : m.Ok) (a : Int) : (m.begin_ a).1.Ok := by
  unfold CM.begin_
  split
  · rename_i hb
    split
    · exact ok
    · obtain ⟨k, rfl, hk⟩ := m.mayB_nat hb
      exact Ok_add ok (by omega) _ (by simpa using hk.imp id (·.1))
  · exact ok
theorem CM.begin_zero {m : CM} (h : m.n < 60) : m.begin_ 0 = (m.add 0, ((m.next : Int), 0)) := by
  unfold CM.begin_
  rw [if_pos (by simp [CM.mayB]), if_neg (by omega)]
  rfl
theorem addN_ok {m : CM} (ok : m.Ok) : ∀ k, m.n + k ≤ 60 → (m.addN k).Ok ∧ (m.addN k).low = m.low ∧ (m.addN k).n = m.n + k
  | 0, _ => ⟨ok, rfl, rfl⟩
  | k + 1, h => by
    obtain ⟨h1, h2, h3⟩ := addN_ok ok k (by omega)
    refine ⟨Ok_add h1 (by omega) 0 (.inl rfl), h2, ?_⟩
    rw [CM.addN, CM.add_n h1]
    omega
theorem Ok_reach {m : CM} (ok : m.Ok) (x : Int) : (m.reach x).Ok := by
  unfold CM.reach
  split
  · rename_i h
    simp only [Bool.and_eq_true, decide_eq_true_eq] at h
    have := ok.far
    by_cases hc : steps m.low x.toNat + 1 ≤ m.n
    · rw [Nat.sub_eq_zero_of_le hc]; exact ok
    · exact (addN_ok ok _ (by omega)).1
  · exact ok
theorem liveS_cases {s : Int} (h : liveS s = true) : s = 1 ∨ s = 4 := by simpa [liveS] using h
theorem Ok_end {m : CM} (ok : m.Ok) (x s : Int) : (m.end_ x s).1.Ok := by
  unfold CM.end_
  split
  · rename_i h
    simp only [CM.mayE, Bool.and_eq_true, decide_eq_true_eq] at h
    refine ⟨ok.lo, ok.nx, ok.far, fun y => ?_, ok.ab, fun y h1 h2 h3 => ?_, ok.par⟩
    · dsimp only [endS]
      split
      · omega
      · exact ok.st y
    · dsimp only [endS]
      split
      · omega
      · exact ok.run y h1 h2 h3
  · exact ok
theorem Ok_freeze {m : CM} (ok : m.Ok) (x : Int) : (m.freeze x).Ok := by
  unfold CM.freeze
  split
  · rename_i h
    simp only [CM.mayF, Bool.and_eq_true, decide_eq_true_eq] at h
    obtain ⟨ho, hs⟩ := h
    obtain ⟨k, rfl, k1, k2⟩ := on_nat ho
    rw [Int.toNat_natCast] at hs ⊢
    have hle := m.oldest_le ok
    have hl := ok.lo
    have hx := ok.nx
    have hf := ok.far
    have key : ∀ y, 3 ≤ y → y ≤ 127 → steps k y < steps k m.next → steps m.low y < m.n := by
      intro y h1 h2 h3
      have : m.n = steps m.low m.next := rfl
      unfold steps at *
      omega
    refine ⟨⟨k1, k2⟩, ok.nx, ?_, ok.st, ok.ab, fun y h1 h2 h3 => ok.run y h1 h2 (key y h1 h2 h3), fun y h1 h2 h3 => ok.par y h1 h2 (key y h1 h2 h3)⟩
    show steps k m.next ≤ 60
    have : m.n = steps m.low m.next := rfl
    unfold steps at *
    omega
  · exact ok
def CM.belowN (m : CM) (x i : Nat) : List Nat := (m.known.take i).filter (m.climb x 128)
theorem CM.belowN_zero (m : CM) (x : Nat) : m.belowN x 0 = [] := by simp [CM.belowN]
theorem CM.belowN_le (m : CM) (x i : Nat) : (m.belowN x i).length ≤ i := Nat.le_trans (List.length_filter_le _ _) (List.length_take_le _ _)
theorem CM.belowN_all (m : CM) (x : Nat) (hk : m.knows x = true) : m.belowN x m.n = m.below x := by
  unfold CM.belowN CM.below
  rw [if_pos hk, List.take_of_length_le (by rw [CM.known_length]; exact Nat.le_refl _), Int.toNat_natCast]
theorem CM.take_mem {m : CM} (ok : m.Ok) {i y : Nat} (hi : i ≤ m.n) : y ∈ m.known.take i ↔ m.knows y = true ∧ steps m.low y < i := by
  have hf := ok.far
  unfold CM.known
  rw [← List.map_take, List.take_range, Nat.min_eq_left hi]
  simp only [List.mem_map, List.mem_range]
  constructor
  · rintro ⟨j, hj, rfl⟩
    have := xat_on m.low j
    rw [CM.knows_iff, steps_xat ok.lo (by omega)]
    exact ⟨⟨this.1, this.2, by omega⟩, hj⟩
  · rintro ⟨h1, h2⟩
    obtain ⟨k1, k2, -⟩ := CM.knows_iff.1 h1
    exact ⟨_, h2, xat_steps ok.lo ⟨k1, k2⟩⟩
theorem CM.knows_xat {m : CM} (ok : m.Ok) {i : Nat} (hi : i < m.n) : m.knows (xat m.low i) = true := by
  have := xat_on m.low i
  have hf := ok.far
  rw [CM.knows_iff, steps_xat ok.lo (by omega)]
  exact ⟨this.1, this.2, hi⟩
theorem CM.below_step {m : CM} (ok : m.Ok) {x : Nat} (hx : m.knows x = true) {i : Nat} (hi : i < m.n) :
    m.climb x 128 (xat m.low i) = (decide (xat m.low i ≠ x) && (decide (m.above (xat m.low i) = x) || decide (m.above (xat m.low i) ∈ m.belowN x i))) := by
  have hy := m.knows_xat ok hi
  have hf := ok.far
  have hp : steps m.low (xat m.low i) = i := steps_xat ok.lo (by omega)
  obtain ⟨x1, x2, x3⟩ := CM.knows_iff.1 hx
  by_cases hyx : xat m.low i = x
  · rw [hyx]
    simp only [ne_eq, not_true_eq_false, decide_false, Bool.false_and]
    rw [Bool.eq_false_iff]
    intro h
    have := (m.climb_low ok x 128 x hx h).2
    omega
  · rw [m.climb_up ok x _ hy]
    simp only [ne_eq, hyx, not_false_eq_true, decide_true, Bool.true_and]
    unfold CM.above
    by_cases hk : m.knows (m.ab (xat m.low i)) = true
    · have hlt := m.par_lt ok hy hk
      rw [hp] at hlt
      rw [hk, if_pos rfl, Bool.true_and]
      congr 1
      rw [Bool.eq_iff_iff, decide_eq_true_eq]
      unfold CM.belowN
      rw [List.mem_filter, m.take_mem ok (by omega)]
      exact ⟨fun h => ⟨⟨hk, hlt⟩, h⟩, fun h => h.2⟩
    · rw [if_neg hk]
      rw [Bool.not_eq_true] at hk
      rw [hk, Bool.false_and]
      symm
      rw [Bool.or_eq_false_iff, decide_eq_false_iff_not, decide_eq_false_iff_not]
      refine ⟨by omega, fun h => ?_⟩
      have := CM.knows_iff.1 ((m.take_mem ok (by omega)).1 (List.mem_filter.1 h).1).1
      omega
theorem CM.known_take' (m : CM) (i : Nat) (h : i < m.n) : m.known.take (i + 1) = m.known.take i ++ [xat m.low i] := by
  rw [List.take_add_one, List.getElem?_eq_getElem (by rw [CM.known_length]; exact h), CM.known_get m i (by rw [CM.known_length]; exact h)]
  rfl
theorem CM.belowN_succ (m : CM) (x i : Nat) (h : i < m.n) : m.belowN x (i + 1) = if m.climb x 128 (xat m.low i) then m.belowN x i ++ [xat m.low i] else m.belowN x i := by
  unfold CM.belowN
  rw [m.known_take' i h, List.filter_append]
  split
  · rename_i hc; simp [hc]
  · rename_i hc; simp [hc]
end Go.VB.Clk
