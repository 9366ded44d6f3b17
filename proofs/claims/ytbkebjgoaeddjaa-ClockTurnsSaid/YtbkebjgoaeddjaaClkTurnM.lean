import Derived.Test.YtbkebjgoaeddjaaClkL
/- ClockTurns: the model's part: a clock and the same clock further on the ring. -/
set_option linter.unusedVariables false
namespace Go.VB.Clk
def tn (r a : Nat) : Nat := if a = 0 then 0 else xat a r
structure Rot (r : Nat) (m m' : CM) : Prop where
  low : m'.low = xat m.low r
  next : m'.next = xat m.next r
  st : ∀ x, 3 ≤ x → x ≤ 127 → m'.st (xat x r) = m.st x
  ab : ∀ x, 3 ≤ x → x ≤ 127 → m'.ab (xat x r) = tn r (m.ab x) ∧ (m.ab x = 0 ∨ (3 ≤ m.ab x ∧ m.ab x ≤ 127))
theorem steps_rot {a b r : Nat} (ha : 3 ≤ a ∧ a ≤ 127) (hb : 3 ≤ b ∧ b ≤ 127) (hr : r < 125) : steps (xat a r) (xat b r) = steps a b := by unfold steps xat; omega
theorem xat_xat {a i r : Nat} (ha : 3 ≤ a ∧ a ≤ 127) : xat (xat a r) i = xat (xat a i) r := by unfold xat; omega
theorem xat_inj {a b r : Nat} (ha : 3 ≤ a ∧ a ≤ 127) (hb : 3 ≤ b ∧ b ≤ 127) (h : xat a r = xat b r) : a = b := by unfold xat at h; omega
theorem xat_nxt {a r : Nat} (ha : 3 ≤ a ∧ a ≤ 127) : xat (nxt a) r = nxt (xat a r) := by unfold xat nxt; split <;> split <;> omega
section
variable {r : Nat} {m m' : CM} (hr : r < 125) (ok : m.Ok) (h : Rot r m m')
include hr ok h
theorem Rot.n : m'.n = m.n := by
  unfold CM.n
  rw [h.low, h.next, steps_rot ok.lo ok.nx hr]
theorem Rot.knows {x : Nat} (hx : 3 ≤ x ∧ x ≤ 127) : m'.knows (xat x r : Nat) = m.knows x := by
  have hon := xat_on x r
  rw [Bool.eq_iff_iff, CM.knows_iff, CM.knows_iff, h.low, steps_rot ok.lo hx hr, h.n hr ok]
  omega
theorem Rot.knowsT {a : Nat} (ha : a = 0 ∨ (3 ≤ a ∧ a ≤ 127)) : m'.knows (tn r a : Nat) = m.knows a := by
  unfold tn
  rcases ha with rfl | ha
  · rw [if_pos rfl]
    unfold CM.knows
    simp [on]
  · rw [if_neg (by omega)]
    exact h.knows hr ok ha
theorem Rot.known : m'.known = m.known.map fun x => xat x r := by
  unfold CM.known
  rw [h.n hr ok, h.low, List.map_map]
  apply List.map_congr_left
  intro i _
  exact xat_xat ok.lo
theorem Rot.live {x : Nat} (hx : 3 ≤ x ∧ x ≤ 127) : m'.live (xat x r) = m.live x := by
  have _ := hr
  have _ := ok
  unfold CM.live
  rw [h.st x hx.1 hx.2]
theorem Rot.lives : m'.lives = m.lives.map fun x => xat x r := by
  unfold CM.lives
  rw [h.known hr ok, List.filter_map]
  congr 1
  apply List.filter_congr
  intro x hx
  have := CM.knows_iff.1 ((m.known_mem ok).1 hx)
  exact h.live hr ok ⟨this.1, this.2.1⟩
theorem Rot.oldest : m'.oldest = xat m.oldest r := by
  unfold CM.oldest
  rw [h.lives hr ok, h.next]
  cases m.lives <;> rfl
theorem Rot.climb {x : Nat} (hx : 3 ≤ x ∧ x ≤ 127) : ∀ (f y : Nat), 3 ≤ y ∧ y ≤ 127 → m'.climb (xat x r) f (xat y r) = m.climb x f y := by
  intro f
  induction f with
  | zero => intro y _; rfl
  | succ f ih =>
    intro y hy
    obtain ⟨h1, h2⟩ := h.ab y hy.1 hy.2
    rw [CM.climb, CM.climb, h1, h.knowsT hr ok h2]
    by_cases hk : m.knows (m.ab y) = true
    · rw [hk, Bool.true_and, Bool.true_and]
      have hk := CM.knows_iff.1 hk
      have ha : 3 ≤ m.ab y ∧ m.ab y ≤ 127 := ⟨hk.1, hk.2.1⟩
      rw [show tn r (m.ab y) = xat (m.ab y) r by unfold tn; rw [if_neg (by omega)], ih _ ha]
      congr 1
      rw [Bool.eq_iff_iff, decide_eq_true_eq, decide_eq_true_eq]
      exact ⟨fun e => xat_inj ha hx e, fun e => by rw [e]⟩
    · rw [Bool.not_eq_true] at hk
      rw [hk, Bool.false_and, Bool.false_and]
theorem Rot.below {x : Nat} (hx : 3 ≤ x ∧ x ≤ 127) : m'.below (xat x r : Nat) = (m.below x).map fun x => xat x r := by
  unfold CM.below
  rw [h.knows hr ok hx]
  split
  · rw [h.known hr ok, List.filter_map, Int.toNat_natCast, Int.toNat_natCast]
    congr 1
    apply List.filter_congr
    intro y hy
    have := CM.knows_iff.1 ((m.known_mem ok).1 hy)
    exact h.climb hr ok hx 128 y ⟨this.1, this.2.1⟩
  · rfl
theorem Rot.add {a : Nat} (ha : a = 0 ∨ (3 ≤ a ∧ a ≤ 127)) : Rot r (m.add a) (m'.add (tn r a)) := by
  have _ := hr
  refine ⟨h.low, ?_, fun x h1 h2 => ?_, fun x h1 h2 => ?_⟩
  · show nxt m'.next = xat (nxt m.next) r
    rw [h.next, xat_nxt ok.nx]
  · show put m'.st m'.next 1 (xat x r) = put m.st m.next 1 x
    unfold put
    rw [h.next]
    by_cases e : x = m.next
    · rw [if_pos (by rw [e]), if_pos e]
    · rw [if_neg (fun e2 => e (xat_inj ⟨h1, h2⟩ ok.nx e2)), if_neg e, h.st x h1 h2]
  · show putN m'.ab m'.next (tn r a) (xat x r) = tn r (putN m.ab m.next a x) ∧ (putN m.ab m.next a x = 0 ∨ (3 ≤ putN m.ab m.next a x ∧ putN m.ab m.next a x ≤ 127))
    unfold putN
    rw [h.next]
    by_cases e : x = m.next
    · rw [if_pos (by rw [e]), if_pos e]
      exact ⟨rfl, ha⟩
    · rw [if_neg (fun e2 => e (xat_inj ⟨h1, h2⟩ ok.nx e2)), if_neg e]
      exact h.ab x h1 h2
theorem Rot.begin_ {a : Nat} (ha : a = 0 ∨ (3 ≤ a ∧ a ≤ 127)) : Rot r (m.begin_ a).1 (m'.begin_ (tn r a : Nat)).1 ∧ (m'.begin_ (tn r a : Nat)).2.2 = (m.begin_ a).2.2 ∧
    ∃ x : Nat, (m.begin_ a).2.1 = x ∧ (m'.begin_ (tn r a : Nat)).2.1 = (tn r x : Nat) ∧ (x = 0 ∨ (3 ≤ x ∧ x ≤ 127)) := by
  have hb : m'.mayB (tn r a : Nat) = m.mayB a := by
    unfold CM.mayB
    rw [h.knowsT hr ok ha, Int.toNat_natCast, Int.toNat_natCast]
    rcases ha with rfl | ha
    · simp [tn]
    · have e : tn r a = xat a r := by unfold tn; rw [if_neg (by omega)]
      have hon := xat_on a r
      rw [e, h.st a ha.1 ha.2]
      congr 1
      rw [Bool.eq_iff_iff, decide_eq_true_eq, decide_eq_true_eq]
      omega
  unfold CM.begin_
  rw [hb, h.n hr ok]
  split
  · split
    · exact ⟨h, rfl, 0, rfl, rfl, .inl rfl⟩
    · rw [Int.toNat_natCast, Int.toNat_natCast]
      refine ⟨h.add hr ok ha, rfl, m.next, rfl, ?_, .inr ok.nx⟩
      have := ok.nx
      show ((m'.next : Nat) : Int) = _
      rw [h.next]
      unfold tn
      rw [if_neg (by omega)]
  · exact ⟨h, rfl, 0, rfl, rfl, .inl rfl⟩
theorem Rot.end_ {x : Nat} (hx : 3 ≤ x ∧ x ≤ 127) (s : Int) : Rot r (m.end_ x s).1 (m'.end_ (xat x r : Nat) s).1 ∧ (m'.end_ (xat x r : Nat) s).2 = (m.end_ x s).2 := by
  have hm : m'.mayE (xat x r : Nat) s = m.mayE x s := by
    unfold CM.mayE
    rw [h.knows hr ok hx, Int.toNat_natCast, Int.toNat_natCast, h.live hr ok hx, h.st x hx.1 hx.2]
  unfold CM.end_
  rw [hm]
  split
  · refine ⟨⟨h.low, h.next, fun y h1 h2 => ?_, h.ab⟩, rfl⟩
    show endS ((xat x r : Nat) :: m'.below (xat x r : Nat)) s m'.st (xat y r) = endS (x :: m.below x) s m.st y
    unfold endS
    rw [h.st y h1 h2, h.below hr ok hx]
    have e : (xat y r ∈ (xat x r) :: (m.below x).map fun x => xat x r) ↔ y ∈ x :: m.below x := by
      rw [List.mem_cons, List.mem_cons, List.mem_map]
      constructor
      · rintro (e | ⟨z, hz, e⟩)
        · exact .inl (xat_inj ⟨h1, h2⟩ hx e)
        · have := CM.knows_iff.1 (m.below_mem ok hz)
          exact .inr (xat_inj ⟨this.1, this.2.1⟩ ⟨h1, h2⟩ e ▸ hz)
      · rintro (rfl | hz)
        · exact .inl rfl
        · exact .inr ⟨y, hz, rfl⟩
    simp only [e]
  · exact ⟨h, rfl⟩
theorem Rot.freeze {x : Nat} (hx : 3 ≤ x ∧ x ≤ 127) : Rot r (m.freeze x) (m'.freeze (xat x r : Nat)) := by
  have hon := xat_on x r
  have hm : m'.mayF (xat x r : Nat) = m.mayF x := by
    unfold CM.mayF
    rw [on_of hx.1 hx.2, on_of hon.1 hon.2, Int.toNat_natCast, Int.toNat_natCast, h.low, h.oldest hr ok, steps_rot ok.lo hx hr, steps_rot ok.lo (m.oldest_on ok) hr]
  unfold CM.freeze
  rw [hm]
  split
  · rw [Int.toNat_natCast, Int.toNat_natCast]
    exact ⟨rfl, h.next, h.st, h.ab⟩
  · exact h
theorem Rot.state {x : Nat} (hx : 3 ≤ x ∧ x ≤ 127) : m'.state (xat x r : Nat) = m.state x := by
  have hon := xat_on x r
  unfold CM.state
  rw [if_neg (show ¬ ((xat x r : Nat) : Int) = 2 by omega), if_neg (show ¬ ((x : Nat) : Int) = 2 by omega), h.knows hr ok hx, Int.toNat_natCast, Int.toNat_natCast, h.st x hx.1 hx.2]
end
theorem Rot.addN {r : Nat} (hr : r < 125) {m m' : CM} (ok : m.Ok) (h : Rot r m m') : ∀ k, m.n + k ≤ 60 → Rot r (m.addN k) (m'.addN k)
  | 0, _ => h
  | k + 1, hk => by
    have ih := Rot.addN hr ok h k (by omega)
    exact ih.add hr (addN_ok ok k (by omega)).1 (.inl rfl)
theorem Rot.reach {r : Nat} (hr : r < 125) {m m' : CM} (ok : m.Ok) (h : Rot r m m') {x : Nat} (hx : 3 ≤ x ∧ x ≤ 127) : Rot r (m.reach x) (m'.reach (xat x r : Nat)) := by
  have hon := xat_on x r
  have hn := h.n hr ok
  have hf := ok.far
  unfold CM.reach
  rw [on_of hx.1 hx.2, on_of hon.1 hon.2, Int.toNat_natCast, Int.toNat_natCast, h.low, steps_rot ok.lo hx hr, hn]
  split
  · rename_i hc
    simp only [Bool.true_and, decide_eq_true_eq] at hc
    by_cases hle : steps m.low x + 1 ≤ m.n
    · rw [Nat.sub_eq_zero_of_le hle]; exact h
    · exact Rot.addN hr ok h _ (by omega)
  · exact h
theorem Rot.dok {r : Nat} (hr : r < 125) {m m' : CM} (ok : m.Ok) (h : Rot r m m') (kind s : Int) {x : Nat} (hx : 3 ≤ x ∧ x ≤ 127) :
    Rot r (m.dok kind x s).1 (m'.dok kind (xat x r : Nat) s).1 ∧ (m'.dok kind (xat x r : Nat) s).2.2 = (m.dok kind x s).2.2 ∧ ∃ y : Nat, (m.dok kind x s).2.1 = y ∧ (m'.dok kind (xat x r : Nat) s).2.1 = (tn r y : Nat) ∧ (y = 0 ∨ (3 ≤ y ∧ y ≤ 127)) := by
  have e : tn r x = xat x r := by unfold tn; rw [if_neg (by omega)]
  unfold CM.dok
  split
  · have := h.begin_ hr ok (a := x) (.inr hx)
    rw [e] at this
    exact this
  · split
    · exact ⟨(h.end_ hr ok hx s).1, (h.end_ hr ok hx s).2, 0, rfl, rfl, .inl rfl⟩
    · split
      · exact ⟨h.freeze hr ok hx, rfl, 0, rfl, rfl, .inl rfl⟩
      · split
        · exact ⟨h.reach hr ok hx, rfl, 0, rfl, rfl, .inl rfl⟩
        · exact h.begin_ hr ok (a := 0) (.inl rfl)
theorem rot_new {r : Nat} (hr : r < 125) : Rot r (CM.new 3) (CM.new (xat 3 r : Nat)) := by
  have hon := xat_on 3 r
  have e1 : CM.new 3 = { low := 3, next := 3, st := fun _ => 0, ab := fun _ => 0 } := rfl
  have e2 : CM.new (xat 3 r : Nat) = { low := xat 3 r, next := xat 3 r, st := fun _ => 0, ab := fun _ => 0 } := by
    unfold CM.new
    rw [if_pos (on_of hon.1 hon.2), Int.toNat_natCast]
  rw [e1, e2]
  exact ⟨rfl, rfl, fun _ _ _ => rfl, fun _ _ _ => ⟨rfl, .inl rfl⟩⟩
end Go.VB.Clk
