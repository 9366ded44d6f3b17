import Derived.Test.YtfhkmiifndhacaaDoorOctC
/- What the bytes of a number say; a reader that has text t before it (plain Lean). -/
set_option linter.unusedVariables false
namespace Go.VB.Oct
theorem num_foldl : ∀ (l : List UInt8) (a : Nat), l.foldl (fun n c => n * 256 + c.toNat) a = a * 256 ^ l.length + num l
  | [], a => by simp [num]
  | c :: l, a => by
    have h1 := num_foldl l (a * 256 + c.toNat)
    have h2 := num_foldl l c.toNat
    have h3 : num (c :: l) = l.foldl (fun n c => n * 256 + c.toNat) c.toNat := by simp [num]
    rw [List.foldl_cons, h1, h3, h2, List.length_cons, Nat.pow_succ]
    generalize 256 ^ l.length = k
    grind
theorem num_cons (c : UInt8) (l : List UInt8) : num (c :: l) = c.toNat * 256 ^ l.length + num l := by
  have h3 : num (c :: l) = l.foldl (fun n c => n * 256 + c.toNat) c.toNat := by simp [num]
  rw [h3, num_foldl]
theorem be_succ (n : Nat) {k : Nat} (h : k < 8) : be (k + 1) n = UInt8.ofNat (n / 256 ^ k) :: be k n := by
  unfold be
  rw [List.drop_eq_getElem_cons (by rw [be8_length]; omega)]
  have h8 : (be8 n)[8 - (k + 1)]'(by rw [be8_length]; omega) = byteAt n (8 - (k + 1)) := by
    have := be8_at n (8 - (k + 1)) (by omega)
    rw [List.getElem?_eq_getElem (by rw [be8_length]; omega)] at this
    exact Option.some.inj this
  rw [h8]
  have e1 : 7 - (8 - (k + 1)) = k := by omega
  have e2 : 8 - (k + 1) + 1 = 8 - k := by omega
  rw [e2]
  unfold byteAt
  rw [e1]
theorem be_zero (n : Nat) : be 0 n = [] := by simp [be, be8_length]
theorem num_be (n : Nat) : ∀ k, k ≤ 8 → num (be k n) = n % 256 ^ k
  | 0, _ => by rw [be_zero]; simp [num, Nat.mod_one]
  | k + 1, h => by
    rw [be_succ n (by omega), num_cons, be_length _ _ (by omega), num_be n k (by omega), Nat.pow_succ, Nat.mod_mul]
    have : (UInt8.ofNat (n / 256 ^ k)).toNat = n / 256 ^ k % 256 := by simp
    rw [this, Nat.mul_comm]
    omega
theorem num_be_lt {n k : Nat} (hk : k ≤ 8) (h : n < 256 ^ k) : num (be k n) = n := by rw [num_be n k hk, Nat.mod_eq_of_lt h]
theorem num_inj : ∀ {l m : List UInt8}, l.length = m.length → num l = num m → l = m
  | [], [], _, _ => rfl
  | [], _ :: _, h, _ => by simp at h
  | _ :: _, [], h, _ => by simp at h
  | c :: l, d :: m, h, e => by
    have hl : l.length = m.length := by simpa using h
    rw [num_cons, num_cons, hl] at e
    have h1 := num_lt l
    have h2 := num_lt m
    rw [hl] at h1
    have hp : 0 < 256 ^ m.length := Nat.pow_pos (by omega)
    have hc : c.toNat = d.toNat := by
      have e1 : (c.toNat * 256 ^ m.length + num l) / 256 ^ m.length = c.toNat := by rw [Nat.mul_comm, Nat.mul_add_div hp, Nat.div_eq_of_lt h1]; omega
      have e2 : (d.toNat * 256 ^ m.length + num m) / 256 ^ m.length = d.toNat := by rw [Nat.mul_comm, Nat.mul_add_div hp, Nat.div_eq_of_lt h2]; omega
      rw [← e1, e, e2]
    have hlm : num l = num m := by rw [hc] at e; omega
    rw [num_inj hl hlm]
    congr 1
    exact UInt8.toNat_inj.1 hc
theorem be_num {l : List UInt8} {k : Nat} (h : l.length = k) (hk : k ≤ 8) : be k (num l) = l := by
  refine num_inj (by rw [be_length _ _ hk, h]) ?_
  rw [num_be _ _ hk, Nat.mod_eq_of_lt]
  rw [← h]
  exact num_lt l
/-- nothing has failed, and t is still to come -/
structure RM.Has (r : RM) (t : List UInt8) : Prop where
  ok : r.failed = false
  rest : r.s.drop r.at_ = t
  le : r.at_ ≤ r.s.length
namespace RM
variable {r : RM} {t x : List UInt8}
theorem Has.new (s : List UInt8) : (RM.new s).Has s := ⟨rfl, rfl, Nat.zero_le _⟩
theorem Has.left (h : r.Has t) : r.left = t.length := by rw [← h.rest, List.length_drop]; rfl
theorem Has.take (h : r.Has t) {n : Nat} (hn : n ≤ t.length) : r.take n = ({ r with at_ := r.at_ + n }, t.take n) ∧ ({ r with at_ := r.at_ + n } : RM).Has (t.drop n) := by
  have hl := h.left
  constructor
  · unfold RM.take RM.bad
    rw [if_neg (by rw [h.ok, hl]; simp; omega), h.rest]
  · refine ⟨h.ok, ?_, ?_⟩
    · show r.s.drop (r.at_ + n) = _
      rw [← h.rest, List.drop_drop]
    · show r.at_ + n ≤ r.s.length
      have := h.le
      unfold RM.left at hl
      omega
theorem Has.bad (h : r.Has t) {n : Nat} (hn : t.length < n) : r.take n = ({ r with failed := true }, []) := by
  unfold RM.take RM.bad
  rw [if_pos (by rw [h.ok, h.left]; simpa using hn)]
theorem take_failed (h : r.failed = true) (n : Nat) : r.take n = (r, []) := by
  unfold RM.take RM.bad
  rw [if_pos (by rw [h]; rfl)]
  cases r
  cases h
  rfl
theorem num_failed (h : r.failed = true) (n : Nat) : r.num n = (r, 0) := by
  unfold RM.num
  rw [take_failed h]
  rfl
theorem text_failed (h : r.failed = true) : r.text = (r, []) := by
  unfold RM.text
  rw [num_failed h]
  dsimp only
  rw [take_failed h]
  dsimp only
  rw [if_pos h]
/-- a prefix is taken -/
theorem Has.app (h : r.Has (x ++ t)) {n : Nat} (hn : x.length = n) : ∃ r', r.take n = (r', x) ∧ r'.Has t ∧ r'.s = r.s ∧ r'.at_ = r.at_ + n := by
  subst hn
  have hh := h.take (n := x.length) (by simp)
  rw [List.take_left, List.drop_left] at hh
  exact ⟨_, hh.1, hh.2, rfl, rfl⟩
theorem Has.num (k : Nat) {n : Nat} (h : r.Has (be k n ++ t)) (hk : k ≤ 8) (hn : n < 256 ^ k) : ∃ r', r.num k = (r', n) ∧ r'.Has t ∧ r'.s = r.s ∧ r'.at_ = r.at_ + k := by
  obtain ⟨r', h1, h2, h3, h4⟩ := h.app (be_length k n hk)
  exact ⟨r', by unfold RM.num; rw [h1]; dsimp only; rw [num_be_lt hk hn], h2, h3, h4⟩
theorem Has.text (h : r.Has (Oct.text x ++ t)) (hx : x.length ≤ 65535) : ∃ r', r.text = (r', x) ∧ r'.Has t ∧ r'.s = r.s := by
  unfold Oct.text at h
  rw [List.append_assoc] at h
  obtain ⟨r1, h1, h2, h3, h4⟩ := h.num 2 (by omega) (by omega)
  obtain ⟨r2, g1, g2, g3, g4⟩ := h2.app rfl
  refine ⟨r2, ?_, g2, by rw [g3, h3]⟩
  unfold RM.text
  rw [h1]
  dsimp only
  rw [g1]
  dsimp only
  rw [if_neg (by rw [g2.ok]; simp)]
/-- what a number that was read says of the text -/
theorem Has.num_back (h : r.Has t) (k : Nat) (hk : k ≤ 8) (hf : (r.num k).1.failed = false) : ∃ u, t = be k (r.num k).2 ++ u ∧ (r.num k).1.Has u ∧ (r.num k).1.s = r.s ∧ (r.num k).1.at_ = r.at_ + k ∧ (r.num k).2 < 256 ^ k := by
  by_cases hn : k ≤ t.length
  · have hh := h.take hn
    have e : r.num k = ({ r with at_ := r.at_ + k }, Go.VB.Oct.num (t.take k)) := by unfold RM.num; rw [hh.1]
    have hlen : (t.take k).length = k := by rw [List.length_take]; omega
    rw [e]
    refine ⟨t.drop k, ?_, hh.2, rfl, rfl, ?_⟩
    · rw [be_num hlen hk, List.take_append_drop]
    · have := Go.VB.Oct.num_lt (t.take k)
      rwa [hlen] at this
  · have : (r.num k).1.failed = true := by unfold RM.num; rw [h.bad (by omega)]
    rw [this] at hf
    cases hf
theorem Has.take_back (h : r.Has t) (k : Nat) (hf : (r.take k).1.failed = false) : t = (r.take k).2 ++ t.drop k ∧ (r.take k).1.Has (t.drop k) ∧ k ≤ t.length ∧ (r.take k).2.length = k := by
  by_cases hn : k ≤ t.length
  · have hh := h.take hn
    rw [hh.1]
    exact ⟨(List.take_append_drop k t).symm, hh.2, hn, by rw [List.length_take]; omega⟩
  · rw [h.bad (by omega)] at hf
    cases hf
theorem failed_num {k : Nat} (h : (r.num k).1.failed = false) : r.failed = false := by
  cases hr : r.failed with
  | false => rfl
  | true => rw [num_failed hr] at h; exact absurd (hr.symm.trans h) (by decide)
theorem failed_text (h : r.text.1.failed = false) : r.failed = false := by
  cases hr : r.failed with
  | false => rfl
  | true => rw [text_failed hr] at h; exact absurd (hr.symm.trans h) (by decide)
theorem Has.text_back (h : r.Has t) (hf : r.text.1.failed = false) : ∃ u, t = Oct.text r.text.2 ++ u ∧ r.text.1.Has u ∧ r.text.1.s = r.s ∧ r.text.2.length ≤ 65535 := by
  have e : r.text = (((r.num 2).1.take (r.num 2).2).1, ((r.num 2).1.take (r.num 2).2).2) ∧ ((r.num 2).1.take (r.num 2).2).1.failed = false := by
    cases hb : ((r.num 2).1.take (r.num 2).2).1.failed with
    | false => exact ⟨by unfold RM.text; dsimp only; rw [if_neg (by rw [hb]; simp)], rfl⟩
    | true =>
      exfalso
      have : r.text.1.failed = true := by unfold RM.text; dsimp only; rw [if_pos hb]; exact hb
      rw [this] at hf
      cases hf
  obtain ⟨e1, e2⟩ := e
  have e3 : (r.num 2).1.failed = false := by
    cases hb : (r.num 2).1.failed with
    | false => rfl
    | true => rw [take_failed hb] at e2; exact absurd (hb.symm.trans e2) (by decide)
  obtain ⟨u, h1, h2, h3, h4, h5⟩ := h.num_back 2 (by omega) e3
  obtain ⟨g1, g2, g3, g4⟩ := h2.take_back _ e2
  rw [e1]
  refine ⟨u.drop (r.num 2).2, ?_, g2, by rw [RM.take_s]; exact h3, by dsimp only; omega⟩
  dsimp only
  unfold Oct.text
  rw [g4, List.append_assoc, ← g1]
  exact h1
end RM
end Go.VB.Oct
