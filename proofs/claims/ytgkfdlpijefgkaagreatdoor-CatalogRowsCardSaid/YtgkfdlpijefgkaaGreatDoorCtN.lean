import Derived.Test.YtgkfdlpijefgkaaGreatDoorCtO
import Derived.Test.YtgkfdlpijefgkaaGreatDoorCpV
/- How many different values a column has: a count that does not hang on the order, and what is left of a sorted list whose neighbours are different (no program in sight). -/
set_option linter.unusedVariables false
namespace Go.VB.Cat
open Go.VB.Oct Go.VB.Rec
variable {α : Type}
/-- a test that says which two are alike -/
structure Eqv (p : α → α → Bool) : Prop where
  refl : ∀ a, p a a = true
  symm : ∀ a b, p a b = p b a
  tr : ∀ a b d, p a b = true → p b d = true → p a d = true
namespace Eqv
variable {p : α → α → Bool}
theorem same (h : Eqv p) {a b : α} (hab : p a b = true) (d : α) : p a d = p b d := by
  rw [Bool.eq_iff_iff]
  exact ⟨fun g => h.tr _ _ _ (by rw [h.symm]; exact hab) g, fun g => h.tr _ _ _ hab g⟩
end Eqv
/-- how many that are unlike all behind them -/
def dc (p : α → α → Bool) : List α → Nat
  | [] => 0
  | x :: l => dc p l + (if l.any (p x) = true then 0 else 1)
theorem dc_cons (p : α → α → Bool) (x : α) (l : List α) : dc p (x :: l) = dc p l + (if l.any (p x) = true then 0 else 1) := rfl
theorem dc_le (p : α → α → Bool) : ∀ l : List α, dc p l ≤ l.length
  | [] => Nat.le_refl _
  | x :: l => by
    have := dc_le p l
    unfold dc
    rw [List.length_cons]
    split <;> omega
theorem any_perm {l m : List α} (h : l.Perm m) (q : α → Bool) : l.any q = m.any q := by
  rw [Bool.eq_iff_iff, List.any_eq_true, List.any_eq_true]
  exact ⟨fun ⟨x, hx, hq⟩ => ⟨x, h.mem_iff.1 hx, hq⟩, fun ⟨x, hx, hq⟩ => ⟨x, h.mem_iff.2 hx, hq⟩⟩
theorem any_same {p : α → α → Bool} (h : Eqv p) {x y : α} (hxy : p x y = true) (l : List α) : l.any (p x) = l.any (p y) := by
  congr 1
  funext z
  exact h.same hxy z
theorem dc_perm {p : α → α → Bool} (h : Eqv p) {l m : List α} (hp : l.Perm m) : dc p l = dc p m := by
  induction hp with
  | nil => rfl
  | cons x hp ih => rw [dc_cons, dc_cons, ih, any_perm hp]
  | swap x y l =>
    rw [dc_cons, dc_cons, dc_cons, dc_cons, List.any_cons, List.any_cons]
    by_cases hxy : p x y = true
    · have hyx : p y x = true := by rw [h.symm]; exact hxy
      rw [hxy, hyx, any_same h hxy]
    · have hyx : ¬ p y x = true := by rw [h.symm]; exact hxy
      rw [Bool.not_eq_true] at hxy hyx
      rw [hxy, hyx]
      simp only [Bool.false_or]
      omega
  | trans _ _ ih1 ih2 => rw [ih1, ih2]
theorem dc_rev {p : α → α → Bool} (h : Eqv p) (l : List α) : dc p l.reverse = dc p l := dc_perm h (List.reverse_perm l)
theorem dc_le_app {p : α → α → Bool} : ∀ (l m : List α), dc p (l ++ m) ≤ dc p l + dc p m
  | [], m => by rw [List.nil_append]; omega
  | x :: l, m => by
    have := dc_le_app (p := p) l m
    rw [List.cons_append, dc_cons, dc_cons, List.any_append]
    cases l.any (p x)
    · cases m.any (p x)
      · simp only [Bool.or_self, Bool.false_eq_true, if_false]; omega
      · simp only [Bool.false_or, Bool.false_eq_true, if_false, if_true]; omega
    · simp only [Bool.true_or, if_true]; omega
theorem dc_app_right {p : α → α → Bool} : ∀ (l m : List α), dc p m ≤ dc p (l ++ m)
  | [], m => by rw [List.nil_append]; omega
  | x :: l, m => by
    have := dc_app_right (p := p) l m
    rw [List.cons_append, dc_cons]
    omega
theorem dc_app_left {p : α → α → Bool} (h : Eqv p) (l m : List α) : dc p l ≤ dc p (l ++ m) := by
  rw [dc_perm h List.perm_append_comm]
  exact dc_app_right m l
theorem dc_twice {p : α → α → Bool} (h : Eqv p) (l : List α) : dc p (l.flatMap fun x => [x, x]) = dc p l := by
  induction l with
  | nil => rfl
  | cons x l ih =>
    rw [List.flatMap_cons]
    show dc p (x :: x :: (l.flatMap fun x => [x, x])) = _
    rw [dc_cons, dc_cons, dc_cons, List.any_cons, h.refl, ih]
    have : (l.flatMap fun x => [x, x]).any (p x) = l.any (p x) := by
      rw [List.any_flatMap]
      congr 1
      funext y
      simp
    rw [this]
    simp
theorem dc_snoc {p : α → α → Bool} (h : Eqv p) (l : List α) (x : α) : dc p (l ++ [x]) = dc p l + (if l.any (fun y => p y x) = true then 0 else 1) := by
  rw [dc_perm h (List.perm_append_comm (l₁ := l) (l₂ := [x]))]
  show dc p (x :: l) = _
  rw [dc_cons]
  have : (p x) = fun y => p y x := by funext y; exact h.symm x y
  rw [this]
/-- how many that are unlike their neighbour ahead -/
def ac (p : α → α → Bool) : List α → Nat
  | [] => 0
  | [_] => 1
  | x :: y :: l => ac p (y :: l) + (if p y x = true then 0 else 1)
/-- alike by an order: neighbours suffice -/
theorem dc_sorted {c : α → α → Int} (h : Ord c) : ∀ {l : List α}, l.Pairwise (fun a b => c a b ≤ 0) → dc (fun a b => c a b == 0) l = ac (fun a b => c a b == 0) l
  | [], _ => rfl
  | [x], _ => by simp [dc, ac]
  | x :: y :: l, hs => by
    rw [List.pairwise_cons] at hs
    have ih := dc_sorted h hs.2
    have h2 := hs.2
    rw [List.pairwise_cons] at h2
    rw [dc_cons, ih]
    have hxy := hs.1 y (by simp)
    have ha := h.anti x y
    have hr := h.rng x y
    have hr2 := h.rng y x
    have e : (y :: l).any (fun b => c x b == 0) = (c y x == 0) := by
      rw [Bool.eq_iff_iff, List.any_eq_true, beq_iff_eq]
      constructor
      · rintro ⟨z, hz, h0⟩
        rw [beq_iff_eq] at h0
        rcases List.mem_cons.1 hz with rfl | hz
        · omega
        · have hyz := h2.1 z hz
          have haz := h.anti x z
          have hzx : c z x = 0 := by omega
          have := h.tr y z x hyz (by omega)
          omega
      · intro h0
        exact ⟨y, by simp, by rw [beq_iff_eq]; omega⟩
    rw [e]
    rfl
theorem eqv_of_ord {c : α → α → Int} (h : Ord c) : Eqv (fun a b => c a b == 0) := by
  refine ⟨fun a => by rw [beq_iff_eq]; exact h.refl a, fun a b => ?_, fun a b d h1 h2 => ?_⟩
  · have := h.anti a b
    rw [Bool.eq_iff_iff, beq_iff_eq, beq_iff_eq]
    omega
  · rw [beq_iff_eq] at *
    exact h.eq0 h1 h2
/-- alike as values -/
def eqV (a b : V) : Bool := V.cmp a b == 0
theorem eqv_V : Eqv eqV := eqv_of_ord ord_cmp
/-- column i of rows -/
def colV (i : Nat) (rows : List (List V)) : List V := rows.filterMap fun r => r[i]?
/-- the statistics -/
def countM (n : Nat) (rows : List (List V)) : List Nat := (List.range n).map fun i => dc eqV (colV i rows)
end Go.VB.Cat
