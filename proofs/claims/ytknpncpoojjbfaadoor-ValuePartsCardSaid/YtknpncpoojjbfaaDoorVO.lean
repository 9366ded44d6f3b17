import Derived.Test.YtknpncpoojjbfaaDoorVM
/- Comparing is a total preorder: plain. -/
set_option linter.unusedVariables false
namespace Go.VB.Rec
structure Ord {α : Type} (c : α → α → Int) : Prop where
  rng : ∀ a b, c a b = -1 ∨ c a b = 0 ∨ c a b = 1
  anti : ∀ a b, c b a = - c a b
  tr : ∀ a b d, c a b ≤ 0 → c b d ≤ 0 → c a d ≤ 0
namespace Ord
variable {α : Type} {c : α → α → Int}
theorem refl (h : Ord c) (a : α) : c a a = 0 := by have := h.anti a a; omega
theorem lt1 (h : Ord c) {a b d : α} (h1 : c a b < 0) (h2 : c b d ≤ 0) : c a d < 0 := by
  have h3 := h.tr a b d (by omega) h2
  have := h.anti a d
  have := h.anti a b
  by_cases h4 : c a d = 0
  · have := h.tr b d a h2 (by omega); omega
  · omega
theorem lt2 (h : Ord c) {a b d : α} (h1 : c a b ≤ 0) (h2 : c b d < 0) : c a d < 0 := by
  have h3 := h.tr a b d h1 (by omega)
  have := h.anti a d
  have := h.anti b d
  by_cases h4 : c a d = 0
  · have := h.tr d a b (by omega) h1; omega
  · omega
theorem eq0 (h : Ord c) {a b d : α} (h1 : c a b = 0) (h2 : c b d = 0) : c a d = 0 := by
  have h3 := h.tr a b d (by omega) (by omega)
  have := h.anti a d
  have := h.anti a b
  have := h.anti b d
  have := h.tr d b a (by omega) (by omega)
  omega
theorem ge (h : Ord c) {a b d : α} (h1 : 0 ≤ c a b) (h2 : 0 ≤ c b d) : 0 ≤ c a d := by
  have := h.anti a d
  have := h.anti a b
  have := h.anti b d
  have := h.tr d b a (by omega) (by omega)
  omega
end Ord
def lexC {α : Type} (c : α → α → Int) : List α → List α → Int
  | a :: l, b :: m => if c a b ≠ 0 then c a b else lexC c l m
  | [], [] => 0
  | [], _ :: _ => -1
  | _ :: _, [] => 1
theorem Ord.lex {α : Type} {c : α → α → Int} (h : Ord c) : Ord (lexC c) where
  rng := by
    intro l
    induction l with
    | nil => intro m; cases m <;> simp [lexC]
    | cons a l ih =>
      intro m
      cases m with
      | nil => simp [lexC]
      | cons b m =>
        unfold lexC
        split
        · exact h.rng a b
        · exact ih m
  anti := by
    intro l
    induction l with
    | nil => intro m; cases m <;> simp [lexC]
    | cons a l ih =>
      intro m
      cases m with
      | nil => simp [lexC]
      | cons b m =>
        have := h.anti a b
        unfold lexC
        by_cases h0 : c a b = 0
        · rw [if_neg (by omega), if_neg (by omega)]; exact ih m
        · rw [if_pos (by omega), if_pos (by omega)]; omega
  tr := by
    intro l
    induction l with
    | nil =>
      intro m n h1 h2
      cases n with
      | nil => simp [lexC]
      | cons d n => simp [lexC]
    | cons a l ih =>
      intro m n h1 h2
      cases m with
      | nil => simp [lexC] at h1
      | cons b m =>
        cases n with
        | nil => simp [lexC] at h2
        | cons d n =>
          unfold lexC at h1 h2 ⊢
          by_cases x0 : c a b = 0
          · rw [if_neg (by omega)] at h1
            by_cases y0 : c b d = 0
            · rw [if_neg (by omega)] at h2
              rw [if_neg (by have := h.eq0 x0 y0; omega)]
              exact ih m n h1 h2
            · rw [if_pos y0] at h2
              have := h.lt2 (a := a) (b := b) (d := d) (by omega) (by omega)
              rw [if_pos (by omega)]; omega
          · rw [if_pos x0] at h1
            have hy : c b d ≤ 0 := by
              by_cases y0 : c b d = 0
              · omega
              · rw [if_pos y0] at h2; exact h2
            have := h.lt1 (a := a) (b := b) (d := d) (by omega) hy
            rw [if_pos (by omega)]; omega
theorem ord_int : Ord Lib.compareInt where
  rng := by intro a b; unfold Lib.compareInt; split <;> (try split) <;> omega
  anti := by intro a b; unfold Lib.compareInt; split <;> split <;> (try split) <;> (try split) <;> omega
  tr := by
    intro a b d
    unfold Lib.compareInt
    split <;> split <;> (try split) <;> (try split) <;> (try split) <;> (try split) <;> omega
theorem ord_by {α β : Type} {c : β → β → Int} (h : Ord c) (f : α → β) : Ord (fun a b => c (f a) (f b)) := ⟨fun a b => h.rng _ _, fun a b => h.anti _ _, fun a b d => h.tr _ _ _⟩
theorem bytes_lex : ∀ a b : List UInt8, Lib.compareBytes a b = lexC (fun x y : UInt8 => Lib.compareInt x.toNat y.toNat) a b
  | [], [] => rfl
  | [], _ :: _ => rfl
  | _ :: _, [] => rfl
  | x :: a, y :: b => by
    unfold Lib.compareBytes lexC
    rw [bytes_lex a b]
    generalize lexC (fun x y : UInt8 => Lib.compareInt x.toNat y.toNat) a b = z
    unfold Lib.compareInt
    by_cases h1 : x < y
    · have : x.toNat < y.toNat := UInt8.lt_iff_toNat_lt.1 h1
      rw [if_pos h1, if_pos (show (x.toNat : Int) < (y.toNat : Int) by omega)]; rfl
    · have g1 : ¬ x.toNat < y.toNat := fun h => h1 (UInt8.lt_iff_toNat_lt.2 h)
      rw [if_neg h1, if_neg (show ¬ (x.toNat : Int) < (y.toNat : Int) by omega)]
      by_cases h2 : y < x
      · have : y.toNat < x.toNat := UInt8.lt_iff_toNat_lt.1 h2
        rw [if_pos h2, if_pos (show (x.toNat : Int) > (y.toNat : Int) by omega)]; rfl
      · have g2 : ¬ y.toNat < x.toNat := fun h => h2 (UInt8.lt_iff_toNat_lt.2 h)
        rw [if_neg h2, if_neg (show ¬ (x.toNat : Int) > (y.toNat : Int) by omega)]; simp
theorem ord_bytes : Ord Lib.compareBytes := by
  have e : Lib.compareBytes = lexC (fun x y : UInt8 => Lib.compareInt x.toNat y.toNat) := by funext a b; exact bytes_lex a b
  rw [e]
  exact (ord_by ord_int (fun x : UInt8 => (x.toNat : Int))).lex
/-- values of one rank -/
def subC (r : Int) (a b : V) : Int := if r = 1 then Lib.compareInt a.n b.n else if r = 2 then Lib.compareBytes a.s b.s else 0
theorem ord_sub (r : Int) : Ord (subC r) := by
  unfold subC
  by_cases h1 : r = 1
  · simp only [h1, if_true]; exact ord_by ord_int V.n
  · by_cases h2 : r = 2
    · subst h2; exact ord_by ord_bytes V.s
    · simp only [h1, h2, if_false]; exact ⟨fun _ _ => .inr (.inl rfl), fun _ _ => rfl, fun _ _ _ _ _ => Int.le_refl _⟩
theorem cmp_rank (a b : V) : V.cmp a b = if Lib.compareInt (rank a.k) (rank b.k) ≠ 0 then Lib.compareInt (rank a.k) (rank b.k) else subC (rank a.k) a b := by
  have h0 : Lib.compareInt (rank a.k) (rank b.k) = 0 ↔ rank a.k = rank b.k := by unfold Lib.compareInt; split <;> (try split) <;> omega
  unfold V.cmp
  by_cases h : rank a.k = rank b.k
  · rw [if_neg (show ¬ (rank a.k ≠ rank b.k) from fun g => g h), if_neg (show ¬ (Lib.compareInt (rank a.k) (rank b.k) ≠ 0) from fun g => g (h0.2 h))]
    unfold subC
    have h1 : a.k = 1 ↔ rank a.k = 1 := by unfold rank; split <;> omega
    have h2 : a.k = 2 ↔ rank a.k = 2 := by unfold rank; split <;> omega
    by_cases g1 : a.k = 1
    · rw [if_pos g1, if_pos (h1.1 g1)]
    · rw [if_neg g1, if_neg (fun h => g1 (h1.2 h))]
      by_cases g2 : a.k = 2
      · rw [if_pos g2, if_pos (h2.1 g2)]
      · rw [if_neg g2, if_neg (fun h => g2 (h2.2 h))]
  · rw [if_pos h, if_pos (fun e => h (h0.1 e))]
theorem ord_cmp : Ord V.cmp where
  rng := by
    intro a b
    rw [cmp_rank]
    split
    · exact ord_int.rng _ _
    · exact (ord_sub _).rng _ _
  anti := by
    intro a b
    have h := ord_int.anti (rank a.k) (rank b.k)
    rw [cmp_rank, cmp_rank]
    by_cases h0 : Lib.compareInt (rank a.k) (rank b.k) = 0
    · have e : rank a.k = rank b.k := by unfold Lib.compareInt at h0; split at h0 <;> (try split at h0) <;> omega
      rw [if_neg (by omega), if_neg (by omega), ← e]
      exact (ord_sub _).anti a b
    · rw [if_pos (by omega), if_pos (by omega)]; exact h
  tr := by
    intro a b d
    have key : ∀ x y : V, Lib.compareInt (rank x.k) (rank y.k) = 0 → rank x.k = rank y.k := fun x y h0 => by unfold Lib.compareInt at h0; split at h0 <;> (try split at h0) <;> omega
    rw [cmp_rank, cmp_rank, cmp_rank]
    intro h1 h2
    by_cases x0 : Lib.compareInt (rank a.k) (rank b.k) = 0
    · rw [if_neg (by omega)] at h1
      have ea := key _ _ x0
      rw [ea] at h1 ⊢
      by_cases y0 : Lib.compareInt (rank b.k) (rank d.k) = 0
      · rw [if_neg (by omega)] at h2
        rw [if_neg (by omega)]
        exact (ord_sub _).tr a b d h1 h2
      · rw [if_pos y0] at h2
        rw [if_pos y0]; exact h2
    · rw [if_pos x0] at h1
      have hy : Lib.compareInt (rank b.k) (rank d.k) ≤ 0 := by
        by_cases y0 : Lib.compareInt (rank b.k) (rank d.k) = 0
        · omega
        · rw [if_pos y0] at h2; exact h2
      have := ord_int.lt1 (a := rank a.k) (b := rank b.k) (d := rank d.k) (by omega) hy
      rw [if_pos (by omega)]; omega
theorem rows_lex : ∀ l m : List V, rowsCmp l m = lexC V.cmp l m
  | [], [] => rfl
  | [], _ :: _ => rfl
  | _ :: _, [] => rfl
  | x :: a, y :: b => by unfold rowsCmp lexC; rw [rows_lex a b]
theorem ord_rows : Ord rowsCmp := by
  have e : rowsCmp = lexC V.cmp := by funext a b; exact rows_lex a b
  rw [e]
  exact ord_cmp.lex
end Go.VB.Rec
