import Derived.Test.YtknpncpoojjbfaaDoorVEq
/- Keys order as rows (no program in sight). -/
set_option linter.unusedVariables false
namespace Go.VB.Rec
theorem cb_cons (x y : UInt8) (a b : List UInt8) : Lib.compareBytes (x :: a) (y :: b) = if Lib.compareInt x.toNat y.toNat ≠ 0 then Lib.compareInt x.toNat y.toNat else Lib.compareBytes a b := by
  rw [bytes_lex, bytes_lex a b]; rfl
theorem lexC_take {α : Type} (c : α → α → Int) : ∀ (n : Nat) (l m : List α), lexC c (l.take n) (m.take n) = lexC c l m ∨ lexC c (l.take n) (m.take n) = 0
  | 0, l, m => .inr (by simp [lexC])
  | n + 1, [], [] => .inl rfl
  | n + 1, [], _ :: _ => .inl rfl
  | n + 1, _ :: _, [] => .inl rfl
  | n + 1, a :: l, b :: m => by
    rw [List.take_succ_cons, List.take_succ_cons]
    unfold lexC
    by_cases h : c a b ≠ 0
    · rw [if_pos h, if_pos h]; exact .inl rfl
    · rw [if_neg h, if_neg h]; exact lexC_take c n l m
theorem esc_cmp : ∀ s t u v : List UInt8, Lib.compareBytes (esc 0 [0, 255] s ++ [0, 1] ++ u) (esc 0 [0, 255] t ++ [0, 1] ++ v) = if Lib.compareBytes s t ≠ 0 then Lib.compareBytes s t else Lib.compareBytes u v
  | [], [], u, v => by simp [esc, cb_cons, Lib.compareInt, Lib.compareBytes]
  | [], y :: t, u, v => by
    have e : Lib.compareBytes [] (y :: t) = -1 := rfl
    rw [e]
    unfold esc
    rw [List.flatMap_nil, List.flatMap_cons]
    by_cases h : y = 0
    · subst h; simp [cb_cons, Lib.compareInt]
    · have h1 : 0 < y.toNat := by rcases Nat.eq_zero_or_pos y.toNat with g | g; exact absurd (UInt8.toNat_inj.1 g) h; exact g
      have h3 : Lib.compareInt 0 (y.toNat : Int) = -1 := by unfold Lib.compareInt; rw [if_pos (by omega)]
      rw [if_neg h]; simp [cb_cons, h3]
  | x :: s, [], u, v => by
    have e : Lib.compareBytes (x :: s) [] = 1 := rfl
    rw [e]
    unfold esc
    rw [List.flatMap_nil, List.flatMap_cons]
    by_cases h : x = 0
    · subst h; simp [cb_cons, Lib.compareInt]
    · have h1 : 0 < x.toNat := by rcases Nat.eq_zero_or_pos x.toNat with g | g; exact absurd (UInt8.toNat_inj.1 g) h; exact g
      have h3 : Lib.compareInt (x.toNat : Int) 0 = 1 := by unfold Lib.compareInt; rw [if_neg (by omega), if_pos (by omega)]
      rw [if_neg h]; simp [cb_cons, h3]
  | x :: s, y :: t, u, v => by
    have ih := esc_cmp s t u v
    rw [cb_cons x y s t]
    unfold esc at ih ⊢
    rw [List.flatMap_cons, List.flatMap_cons]
    by_cases hx : x = 0 <;> by_cases hy : y = 0
    · subst hx; subst hy
      simpa [cb_cons, Lib.compareInt] using ih
    · subst hx
      have h1 : 0 < y.toNat := by rcases Nat.eq_zero_or_pos y.toNat with g | g; exact absurd (UInt8.toNat_inj.1 g) hy; exact g
      have h3 : Lib.compareInt 0 (y.toNat : Int) = -1 := by unfold Lib.compareInt; rw [if_pos (by omega)]
      rw [if_pos rfl, if_neg hy]; simp [cb_cons, h3]
    · subst hy
      have h1 : 0 < x.toNat := by rcases Nat.eq_zero_or_pos x.toNat with g | g; exact absurd (UInt8.toNat_inj.1 g) hx; exact g
      have h3 : Lib.compareInt (x.toNat : Int) 0 = 1 := by unfold Lib.compareInt; rw [if_neg (by omega), if_pos (by omega)]
      rw [if_neg hx, if_pos rfl]; simp [cb_cons, h3]
    · rw [if_neg hx, if_neg hy, List.singleton_append, List.singleton_append, List.cons_append, List.cons_append, List.cons_append, List.cons_append, cb_cons]
      by_cases h : Lib.compareInt x.toNat y.toNat ≠ 0
      · rw [if_pos h, if_pos h, if_pos h]
      · rw [if_neg h, if_neg h]; exact ih
def thn (a b : Int) : Int := if a ≠ 0 then a else b
theorem thn_assoc (a b c : Int) : thn (thn a b) c = thn a (thn b c) := by
  unfold thn
  by_cases h : a ≠ 0
  · rw [if_pos h, if_pos h, if_pos h]
  · rw [if_neg h, if_neg h]
open Go.VB.Oct in
theorem be8_eq (n : Nat) : be8 n = [byteAt n 0, byteAt n 1, byteAt n 2, byteAt n 3, byteAt n 4, byteAt n 5, byteAt n 6, byteAt n 7] := rfl
theorem cmp_step (a b : Nat) : Lib.compareInt a b = if Lib.compareInt (a / 256 : Nat) (b / 256 : Nat) ≠ 0 then Lib.compareInt (a / 256 : Nat) (b / 256 : Nat) else Lib.compareInt (a % 256 : Nat) (b % 256 : Nat) := by
  unfold Lib.compareInt
  repeat' split
  all_goals omega
open Go.VB.Oct in
theorem byteAt_toNat (n j : Nat) : (byteAt n j).toNat = n / 256 ^ (7 - j) % 256 := by simp [byteAt]
open Go.VB.Oct in
theorem be8_cmp (m n : Nat) (hm : m < 18446744073709551616) (hn : n < 18446744073709551616) (s t : List UInt8) : Lib.compareBytes (be8 m ++ s) (be8 n ++ t) = if Lib.compareInt m n ≠ 0 then Lib.compareInt m n else Lib.compareBytes s t := by
  show _ = thn _ _
  rw [be8_eq, be8_eq]
  simp only [List.cons_append, List.nil_append, cb_cons]
  generalize Lib.compareBytes s t = z
  simp only [byteAt_toNat]
  have th : ∀ a b : Int, (if a ≠ 0 then a else b) = thn a b := fun _ _ => rfl
  simp only [th]
  have st : ∀ k, Lib.compareInt (m / 256 ^ k : Nat) (n / 256 ^ k : Nat) = thn (Lib.compareInt (m / 256 ^ (k + 1) : Nat) (n / 256 ^ (k + 1) : Nat)) (Lib.compareInt (m / 256 ^ k % 256 : Nat) (n / 256 ^ k % 256 : Nat)) := fun k => by
    rw [cmp_step (m / 256 ^ k), Nat.div_div_eq_div_mul, Nat.div_div_eq_div_mul, ← Nat.pow_succ]; rfl
  have s8 : Lib.compareInt (m / 256 ^ 8 : Nat) (n / 256 ^ 8 : Nat) = 0 := by rw [Nat.div_eq_of_lt (by omega), Nat.div_eq_of_lt (by omega)]; rfl
  have hs : Lib.compareInt (m : Int) (n : Int) = Lib.compareInt (m / 256 ^ 0 : Nat) (n / 256 ^ 0 : Nat) := by rw [Nat.pow_zero, Nat.div_one, Nat.div_one]
  have z0 : ∀ a, thn 0 a = a := fun _ => rfl
  rw [hs, st 0, st 1, st 2, st 3, st 4, st 5, st 6, st 7, s8, z0]
  simp only [thn_assoc]
end Go.VB.Rec
