import Derived.Test.YtknpncpoojjbfaaDoorVPa
import Derived.Lib.Replace
import Derived.Lib.Bytealg
import Derived.Lib.Small
import Derived.Lib.SplitLaws
import Derived.Lib.ItoaNum
/- Values compared, as keys, as texts: plain. -/
set_option linter.unusedVariables false
namespace Go.VB.Rec
open Go.VB.Oct
def rank (k : Int) : Int := if 0 ≤ k ∧ k ≤ 2 then k else 3
/-- one value against another -/
def V.cmp (a b : V) : Int := if rank a.k ≠ rank b.k then Lib.compareInt (rank a.k) (rank b.k) else if a.k = 1 then Lib.compareInt a.n b.n else if a.k = 2 then Lib.compareBytes a.s b.s else 0
def rowsCmp : List V → List V → Int
  | a :: l, b :: m => if V.cmp a b ≠ 0 then V.cmp a b else rowsCmp l m
  | [], [] => 0
  | [], _ :: _ => -1
  | _ :: _, [] => 1
/-- every c of s turned into new -/
def esc (c : UInt8) (new : List UInt8) (s : List UInt8) : List UInt8 := s.flatMap fun x => if x = c then new else [x]
def V.key (v : V) : List UInt8 := UInt8.ofNat (v.k.toNat + 1) :: (if v.k = 1 then be8 ((word v.n + 9223372036854775808) % 18446744073709551616) else if v.k = 2 then esc 0 [0, 255] v.s ++ [0, 1] else [])
def rowKey (r : List V) : List UInt8 := if row r then r.flatMap V.key else []
def V.text (v : V) : List UInt8 := if v.k = 0 then [110, 117, 108, 108] else if v.k = 1 then Lib.itoa v.n else if v.k = 2 then 39 :: esc 39 [39, 39] v.s ++ [39] else []
/-- the six operators on the sign of a comparison -/
def opHolds (op c : Int) : Bool := if op = 1 then c == 0 else if op = 2 then c != 0 else if op = 3 then decide (c < 0) else if op = 4 then decide (c ≤ 0) else if op = 5 then decide (0 < c) else if op = 6 then decide (0 ≤ c) else false
def V.fits (a : V) (op : Int) (b : V) : Bool := if a.k = 0 ∨ b.k = 0 ∨ rank a.k = 3 ∨ rank b.k = 3 then false else if a.k ≠ b.k then decide (op = 2) else opHolds op (V.cmp a b)
theorem repl_nil (old new : List UInt8) (h : old ≠ []) : ∀ k, Lib.replaceK old new k [] = []
  | 0 => rfl
  | k + 1 => by
    unfold Lib.replaceK
    have : Lib.index [] old = -1 := by unfold Lib.index; cases old with | nil => exact absurd rfl h | cons a l => rfl
    rw [this]; rfl
theorem repl_skip (c : UInt8) (new : List UInt8) (b : UInt8) (l : List UInt8) (h : b ≠ c) (k : Nat) : Lib.replaceK [c] new k (b :: l) = b :: Lib.replaceK [c] new k l := by
  cases k with
  | zero => rfl
  | succ k =>
    have hp : ([c].isPrefixOf (b :: l)) = false := by simp [List.isPrefixOf, Ne.symm h]
    by_cases hi : Lib.index l [c] = -1
    · have h2 : Lib.index (b :: l) [c] = -1 := by unfold Lib.index; rw [hp, hi]; rfl
      unfold Lib.replaceK
      rw [h2, hi]; rfl
    · have hge := Lib.index_ge l [c]
      obtain ⟨i, hi2⟩ : ∃ i : Nat, Lib.index l [c] = i := ⟨(Lib.index l [c]).toNat, by omega⟩
      have h2 : Lib.index (b :: l) [c] = ((i + 1 : Nat) : Int) := by
        unfold Lib.index
        rw [hp, hi2]
        simp
      rw [Lib.replaceK_hit _ _ _ _ _ h2, Lib.replaceK_hit _ _ _ _ _ hi2]
      simp
theorem repl_hit (c : UInt8) (new : List UInt8) (l : List UInt8) (k : Nat) : Lib.replaceK [c] new (k + 1) (c :: l) = new ++ Lib.replaceK [c] new k l := by
  have h2 : Lib.index (c :: l) [c] = ((0 : Nat) : Int) := by unfold Lib.index; simp [List.isPrefixOf]
  rw [Lib.replaceK_hit _ _ _ _ _ h2]
  simp
theorem repl_esc (c : UInt8) (new : List UInt8) : ∀ s : List UInt8, Lib.replaceK [c] new (s.count c) s = esc c new s
  | [] => repl_nil _ _ (by simp) _
  | b :: l => by
    by_cases h : b = c
    · subst h
      rw [List.count_cons_self, repl_hit, repl_esc b new l]
      simp [esc]
    · rw [List.count_cons_of_ne h, repl_skip c new b l h, repl_esc c new l]
      simp [esc, h]
theorem replaceAll_esc (c : UInt8) (new : List UInt8) (hn : [c] ≠ new) (s : List UInt8) : Lib.replaceAll s [c] new = esc c new s := by
  unfold Lib.replaceAll Lib.replace
  have h1 : ([c] == new) = false := by simpa using hn
  have h2 : Lib.replaceNum s [c] (-1) = s.count c := by unfold Lib.replaceNum; rw [if_pos (.inl (by decide)), Lib.count_one]
  rw [h1, h2]
  exact repl_esc c new s
theorem esc_len (c : UInt8) (new : List UInt8) (hn : new.length ≤ 2) : ∀ s, (esc c new s).length ≤ 2 * s.length
  | [] => by simp [esc]
  | b :: l => by
    have := esc_len c new hn l
    unfold esc at this ⊢
    rw [List.flatMap_cons, List.length_append, List.length_cons]
    split <;> (first | omega | (simp only [List.length_singleton]; omega))
theorem esc_append (c : UInt8) (new s t : List UInt8) : esc c new (s ++ t) = esc c new s ++ esc c new t := by simp [esc]
end Go.VB.Rec
