import Derived.Test.YtfhkmiifndhacaaDoorBase
/- Bytes of numbers, a checksum, a reader (plain Lean). -/
set_option linter.unusedVariables false
namespace Go.VB.Oct
/-- byte j (of 8, the first the greatest) of n -/
def byteAt (n j : Nat) : UInt8 := UInt8.ofNat (n / 256 ^ (7 - j))
def be8 (n : Nat) : List UInt8 := (List.range 8).map (byteAt n)
/-- the last k bytes of n, the greatest first -/
def be (k n : Nat) : List UInt8 := (be8 n).drop (8 - k)
theorem be8_length (n : Nat) : (be8 n).length = 8 := by simp [be8]
theorem be_length (k n : Nat) (hk : k ≤ 8) : (be k n).length = k := by simp [be, be8_length]; omega
theorem be8_at (n j : Nat) (hj : j < 8) : (be8 n)[j]? = some (byteAt n j) := by simp [be8, hj]
/-- the number that bytes stand for -/
def num (l : List UInt8) : Nat := l.foldl (fun n c => n * 256 + c.toNat) 0
theorem num_snoc (l : List UInt8) (c : UInt8) : num (l ++ [c]) = num l * 256 + c.toNat := by simp [num]
theorem num_lt : ∀ (l : List UInt8), num l < 256 ^ l.length := by
  intro l
  rw [← List.reverse_reverse l]
  induction l.reverse with
  | nil => simp [num]
  | cons c l ih =>
    rw [List.reverse_cons, num_snoc, List.length_append, List.length_singleton, Nat.pow_succ]
    have := c.toNat_lt
    omega
/-- the checksum's two sums -/
def sums (l : List UInt8) : Nat × Nat := l.foldl (fun p c => let a := (p.1 + c.toNat) % 65521; (a, (p.2 + a) % 65521)) (1, 0)
def sum (l : List UInt8) : Nat := (sums l).2 * 65536 + (sums l).1
theorem sums_snoc (l : List UInt8) (c : UInt8) : sums (l ++ [c]) = (((sums l).1 + c.toNat) % 65521, ((sums l).2 + ((sums l).1 + c.toNat) % 65521) % 65521) := by simp [sums]
theorem sums_lt (l : List UInt8) : (sums l).1 < 65521 ∧ (sums l).2 < 65521 := by
  rw [← List.reverse_reverse l]
  cases l.reverse with
  | nil => simp [sums]
  | cons c l => rw [List.reverse_cons, sums_snoc]; exact ⟨Nat.mod_lt _ (by omega), Nat.mod_lt _ (by omega)⟩
theorem sum_lt (l : List UInt8) : sum l < 4294967296 := by have := sums_lt l; unfold sum; omega
/-- a string with its length in two bytes -/
def text (s : List UInt8) : List UInt8 := be 2 s.length ++ s
end Go.VB.Oct
