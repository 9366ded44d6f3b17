import Derived.Test.YtfhkmiifndhacaaRdN
/- The record of RecordMay (plain Lean). -/
set_option linter.unusedVariables false
namespace Go.VB.Rec
open Go.VB.Oct
def mayR : Nat → Nat → R
  | 0, n => ⟨1, 0, 0, [], [], List.replicate n ⟨0, 0, []⟩, [], []⟩
  | 1, n => ⟨1, 0, 0, [], [], [], (List.range n).map (fun i : Nat => 3 + (i : Int)), []⟩
  | 2, n => ⟨1, 0, 0, [], [], [⟨399, 23, List.replicate n 0⟩], [], []⟩
  | 3, n => ⟨1, 0, 0, [], [], [], [], List.replicate n 0⟩
  | 4, n => ⟨1, 0, 0, [], [], [⟨n, -1, [2]⟩], [], []⟩
  | _, n => ⟨1, 0, 0, [], [], [⟨0, n, []⟩], [], []⟩
def mayL : Nat → Nat
  | 0 => 64
  | 1 => 32
  | 2 => 400
  | 3 => 60000
  | 4 => 399
  | _ => 23
theorem may_right (k n : Nat) (hn : k = 1 → n ≤ 60) : (mayR k n).right = decide (n ≤ mayL k) := by
  match k with
  | 0 =>
    simp only [mayR, mayL, R.right, List.length_replicate, List.all_replicate]
    have : E.right ⟨0, 0, []⟩ = true := by decide
    rw [this]
    simp [row]
  | 1 =>
    have h1 : ((List.range n).map fun i : Nat => 3 + (i : Int)).all (fun x => decide (3 ≤ x) && decide (x ≤ 127)) = true := by
      have := hn rfl
      rw [List.all_eq_true]
      intro x hx
      obtain ⟨i, hi, rfl⟩ := List.mem_map.1 hx
      have := List.mem_range.1 hi
      simp
      omega
    simp only [mayR, mayL, R.right, h1, List.length_map, List.length_range]
    simp [row]
  | 2 => simp [mayR, mayL, R.right, row, E.right]
  | 3 => simp [mayR, mayL, R.right, row]
  | 4 =>
    have : (decide (0 ≤ (n : Int)) : Bool) = true := decide_eq_true (by omega)
    have h2 : decide ((n : Int) ≤ 399) = decide (n ≤ 399) := decide_eq_decide.2 (by omega)
    simp [mayR, mayL, R.right, row, E.right, this, h2]
  | m + 5 =>
    have h3 : ¬ ((n : Int) = -1) := by omega
    have h2 : decide ((n : Int) ≤ 23) = decide (n ≤ 23) := decide_eq_decide.2 (by omega)
    simp [mayR, mayL, R.right, row, E.right, h2, h3]
theorem may_rows (k n : Nat) : (mayR k n).old = [] ∧ (mayR k n).new = [] := by
  match k with
  | 0 => exact ⟨rfl, rfl⟩
  | 1 => exact ⟨rfl, rfl⟩
  | 2 => exact ⟨rfl, rfl⟩
  | 3 => exact ⟨rfl, rfl⟩
  | 4 => exact ⟨rfl, rfl⟩
  | _ + 5 => exact ⟨rfl, rfl⟩
theorem read_back {r : R} (h : r.right = true) (ho : r.old = []) (hn : r.new = []) : readR r.bytes = (r, 0) := by
  unfold R.bytes
  rw [if_pos h, readR_raw h (by rw [ho]; simp) (by rw [hn]; simp)]
  obtain ⟨a, b, c, o, n, e, x, t⟩ := r
  dsimp only at ho hn
  subst ho hn
  rfl
end Go.VB.Rec
