import Derived.Test.YtfhkmiifndhacaaDoorRecM
import Derived.RowKit
import Derived.IntWalk
/- Reading a row (plain Lean). -/
set_option linter.unusedVariables false
namespace Go.VB.Rec
open Go.VB.Oct
/-- eight bytes as an int64 -/
def int8 (s : List UInt8) : Int := IntKind.i64.wrap (num s)
def readOne : List UInt8 → Except Int (V × List UInt8)
  | [] => .error 10
  | k :: s =>
    if k = 0 then .ok (⟨0, 0, []⟩, s)
    else if k = 1 then (if s.length < 8 then .error 10 else .ok (⟨1, int8 (s.take 8), []⟩, s.drop 8))
    else if k = 2 then
      match s with
      | [] => .error 10
      | m :: s => if 40 < m.toNat then .error 2 else if s.length < m.toNat then .error 10 else .ok (⟨2, 0, s.take m.toNat⟩, s.drop m.toNat)
    else .error 11
def readN : Nat → List UInt8 → Except Int (List V × List UInt8)
  | 0, s => .ok ([], s)
  | n + 1, s =>
    match readOne s with
    | .error e => .error e
    | .ok (v, t) =>
      match readN n t with
      | .error e => .error e
      | .ok (l, u) => .ok (v :: l, u)
def readV : List UInt8 → List V × Int
  | [] => ([], 10)
  | n :: s =>
    if 6 < n.toNat then ([], 2) else
      match readN n.toNat s with
      | .error e => ([], e)
      | .ok (l, []) => (l, 0)
      | .ok (_, _ :: _) => ([], 11)
/-- the reading so far and what is still to be read -/
def more (acc : List V) : Except Int (List V × List UInt8) → Except Int (List V × List UInt8)
  | .error e => .error e
  | .ok (l, u) => .ok (acc ++ l, u)
theorem more_nil (x : Except Int (List V × List UInt8)) : more [] x = x := by
  cases x with
  | error e => rfl
  | ok p => rfl
theorem more_err {acc : List V} {n : Nat} {s : List UInt8} {e : Int} (h : readOne s = .error e) : more acc (readN (n + 1) s) = .error e := by simp [readN, h, more]
theorem more_step {acc : List V} {n : Nat} {s t : List UInt8} {v : V} (h : readOne s = .ok (v, t)) : more acc (readN (n + 1) s) = more (acc ++ [v]) (readN n t) := by
  simp only [readN, h]
  cases readN n t with
  | error e => rfl
  | ok p => simp [more]
theorem readOne_le {s t : List UInt8} {v : V} (h : readOne s = .ok (v, t)) : t.length ≤ s.length := by
  unfold readOne at h
  cases s with
  | nil => cases h
  | cons k s =>
    dsimp only at h
    split at h
    · cases h; simp
    · split at h
      · split at h
        · cases h
        · cases h; simp; omega
      · split at h
        · cases s with
          | nil => cases h
          | cons m s =>
            dsimp only at h
            split at h
            · cases h
            · split at h
              · cases h
              · cases h; simp; omega
        · cases h
end Go.VB.Rec
