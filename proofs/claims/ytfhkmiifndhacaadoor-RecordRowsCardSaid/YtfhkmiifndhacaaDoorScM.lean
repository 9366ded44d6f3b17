import Derived.Test.YtfhkmiifndhacaaDoorRdM
/- record.Scan as a plain function of bytes. -/
set_option linter.unusedVariables false
namespace Go.VB.Rec
open Go.VB.Oct
/-- the record at place a and the place behind it -/
def scan1 (s : List UInt8) (a : Nat) : Option (R × Nat) :=
  let n := (RM.mk s a false).num 4
  let c := n.1.num 4
  let t := c.1.take n.2
  if t.1.failed || decide (sum t.2 ≠ c.2) then none else if (readR t.2).2 ≠ 0 then none else some ((readR t.2).1, t.1.at_)
def scanF : Nat → List UInt8 → Nat → List R × List Int
  | 0, _, _ => ([], [])
  | f + 1, s, a => match scan1 s a with
    | none => ([], [])
    | some (r, b) => (r :: (scanF f s b).1, (b : Int) :: (scanF f s b).2)
def scan (s : List UInt8) : List R × List Int := scanF (s.length + 1) s 0
theorem take_at (r : RM) (n : Nat) (h : (r.take n).1.failed = false) : r.failed = false ∧ (r.take n).1.at_ = r.at_ + n ∧ n ≤ r.left := by
  unfold RM.take at h ⊢
  split at h
  · cases h
  · rename_i hb
    rw [if_neg hb]
    unfold RM.bad at hb
    simp only [Bool.or_eq_true, decide_eq_true_eq, not_or, Bool.not_eq_true] at hb
    exact ⟨hb.1, rfl, by omega⟩
theorem scan1_le {s : List UInt8} {a : Nat} {r : R} {b : Nat} (h : scan1 s a = some (r, b)) : a + 8 ≤ b ∧ b ≤ s.length := by
  unfold scan1 at h
  dsimp only at h
  split at h
  · cases h
  · rename_i hb
    split at h
    · cases h
    · simp only [Bool.or_eq_true, not_or, Bool.not_eq_true] at hb
      obtain ⟨h1, h2, h3⟩ := take_at _ _ hb.1
      obtain ⟨g1, g2, g3⟩ := take_at ((RM.mk s a false).num 4).1 4 h1
      obtain ⟨k1, k2, k3⟩ := take_at (RM.mk s a false) 4 g1
      have hs : ((RM.mk s a false).num 4).1.s = s := RM.take_s _ _
      have hs2 : (((RM.mk s a false).num 4).1.num 4).1.s = s := by rw [show (((RM.mk s a false).num 4).1.num 4).1 = (((RM.mk s a false).num 4).1.take 4).1 from rfl, RM.take_s, hs]
      cases h
      have e1 : (RM.mk s a false).left = s.length - a := rfl
      have k2' : ((RM.mk s a false).num 4).1.at_ = a + 4 := k2
      have g2' : (((RM.mk s a false).num 4).1.num 4).1.at_ = ((RM.mk s a false).num 4).1.at_ + 4 := g2
      have e2 : ((RM.mk s a false).num 4).1.left = s.length - ((RM.mk s a false).num 4).1.at_ := by unfold RM.left; rw [hs]
      have e3 : (((RM.mk s a false).num 4).1.num 4).1.left = s.length - (((RM.mk s a false).num 4).1.num 4).1.at_ := by unfold RM.left; rw [hs2]
      omega
/-- more fuel than needed changes nothing -/
theorem scanF_fuel : ∀ (f g : Nat) (s : List UInt8) (a : Nat), s.length - a < f → s.length - a < g → scanF f s a = scanF g s a
  | 0, _, _, _, h, _ => by omega
  | _ + 1, 0, _, _, _, h => by omega
  | f + 1, g + 1, s, a, h1, h2 => by
    unfold scanF
    cases hs : scan1 s a with
    | none => rfl
    | some p =>
      obtain ⟨r, b⟩ := p
      have := scan1_le hs
      dsimp only
      rw [scanF_fuel f g s b (by omega) (by omega)]
theorem scanF_none {f : Nat} {s : List UInt8} {a : Nat} (h : scan1 s a = none) : scanF (f + 1) s a = ([], []) := by unfold scanF; rw [h]
theorem scanF_some {f : Nat} {s : List UInt8} {a : Nat} {r : R} {b : Nat} (h : scan1 s a = some (r, b)) : scanF (f + 1) s a = (r :: (scanF f s b).1, (b : Int) :: (scanF f s b).2) := by conv => lhs; unfold scanF; rw [h]
end Go.VB.Rec
