import Derived.Test.YtfalehgngioheaaDiskTornM
import Derived.Test.YtfalehgngioheaaDiskLogM
/- A disk of three pages, the middle one with pending writes. -/
set_option linter.unusedVariables false
namespace Go.Proofs.Ytfalehgngioheaa
open Go.RowKit Go.VB Go.VB.Disk
namespace HalfM
def M (safe : Bytes) (ws : List Bytes) (l : Int) : DM := { pages := [⟨Disk.blank, []⟩, ⟨safe, ws⟩, ⟨Disk.blank, []⟩], log := [], flushed := 0, off := false, armed := false, left := l }
theorem new : DM.new 3 = M Disk.blank [] 0 := rfl
theorem write {safe : Bytes} {ws : List Bytes} {l : Int} {s : Bytes} (hs : s.length = 512) : (M safe ws l).write 1 s = (M safe (ws ++ [s]) (wrap64 (l - 1)), 0) := by
  unfold DM.write DM.operate M DM.is
  simp [hs, Pg.write]
theorem write_wrong {safe : Bytes} {ws : List Bytes} {l : Int} {s : Bytes} (hs : s.length ≠ 512) : (M safe ws l).write 1 s = (M safe ws l, 1) := by
  unfold DM.write DM.operate M DM.is
  simp [hs]
theorem sync {safe : Bytes} {ws : List Bytes} {l : Int} {s : Bytes} : (M safe (ws ++ [s]) l).sync = (M s [] (wrap64 (l - 1)), 0) := by
  unfold DM.sync DM.operate M
  simp [Pg.sync, Pg.cur]
theorem ok {safe : Bytes} {ws : List Bytes} {l : Int} (h : ∀ s ∈ safe :: ws, s.length = 512) {k : Nat} (hk : ws.length ≤ k) : (M safe ws l).Ok k := by
  have hp : ∀ p ∈ (M safe ws l).pages, p = ⟨Disk.blank, []⟩ ∨ p = ⟨safe, ws⟩ := by
    intro p hp
    simp only [M, List.mem_cons, List.not_mem_nil, or_false] at hp
    rcases hp with rfl | rfl | rfl
    · exact .inl rfl
    · exact .inr rfl
    · exact .inl rfl
  refine ⟨by simp [M], ?_, ?_, ?_, by simp [M], by simp [M]⟩
  · intro p hpp
    rcases hp p hpp with rfl | rfl
    · exact Torn.blank_len
    · exact h safe (by simp)
  · intro p hpp s hs
    rcases hp p hpp with rfl | rfl
    · cases hs
    · exact h s (by simp [hs])
  · intro p hpp
    rcases hp p hpp with rfl | rfl
    · exact Nat.zero_le _
    · exact hk
theorem crash {safe : Bytes} {ws : List Bytes} {l : Int} (h : ∀ s ∈ safe :: ws, s.length = 512) (q : List Int) : ∃ i j : Nat, i < ws.length + 1 ∧ j < ws.length + 1 ∧ ∃ Z : Bytes, Z = ((safe :: ws).getD i []).take 256 ++ ((safe :: ws).getD j []).drop 256 ∧
    ((M safe ws l).crash q).read 1 = (Z, 0) ∧ ((M safe ws l).crash q).safeOf 1 = (Z, 0) := by
  cases hws : ws with
  | nil =>
    subst hws
    refine ⟨0, 0, by simp, by simp, safe, by simp, ?_, ?_⟩
    · simp [DM.crash, crashPages, M, DM.read, DM.is, Pg.cur]
    · simp [DM.crash, crashPages, M, DM.safeOf, DM.is]
  | cons s S =>
    rw [← hws]
    refine ⟨takeQ q (ws.length + 1), takeQ q.tail (ws.length + 1), LogM.takeQ_lt _ _ (by omega), LogM.takeQ_lt _ _ (by omega), _, rfl, ?_, ?_⟩
    · subst hws
      simp [DM.crash, crashPages, M, DM.read, DM.is, Pg.cur, Pg.crash]
    · subst hws
      simp [DM.crash, crashPages, M, DM.safeOf, DM.is, Pg.crash]
end HalfM
end Go.Proofs.Ytfalehgngioheaa
