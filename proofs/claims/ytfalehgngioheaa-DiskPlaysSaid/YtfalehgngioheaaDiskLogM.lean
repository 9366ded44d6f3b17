import Derived.Test.YtfalehgngioheaaDiskY
import Derived.Test.YtfalehgngioheaaOwn
/- A disk of one page without writes, and its log. -/
set_option linter.unusedVariables false
namespace Go.Proofs.Ytfalehgngioheaa
open Go.RowKit Go.VB Go.VB.Disk
namespace LogM
def M (log : Bytes) (fl : Nat) (l : Int) : DM := { pages := [⟨Disk.blank, []⟩], log := log, flushed := fl, off := false, armed := false, left := l }
theorem new : DM.new 1 = M [] 0 0 := rfl
theorem append {log s : Bytes} {fl : Nat} {l : Int} (h : log.length + s.length ≤ 1048576) : (M log fl l).append s = (M (log ++ s) fl (wrap64 (l - 1)), 0) := by
  unfold DM.append DM.operate M
  rw [if_neg (by simp), if_neg (by simp; omega)]
  simp
theorem flush {log : Bytes} {fl : Nat} {l : Int} : (M log fl l).flush = (M log log.length (wrap64 (l - 1)), 0) := by
  unfold DM.flush DM.operate M
  simp
theorem cut {log : Bytes} {fl : Nat} {l : Int} {n : Nat} (h : n ≤ log.length) : (M log fl l).cut n = (M (log.take n) (min fl n) (wrap64 (l - 1)), 0) := by
  unfold DM.cut DM.operate M
  rw [if_neg (by simp), if_neg (by dsimp only; omega)]
  simp
theorem cut_wrong {log : Bytes} {fl : Nat} {l : Int} {n : Int} (h : n < 0 ∨ (log.length : Int) < n) : (M log fl l).cut n = (M log fl l, 1) := by
  unfold DM.cut DM.operate M
  rw [if_neg (by simp), if_pos h]
  simp
theorem ok {log : Bytes} {fl : Nat} {l : Int} (h : log.length ≤ 1048576) (hf : fl ≤ log.length) : (M log fl l).Ok 0 := by
  refine ⟨by simp [M], ?_, ?_, ?_, h, hf⟩
  · intro p hp
    simp only [M, List.mem_cons, List.not_mem_nil, or_false] at hp
    subst hp
    show Disk.blank.length = 512
    unfold Disk.blank; rw [List.length_replicate]
  · intro p hp s hs
    simp only [M, List.mem_cons, List.not_mem_nil, or_false] at hp
    subst hp
    cases hs
  · intro p hp
    simp only [M, List.mem_cons, List.not_mem_nil, or_false] at hp
    subst hp
    exact Nat.le_refl _
theorem takeQ_lt (q : List Int) (n : Nat) (hn : 0 < n) : takeQ q n < n := by
  cases q with
  | nil => exact hn
  | cons x q =>
    show (x % (n : Int)).toNat < n
    have h1 := Int.emod_nonneg x (show (n : Int) ≠ 0 by omega)
    have h2 := Int.emod_lt_of_pos x (show 0 < (n : Int) by omega)
    omega
theorem crash {log : Bytes} {fl : Nat} {l : Int} (q : List Int) (hf : fl ≤ log.length) : ∃ f, (M log fl l).crash q = M (log.take f) f l ∧ fl ≤ f ∧ f ≤ log.length := by
  have := takeQ_lt q (log.length - fl + 1) (by omega)
  refine ⟨fl + takeQ q (log.length - fl + 1), ?_, by omega, by omega⟩
  simp [DM.crash, crashPages, M]
theorem crash_nil {log : Bytes} {fl : Nat} {l : Int} : (M log fl l).crash [] = M (log.take fl) fl l := by
  simp [DM.crash, crashPages, M, takeQ]
end LogM
theorem QRep_nil {R : Nat → Prop} {w : World} : QRep R w (.slice none 0 0) [] := ⟨none, 0, rfl, Nat.le_refl _, fun h => absurd rfl h⟩
theorem cut_str (t : Bytes) (c : Nat) : ∃ q : Nat, (∀ z : Int, z = c → (if z < (t.length : Int) then z else (t.length : Int)) = (q : Int)) ∧ (bs t).extract 0 q = bs (t.take c) ∧ (q : Int) ≤ t.length := by
  refine ⟨min c t.length, fun z hz => by subst hz; split <;> omega, ?_, by omega⟩
  apply ByteArray.ext
  simp [bs]
end Go.Proofs.Ytfalehgngioheaa
