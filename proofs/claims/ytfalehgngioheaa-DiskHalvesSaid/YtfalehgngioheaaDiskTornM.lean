import Derived.Test.YtfalehgngioheaaDiskY
import Derived.Test.YtfalehgngioheaaOwn
/- A disk of two pages, the first with pending writes: what its operations make of it. -/
set_option linter.unusedVariables false
namespace Go.Proofs.Ytfalehgngioheaa
open Go.RowKit Go.VB Go.VB.Disk
namespace Torn
theorem blank_len : Disk.blank.length = 512 := by unfold Disk.blank; rw [List.length_replicate]
def M (S : List Bytes) (l : Int) : DM := { pages := [⟨Disk.blank, S⟩, ⟨Disk.blank, []⟩], log := [], flushed := 0, off := false, armed := false, left := l }
theorem new : DM.new 2 = M [] 0 := rfl
theorem write {S : List Bytes} {l : Int} {s : Bytes} (hs : s.length = 512) : (M S l).write 0 s = (M (S ++ [s]) (wrap64 (l - 1)), 0) := by
  unfold DM.write DM.operate M DM.is
  simp [hs, Pg.write]
theorem ok {S : List Bytes} {l : Int} (h : ∀ s ∈ S, s.length = 512) {k : Nat} (hk : S.length ≤ k) : (M S l).Ok k := by
  refine ⟨by simp [M], ?_, ?_, ?_, by simp [M], by simp [M]⟩
  · intro p hp
    simp only [M, List.mem_cons, List.not_mem_nil, or_false] at hp
    rcases hp with rfl | rfl <;> exact blank_len
  · intro p hp s hs
    simp only [M, List.mem_cons, List.not_mem_nil, or_false] at hp
    rcases hp with rfl | rfl
    · exact h s hs
    · cases hs
  · intro p hp
    simp only [M, List.mem_cons, List.not_mem_nil, or_false] at hp
    rcases hp with rfl | rfl
    · exact hk
    · exact Nat.zero_le _
def Z (S : List Bytes) (x y : Nat) : Bytes := ((Disk.blank :: S).getD x []).take 256 ++ ((Disk.blank :: S).getD y []).drop 256
theorem crash {S : List Bytes} {l : Int} {x y : Nat} (hx : x < S.length + 1) (hy : y < S.length + 1) : ((M S l).crash [x, y, 0]).read 0 = (Z S x y, 0) ∧ ((M S l).crash [x, y, 0]).read 1 = (Disk.blank, 0) := by
  have m1 : ((x : Int) % ((S.length + 1 : Nat) : Int)).toNat = x := by rw [Int.emod_eq_of_lt (by omega) (by omega)]; simp
  have m2 : ((y : Int) % ((S.length + 1 : Nat) : Int)).toNat = y := by rw [Int.emod_eq_of_lt (by omega) (by omega)]; simp
  have hb := blank_len
  cases S with
  | nil =>
    obtain rfl : x = 0 := by simpa using hx
    obtain rfl : y = 0 := by simpa using hy
    simp [DM.crash, crashPages, M, DM.read, DM.is, Pg.cur, Z]
  | cons s S =>
    unfold Z
    simp [DM.crash, crashPages, M, DM.read, DM.is, Pg.cur, Pg.crash, takeQ]
    simp only [List.length_cons] at m1 m2
    rw [show (S.length : Int) + 1 + 1 = ((S.length + 1 + 1 : Nat) : Int) by omega, m1, m2]
end Torn
