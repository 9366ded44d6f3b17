import Derived.Test.YtfhkmiifndhacaaScN
/- A log cut anywhere (plain Lean). -/
set_option linter.unusedVariables false
namespace Go.VB.Rec
open Go.VB.Oct Go.Proofs.Ytfhkmiifndhacaa
/-- where the first j frames end -/
def upto (l : List R) (j : Nat) : Nat := (frames (l.take j)).length
theorem frames_app (l m : List R) : frames (l ++ m) = frames l ++ frames m := by simp [frames]
theorem upto_succ {l : List R} {j : Nat} (h : j < l.length) : upto l (j + 1) = upto l j + (frame l[j]).length := by
  unfold upto
  rw [List.take_succ_eq_append_getElem h, frames_app, List.length_append]
  simp [frames]
theorem ends_at : ∀ (l : List R) (a j : Nat), j < l.length → (ends a l)[j]? = some (((a + upto l (j + 1) : Nat)) : Int)
  | r :: l, a, 0, _ => by simp [ends, upto, frames]
  | r :: l, a, j + 1, h => by
    have := ends_at l (a + (frame r).length) j (by simpa using h)
    simp only [ends, List.getElem?_cons_succ]
    rw [this]
    congr 2
    simp [upto, frames]
    omega
theorem upto_mono {l : List R} {i j : Nat} (h : i ≤ j) : upto l i ≤ upto l j := by
  unfold upto
  have : l.take j = l.take i ++ (l.take j).drop i := by
    conv => lhs; rw [← List.take_append_drop i (l.take j)]
    rw [List.take_take, Nat.min_eq_left h]
  rw [this, frames_app, List.length_append]
  omega
theorem scan1_end (p : List UInt8) : scan1 p p.length = none := by
  have h0 := has_at p []
  rw [List.append_nil] at h0
  unfold scan1
  dsimp only
  rw [if_pos]
  rw [Bool.or_eq_true]
  left
  have hn : (RM.mk p p.length false).num 4 = ({ (RM.mk p p.length false) with failed := true }, 0) := by
    unfold RM.num
    rw [h0.bad (by simp)]
    rfl
  rw [hn]
  dsimp only
  rw [RM.num_failed rfl]
  dsimp only
  rw [RM.take_failed rfl]
theorem scan_log {l : List R} (h : ∀ r ∈ l, GoodR r) : scan (frames l) = (l, ends 0 l) := by
  have := scan_frames h [] (by rw [List.append_nil]; exact scan1_end _)
  rwa [List.append_nil] at this
/-- how many frames lie whole in the first n bytes -/
theorem cut_log {l : List R} (h : ∀ r ∈ l, GoodR r) {n : Nat} (hn : n ≤ (frames l).length) : ∃ k, k ≤ l.length ∧ scan ((frames l).take n) = (l.take k, ends 0 (l.take k)) ∧ (∀ j, j < k → upto l (j + 1) ≤ n) ∧ (k < l.length → n < upto l (k + 1)) := by
  obtain ⟨k, hk, hk1, hk2⟩ : ∃ k, k ≤ l.length ∧ upto l k ≤ n ∧ (k < l.length → n < upto l (k + 1)) := by
    by_cases hex : ∃ k, k < l.length ∧ n < upto l (k + 1)
    · have hfind : ∀ m, (∃ k, k < m ∧ k < l.length ∧ n < upto l (k + 1)) → ∃ k, k < l.length ∧ n < upto l (k + 1) ∧ upto l k ≤ n := by
        intro m
        induction m with
        | zero => rintro ⟨k, hk, -⟩; omega
        | succ m ih =>
          rintro ⟨k, hk, hkl, hkn⟩
          by_cases hkm : upto l k ≤ n
          · exact ⟨k, hkl, hkn, hkm⟩
          · cases k with
            | zero => simp [upto, frames] at hkm
            | succ k => exact ih ⟨k, by omega, by omega, by omega⟩
      obtain ⟨k, hkl, hkn⟩ := hex
      obtain ⟨k, h1, h2, h3⟩ := hfind (k + 1) ⟨k, by omega, hkl, hkn⟩
      exact ⟨k, by omega, h3, fun _ => h2⟩
    · refine ⟨l.length, by omega, ?_, fun h => by omega⟩
      by_cases h0 : l.length = 0
      · have : l = [] := List.eq_nil_of_length_eq_zero h0
        subst this
        simp [upto, frames]
      · have hnn : ¬ n < upto l l.length := fun hh => hex ⟨l.length - 1, by omega, by rw [show l.length - 1 + 1 = l.length by omega]; exact hh⟩
        omega
  refine ⟨k, hk, ?_, fun j hj => Nat.le_trans (upto_mono hj) hk1, hk2⟩
  have hg : ∀ r ∈ l.take k, GoodR r := fun r hr => h r (List.mem_of_mem_take hr)
  rcases Nat.lt_or_ge k l.length with hkl | hkl
  · have hn2 := hk2 hkl
    have e1 : frames l = frames (l.take k) ++ (frame l[k] ++ frames (l.drop (k + 1))) := by
      have h1 := frames_app (l.take k) (l.drop k)
      rw [List.take_append_drop] at h1
      have h2 : frames (l.drop k) = frame l[k] ++ frames (l.drop (k + 1)) := by
        have h3 := frames_app [l[k]] (l.drop (k + 1))
        have h4 : l.drop k = [l[k]] ++ l.drop (k + 1) := List.drop_eq_getElem_cons hkl
        rw [h4, h3]
        simp [frames]
      rw [h1, h2]
    have hu := upto_succ hkl
    have e2 : (frames l).take n = frames (l.take k) ++ (frame l[k]).take (n - upto l k) := by
      rw [e1, List.take_append, List.take_of_length_le (show (frames (l.take k)).length ≤ n from hk1)]
      congr 1
      rw [List.take_append_of_le_length (by unfold upto at *; omega)]
      rfl
    rw [e2]
    exact scan_frames hg _ (scan1_short (h _ (List.getElem_mem hkl)) _ _ (by omega))
  · have e0 : l.take k = l := List.take_of_length_le hkl
    have : upto l k = (frames l).length := by unfold upto; rw [e0]
    rw [e0, List.take_of_length_le (by omega)]
    exact scan_log h
end Go.VB.Rec
