import Derived.Test.YtfalehgngioheaaDiskE
import Derived.Test.YtfalehgngioheaaDiskD
import Derived.Test.YtfalehgngioheaaOps
set_option linter.unusedVariables false
namespace Go.Proofs.Ytfalehgngioheaa
open Go.RowKit Go.VB Go.VB.Disk
theorem Flush1_go (w : World) (bd d : Nat) (a : Option Addr) (len cap : Nat) (x : Value) (h1 : w.cell? ⟨bd, 0, none⟩ = some (.pointer (some ⟨d, 0, none⟩)))
   (c1 : w.cell? ⟨d, 1, none⟩ = some (.slice a len cap)) (c2 : w.cell? ⟨d, 2, none⟩ = some x) (hz : ∀ o, w.frozen? ⟨d, o, none⟩ = false)
   (hdb : d ≠ bd) : Calls Try.prog 47 #[.pointer (some ⟨bd, 0, none⟩)] w fun e w' => e = .returned (.tuple #[]) ∧ ∃ n, w' = (w.setCell ⟨d, 2, none⟩ (.int .i64 len)).drewN n := by
  go_enter Try.func47, Try.ntmps47
  go_wp2
  refine wp_region_plan [true, true, true, true, true, true, false, false, false] (fun kz w => (kz ≤ 6 → w.cell? ⟨d, 1, none⟩ = some (.slice a len cap)) ∧ w.cell? ⟨bd, 0, none⟩ = some (.pointer (some ⟨d, 0, none⟩))) (by kernel_rfl) (by kernel_rfl) (by intro c a d v w h; cases d <;> exact h) (fun kz => ⟨fun _ => c1, h1⟩) ?_
  repeat
    first
    | (refine wpTake_yes 6 rfl (by decide +kernel) ?_; apply Exists.intro; refine ⟨?_, ?_⟩; intro w hw; (try (have qa := (hw rfl).1 (Nat.le_refl _); have qb := (hw rfl).2)); ((go_simp <;> rfl)); simp only [Act.put, List.setIfInBounds_toArray, List.set_cons_zero, List.set_cons_succ])
    | (refine wpTake_yes 9 rfl (by decide +kernel) ?_; apply Exists.intro; refine ⟨?_, ?_⟩; intro w hw; (have qb := (hw rfl).2); ((go_simp <;> rfl)); simp only [Act.put, List.setIfInBounds_toArray, List.set_cons_zero, List.set_cons_succ])
    | (refine wpTake_no rfl ?_; simp only [Act.put, List.setIfInBounds_toArray, List.set_cons_zero, List.set_cons_succ])
    | (refine wpTake_pass ?_)
  refine wpTake_nil ?_
  repeat (refine wpRest_pass ?_)
  repeat (refine wpRest_op ?_; go_wp2; (refine ⟨?_, ?_⟩; focus (intro kz hk hk2; rintro ⟨qa, qb⟩; first | (exfalso; simp at hk2; omega) | exact ⟨qa, qb⟩ | (refine ⟨fun h => absurd h (by omega), ?_⟩; first | exact qb | (go_simp)) | (refine ⟨fun h => ?_, ?_⟩; (have qa := qa h); all_goals (first | exact qa | exact qb | (go_simp))))))
  refine wpRest_nil ?_
  go_end0
  exact ⟨rfl, 1, rfl⟩
theorem Cut2_go (w : World) (bd bn d : Nat) (n : Nat) (a : Option Addr) (len cap fl : Nat) (h1 : w.cell? ⟨bd, 0, none⟩ = some (.pointer (some ⟨d, 0, none⟩))) (h2 : w.cell? ⟨bn, 0, none⟩ = some (.int .i64 n))
   (c1 : w.cell? ⟨d, 1, none⟩ = some (.slice a len cap)) (c2 : w.cell? ⟨d, 2, none⟩ = some (.int .i64 fl)) (hz : ∀ o, w.frozen? ⟨d, o, none⟩ = false) (hn : n ≤ len) (hc : len ≤ cap)
   (hdb : d ≠ bd) (hdn : d ≠ bn) : Calls Try.prog 50 #[.pointer (some ⟨bd, 0, none⟩), .pointer (some ⟨bn, 0, none⟩)] w fun e w' => e = .returned (.tuple #[]) ∧ ∃ m, w' = ((w.setCell ⟨d, 1, none⟩ (.slice a n cap)).setCell ⟨d, 2, none⟩ (.int .i64 (min fl n : Nat))).drewN m := by
  have hnc : (n : Int) ≤ cap := by omega
  have hnc0 : (0 : Int) ≤ n := by omega
  rcases Nat.lt_or_ge n fl with hf | hf
  · have e1 : min fl n = n := by omega
    rw [e1]
    clear e1
    go_enter Try.func50, Try.ntmps50
    go_wp2
    refine wp_region_plan [true, true, true, true, true, true, true, true, true, true, true, true, true, true, false, false, false, false, false, false] (fun kz w => (kz ≤ 14 → w.cell? ⟨d, 1, none⟩ = some (.slice a len cap)) ∧ w.cell? ⟨d, 2, none⟩ = some (.int .i64 fl) ∧ w.cell? ⟨bd, 0, none⟩ = some (.pointer (some ⟨d, 0, none⟩)) ∧ w.cell? ⟨bn, 0, none⟩ = some (.int .i64 n)) (by kernel_rfl) (by kernel_rfl) (by intro c a d v w h; cases d <;> exact h) (fun kz => ⟨fun _ => c1, c2, h1, h2⟩) ?_
    repeat
      first
      | (refine wpTake_yes 14 rfl (by decide +kernel) ?_; apply Exists.intro; refine ⟨?_, ?_⟩; intro w hw; (try (have qa := (hw rfl).1 (Nat.le_refl _); have qb := (hw rfl).2)); ((go_simp <;> rfl)); simp only [Act.put, List.setIfInBounds_toArray, List.set_cons_zero, List.set_cons_succ])
      | (refine wpTake_yes 17 rfl (by decide +kernel) ?_; apply Exists.intro; refine ⟨?_, ?_⟩; intro w hw; (have qb := (hw rfl).2); ((go_simp <;> rfl)); simp only [Act.put, List.setIfInBounds_toArray, List.set_cons_zero, List.set_cons_succ])
      | (refine wpTake_no rfl ?_; simp only [Act.put, List.setIfInBounds_toArray, List.set_cons_zero, List.set_cons_succ])
      | (refine wpTake_pass ?_)
    refine wpTake_nil ?_
    repeat (refine wpRest_pass ?_)
    repeat (refine wpRest_op ?_; go_wp2; (refine ⟨?_, ?_⟩; focus (intro kz hk hk2; rintro ⟨qa, qb⟩; first | (exfalso; simp at hk2; omega) | exact ⟨qa, qb⟩ | (refine ⟨fun h => absurd h (by omega), ?_⟩; first | exact qb | (go_simp)) | (refine ⟨fun h => ?_, ?_⟩; (have qa := qa h); all_goals (first | exact qa | exact qb | (go_simp))))))
    refine wpRest_nil ?_
    go_end0
    exact ⟨rfl, 1, rfl⟩
  · have e1 : min fl n = fl := by omega
    rw [e1]
    clear e1
    have hf' : ¬ n < fl := by omega
    have hif : (if (n : Int) < fl then (n : Int) else fl) = fl := if_neg (by omega)
    have hif2 : (if n < fl then (n : Int) else fl) = fl := if_neg (by omega)
    clear hf hf'
    go_enter Try.func50, Try.ntmps50
    go_wp2
    refine wp_region_plan [true, true, true, true, true, true, true, true, true, true, true, true, true, true, false, false, false, false, false, false] (fun kz w => (kz ≤ 14 → w.cell? ⟨d, 1, none⟩ = some (.slice a len cap)) ∧ w.cell? ⟨d, 2, none⟩ = some (.int .i64 fl) ∧ w.cell? ⟨bd, 0, none⟩ = some (.pointer (some ⟨d, 0, none⟩)) ∧ w.cell? ⟨bn, 0, none⟩ = some (.int .i64 n)) (by kernel_rfl) (by kernel_rfl) (by intro c a d v w h; cases d <;> exact h) (fun kz => ⟨fun _ => c1, c2, h1, h2⟩) ?_
    repeat
      first
      | (refine wpTake_yes 14 rfl (by decide +kernel) ?_; apply Exists.intro; refine ⟨?_, ?_⟩; intro w hw; (try (have qa := (hw rfl).1 (Nat.le_refl _); have qb := (hw rfl).2)); ((go_simp <;> rfl)); simp only [Act.put, List.setIfInBounds_toArray, List.set_cons_zero, List.set_cons_succ])
      | (refine wpTake_yes 17 rfl (by decide +kernel) ?_; apply Exists.intro; refine ⟨?_, ?_⟩; intro w hw; (have qb := (hw rfl).2); ((go_simp <;> rfl)); simp only [Act.put, List.setIfInBounds_toArray, List.set_cons_zero, List.set_cons_succ])
      | (refine wpTake_no rfl ?_; simp only [Act.put, List.setIfInBounds_toArray, List.set_cons_zero, List.set_cons_succ])
      | (refine wpTake_pass ?_)
    refine wpTake_nil ?_
    repeat (refine wpRest_pass ?_)
    repeat (refine wpRest_op ?_; go_wp2; (refine ⟨?_, ?_⟩; focus (intro kz hk hk2; rintro ⟨qa, qb⟩; first | (exfalso; simp at hk2; omega) | exact ⟨qa, qb⟩ | (refine ⟨fun h => absurd h (by omega), ?_⟩; first | exact qb | (go_simp)) | (refine ⟨fun h => ?_, ?_⟩; (have qa := qa h); all_goals (first | exact qa | exact qb | (go_simp))))))
    refine wpRest_nil ?_
    go_end0
    exact ⟨rfl, 1, rfl⟩
