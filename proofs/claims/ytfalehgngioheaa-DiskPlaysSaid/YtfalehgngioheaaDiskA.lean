import Derived.Test.YtfalehgngioheaaDiskM
import Derived.Test.YtfalehgngioheaaChecked
set_option linter.unusedVariables false
namespace Go.Proofs.Ytfalehgngioheaa
open Go.RowKit Go.VB Go.VB.Disk

theorem text_any (w : World) (l m : List UInt8) (hl : l.length = 256) (hm : m.length = 256) : Calls Try.prog 43 #[.agg (bv (l ++ m)).toArray] w fun e w' => e = .returned (.string (bs (l ++ m))) ∧ Fr (fun _ => False) w w' := by
  have hb := (Blk.new w (bv (l ++ m)) 76)
  have r1 := hb.range [] (bv l) (bv m) (by simp [bv])
  have r2 := hb.range (bv l) (bv m) [] (by simp [bv])
  rw [bv_length, hl] at r2
  have q1 := fun n cap => run_bytes_string (P := Try.prog) (w := (w.alloc (.cells (bv (l ++ m)).toArray 76)).drewN n) (src := 37) (dst := 9) r1 Try.underlying37 Try.underlying5 Try.underlying9 256 cap hl.symm
  have q2 := fun n cap => run_bytes_string (P := Try.prog) (w := (w.alloc (.cells (bv (l ++ m)).toArray 76)).drewN n) (src := 37) (dst := 9) r2 Try.underlying37 Try.underlying5 Try.underlying9 256 cap hm.symm
  have q3 := fun w => run_add_bs (P := Try.prog) w l m (by omega)
  simp only [List.length_nil] at q1
  clear r1 r2 hb hl hm
  go_enter Try.func43, Try.ntmps43
  go_wp2
  go_quiet (fail)
  go_wp2
  go_ret
  exact ⟨rfl, ((Fr.refl _ _).alloc _).drewN _⟩
/-- the text of a page of 512 bytes -/
theorem text_page (w : World) (s : List UInt8) (hs : s.length = 512) : Calls Try.prog 43 #[.agg (bv s).toArray] w fun e w' => e = .returned (.string (bs s)) ∧ Fr (fun _ => False) w w' := by
  have := text_any w (s.take 256) (s.drop 256) (by simp; omega) (by simp; omega)
  rwa [List.take_append_drop] at this

theorem On_nil (w : World) : Calls Try.prog 23 #[.pointer none] w fun e w' => e = .returned (.bool false) ∧ w = w' := by
  go_enter Try.func23, Try.ntmps23
  go_wp2
  go_ret
  exact ⟨rfl, rfl⟩
theorem On_some (w : World) (d : Nat) (x : Bool) (h : w.cell? ⟨d, 3, none⟩ = some (.bool x)) : Calls Try.prog 23 #[.pointer (some ⟨d, 0, none⟩)] w fun e w' => e = .returned (.bool (!x)) ∧ w = w' := by
  go_enter Try.func23, Try.ntmps23
  go_wp2
  go_ret
  exact ⟨rfl, rfl⟩
theorem is_nil (w : World) (n : Int) : Calls Try.prog 38 #[.pointer none, .int .i64 n] w fun e w' => e = .returned (.bool false) ∧ w = w' := by
  go_enter Try.func38, Try.ntmps38
  go_wp2
  go_ret
  exact ⟨rfl, rfl⟩
theorem is_some (w : World) (d : Nat) (n : Int) (a : Option Addr) (len cap : Nat) (h : w.cell? ⟨d, 0, none⟩ = some (.slice a len cap)) : Calls Try.prog 38 #[.pointer (some ⟨d, 0, none⟩), .int .i64 n] w fun e w' => e = .returned (.bool (decide (0 ≤ n) && decide (n < len))) ∧ w = w' := by
  by_cases h0 : 0 ≤ n
  · go_enter Try.func38, Try.ntmps38
    go_wp2
    go_ret
    exact ⟨by simp [h0], rfl⟩
  · have hd : decide (0 ≤ n) = false := by simp [h0]
    go_enter Try.func38, Try.ntmps38
    go_wp2
    go_ret
    exact ⟨by simp, rfl⟩
theorem Pages_nil (w : World) : Calls Try.prog 35 #[.pointer none] w fun e w' => e = .returned (.int .i64 0) ∧ w = w' := by
  go_enter Try.func35, Try.ntmps35
  go_wp2
  go_ret
  exact ⟨rfl, rfl⟩
theorem Pages_some (w : World) (d : Nat) (a : Option Addr) (len cap : Nat) (h : w.cell? ⟨d, 0, none⟩ = some (.slice a len cap)) : Calls Try.prog 35 #[.pointer (some ⟨d, 0, none⟩)] w fun e w' => e = .returned (.int .i64 len) ∧ w = w' := by
  go_enter Try.func35, Try.ntmps35
  go_wp2
  go_ret
  exact ⟨rfl, rfl⟩
theorem Flushed_nil (w : World) : Calls Try.prog 25 #[.pointer none] w fun e w' => e = .returned (.int .i64 0) ∧ w = w' := by
  go_enter Try.func25, Try.ntmps25
  go_wp2
  go_ret
  exact ⟨rfl, rfl⟩
theorem Flushed_some (w : World) (d : Nat) (n : Int) (h : w.cell? ⟨d, 2, none⟩ = some (.int .i64 n)) : Calls Try.prog 25 #[.pointer (some ⟨d, 0, none⟩)] w fun e w' => e = .returned (.int .i64 n) ∧ w = w' := by
  go_enter Try.func25, Try.ntmps25
  go_wp2
  go_ret
  exact ⟨rfl, rfl⟩
theorem Log_nil (w : World) : Calls Try.prog 22 #[.pointer none] w fun e w' => e = .returned (.string (bs [])) ∧ w = w' := by
  go_enter Try.func22, Try.ntmps22
  go_wp2
  go_ret
  exact ⟨rfl, rfl⟩
theorem Log_some (w : World) (d : Nat) (v : Value) (l : List UInt8) (h : w.cell? ⟨d, 1, none⟩ = some v) (ho : w.ownsRow 0 5 1 v l.length (bv l)) :
    Calls Try.prog 22 #[.pointer (some ⟨d, 0, none⟩)] w fun e w' => e = .returned (.string (bs l)) ∧ w = w' := by
  have hc : (convert 37 9 v).run Try.prog w = .ok (.string (bs l)) w := by
    rcases ho.2 with ⟨rfl, hn⟩ | ⟨g, cap, cur, rfl, -, hg, hcap, -, hsz, htk⟩
    · have : l = [] := List.eq_nil_of_length_eq_zero hn
      subst this
      rw [run_convert_bytes_nil (P := Try.prog) w 37 5 Try.underlying37 Try.underlying5 0 0 9 Try.underlying9]
      rfl
    · refine run_bytes_string (P := Try.prog) (o := 0) ?_ Try.underlying37 Try.underlying5 Try.underlying9 _ cap rfl
      intro j u hj
      have hj' : j < l.length := by have := (List.getElem?_eq_some_iff.1 hj).1; simpa [bv] using this
      rw [cell_of_row w g (0 + j) cur _ _ hg, ← hj, ← htk]
      simp [hj']
  clear ho
  go_enter Try.func22, Try.ntmps22
  go_wp2
  go_ret
  exact ⟨rfl, rfl⟩
theorem fine_any (w : World) : Calls Try.prog 46 #[] w fun e w' => e = .returned (.int .i64 0) ∧ w = w' := by
  go_enter Try.func46, Try.ntmps46
  go_wp2
  go_ret
  exact ⟨rfl, rfl⟩
theorem Arm_nil (w : World) (n : Int) : Calls Try.prog 29 #[.pointer none, .int .i64 n] w fun e w' => e = .returned (.tuple #[]) ∧ w = w' := by
  go_enter Try.func29, Try.ntmps29
  go_wp2
  go_end0
  exact ⟨rfl, rfl⟩
theorem Arm_some (w : World) (d : Nat) (n : Int) (x y : Value) (h4 : w.cell? ⟨d, 4, none⟩ = some x) (h5 : w.cell? ⟨d, 5, none⟩ = some y) (hf : ∀ o, w.frozen? ⟨d, o, none⟩ = false) :
    Calls Try.prog 29 #[.pointer (some ⟨d, 0, none⟩), .int .i64 n] w fun e w' => e = .returned (.tuple #[]) ∧ (w.setCell ⟨d, 4, none⟩ (.bool (decide (0 ≤ n)))).setCell ⟨d, 5, none⟩ (.int .i64 n) = w' := by
  go_enter Try.func29, Try.ntmps29
  go_wp2
  go_end0
  exact ⟨rfl, rfl⟩
