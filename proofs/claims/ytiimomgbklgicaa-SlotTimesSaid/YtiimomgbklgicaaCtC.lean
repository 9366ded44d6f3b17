import Derived.Test.YtiimomgbklgicaaCtB
import Derived.Lib.SliceRun
/- Copies of columns, of integers; a name twice; a table found. -/
set_option linter.unusedVariables false
namespace Go.VB.Cat
open Go.VB Go.VB.Rec
theorem flat_len {α : Type} {k : Nat} {f : α → List Value} (hf : ∀ x, (f x).length = k) (l : List α) : (l.flatMap f).length = l.length * k := by
  induction l with
  | nil => simp
  | cons x l ih => rw [List.flatMap_cons, List.length_append, ih, hf, List.length_cons, Nat.succ_mul]; omega
theorem col_one (l : List Col) : ∀ u ∈ l.flatMap Col.cells, u.oneCell' = true := by
  intro u hu
  obtain ⟨v, _, hv⟩ := List.mem_flatMap.1 hu
  simp only [Col.cells, List.mem_cons, List.not_mem_nil, or_false] at hv
  rcases hv with rfl | rfl <;> rfl
theorem int_one (l : List Int) : ∀ u ∈ l.flatMap icell, u.oneCell' = true := by
  intro u hu
  obtain ⟨v, _, hv⟩ := List.mem_flatMap.1 hu
  simp only [icell, List.mem_cons, List.not_mem_nil, or_false] at hv
  rw [hv]; rfl
theorem icell_one' (x : Int) : (icell x).length = 1 := rfl
end Go.VB.Cat
namespace Go.Proofs.Ytiimomgbklgicaa
open Go.RowKit Go.VB Go.VB.Oct Go.VB.Cat Go.VB.Rec
theorem Sl.srcK {P : Program} {R : Nat → Prop} {w : World} {v : Value} {n size : Nat} {xs : List Value} (h : Sl R w v n xs) (hl : xs.length = n * size) (hs : 0 < size) (h1 : ∀ u ∈ xs, u.oneCell' = true) : Src P w size v n xs := by
  obtain ⟨a, c, rfl, hc, hx⟩ := h
  by_cases hn : xs = []
  · subst hn
    have hn0 : n = 0 := by
      have : n * size = 0 := hl.symm
      rcases Nat.mul_eq_zero.1 this with h | h <;> omega
    subst hn0
    cases a with
    | none => exact Src.nil size c
    | some a => exact ⟨by simp, by simp, fun w1 _ => ⟨by simp [Builtin.lenOf], by simpa using run_firstCells_some (P := P) w1 size 0 a 0 c [] (by simp) (fun j v hj => by simp at hj)⟩⟩
  · obtain ⟨g, o, rfl, -, hr⟩ := hx hn
    exact Src.slice hl h1 hr
theorem info_col : (Try.prog.info? 55).map (fun i => (i.zero, i.size, i.bytes)) = some (some (.agg #[.string .empty, .int .i64 0]), 2, 24) := by kernel_rfl
theorem info_int : (Try.prog.info? 3).map (fun i => (i.zero, i.size, i.bytes)) = some (some (.int .i64 0), 1, 8) := by kernel_rfl
set_option maxRecDepth 20000 in
theorem Clone_col {R : Nat → Prop} {w : World} {va : Value} {l : List Col} (h : Sl R w va l.length (l.flatMap Col.cells)) (hn : l.length ≤ 1048576) :
    Calls Try.prog 85 #[va] w fun e w' => ∃ v, e = .returned v ∧ Row 55 2 w.heap.size w' v l.length (l.flatMap Col.cells) ∧ Fr (fun _ => False) w w' := by
  have F0 := hid ((Fr.refl (fun _ => False) w).alloc (.cells #[] 55))
  have R0 := hid (Row.built (e := 55) (n := 0) (size := 2) (B := w.heap.size) w (l := []) rfl (by decide) (Nat.le_refl _))
  have S1 := hid (Sl.srcK (P := Try.prog) (size := 2) (h.fr F0.out (fun _ _ h => h)) (flat_len col_len l) (by decide) (col_one l))
  obtain ⟨a, c, rfl, hc, hx⟩ := h
  have HSZ := F0.out.size
  cases a with
  | none =>
    have h0 : l = [] := by
      cases l with
      | nil => rfl
      | cons x l => obtain ⟨g, o, e, _⟩ := hx (by intro e; have := congrArg List.length e; rw [flat_len col_len] at this; simp at this); cases e
    subst h0
    clear hx S1 R0 F0 HSZ hc hn
    have hq := fun w : World => Lib.run_eql_slice_nil (P := Try.prog) w 56 55 none 0 c 0 0 Try.underlying56
    simp only [Option.isNone_none] at hq
    go_enter Try.func85, Try.ntmps85
    go_wp2_with (fail)
    go_ret
    exact ⟨_, rfl, Row.nil, Fr.refl _ _⟩
  | some p =>
    clear hx
    have hq := fun w : World => Lib.run_eql_slice_nil (P := Try.prog) w 56 55 (some p) l.length c 0 0 Try.underlying56
    simp only [Option.isNone_some] at hq
    go_enter Try.func85, Try.ntmps85
    go_wp2_with (at_builtin; refine wpList_appS rfl (s := .tmp 5) (x := .tmp 6) (t := 56) (tx := 56) rfl Try.underlying56 Try.underlying56 (.inr ⟨_, rfl⟩) info_col rfl rfl rfl R0.out HSZ S1.out (by omega) (by omega) ?_; intro ab ac wg APP; have HG := hid (And.intro (APP.row.cast (m := l.length) (ys := l.flatMap Col.cells) (Nat.zero_add _) (by simp)) (APP.frB R0.out F0.out (Nat.le_refl _))); rw [Nat.zero_add] at HG; clear APP)
    go_ret
    exact ⟨_, rfl, HG.out.1, HG.out.2⟩
set_option maxRecDepth 20000 in
theorem Clone_int {R : Nat → Prop} {w : World} {va : Value} {l : List Int} (h : Sl R w va l.length (l.flatMap icell)) (hn : l.length ≤ 1048576) :
    Calls Try.prog 29 #[va] w fun e w' => ∃ v, e = .returned v ∧ Row 3 1 w.heap.size w' v l.length (l.flatMap icell) ∧ Fr (fun _ => False) w w' := by
  have F0 := hid ((Fr.refl (fun _ => False) w).alloc (.cells #[] 3))
  have R0 := hid (Row.built (e := 3) (n := 0) (size := 1) (B := w.heap.size) w (l := []) rfl (by decide) (Nat.le_refl _))
  have S1 := hid (Sl.srcK (P := Try.prog) (size := 1) (h.fr F0.out (fun _ _ h => h)) (flat_len icell_one' l) (by decide) (int_one l))
  obtain ⟨a, c, rfl, hc, hx⟩ := h
  have HSZ := F0.out.size
  cases a with
  | none =>
    have h0 : l = [] := by
      cases l with
      | nil => rfl
      | cons x l => obtain ⟨g, o, e, _⟩ := hx (by intro e; have := congrArg List.length e; rw [flat_len icell_one'] at this; simp at this); cases e
    subst h0
    clear hx S1 R0 F0 HSZ hc hn
    have hq := fun w : World => Lib.run_eql_slice_nil (P := Try.prog) w 22 3 none 0 c 0 0 Try.underlying22
    simp only [Option.isNone_none] at hq
    go_enter Try.func29, Try.ntmps29
    go_wp2_with (fail)
    go_ret
    exact ⟨_, rfl, Row.nil, Fr.refl _ _⟩
  | some p =>
    clear hx
    have hq := fun w : World => Lib.run_eql_slice_nil (P := Try.prog) w 22 3 (some p) l.length c 0 0 Try.underlying22
    simp only [Option.isNone_some] at hq
    go_enter Try.func29, Try.ntmps29
    go_wp2_with (at_builtin; refine wpList_appS rfl (s := .tmp 5) (x := .tmp 6) (t := 22) (tx := 22) rfl Try.underlying22 Try.underlying22 (.inr ⟨_, rfl⟩) info_int rfl rfl rfl R0.out HSZ S1.out (by omega) (by omega) ?_; intro ab ac wg APP; have HG := hid (And.intro (APP.row.cast (m := l.length) (ys := l.flatMap icell) (Nat.zero_add _) (by simp)) (APP.frB R0.out F0.out (Nat.le_refl _))); rw [Nat.zero_add] at HG; clear APP)
    go_ret
    exact ⟨_, rfl, HG.out.1, HG.out.2⟩
end Go.Proofs.Ytiimomgbklgicaa
