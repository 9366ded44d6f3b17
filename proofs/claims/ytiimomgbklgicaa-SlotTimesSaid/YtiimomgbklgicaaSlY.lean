import Derived.Test.YtiimomgbklgicaaSlX
/- The reference's comparing of transactions, where they are the same. -/
set_option linter.unusedVariables false
namespace Go.Proofs.Ytiimomgbklgicaa
open Go.RowKit Go.VB Go.VB.Oct Go.VB.Cat Go.VB.Rec Go.VB.Slt
theorem bs_list_eq (a b : List UInt8) : ((bs a).toList = (bs b).toList) = (a = b) := by
  have := beq_dec a b
  by_cases h : a = b
  · simp [h]
  · rw [decide_eq_false h] at this
    simp only [h, eq_iff_iff, iff_false]
    exact fun e => by rw [e] at this; simp at this
theorem step_neq_V {op : Oper} {a : Act} {w : World} (xo yo : Operand) (ho : op.op = .binOp .neq 30 xo yo 30) {x y : V} (hx : a.eval xo = .agg x.cells.toArray) (hy : a.eval yo = .agg y.cells.toArray) : (execOp a.eval op).run Try.prog w = .ok (.value (.bool (!decide (x = y)))) w := by
  unfold execOp
  simp only [ho, hx, hy]
  obtain ⟨k, n, s⟩ := x
  obtain ⟨k', n', s'⟩ := y
  unfold V.cells
  go_simp
  simp only [bs_list_eq]
  by_cases h1 : k = k' <;> by_cases h2 : n = n' <;> by_cases h3 : s = s' <;> simp [h1, h2, h3]
theorem size_Val : (Try.prog.info? 30).map (·.size) = some 3 := by kernel_rfl
/-- an element of a slice, in memory -/
theorem sl_at {α : Type} {k n : Nat} {R : Nat → Prop} {w : World} {a : Option Addr} {c : Nat} {l : List α} {f : α → List Value} (hk : 0 < k) (hf : ∀ x, (f x).length = k) (h : Sl R w (.slice a n c) l.length (l.flatMap f)) {j : Nat} (hj : j < l.length) : ∃ g o, a = some ⟨g, o, none⟩ ∧ w.rangeAt g (o + j * k) (f l[j]) := by
  obtain ⟨a', c', e, hc, hx⟩ := h
  have hne : l.flatMap f ≠ [] := by
    intro e
    have := congrArg List.length e
    rw [flat_len hf, List.length_nil] at this
    rcases Nat.mul_eq_zero.1 this with e | e <;> omega
  obtain ⟨g, o, e2, hR, hr⟩ := hx hne
  have e3 : a = a' := by injection e
  refine ⟨g, o, by rw [e3, e2], fun i u hu => ?_⟩
  have hi : i < k := by rw [← hf l[j]]; exact (List.getElem?_eq_some_iff.1 hu).1
  have := hr (j * k + i) u (by rw [flatK f hf l j hj i hi]; exact hu)
  rwa [← Nat.add_assoc] at this
set_option maxRecDepth 20000 in
set_option maxHeartbeats 4000000 in
theorem r2Same_go {R R' : Nat → Prop} {w : World} {va vb : Value} {l : List V} (h : Sl R w va l.length (l.flatMap V.cells)) (k : Sl R' w vb l.length (l.flatMap V.cells)) (hn : l.length ≤ 1099511627776) :
    Calls Try.prog 34 #[va, vb] w fun e w' => e = .returned (.bool true) ∧ Fr (fun _ => False) w w' := by
  have HX := hid h
  have HY := hid k
  obtain ⟨a, c, rfl, hc, -⟩ := h
  obtain ⟨b, d, rfl, hd, -⟩ := k
  have F0 := hid (Fr.refl (fun _ => False) w)
  go_enter Try.func34, Try.ntmps34
  go_wp2_with (fail)
  go_loopw [5] (fun i wr => ∃ j : Nat, j ≤ l.length ∧ i = .int .i64 j ∧ Fr (fun _ => False) w wr) (fun i _ => l.length - (intOf i).toNat)
  case atStart => exact ⟨0, by omega, rfl, F0.out⟩
  case round =>
    obtain ⟨j, hj, rfl, fr⟩ := hrel
    have FR := hid fr
    clear fr F0
    rename World => WR
    by_cases hjl : j < l.length
    · obtain ⟨g, o, rfl, rx⟩ := sl_at (k := 3) (by decide) (fun _ => rfl) (HX.out.fr FR.out (fun _ _ h => h)) hjl
      obtain ⟨g', o', rfl, ry⟩ := sl_at (k := 3) (by decide) (fun _ => rfl) (HY.out.fr FR.out (fun _ _ h => h)) hjl
      have i1 : (0 : Int) ≤ (j : Int) := by omega
      have i2 : (j : Int) < l.length := by omega
      have i9 : IntKind.i64.wrap ((j : Int) + 1) = (j : Int) + 1 := IntWalk.i64_in _ (by omega)
      have RX := hid rx
      have RY := hid ry
      clear rx ry
      generalize l[j] = x at *
      go_upto_region 6 with fail
      refine wp_region_scr (.take 0 (.take 1 (.take 2 (.take 3 (.take 4 (.take 5 (.take 6 (.take 7 (.take 8 .done))))))))) (fun kz w => (kz ≤ 9 → w.rangeAt g (o + j * 3) (V.cells x) ∧ w.rangeAt g' (o' + j * 3) (V.cells x)) ∧ True) (by kernel_rfl) (by kernel_rfl) (by intro c a d v w h; cases d <;> exact h) ?_
      repeat
        first
        | (refine wpT_pure rfl rfl rfl ?_; apply Exists.intro; refine ⟨?_, ?_⟩; intro w; (first | (first | exact run_load_mid _ _ rfl g _ rfl _ _ qa.1 Try.underlying30 rfl size_Val | exact run_load_mid _ _ rfl g' _ rfl _ _ qa.2 Try.underlying30 rfl size_Val | exact step_neq_V _ _ rfl rfl rfl) | (go_simp <;> rfl)); simp only [Act.put, List.setIfInBounds_toArray, List.set_cons_zero, List.set_cons_succ])
        | (refine wpT_take 9 rfl rfl (by decide +kernel) ⟨fun _ => ⟨RX.out, RY.out⟩, trivial⟩ ?_; apply Exists.intro; refine ⟨?_, ?_⟩; intro w hw; (have qa := hw.1 (Nat.le_refl _); have qb := hw.2); (first | (first | exact run_load_mid _ _ rfl g _ rfl _ _ qa.1 Try.underlying30 rfl size_Val | exact run_load_mid _ _ rfl g' _ rfl _ _ qa.2 Try.underlying30 rfl size_Val | exact step_neq_V _ _ rfl rfl rfl) | (go_simp <;> rfl)); simp only [Act.put, List.setIfInBounds_toArray, List.set_cons_zero, List.set_cons_succ])
        | (refine wpT_skip rfl rfl ?_; simp only [Act.put, List.setIfInBounds_toArray, List.set_cons_zero, List.set_cons_succ])
      refine wpT_nil ?_
      simp only [decide_true, Bool.not_true]
      go_wp2_with (fail)
      go_roundw
      case rel => exact ⟨j + 1, by omega, by go_num, FR.out.drew⟩
      case measure => simp [intOf]; omega
    · obtain rfl : j = l.length := by omega
      have j2 : ¬ ((l.length : Int) < (l.length : Int)) := by omega
      go_wp2_with (fail)
      go_ret
      exact ⟨rfl, FR.out⟩
set_option maxRecDepth 20000 in
set_option maxHeartbeats 4000000 in
theorem texts_go {R R' : Nat → Prop} {w : World} {va vb : Value} {l : List Bs} (h : Sl R w va l.length (l.flatMap scell)) (k : Sl R' w vb l.length (l.flatMap scell)) (hn : l.length ≤ 1099511627776) :
    Calls Try.prog 33 #[va, vb] w fun e w' => e = .returned (.bool true) ∧ Fr (fun _ => False) w w' := by
  have HX := hid h
  have HY := hid k
  obtain ⟨a, c, rfl, hc, -⟩ := h
  obtain ⟨b, d, rfl, hd, -⟩ := k
  have F0 := hid (Fr.refl (fun _ => False) w)
  go_enter Try.func33, Try.ntmps33
  go_wp2_with (fail)
  go_loopw [5] (fun i wr => ∃ j : Nat, j ≤ l.length ∧ i = .int .i64 j ∧ Fr (fun _ => False) w wr) (fun i _ => l.length - (intOf i).toNat)
  case atStart => exact ⟨0, by omega, rfl, F0.out⟩
  case round =>
    obtain ⟨j, hj, rfl, fr⟩ := hrel
    have FR := hid fr
    clear fr F0
    rename World => WR
    by_cases hjl : j < l.length
    · obtain ⟨g, o, rfl, rx⟩ := sl_at (k := 1) (by decide) scell_len (HX.out.fr FR.out (fun _ _ h => h)) hjl
      obtain ⟨g', o', rfl, ry⟩ := sl_at (k := 1) (by decide) scell_len (HY.out.fr FR.out (fun _ _ h => h)) hjl
      have i1 : (0 : Int) ≤ (j : Int) := by omega
      have i2 : (j : Int) < l.length := by omega
      have i9 : IntKind.i64.wrap ((j : Int) + 1) = (j : Int) + 1 := IntWalk.i64_in _ (by omega)
      have q1 : WR.cell? ⟨g, o + j, none⟩ = some (.string (bs l[j])) := by have := rx 0 (.string (bs l[j])) rfl; simpa using this
      have q2 : WR.cell? ⟨g', o' + j, none⟩ = some (.string (bs l[j])) := by have := ry 0 (.string (bs l[j])) rfl; simpa using this
      clear rx ry
      generalize l[j] = x at *
      go_upto_region 6 with fail
      go_quiet (fail)
      clear q1 q2
      go_wp2_with (fail)
      go_roundw
      case rel => exact ⟨j + 1, by omega, by go_num, FR.out.drewN _⟩
      case measure => simp [intOf]; omega
    · obtain rfl : j = l.length := by omega
      have j2 : ¬ ((l.length : Int) < (l.length : Int)) := by omega
      go_wp2_with (fail)
      go_ret
      exact ⟨rfl, FR.out⟩
end Go.Proofs.Ytiimomgbklgicaa
