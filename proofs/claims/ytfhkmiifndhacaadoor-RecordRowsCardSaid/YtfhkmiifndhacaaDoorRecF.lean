import Derived.Test.YtfhkmiifndhacaaDoorRecC
import Derived.Test.YtfhkmiifndhacaaDoorLoad
/- slices.Equal, thrice. -/
set_option linter.unusedVariables false
namespace Go.Proofs.YtfhkmiifndhacaaDoor
open Go.RowKit Go.VB Go.VB.Oct Go.VB.Rec
set_option maxRecDepth 20000
theorem take_eq_step {α : Type} {l m : List α} {j : Nat} (h1 : j < l.length) (h2 : j < m.length) (h : l.take j = m.take j) (he : l[j] = m[j]) : l.take (j + 1) = m.take (j + 1) := by
  rw [List.take_add_one, List.take_add_one, h, List.getElem?_eq_getElem h1, List.getElem?_eq_getElem h2, he]
theorem size_Value : (Tryd.prog.info? 50).map (·.size) = some 3 := by kernel_rfl
theorem size_Edit : (Tryd.prog.info? 48).map (·.size) = some 3 := by kernel_rfl
theorem bs_list_eq (a b : List UInt8) : ((bs a).toList = (bs b).toList) = (a = b) := by
  have := beq_dec a b
  by_cases h : a = b
  · simp [h]
  · rw [decide_eq_false h] at this
    simp only [h, eq_iff_iff, iff_false]
    exact fun e => by rw [e] at this; simp at this
theorem step_neq_Value {op : Oper} {a : Act} {w : World} (xo yo : Operand) (ho : op.op = .binOp .neq 50 xo yo 50) {x y : V} (hx : a.eval xo = .agg x.cells.toArray) (hy : a.eval yo = .agg y.cells.toArray) : (execOp a.eval op).run Tryd.prog w = .ok (.value (.bool (!decide (x = y)))) w := by
  unfold execOp
  simp only [ho, hx, hy]
  obtain ⟨k, n, s⟩ := x
  obtain ⟨k', n', s'⟩ := y
  unfold V.cells
  go_simp
  simp only [bs_list_eq]
  by_cases h1 : k = k' <;> by_cases h2 : n = n' <;> by_cases h3 : s = s' <;> simp [h1, h2, h3]
theorem step_neq_Edit {op : Oper} {a : Act} {w : World} (xo yo : Operand) (ho : op.op = .binOp .neq 48 xo yo 48) {x y : E} (hx : a.eval xo = .agg x.cells.toArray) (hy : a.eval yo = .agg y.cells.toArray) : (execOp a.eval op).run Tryd.prog w = .ok (.value (.bool (!decide (x = y)))) w := by
  unfold execOp
  simp only [ho, hx, hy]
  obtain ⟨k, n, s⟩ := x
  obtain ⟨k', n', s'⟩ := y
  unfold E.cells
  go_simp
  simp only [bs_list_eq]
  by_cases h1 : k = k' <;> by_cases h2 : n = n' <;> by_cases h3 : s = s' <;> simp [h1, h2, h3]
set_option maxRecDepth 20000 in
theorem Equal_val {R R' : Nat → Prop} {w : World} {va vb : Value} {l m : List V} (h : Sl R w va l.length (l.flatMap V.cells)) (k : Sl R' w vb m.length (m.flatMap V.cells)) (hn : l.length ≤ 1099511627776) (hm : m.length ≤ 1099511627776) :
    Calls Tryd.prog 46 #[va, vb] w fun e w' => e = .returned (.bool (decide (l = m))) ∧ Fr (fun _ => False) w w' := by
  obtain ⟨a, c, rfl, hc, hx⟩ := h
  obtain ⟨b, d, rfl, hd, hy⟩ := k
  have HX := hid (show Sl R w (.slice a l.length c) l.length (l.flatMap V.cells) from ⟨a, c, rfl, hc, hx⟩)
  have HY := hid (show Sl R' w (.slice b m.length d) m.length (m.flatMap V.cells) from ⟨b, d, rfl, hd, hy⟩)
  have F0 := hid (Fr.refl (fun _ => False) w)
  clear hx hy
  by_cases hlm : l.length = m.length
  · go_enter Tryd.func46, Tryd.ntmps46
    have HLM := hid hlm
    have hbn : ((l.length : Int) != (m.length : Int)) = false := by simp [hlm]
    clear hlm
    go_wp2_with (fail)
    go_loopw [13] (fun i wr => ∃ j : Nat, j ≤ l.length ∧ i = .int .i64 j ∧ l.take j = m.take j ∧ Fr (fun _ => False) w wr) (fun i _ => l.length - (intOf i).toNat)
    case atStart => exact ⟨0, by omega, rfl, rfl, F0.out⟩
    case round =>
      obtain ⟨j, hj, rfl, hall, fr⟩ := hrel
      have FR := hid fr
      have HA := hid hall
      clear fr hall
      by_cases hjl : j < l.length
      · have hjm : j < m.length := by have := HLM.out; omega
        obtain ⟨g, o, rfl, hg, q0, q1, q2⟩ := sl_three (f := V.cells) vcells_len (HX.out.fr FR.out (fun _ _ h => h)) hjl
        obtain ⟨g', o', rfl, hg', r0, r1, r2⟩ := sl_three (f := V.cells) vcells_len (HY.out.fr FR.out (fun _ _ h => h)) hjm
        have i1 : (0 : Int) ≤ (j : Int) := by omega
        have i2 : (j : Int) < l.length := by omega
        have i3 : (j : Int) < m.length := by omega
        simp only [V.cells, List.getElem?_cons_zero, List.getElem?_cons_succ] at q0 q1 q2 r0 r1 r2
        obtain ⟨x, hx⟩ : ∃ x, x = l[j] := ⟨_, rfl⟩
        obtain ⟨y, hy⟩ : ∃ y, y = m[j] := ⟨_, rfl⟩
        rw [← hx] at q0 q1 q2
        rw [← hy] at r0 r1 r2
        have HXX := hid hx
        have HYY := hid hy
        clear hx hy
        have RX := hid (range3 q0 q1 q2)
        have RY := hid (range3 r0 r1 r2)
        clear q0 q1 q2 r0 r1 r2
        go_wp2_with (fail)
        refine wp_region_scr (.take 0 (.take 1 (.take 2 (.take 3 (.take 4 (.take 5 (.take 6 (.take 7 (.take 8 .done))))))))) (fun kz w => (kz ≤ 9 → w.rangeAt g (o + j * 3) (V.cells x) ∧ w.rangeAt g' (o' + j * 3) (V.cells y)) ∧ True) (by kernel_rfl) (by kernel_rfl) (by intro c a d v w h; cases d <;> exact h) ?_
        repeat
          first
          | (refine wpT_pure rfl rfl rfl ?_; apply Exists.intro; refine ⟨?_, ?_⟩; intro w; (first | (first | exact run_load_mid _ _ rfl g _ rfl _ _ qa.1 Tryd.underlying50 rfl size_Value | exact run_load_mid _ _ rfl g' _ rfl _ _ qa.2 Tryd.underlying50 rfl size_Value | exact step_neq_Value _ _ rfl rfl rfl) | (go_simp <;> rfl)); simp only [Act.put, List.setIfInBounds_toArray, List.set_cons_zero, List.set_cons_succ])
          | (refine wpT_take 9 rfl rfl (by decide +kernel) ⟨fun _ => ⟨RX.out, RY.out⟩, trivial⟩ ?_; apply Exists.intro; refine ⟨?_, ?_⟩; intro w hw; (have qa := hw.1 (Nat.le_refl _); have qb := hw.2); (first | (first | exact run_load_mid _ _ rfl g _ rfl _ _ qa.1 Tryd.underlying50 rfl size_Value | exact run_load_mid _ _ rfl g' _ rfl _ _ qa.2 Tryd.underlying50 rfl size_Value | exact step_neq_Value _ _ rfl rfl rfl) | (go_simp <;> rfl)); simp only [Act.put, List.setIfInBounds_toArray, List.set_cons_zero, List.set_cons_succ])
          | (refine wpT_skip rfl rfl ?_; simp only [Act.put, List.setIfInBounds_toArray, List.set_cons_zero, List.set_cons_succ])
        refine wpT_nil ?_
        by_cases hxy : x = y
        · have HE := hid (show l[j] = m[j] by rw [← HXX.out, ← HYY.out, hxy])
          subst hxy
          go_wp2_with (fail)
          go_roundw
          case rel => exact ⟨j + 1, by omega, by go_num, take_eq_step hjl hjm HA.out HE.out, FR.out.drew⟩
          case measure => simp [intOf]; omega
        · rw [show (!decide (x = y)) = true by simp [hxy]]
          have hne : decide (l = m) = false := by
            refine decide_eq_false fun e => hxy ?_
            rw [HXX.out, HYY.out]
            subst e
            rfl
          go_wp2_with (fail)
          go_ret
          exact ⟨by rw [hne]; rfl, FR.out.drew⟩
      · obtain rfl : j = l.length := by omega
        have he : decide (l = m) = true := by
          have h1 := HA.out
          rw [List.take_length, HLM.out, List.take_length] at h1
          exact decide_eq_true h1
        go_wp2_with (fail)
        go_ret
        exact ⟨by rw [he]; rfl, FR.out⟩
  · have hne : decide (l = m) = false := decide_eq_false fun e => hlm (by rw [e])
    have hbn : ((l.length : Int) != (m.length : Int)) = true := by simpa using fun h => hlm (by omega)
    go_enter Tryd.func46, Tryd.ntmps46
    go_wp2_with (fail)
    go_ret
    exact ⟨by rw [hne]; rfl, F0.out⟩
set_option maxRecDepth 20000 in
theorem Equal_edit {R R' : Nat → Prop} {w : World} {va vb : Value} {l m : List E} (h : Sl R w va l.length (l.flatMap E.cells)) (k : Sl R' w vb m.length (m.flatMap E.cells)) (hn : l.length ≤ 1099511627776) (hm : m.length ≤ 1099511627776) :
    Calls Tryd.prog 47 #[va, vb] w fun e w' => e = .returned (.bool (decide (l = m))) ∧ Fr (fun _ => False) w w' := by
  obtain ⟨a, c, rfl, hc, hx⟩ := h
  obtain ⟨b, d, rfl, hd, hy⟩ := k
  have HX := hid (show Sl R w (.slice a l.length c) l.length (l.flatMap E.cells) from ⟨a, c, rfl, hc, hx⟩)
  have HY := hid (show Sl R' w (.slice b m.length d) m.length (m.flatMap E.cells) from ⟨b, d, rfl, hd, hy⟩)
  have F0 := hid (Fr.refl (fun _ => False) w)
  clear hx hy
  by_cases hlm : l.length = m.length
  · go_enter Tryd.func47, Tryd.ntmps47
    have HLM := hid hlm
    have hbn : ((l.length : Int) != (m.length : Int)) = false := by simp [hlm]
    clear hlm
    go_wp2_with (fail)
    go_loopw [13] (fun i wr => ∃ j : Nat, j ≤ l.length ∧ i = .int .i64 j ∧ l.take j = m.take j ∧ Fr (fun _ => False) w wr) (fun i _ => l.length - (intOf i).toNat)
    case atStart => exact ⟨0, by omega, rfl, rfl, F0.out⟩
    case round =>
      obtain ⟨j, hj, rfl, hall, fr⟩ := hrel
      have FR := hid fr
      have HA := hid hall
      clear fr hall
      by_cases hjl : j < l.length
      · have hjm : j < m.length := by have := HLM.out; omega
        obtain ⟨g, o, rfl, hg, q0, q1, q2⟩ := sl_three (f := E.cells) ecells_len (HX.out.fr FR.out (fun _ _ h => h)) hjl
        obtain ⟨g', o', rfl, hg', r0, r1, r2⟩ := sl_three (f := E.cells) ecells_len (HY.out.fr FR.out (fun _ _ h => h)) hjm
        have i1 : (0 : Int) ≤ (j : Int) := by omega
        have i2 : (j : Int) < l.length := by omega
        have i3 : (j : Int) < m.length := by omega
        simp only [E.cells, List.getElem?_cons_zero, List.getElem?_cons_succ] at q0 q1 q2 r0 r1 r2
        obtain ⟨x, hx⟩ : ∃ x, x = l[j] := ⟨_, rfl⟩
        obtain ⟨y, hy⟩ : ∃ y, y = m[j] := ⟨_, rfl⟩
        rw [← hx] at q0 q1 q2
        rw [← hy] at r0 r1 r2
        have HXX := hid hx
        have HYY := hid hy
        clear hx hy
        have RX := hid (range3 q0 q1 q2)
        have RY := hid (range3 r0 r1 r2)
        clear q0 q1 q2 r0 r1 r2
        go_wp2_with (fail)
        refine wp_region_scr (.take 0 (.take 1 (.take 2 (.take 3 (.take 4 (.take 5 (.take 6 (.take 7 (.take 8 .done))))))))) (fun kz w => (kz ≤ 9 → w.rangeAt g (o + j * 3) (E.cells x) ∧ w.rangeAt g' (o' + j * 3) (E.cells y)) ∧ True) (by kernel_rfl) (by kernel_rfl) (by intro c a d v w h; cases d <;> exact h) ?_
        repeat
          first
          | (refine wpT_pure rfl rfl rfl ?_; apply Exists.intro; refine ⟨?_, ?_⟩; intro w; (first | (first | exact run_load_mid _ _ rfl g _ rfl _ _ qa.1 Tryd.underlying48 rfl size_Edit | exact run_load_mid _ _ rfl g' _ rfl _ _ qa.2 Tryd.underlying48 rfl size_Edit | exact step_neq_Edit _ _ rfl rfl rfl) | (go_simp <;> rfl)); simp only [Act.put, List.setIfInBounds_toArray, List.set_cons_zero, List.set_cons_succ])
          | (refine wpT_take 9 rfl rfl (by decide +kernel) ⟨fun _ => ⟨RX.out, RY.out⟩, trivial⟩ ?_; apply Exists.intro; refine ⟨?_, ?_⟩; intro w hw; (have qa := hw.1 (Nat.le_refl _); have qb := hw.2); (first | (first | exact run_load_mid _ _ rfl g _ rfl _ _ qa.1 Tryd.underlying48 rfl size_Edit | exact run_load_mid _ _ rfl g' _ rfl _ _ qa.2 Tryd.underlying48 rfl size_Edit | exact step_neq_Edit _ _ rfl rfl rfl) | (go_simp <;> rfl)); simp only [Act.put, List.setIfInBounds_toArray, List.set_cons_zero, List.set_cons_succ])
          | (refine wpT_skip rfl rfl ?_; simp only [Act.put, List.setIfInBounds_toArray, List.set_cons_zero, List.set_cons_succ])
        refine wpT_nil ?_
        by_cases hxy : x = y
        · have HE := hid (show l[j] = m[j] by rw [← HXX.out, ← HYY.out, hxy])
          subst hxy
          go_wp2_with (fail)
          go_roundw
          case rel => exact ⟨j + 1, by omega, by go_num, take_eq_step hjl hjm HA.out HE.out, FR.out.drew⟩
          case measure => simp [intOf]; omega
        · rw [show (!decide (x = y)) = true by simp [hxy]]
          have hne : decide (l = m) = false := by
            refine decide_eq_false fun e => hxy ?_
            rw [HXX.out, HYY.out]
            subst e
            rfl
          go_wp2_with (fail)
          go_ret
          exact ⟨by rw [hne]; rfl, FR.out.drew⟩
      · obtain rfl : j = l.length := by omega
        have he : decide (l = m) = true := by
          have h1 := HA.out
          rw [List.take_length, HLM.out, List.take_length] at h1
          exact decide_eq_true h1
        go_wp2_with (fail)
        go_ret
        exact ⟨by rw [he]; rfl, FR.out⟩
  · have hne : decide (l = m) = false := decide_eq_false fun e => hlm (by rw [e])
    have hbn : ((l.length : Int) != (m.length : Int)) = true := by simpa using fun h => hlm (by omega)
    go_enter Tryd.func47, Tryd.ntmps47
    go_wp2_with (fail)
    go_ret
    exact ⟨by rw [hne]; rfl, F0.out⟩
set_option maxRecDepth 20000 in
theorem Equal_int {R R' : Nat → Prop} {w : World} {va vb : Value} {l m : List Int} (h : Sl R w va l.length (l.flatMap icell)) (k : Sl R' w vb m.length (m.flatMap icell)) (hn : l.length ≤ 1099511627776) (hm : m.length ≤ 1099511627776) :
    Calls Tryd.prog 48 #[va, vb] w fun e w' => e = .returned (.bool (decide (l = m))) ∧ Fr (fun _ => False) w w' := by
  obtain ⟨a, c, rfl, hc, hx⟩ := h
  obtain ⟨b, d, rfl, hd, hy⟩ := k
  have HX := hid (show Sl R w (.slice a l.length c) l.length (l.flatMap icell) from ⟨a, c, rfl, hc, hx⟩)
  have HY := hid (show Sl R' w (.slice b m.length d) m.length (m.flatMap icell) from ⟨b, d, rfl, hd, hy⟩)
  have F0 := hid (Fr.refl (fun _ => False) w)
  clear hx hy
  by_cases hlm : l.length = m.length
  · go_enter Tryd.func48, Tryd.ntmps48
    have HLM := hid hlm
    have hbn : ((l.length : Int) != (m.length : Int)) = false := by simp [hlm]
    clear hlm
    go_wp2_with (fail)
    go_loopw [13] (fun i wr => ∃ j : Nat, j ≤ l.length ∧ i = .int .i64 j ∧ l.take j = m.take j ∧ Fr (fun _ => False) w wr) (fun i _ => l.length - (intOf i).toNat)
    case atStart => exact ⟨0, by omega, rfl, rfl, F0.out⟩
    case round =>
      obtain ⟨j, hj, rfl, hall, fr⟩ := hrel
      have FR := hid fr
      have HA := hid hall
      clear fr hall
      by_cases hjl : j < l.length
      · have hjm : j < m.length := by have := HLM.out; omega
        obtain ⟨g, o, rfl, hg, hcx⟩ := sl_cell1 (f := icell) icell_len (HX.out.fr FR.out (fun _ _ h => h)) (fun h => by subst h; cases hjl)
        obtain ⟨g', o', rfl, hg', hcy⟩ := sl_cell1 (f := icell) icell_len (HY.out.fr FR.out (fun _ _ h => h)) (fun h => by subst h; cases hjm)
        have q0 := hcx j hjl
        have r0 := hcy j hjm
        clear hcx hcy
        have i1 : (0 : Int) ≤ (j : Int) := by omega
        have i2 : (j : Int) < l.length := by omega
        have i3 : (j : Int) < m.length := by omega
        simp only [icell, List.getElem?_cons_zero] at q0 r0
        obtain ⟨x, hx⟩ : ∃ x, x = l[j] := ⟨_, rfl⟩
        obtain ⟨y, hy⟩ : ∃ y, y = m[j] := ⟨_, rfl⟩
        rw [← hx] at q0
        rw [← hy] at r0
        have HXX := hid hx
        have HYY := hid hy
        clear hx hy
        go_wp2_with (fail)
        refine wp_region_scr (.take 0 (.take 1 (.take 2 (.take 3 (.take 4 (.take 5 (.take 6 (.take 7 (.take 8 .done))))))))) (fun kz w => (kz ≤ 9 → w.cell? ⟨g, o + j, none⟩ = some (.int .i64 x) ∧ w.cell? ⟨g', o' + j, none⟩ = some (.int .i64 y)) ∧ True) (by kernel_rfl) (by kernel_rfl) (by intro c a d v w h; cases d <;> exact h) ?_
        repeat
          first
          | (refine wpT_pure rfl rfl rfl ?_; apply Exists.intro; refine ⟨?_, ?_⟩; intro w; (first | (obtain ⟨z0, z1⟩ := qa; go_simp <;> rfl) | (go_simp <;> rfl)); simp only [Act.put, List.setIfInBounds_toArray, List.set_cons_zero, List.set_cons_succ])
          | (refine wpT_take 9 rfl rfl (by decide +kernel) ⟨fun _ => ⟨q0, r0⟩, trivial⟩ ?_; apply Exists.intro; refine ⟨?_, ?_⟩; intro w hw; (have qa := hw.1 (Nat.le_refl _); have qb := hw.2); (first | (obtain ⟨z0, z1⟩ := qa; go_simp <;> rfl) | (go_simp <;> rfl)); simp only [Act.put, List.setIfInBounds_toArray, List.set_cons_zero, List.set_cons_succ])
          | (refine wpT_skip rfl rfl ?_; simp only [Act.put, List.setIfInBounds_toArray, List.set_cons_zero, List.set_cons_succ])
        refine wpT_nil ?_
        by_cases hxy : x = y
        · have HE := hid (show l[j] = m[j] by rw [← HXX.out, ← HYY.out, hxy])
          subst hxy
          go_wp2_with (fail)
          go_roundw
          case rel => exact ⟨j + 1, by omega, by go_num, take_eq_step hjl hjm HA.out HE.out, FR.out.drew⟩
          case measure => simp [intOf]; omega
        · have hne : decide (l = m) = false := by
            refine decide_eq_false fun e => hxy ?_
            rw [HXX.out, HYY.out]
            subst e
            rfl
          go_wp2_with (fail)
          go_ret
          exact ⟨by rw [hne]; rfl, FR.out.drew⟩
      · obtain rfl : j = l.length := by omega
        have he : decide (l = m) = true := by
          have h1 := HA.out
          rw [List.take_length, HLM.out, List.take_length] at h1
          exact decide_eq_true h1
        go_wp2_with (fail)
        go_ret
        exact ⟨by rw [he]; rfl, FR.out⟩
  · have hne : decide (l = m) = false := decide_eq_false fun e => hlm (by rw [e])
    have hbn : ((l.length : Int) != (m.length : Int)) = true := by simpa using fun h => hlm (by omega)
    go_enter Tryd.func48, Tryd.ntmps48
    go_wp2_with (fail)
    go_ret
    exact ⟨by rw [hne]; rfl, F0.out⟩
end Go.Proofs.YtfhkmiifndhacaaDoor
