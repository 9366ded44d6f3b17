import Derived.Test.YtknpncpoojjbfaaDoorVG
import Derived.Test.YtknpncpoojjbfaaDoorVPc
/- value.Rows. -/
set_option linter.unusedVariables false
namespace Go.VB.Rec
theorem rowsCmp_step : ∀ (l m : List V) (j : Nat) (h1 : j < l.length) (h2 : j < m.length), rowsCmp (l.drop j) (m.drop j) = if V.cmp l[j] m[j] ≠ 0 then V.cmp l[j] m[j] else rowsCmp (l.drop (j + 1)) (m.drop (j + 1)) := by
  intro l m j h1 h2
  rw [List.drop_eq_getElem_cons h1, List.drop_eq_getElem_cons h2]
  rfl
theorem rowsCmp_end (l m : List V) (j : Nat) (h : l.length ≤ j ∨ m.length ≤ j) (hj : j ≤ l.length) (hk : j ≤ m.length) : rowsCmp (l.drop j) (m.drop j) = Lib.compareInt l.length m.length := by
  unfold Lib.compareInt
  rcases (by omega : l.length = m.length ∨ l.length < m.length ∨ m.length < l.length) with e | e | e
  · rw [List.drop_of_length_le (by omega), List.drop_of_length_le (by omega), if_neg (by omega), if_neg (by omega)]; rfl
  · obtain ⟨x, t, ht⟩ : ∃ x t, m.drop j = x :: t := by
      cases hh : m.drop j with
      | nil => have := congrArg List.length hh; rw [List.length_drop] at this; simp at this; omega
      | cons x t => exact ⟨x, t, rfl⟩
    rw [List.drop_of_length_le (by omega), ht, if_pos (by omega)]; rfl
  · obtain ⟨x, t, ht⟩ : ∃ x t, l.drop j = x :: t := by
      cases hh : l.drop j with
      | nil => have := congrArg List.length hh; rw [List.length_drop] at this; simp at this; omega
      | cons x t => exact ⟨x, t, rfl⟩
    rw [List.drop_of_length_le (l := m) (by omega), ht, if_neg (by omega), if_pos (by omega)]; rfl
end Go.VB.Rec
namespace Go.Proofs.YtknpncpoojjbfaaDoor
open Go.RowKit Go.VB Go.VB.Oct Go.VB.Rec
set_option maxRecDepth 20000 in
theorem VRows_go {R R' : Nat → Prop} {w : World} {va vb : Value} {l m : List V} (h : Sl R w va l.length (l.flatMap V.cells)) (k : Sl R' w vb m.length (m.flatMap V.cells)) (hn : l.length ≤ 1099511627776) (hm : m.length ≤ 1099511627776) (K : Kn w) :
    Calls Tryd.prog 19 #[va, vb] w fun e w' => e = .returned (.int .i64 (rowsCmp l m)) ∧ Fr (fun _ => False) w w' := by
  obtain ⟨a, c, rfl, hc, hx⟩ := h
  obtain ⟨b, d, rfl, hd, hy⟩ := k
  have HX := hid (show Sl R w (.slice a l.length c) l.length (l.flatMap V.cells) from ⟨a, c, rfl, hc, hx⟩)
  have HY := hid (show Sl R' w (.slice b m.length d) m.length (m.flatMap V.cells) from ⟨b, d, rfl, hd, hy⟩)
  have KH := hid K
  have F0 := hid (Fr.refl (fun _ => False) w)
  have HC := hid (fun w => Tryd.cmp_Compare_int l.length m.length w)
  obtain ⟨z, hz⟩ : ∃ z, rowsCmp l m = z := ⟨_, rfl⟩
  rw [hz]
  have HZ := hid hz
  obtain ⟨N, hN⟩ : ∃ N : Nat, N = min l.length m.length := ⟨_, rfl⟩
  have HN := hid hN
  have hmin : min (l.length : Int) (m.length : Int) = (N : Int) := by omega
  have hmin2 : (if (m.length : Int) < (l.length : Int) then (m.length : Int) else (l.length : Int)) = (N : Int) := by split <;> omega
  have hN1 : N ≤ l.length := by omega
  have hN2 : N ≤ m.length := by omega
  clear hx hy K hz hN
  go_enter Tryd.func19, Tryd.ntmps19
  go_wp2_with (fail)
  go_loopw [12] (fun i wr => ∃ j : Nat, j ≤ N ∧ i = .int .i64 j ∧ rowsCmp (l.drop j) (m.drop j) = z ∧ Fr (fun _ => False) w wr) (fun i _ => N - (intOf i).toNat)
  case atStart => exact ⟨0, by omega, rfl, HZ.out, F0.out⟩
  case round =>
    obtain ⟨j, hj, rfl, hall, fr⟩ := hrel
    have FR := hid fr
    have HA := hid hall
    clear fr hall
    by_cases hjn : j < N
    · have hjl : j < l.length := by omega
      have hjm : j < m.length := by omega
      obtain ⟨g, o, rfl, hg, q0, q1, q2⟩ := sl_three (f := V.cells) vcells_len (HX.out.fr FR.out (fun _ _ h => h)) hjl
      obtain ⟨g', o', rfl, hg', r0, r1, r2⟩ := sl_three (f := V.cells) vcells_len (HY.out.fr FR.out (fun _ _ h => h)) hjm
      have i1 : (0 : Int) ≤ (j : Int) := by omega
      have i2 : (j : Int) < l.length := by omega
      have i3 : (j : Int) < m.length := by omega
      have i4 : (j : Int) < N := by omega
      simp only [V.cells, List.getElem?_cons_zero, List.getElem?_cons_succ] at q0 q1 q2 r0 r1 r2
      have HST := hid (rowsCmp_step l m j hjl hjm)
      obtain ⟨x, hx⟩ : ∃ x, x = l[j] := ⟨_, rfl⟩
      obtain ⟨y, hy⟩ : ∃ y, y = m[j] := ⟨_, rfl⟩
      rw [← hx] at q0 q1 q2 HST
      rw [← hy] at r0 r1 r2 HST
      clear hx hy
      have RX := hid (fun i u hu => cell_fr (range3 q0 q1 q2 i u hu) ((Fr.refl (fun _ => False) wr).drew) (fun h => h) : wr.drew.rangeAt g (o + j * 3) (V.cells x))
      have RY := hid (fun i u hu => cell_fr (range3 r0 r1 r2 i u hu) ((Fr.refl (fun _ => False) wr).drew) (fun h => h) : wr.drew.rangeAt g' (o' + j * 3) (V.cells y))
      have HVC := hid (VCompare_go x y ((KH.out.fre FR.out).fre ((Fr.refl (fun _ => False) wr).drew)))
      clear q0 q1 q2 r0 r1 r2
      obtain ⟨cc, hcc⟩ : ∃ cc, V.cmp x y = cc := ⟨_, rfl⟩
      rw [hcc] at HST HVC
      clear hcc
      go_upto_region 4 with fail
      refine wp_region_scr (.take 0 (.take 1 (.take 2 (.take 3 (.take 4 (.take 5 (.take 6 (.take 7 (.op 8 (.take 9 .done)))))))))) (fun kz w => (kz ≤ 9 → w.rangeAt g (o + j * 3) (V.cells x) ∧ w.rangeAt g' (o' + j * 3) (V.cells y)) ∧ True) (by kernel_rfl) (by kernel_rfl) (by intro c a d v w h; cases d <;> exact h) ?_
      repeat
        first
        | (refine wpT_pure rfl rfl rfl ?_; apply Exists.intro; refine ⟨?_, ?_⟩; intro w; (first | (first | exact run_load_mid _ _ rfl g _ rfl _ _ qa.1 Tryd.underlying28 rfl size_V | exact run_load_mid _ _ rfl g' _ rfl _ _ qa.2 Tryd.underlying28 rfl size_V | (go_simp; rw [if_pos ⟨i1, i2⟩]; done) | (go_simp; rw [if_pos ⟨i1, i3⟩]; done)) | (go_simp <;> rfl)); simp only [Act.put, List.setIfInBounds_toArray, List.set_cons_zero, List.set_cons_succ])
        | (refine wpT_take 9 rfl rfl (by decide +kernel) ⟨fun _ => ⟨RX.out, RY.out⟩, trivial⟩ ?_; apply Exists.intro; refine ⟨?_, ?_⟩; intro w hw; (have qa := hw.1 (Nat.le_refl _); have qb := hw.2); (first | (first | exact run_load_mid _ _ rfl g _ rfl _ _ qa.1 Tryd.underlying28 rfl size_V | exact run_load_mid _ _ rfl g' _ rfl _ _ qa.2 Tryd.underlying28 rfl size_V | (go_simp; rw [if_pos ⟨i1, i2⟩]; done) | (go_simp; rw [if_pos ⟨i1, i3⟩]; done)) | (go_simp <;> rfl)); simp only [Act.put, List.setIfInBounds_toArray, List.set_cons_zero, List.set_cons_succ])
        | (refine wpT_skip rfl rfl ?_; simp only [Act.put, List.setIfInBounds_toArray, List.set_cons_zero, List.set_cons_succ])
      refine wpT_op rfl ?_
      go_wp2_with ((go_at_call 17; refine HVC.out.mono ?_; rintro e w8 ⟨rfl, f⟩; have F8 := hid (FR.out.trans (((Fr.refl (fun _ => False) wr).drew).trans f (fun _ h _ => h)) (fun _ h _ => h)); have R2 := hid (fun i u hu => cell_fr (RX.out i u hu) f (fun h => h) : w8.rangeAt g (o + j * 3) (V.cells x)); have R3 := hid (fun i u hu => cell_fr (RY.out i u hu) f (fun h => h) : w8.rangeAt g' (o' + j * 3) (V.cells y)); clear f))
      (refine ⟨?_, ?_⟩; focus (intro kz hk hk2 hh; first | (exfalso; simp at hk2; omega) | exact hh | exact (fun h => absurd h (by omega)) | obtain ⟨qa, qb⟩ := hh; first | exact ⟨qa, qb⟩ | (refine ⟨fun h => absurd h (by omega), ?_⟩; first | exact qb | (exact ⟨R2.out, R3.out⟩)) | (refine ⟨fun h => ?_, ?_⟩; (have qa := qa h); all_goals (first | exact qa | exact qb | (exact ⟨R2.out, R3.out⟩)))))
      repeat
        first
        | (refine wpT_pure rfl rfl rfl ?_; apply Exists.intro; refine ⟨?_, ?_⟩; intro w; ((go_simp <;> rfl)); simp only [Act.put, List.setIfInBounds_toArray, List.set_cons_zero, List.set_cons_succ])
        | (refine wpT_take 9 rfl rfl (by decide +kernel) ⟨fun _ => ⟨R2.out, R3.out⟩, trivial⟩ ?_; apply Exists.intro; refine ⟨?_, ?_⟩; intro w hw; (have qa := hw.1 (Nat.le_refl _); have qb := hw.2); ((go_simp <;> rfl)); simp only [Act.put, List.setIfInBounds_toArray, List.set_cons_zero, List.set_cons_succ])
        | (refine wpT_skip rfl rfl ?_; simp only [Act.put, List.setIfInBounds_toArray, List.set_cons_zero, List.set_cons_succ])
      refine wpT_nil ?_
      by_cases hc0 : cc = 0
      · subst hc0
        go_wp2_with (fail)
        go_roundw
        case rel => exact ⟨j + 1, by omega, by go_num, by rw [← HA.out, HST.out]; simp, F8.out⟩
        case measure => simp [intOf]; omega
      · have hcb : (cc != 0) = true := by simpa using hc0
        go_wp2_with (fail)
        go_ret
        exact ⟨ret_int (by rw [← HA.out, HST.out, if_pos hc0]), F8.out⟩
    · obtain rfl : j = N := by omega
      have hend := rowsCmp_end l m j (by have := HN.out; omega) hN1 hN2
      have HE := hid hend
      clear hend
      go_wp2_with (go_at_call 37; refine (HC.out _).mono ?_; rintro e w1 ⟨rfl, rfl⟩)
      go_ret
      exact ⟨ret_int (by rw [← HE.out, HA.out]), FR.out⟩
end Go.Proofs.YtknpncpoojjbfaaDoor
