/- Proved: for every two values the law ValueText of chapter 02 returns true, and its arguments read afterwards as before. Conditions: none beyond the given statement, a tied card. -/
import Derived.Test.YtknpncpoojjbfaaDoorVF
import Derived.Test.YtknpncpoojjbfaaDoorVO
import Derived.Test.YtknpncpoojjbfaaDoorVR2
import Derived.Test.YtknpncpoojjbfaaDoorVAr
import Derived.Test.YtknpncpoojjbfaaDoorVTx
import Derived.Test.YtknpncpoojjbfaaDoorVEq
import Derived.Test.YtknpncpoojjbfaaDoorCards
import Derived.Test.YtknpncpoojjbfaaDoorTie
import Derived.SevenTiedAt
set_option linter.unusedVariables false
namespace Go.Proofs.YtknpncpoojjbfaaDoor
open Go.RowKit Go.VB Go.VB.Oct Go.VB.Rec
/-- two values in memory -/
structure TwoV (w0 W : World) (g : Nat) (x y : V) : Prop where
  x : W.rangeAt g 0 (V.cells x)
  y : W.rangeAt g 3 (V.cells y)
  gv : Gv W
  fr : Fr (fun _ => False) w0 W
theorem TwoV.fre {w0 W W' : World} {g : Nat} {x y : V} (h : TwoV w0 W g x y) (f : Fr (fun _ => False) W W') : TwoV w0 W' g x y :=
  ⟨fun i u hu => cell_fr (h.x i u hu) f (fun h => h), fun i u hu => cell_fr (h.y i u hu) f (fun h => h), h.gv.fre f, h.fr.trans f (fun _ h _ => h)⟩
theorem two_rows {B : Nat} {W : World} {a : Option Addr} {c : Nat} {x y : V} (h : Row 28 3 B W (.slice a 2 c) 2 ([x, y].flatMap V.cells)) : ∃ g, a = some ⟨g, 0, none⟩ ∧ W.rangeAt g 0 (V.cells x) ∧ W.rangeAt g 3 (V.cells y) := by
  obtain ⟨g, h1, _, h3⟩ := row_range h (by simp [V.cells])
  refine ⟨g, h1, fun i u hu => ?_, fun i u hu => ?_⟩
  · have hi : i < 3 := (List.getElem?_eq_some_iff.1 hu).1
    exact h3 i u (by rw [List.flatMap_cons, List.getElem?_append_left hi]; exact hu)
  · have := h3 (3 + i) u (by rw [List.flatMap_cons, List.getElem?_append_right (by simp [V.cells]), List.flatMap_cons, List.flatMap_nil, List.append_nil]; simpa [V.cells] using hu)
    simpa using this
set_option maxRecDepth 20000 in
set_option maxHeartbeats 8000000 in
theorem Text_walk {w : World} (G : Gv w) (a b : V) (ia : V.In2 a) (ib : V.In2 b) :
    Calls Tryd.prog 10 #[vagg a, vagg b] w fun e w' => e = .returned (.bool true) ∧ Fr (fun _ => False) w w' := by
  have na : a.cut.n = a.n := rfl
  have nb : b.cut.n = b.n := rfl
  have HNA := hid (show -9223372036854775808 ≤ a.cut.n ∧ a.cut.n ≤ 9223372036854775807 from by rw [na]; have := ia; unfold V.In2 in64 at this; omega)
  have HNB := hid (show -9223372036854775808 ≤ b.cut.n ∧ b.cut.n ≤ 9223372036854775807 from by rw [nb]; have := ib; unfold V.In2 in64 at this; omega)
  clear na nb ia ib
  have HG := hid G
  have B0 := hid ((Blk.new w a.cells 28).alloc (.cells b.cells.toArray 28))
  have B1 := hid (Blk.new (w.alloc (.cells a.cells.toArray 28)) b.cells 28)
  have F0 := hid (((Fr.refl (fun _ => False) w).alloc (.cells a.cells.toArray 28)).alloc (.cells b.cells.toArray 28))
  have HSA := hid (sanity_go (G.fre F0.out))
  have hcut : cutRow [a, b] = [a.cut, b.cut] := rfl
  have HXS := hid (show a.cut.s.length ≤ 60 from by unfold V.cut; dsimp only; rw [List.length_take]; omega)
  have HYS := hid (show b.cut.s.length ≤ 60 from by unfold V.cut; dsimp only; rw [List.length_take]; omega)
  clear G
  simp only [World.size_alloc] at B1
  generalize hx : a.cut = x at *
  generalize hy : b.cut = y at *
  clear hx hy
  obtain ⟨ak, an, ax⟩ := a
  obtain ⟨bk, bn, bx⟩ := b
  unfold vagg
  go_enter Tryd.func10, Tryd.ntmps10
  go_wp2_with (fail)
  refine HSA.out.mono ?_
  rintro e w1 ⟨rfl, f⟩
  have F1 := hid (F0.out.trans f (fun _ h _ => h))
  have C0 := hid (Blk.fr B0.out f (fun h => h))
  have C1 := hid (Blk.fr B1.out f (fun h => h))
  clear f HSA F0 B0 B1
  obtain ⟨p0, p1, p2⟩ : w1.cell? ⟨w.heap.size, 0, none⟩ = some (.int .i64 ak) ∧ w1.cell? ⟨w.heap.size, 1, none⟩ = some (.int .i64 an) ∧ w1.cell? ⟨w.heap.size, 2, none⟩ = some (.string (bs ax)) := ⟨C0.out.cell 0, C0.out.cell 1, C0.out.cell 2⟩
  obtain ⟨q0, q1, q2⟩ : w1.cell? ⟨w.heap.size + 1, 0, none⟩ = some (.int .i64 bk) ∧ w1.cell? ⟨w.heap.size + 1, 1, none⟩ = some (.int .i64 bn) ∧ w1.cell? ⟨w.heap.size + 1, 2, none⟩ = some (.string (bs bx)) := ⟨C1.out.cell 0, C1.out.cell 1, C1.out.cell 2⟩
  have HROW := hid (Row.built (e := 28) (size := 3) (B := w1.heap.size) w1 (l := [⟨ak, an, ax⟩, ⟨bk, bn, bx⟩].flatMap V.cells) (n := 2) rfl (by decide) (Nat.le_refl _))
  have HFW := hid (few2_go (r := [⟨ak, an, ax⟩, ⟨bk, bn, bx⟩]) (HROW.out.sl' (R := fun _ => True) (fun _ _ => trivial)) (by simp))
  rw [hcut] at HFW
  have FB := hid (F1.out.alloc (.cells ([⟨ak, an, ax⟩, ⟨bk, bn, bx⟩].flatMap V.cells).toArray 28))
  clear hcut
  go_wp2_with (fail)
  refine HFW.out.mono ?_
  rintro e w2 ⟨a1, c1, rfl, hr, f⟩
  obtain ⟨g, rfl, hx, hy⟩ := two_rows hr
  have HS := hid (show TwoV w w2 g x y from ⟨hx, hy, HG.out.fre (FB.out.trans f (fun _ h _ => h)), FB.out.trans f (fun _ h _ => h)⟩)
  clear hx hy hr f HFW HROW FB F1 C0 C1 p0 p1 p2 q0 q1 q2 HG
  have ET := hid (fun h1 h2 => text_eq (a := x) (b := y) h1 h2)
  have HT1 := hid (fun (W : World) (h : TwoV w W g x y) => VText_go x (Nat.le_trans HXS.out (by decide)) HNA.out.1 HNA.out.2 h.gv.tb h.gv.ml)
  have HT2 := hid (fun (W : World) (h : TwoV w W g x y) => VText_go y (Nat.le_trans HYS.out (by decide)) HNB.out.1 HNB.out.2 h.gv.tb h.gv.ml)
  have HU1 := hid (fun W => r2Text_go x (Nat.le_trans HXS.out (by decide)) HNA.out.1 HNA.out.2 W)
  have HU2 := hid (fun W => r2Text_go y (Nat.le_trans HYS.out (by decide)) HNB.out.1 HNB.out.2 W)
  have HR1 := hid (fun W => VRight_go x W)
  have HR2 := hid (fun W => VRight_go y W)
  have HC := hid (fun (W : World) (h : TwoV w W g x y) => VCompare_go x y h.gv.kn)
  clear HXS HYS HNA HNB
  generalize x.text = s at *
  generalize y.text = t at *
  generalize x.right = p at *
  generalize y.right = q at *
  generalize V.cmp x y = c at *
  obtain ⟨h0, h1, h2⟩ : w2.cell? ⟨g, 0, none⟩ = some (.int .i64 x.k) ∧ w2.cell? ⟨g, 1, none⟩ = some (.int .i64 x.n) ∧ w2.cell? ⟨g, 2, none⟩ = some (.string (bs x.s)) := ⟨HS.out.x 0 _ rfl, HS.out.x 1 _ rfl, HS.out.x 2 _ rfl⟩
  go_wp2_with (fail)
  refine (HT1.out _ HS.out).mono ?_
  rintro e w3 ⟨rfl, f⟩
  replace HS := hid (HS.out.fre f)
  clear f h0 h1 h2 HT1
  obtain ⟨h0, h1, h2⟩ : w3.cell? ⟨g, 3, none⟩ = some (.int .i64 y.k) ∧ w3.cell? ⟨g, 4, none⟩ = some (.int .i64 y.n) ∧ w3.cell? ⟨g, 5, none⟩ = some (.string (bs y.s)) := ⟨HS.out.y 0 _ rfl, HS.out.y 1 _ rfl, HS.out.y 2 _ rfl⟩
  go_wp2_with (fail)
  refine (HT2.out _ HS.out).mono ?_
  rintro e w4 ⟨rfl, f⟩
  replace HS := hid (HS.out.fre f)
  clear f h0 h1 h2 HT2
  obtain ⟨h0, h1, h2⟩ : w4.cell? ⟨g, 0, none⟩ = some (.int .i64 x.k) ∧ w4.cell? ⟨g, 1, none⟩ = some (.int .i64 x.n) ∧ w4.cell? ⟨g, 2, none⟩ = some (.string (bs x.s)) := ⟨HS.out.x 0 _ rfl, HS.out.x 1 _ rfl, HS.out.x 2 _ rfl⟩
  go_wp2_with (fail)
  refine (HU1.out _).mono ?_
  rintro e w5 ⟨rfl, f⟩
  replace HS := hid (HS.out.fre f)
  clear f h0 h1 h2 HU1
  obtain ⟨h0, h1, h2⟩ : w5.cell? ⟨g, 3, none⟩ = some (.int .i64 y.k) ∧ w5.cell? ⟨g, 4, none⟩ = some (.int .i64 y.n) ∧ w5.cell? ⟨g, 5, none⟩ = some (.string (bs y.s)) := ⟨HS.out.y 0 _ rfl, HS.out.y 1 _ rfl, HS.out.y 2 _ rfl⟩
  go_wp2_with (fail)
  refine (HU2.out _).mono ?_
  rintro e w6 ⟨rfl, f⟩
  replace HS := hid (HS.out.fre f)
  clear f h0 h1 h2 HU2
  have HZ := hid (fun h1 h2 => (beq_dec s t).trans ((by rw [Bool.eq_iff_iff, decide_eq_true_eq, beq_iff_eq] : decide (s = t) = (s == t)).trans (ET.out h1 h2)))
  clear ET
  replace HS := hid (HS.out.fre ((Fr.refl (fun _ => False) w6).drew))
  go_upto_region 7 with fail
  cases p with
  | false =>
    clear HZ
    refine wp_region_scr (.take 0 (.take 1 (.take 2 (.take 3 (.take 4 (.op 5 (.take 6 (.take 7 (.take 8 (.take 9 (.take 10 (.op 11 (.take 12 (.take 13 (.take 14 (.take 15 (.take 16 (.take 17 (.take 18 (.take 19 (.take 20 (.take 21 (.take 22 (.take 23 (.op 24 (.take 25 (.take 26 (.take 27 (.take 28 (.take 29 .done)))))))))))))))))))))))))))))) (fun kz w => (kz ≤ 30 → w.rangeAt g 0 (V.cells x) ∧ w.rangeAt g 3 (V.cells y)) ∧ True) (by kernel_rfl) (by kernel_rfl) (by intro c a d v w h; cases d <;> exact h) ?_
    repeat
      first
      | (refine wpT_pure rfl rfl rfl ?_; apply Exists.intro; refine ⟨?_, ?_⟩; intro w; (first | (first | exact run_load_mid _ _ rfl g _ rfl _ _ qa.1 Tryd.underlying28 rfl size_V | exact run_load_mid _ _ rfl g _ rfl _ _ qa.2 Tryd.underlying28 rfl size_V | (go_simp <;> rfl)) | (go_simp <;> rfl)); simp only [Act.put, List.setIfInBounds_toArray, List.set_cons_zero, List.set_cons_succ])
      | (refine wpT_take 30 rfl rfl (by decide +kernel) ⟨fun _ => ⟨HS.out.x, HS.out.y⟩, trivial⟩ ?_; apply Exists.intro; refine ⟨?_, ?_⟩; intro w hw; (have qa := hw.1 (Nat.le_refl _); have qb := hw.2); (first | (first | exact run_load_mid _ _ rfl g _ rfl _ _ qa.1 Tryd.underlying28 rfl size_V | exact run_load_mid _ _ rfl g _ rfl _ _ qa.2 Tryd.underlying28 rfl size_V | (go_simp <;> rfl)) | (go_simp <;> rfl)); simp only [Act.put, List.setIfInBounds_toArray, List.set_cons_zero, List.set_cons_succ])
      | (refine wpT_skip rfl rfl ?_; simp only [Act.put, List.setIfInBounds_toArray, List.set_cons_zero, List.set_cons_succ])
    refine wpT_op rfl ?_
    go_wp2_with ((go_at_call 15; refine (HR1.out _).mono ?_; rintro e w_ ⟨rfl, f⟩; replace HS := hid (HS.out.fre f); clear f))
    (refine ⟨?_, ?_⟩; focus (intro kz hk hk2 hh; first | (exfalso; simp at hk2; omega) | exact hh | exact (fun h => absurd h (by omega)) | obtain ⟨qa, qb⟩ := hh; first | exact ⟨qa, qb⟩ | (refine ⟨fun h => absurd h (by omega), ?_⟩; first | exact qb | (exact ⟨HS.out.x, HS.out.y⟩)) | (refine ⟨fun h => ?_, ?_⟩; (have qa := qa h); all_goals (first | exact qa | exact qb | (exact ⟨HS.out.x, HS.out.y⟩)))))
    repeat
      first
      | (refine wpT_pure rfl rfl rfl ?_; apply Exists.intro; refine ⟨?_, ?_⟩; intro w; (first | (first | exact run_load_mid _ _ rfl g _ rfl _ _ qa.1 Tryd.underlying28 rfl size_V | exact run_load_mid _ _ rfl g _ rfl _ _ qa.2 Tryd.underlying28 rfl size_V | (go_simp <;> rfl)) | (go_simp <;> rfl)); simp only [Act.put, List.setIfInBounds_toArray, List.set_cons_zero, List.set_cons_succ])
      | (refine wpT_take 30 rfl rfl (by decide +kernel) ⟨fun _ => ⟨HS.out.x, HS.out.y⟩, trivial⟩ ?_; apply Exists.intro; refine ⟨?_, ?_⟩; intro w hw; (have qa := hw.1 (Nat.le_refl _); have qb := hw.2); (first | (first | exact run_load_mid _ _ rfl g _ rfl _ _ qa.1 Tryd.underlying28 rfl size_V | exact run_load_mid _ _ rfl g _ rfl _ _ qa.2 Tryd.underlying28 rfl size_V | (go_simp <;> rfl)) | (go_simp <;> rfl)); simp only [Act.put, List.setIfInBounds_toArray, List.set_cons_zero, List.set_cons_succ])
      | (refine wpT_skip rfl rfl ?_; simp only [Act.put, List.setIfInBounds_toArray, List.set_cons_zero, List.set_cons_succ])
    refine wpT_op rfl ?_
    go_wp2_with ((go_at_call 15; refine (HR2.out _).mono ?_; rintro e w_ ⟨rfl, f⟩; replace HS := hid (HS.out.fre f); clear f))
    (refine ⟨?_, ?_⟩; focus (intro kz hk hk2 hh; first | (exfalso; simp at hk2; omega) | exact hh | exact (fun h => absurd h (by omega)) | obtain ⟨qa, qb⟩ := hh; first | exact ⟨qa, qb⟩ | (refine ⟨fun h => absurd h (by omega), ?_⟩; first | exact qb | (exact ⟨HS.out.x, HS.out.y⟩)) | (refine ⟨fun h => ?_, ?_⟩; (have qa := qa h); all_goals (first | exact qa | exact qb | (exact ⟨HS.out.x, HS.out.y⟩)))))
    repeat
      first
      | (refine wpT_pure rfl rfl rfl ?_; apply Exists.intro; refine ⟨?_, ?_⟩; intro w; (first | (first | exact run_load_mid _ _ rfl g _ rfl _ _ qa.1 Tryd.underlying28 rfl size_V | exact run_load_mid _ _ rfl g _ rfl _ _ qa.2 Tryd.underlying28 rfl size_V | (go_simp <;> rfl)) | (go_simp <;> rfl)); simp only [Act.put, List.setIfInBounds_toArray, List.set_cons_zero, List.set_cons_succ])
      | (refine wpT_take 30 rfl rfl (by decide +kernel) ⟨fun _ => ⟨HS.out.x, HS.out.y⟩, trivial⟩ ?_; apply Exists.intro; refine ⟨?_, ?_⟩; intro w hw; (have qa := hw.1 (Nat.le_refl _); have qb := hw.2); (first | (first | exact run_load_mid _ _ rfl g _ rfl _ _ qa.1 Tryd.underlying28 rfl size_V | exact run_load_mid _ _ rfl g _ rfl _ _ qa.2 Tryd.underlying28 rfl size_V | (go_simp <;> rfl)) | (go_simp <;> rfl)); simp only [Act.put, List.setIfInBounds_toArray, List.set_cons_zero, List.set_cons_succ])
      | (refine wpT_skip rfl rfl ?_; simp only [Act.put, List.setIfInBounds_toArray, List.set_cons_zero, List.set_cons_succ])
    refine wpT_op rfl ?_
    go_wp2_with ((go_at_call 17; refine (HC.out _ HS.out).mono ?_; rintro e w_ ⟨rfl, f⟩; replace HS := hid (HS.out.fre f); clear f))
    (refine ⟨?_, ?_⟩; focus (intro kz hk hk2 hh; first | (exfalso; simp at hk2; omega) | exact hh | exact (fun h => absurd h (by omega)) | obtain ⟨qa, qb⟩ := hh; first | exact ⟨qa, qb⟩ | (refine ⟨fun h => absurd h (by omega), ?_⟩; first | exact qb | (exact ⟨HS.out.x, HS.out.y⟩)) | (refine ⟨fun h => ?_, ?_⟩; (have qa := qa h); all_goals (first | exact qa | exact qb | (exact ⟨HS.out.x, HS.out.y⟩)))))
    repeat
      first
      | (refine wpT_pure rfl rfl rfl ?_; apply Exists.intro; refine ⟨?_, ?_⟩; intro w; (first | (first | exact run_load_mid _ _ rfl g _ rfl _ _ qa.1 Tryd.underlying28 rfl size_V | exact run_load_mid _ _ rfl g _ rfl _ _ qa.2 Tryd.underlying28 rfl size_V | (go_simp <;> rfl)) | (go_simp <;> rfl)); simp only [Act.put, List.setIfInBounds_toArray, List.set_cons_zero, List.set_cons_succ])
      | (refine wpT_take 30 rfl rfl (by decide +kernel) ⟨fun _ => ⟨HS.out.x, HS.out.y⟩, trivial⟩ ?_; apply Exists.intro; refine ⟨?_, ?_⟩; intro w hw; (have qa := hw.1 (Nat.le_refl _); have qb := hw.2); (first | (first | exact run_load_mid _ _ rfl g _ rfl _ _ qa.1 Tryd.underlying28 rfl size_V | exact run_load_mid _ _ rfl g _ rfl _ _ qa.2 Tryd.underlying28 rfl size_V | (go_simp <;> rfl)) | (go_simp <;> rfl)); simp only [Act.put, List.setIfInBounds_toArray, List.set_cons_zero, List.set_cons_succ])
      | (refine wpT_skip rfl rfl ?_; simp only [Act.put, List.setIfInBounds_toArray, List.set_cons_zero, List.set_cons_succ])
    refine wpT_nil ?_
    go_wp2_with (fail)
    go_ret
    exact ⟨rfl, HS.out.fr⟩
  | true =>
    cases q with
    | false =>
      clear HZ
      refine wp_region_scr (.take 0 (.take 1 (.take 2 (.take 3 (.take 4 (.op 5 (.take 6 (.take 7 (.take 8 (.take 9 (.take 10 (.op 11 (.take 12 (.take 13 (.take 14 (.take 15 (.take 16 (.take 17 (.take 18 (.take 19 (.take 20 (.take 21 (.take 22 (.take 23 (.op 24 (.take 25 (.take 26 (.take 27 (.take 28 (.take 29 .done)))))))))))))))))))))))))))))) (fun kz w => (kz ≤ 30 → w.rangeAt g 0 (V.cells x) ∧ w.rangeAt g 3 (V.cells y)) ∧ True) (by kernel_rfl) (by kernel_rfl) (by intro c a d v w h; cases d <;> exact h) ?_
      repeat
        first
        | (refine wpT_pure rfl rfl rfl ?_; apply Exists.intro; refine ⟨?_, ?_⟩; intro w; (first | (first | exact run_load_mid _ _ rfl g _ rfl _ _ qa.1 Tryd.underlying28 rfl size_V | exact run_load_mid _ _ rfl g _ rfl _ _ qa.2 Tryd.underlying28 rfl size_V | (go_simp <;> rfl)) | (go_simp <;> rfl)); simp only [Act.put, List.setIfInBounds_toArray, List.set_cons_zero, List.set_cons_succ])
        | (refine wpT_take 30 rfl rfl (by decide +kernel) ⟨fun _ => ⟨HS.out.x, HS.out.y⟩, trivial⟩ ?_; apply Exists.intro; refine ⟨?_, ?_⟩; intro w hw; (have qa := hw.1 (Nat.le_refl _); have qb := hw.2); (first | (first | exact run_load_mid _ _ rfl g _ rfl _ _ qa.1 Tryd.underlying28 rfl size_V | exact run_load_mid _ _ rfl g _ rfl _ _ qa.2 Tryd.underlying28 rfl size_V | (go_simp <;> rfl)) | (go_simp <;> rfl)); simp only [Act.put, List.setIfInBounds_toArray, List.set_cons_zero, List.set_cons_succ])
        | (refine wpT_skip rfl rfl ?_; simp only [Act.put, List.setIfInBounds_toArray, List.set_cons_zero, List.set_cons_succ])
      refine wpT_op rfl ?_
      go_wp2_with ((go_at_call 15; refine (HR1.out _).mono ?_; rintro e w_ ⟨rfl, f⟩; replace HS := hid (HS.out.fre f); clear f))
      (refine ⟨?_, ?_⟩; focus (intro kz hk hk2 hh; first | (exfalso; simp at hk2; omega) | exact hh | exact (fun h => absurd h (by omega)) | obtain ⟨qa, qb⟩ := hh; first | exact ⟨qa, qb⟩ | (refine ⟨fun h => absurd h (by omega), ?_⟩; first | exact qb | (exact ⟨HS.out.x, HS.out.y⟩)) | (refine ⟨fun h => ?_, ?_⟩; (have qa := qa h); all_goals (first | exact qa | exact qb | (exact ⟨HS.out.x, HS.out.y⟩)))))
      repeat
        first
        | (refine wpT_pure rfl rfl rfl ?_; apply Exists.intro; refine ⟨?_, ?_⟩; intro w; (first | (first | exact run_load_mid _ _ rfl g _ rfl _ _ qa.1 Tryd.underlying28 rfl size_V | exact run_load_mid _ _ rfl g _ rfl _ _ qa.2 Tryd.underlying28 rfl size_V | (go_simp <;> rfl)) | (go_simp <;> rfl)); simp only [Act.put, List.setIfInBounds_toArray, List.set_cons_zero, List.set_cons_succ])
        | (refine wpT_take 30 rfl rfl (by decide +kernel) ⟨fun _ => ⟨HS.out.x, HS.out.y⟩, trivial⟩ ?_; apply Exists.intro; refine ⟨?_, ?_⟩; intro w hw; (have qa := hw.1 (Nat.le_refl _); have qb := hw.2); (first | (first | exact run_load_mid _ _ rfl g _ rfl _ _ qa.1 Tryd.underlying28 rfl size_V | exact run_load_mid _ _ rfl g _ rfl _ _ qa.2 Tryd.underlying28 rfl size_V | (go_simp <;> rfl)) | (go_simp <;> rfl)); simp only [Act.put, List.setIfInBounds_toArray, List.set_cons_zero, List.set_cons_succ])
        | (refine wpT_skip rfl rfl ?_; simp only [Act.put, List.setIfInBounds_toArray, List.set_cons_zero, List.set_cons_succ])
      refine wpT_op rfl ?_
      go_wp2_with ((go_at_call 15; refine (HR2.out _).mono ?_; rintro e w_ ⟨rfl, f⟩; replace HS := hid (HS.out.fre f); clear f))
      (refine ⟨?_, ?_⟩; focus (intro kz hk hk2 hh; first | (exfalso; simp at hk2; omega) | exact hh | exact (fun h => absurd h (by omega)) | obtain ⟨qa, qb⟩ := hh; first | exact ⟨qa, qb⟩ | (refine ⟨fun h => absurd h (by omega), ?_⟩; first | exact qb | (exact ⟨HS.out.x, HS.out.y⟩)) | (refine ⟨fun h => ?_, ?_⟩; (have qa := qa h); all_goals (first | exact qa | exact qb | (exact ⟨HS.out.x, HS.out.y⟩)))))
      repeat
        first
        | (refine wpT_pure rfl rfl rfl ?_; apply Exists.intro; refine ⟨?_, ?_⟩; intro w; (first | (first | exact run_load_mid _ _ rfl g _ rfl _ _ qa.1 Tryd.underlying28 rfl size_V | exact run_load_mid _ _ rfl g _ rfl _ _ qa.2 Tryd.underlying28 rfl size_V | (go_simp <;> rfl)) | (go_simp <;> rfl)); simp only [Act.put, List.setIfInBounds_toArray, List.set_cons_zero, List.set_cons_succ])
        | (refine wpT_take 30 rfl rfl (by decide +kernel) ⟨fun _ => ⟨HS.out.x, HS.out.y⟩, trivial⟩ ?_; apply Exists.intro; refine ⟨?_, ?_⟩; intro w hw; (have qa := hw.1 (Nat.le_refl _); have qb := hw.2); (first | (first | exact run_load_mid _ _ rfl g _ rfl _ _ qa.1 Tryd.underlying28 rfl size_V | exact run_load_mid _ _ rfl g _ rfl _ _ qa.2 Tryd.underlying28 rfl size_V | (go_simp <;> rfl)) | (go_simp <;> rfl)); simp only [Act.put, List.setIfInBounds_toArray, List.set_cons_zero, List.set_cons_succ])
        | (refine wpT_skip rfl rfl ?_; simp only [Act.put, List.setIfInBounds_toArray, List.set_cons_zero, List.set_cons_succ])
      refine wpT_op rfl ?_
      go_wp2_with ((go_at_call 17; refine (HC.out _ HS.out).mono ?_; rintro e w_ ⟨rfl, f⟩; replace HS := hid (HS.out.fre f); clear f))
      (refine ⟨?_, ?_⟩; focus (intro kz hk hk2 hh; first | (exfalso; simp at hk2; omega) | exact hh | exact (fun h => absurd h (by omega)) | obtain ⟨qa, qb⟩ := hh; first | exact ⟨qa, qb⟩ | (refine ⟨fun h => absurd h (by omega), ?_⟩; first | exact qb | (exact ⟨HS.out.x, HS.out.y⟩)) | (refine ⟨fun h => ?_, ?_⟩; (have qa := qa h); all_goals (first | exact qa | exact qb | (exact ⟨HS.out.x, HS.out.y⟩)))))
      repeat
        first
        | (refine wpT_pure rfl rfl rfl ?_; apply Exists.intro; refine ⟨?_, ?_⟩; intro w; (first | (first | exact run_load_mid _ _ rfl g _ rfl _ _ qa.1 Tryd.underlying28 rfl size_V | exact run_load_mid _ _ rfl g _ rfl _ _ qa.2 Tryd.underlying28 rfl size_V | (go_simp <;> rfl)) | (go_simp <;> rfl)); simp only [Act.put, List.setIfInBounds_toArray, List.set_cons_zero, List.set_cons_succ])
        | (refine wpT_take 30 rfl rfl (by decide +kernel) ⟨fun _ => ⟨HS.out.x, HS.out.y⟩, trivial⟩ ?_; apply Exists.intro; refine ⟨?_, ?_⟩; intro w hw; (have qa := hw.1 (Nat.le_refl _); have qb := hw.2); (first | (first | exact run_load_mid _ _ rfl g _ rfl _ _ qa.1 Tryd.underlying28 rfl size_V | exact run_load_mid _ _ rfl g _ rfl _ _ qa.2 Tryd.underlying28 rfl size_V | (go_simp <;> rfl)) | (go_simp <;> rfl)); simp only [Act.put, List.setIfInBounds_toArray, List.set_cons_zero, List.set_cons_succ])
        | (refine wpT_skip rfl rfl ?_; simp only [Act.put, List.setIfInBounds_toArray, List.set_cons_zero, List.set_cons_succ])
      refine wpT_nil ?_
      go_wp2_with (fail)
      go_ret
      exact ⟨rfl, HS.out.fr⟩
    | true =>
      have hz := HZ.out rfl rfl
      clear HZ
      by_cases c0 : c = 0
      · subst c0
        have hz1 : ((bs s).toList == (bs t).toList) = true := hz
        clear hz
        refine wp_region_scr (.take 0 (.take 1 (.take 2 (.take 3 (.take 4 (.op 5 (.take 6 (.take 7 (.take 8 (.take 9 (.take 10 (.op 11 (.take 12 (.take 13 (.take 14 (.take 15 (.take 16 (.take 17 (.take 18 (.take 19 (.take 20 (.take 21 (.take 22 (.take 23 (.op 24 (.take 25 (.take 26 (.take 27 (.take 28 (.take 29 .done)))))))))))))))))))))))))))))) (fun kz w => (kz ≤ 30 → w.rangeAt g 0 (V.cells x) ∧ w.rangeAt g 3 (V.cells y)) ∧ True) (by kernel_rfl) (by kernel_rfl) (by intro c a d v w h; cases d <;> exact h) ?_
        repeat
          first
          | (refine wpT_pure rfl rfl rfl ?_; apply Exists.intro; refine ⟨?_, ?_⟩; intro w; (first | (first | exact run_load_mid _ _ rfl g _ rfl _ _ qa.1 Tryd.underlying28 rfl size_V | exact run_load_mid _ _ rfl g _ rfl _ _ qa.2 Tryd.underlying28 rfl size_V | (go_simp <;> rfl)) | (go_simp <;> rfl)); simp only [Act.put, List.setIfInBounds_toArray, List.set_cons_zero, List.set_cons_succ])
          | (refine wpT_take 30 rfl rfl (by decide +kernel) ⟨fun _ => ⟨HS.out.x, HS.out.y⟩, trivial⟩ ?_; apply Exists.intro; refine ⟨?_, ?_⟩; intro w hw; (have qa := hw.1 (Nat.le_refl _); have qb := hw.2); (first | (first | exact run_load_mid _ _ rfl g _ rfl _ _ qa.1 Tryd.underlying28 rfl size_V | exact run_load_mid _ _ rfl g _ rfl _ _ qa.2 Tryd.underlying28 rfl size_V | (go_simp <;> rfl)) | (go_simp <;> rfl)); simp only [Act.put, List.setIfInBounds_toArray, List.set_cons_zero, List.set_cons_succ])
          | (refine wpT_skip rfl rfl ?_; simp only [Act.put, List.setIfInBounds_toArray, List.set_cons_zero, List.set_cons_succ])
        refine wpT_op rfl ?_
        go_wp2_with ((go_at_call 15; refine (HR1.out _).mono ?_; rintro e w_ ⟨rfl, f⟩; replace HS := hid (HS.out.fre f); clear f))
        (refine ⟨?_, ?_⟩; focus (intro kz hk hk2 hh; first | (exfalso; simp at hk2; omega) | exact hh | exact (fun h => absurd h (by omega)) | obtain ⟨qa, qb⟩ := hh; first | exact ⟨qa, qb⟩ | (refine ⟨fun h => absurd h (by omega), ?_⟩; first | exact qb | (exact ⟨HS.out.x, HS.out.y⟩)) | (refine ⟨fun h => ?_, ?_⟩; (have qa := qa h); all_goals (first | exact qa | exact qb | (exact ⟨HS.out.x, HS.out.y⟩)))))
        repeat
          first
          | (refine wpT_pure rfl rfl rfl ?_; apply Exists.intro; refine ⟨?_, ?_⟩; intro w; (first | (first | exact run_load_mid _ _ rfl g _ rfl _ _ qa.1 Tryd.underlying28 rfl size_V | exact run_load_mid _ _ rfl g _ rfl _ _ qa.2 Tryd.underlying28 rfl size_V | (go_simp <;> rfl)) | (go_simp <;> rfl)); simp only [Act.put, List.setIfInBounds_toArray, List.set_cons_zero, List.set_cons_succ])
          | (refine wpT_take 30 rfl rfl (by decide +kernel) ⟨fun _ => ⟨HS.out.x, HS.out.y⟩, trivial⟩ ?_; apply Exists.intro; refine ⟨?_, ?_⟩; intro w hw; (have qa := hw.1 (Nat.le_refl _); have qb := hw.2); (first | (first | exact run_load_mid _ _ rfl g _ rfl _ _ qa.1 Tryd.underlying28 rfl size_V | exact run_load_mid _ _ rfl g _ rfl _ _ qa.2 Tryd.underlying28 rfl size_V | (go_simp <;> rfl)) | (go_simp <;> rfl)); simp only [Act.put, List.setIfInBounds_toArray, List.set_cons_zero, List.set_cons_succ])
          | (refine wpT_skip rfl rfl ?_; simp only [Act.put, List.setIfInBounds_toArray, List.set_cons_zero, List.set_cons_succ])
        refine wpT_op rfl ?_
        go_wp2_with ((go_at_call 15; refine (HR2.out _).mono ?_; rintro e w_ ⟨rfl, f⟩; replace HS := hid (HS.out.fre f); clear f))
        (refine ⟨?_, ?_⟩; focus (intro kz hk hk2 hh; first | (exfalso; simp at hk2; omega) | exact hh | exact (fun h => absurd h (by omega)) | obtain ⟨qa, qb⟩ := hh; first | exact ⟨qa, qb⟩ | (refine ⟨fun h => absurd h (by omega), ?_⟩; first | exact qb | (exact ⟨HS.out.x, HS.out.y⟩)) | (refine ⟨fun h => ?_, ?_⟩; (have qa := qa h); all_goals (first | exact qa | exact qb | (exact ⟨HS.out.x, HS.out.y⟩)))))
        repeat
          first
          | (refine wpT_pure rfl rfl rfl ?_; apply Exists.intro; refine ⟨?_, ?_⟩; intro w; (first | (first | exact run_load_mid _ _ rfl g _ rfl _ _ qa.1 Tryd.underlying28 rfl size_V | exact run_load_mid _ _ rfl g _ rfl _ _ qa.2 Tryd.underlying28 rfl size_V | (go_simp <;> rfl)) | (go_simp <;> rfl)); simp only [Act.put, List.setIfInBounds_toArray, List.set_cons_zero, List.set_cons_succ])
          | (refine wpT_take 30 rfl rfl (by decide +kernel) ⟨fun _ => ⟨HS.out.x, HS.out.y⟩, trivial⟩ ?_; apply Exists.intro; refine ⟨?_, ?_⟩; intro w hw; (have qa := hw.1 (Nat.le_refl _); have qb := hw.2); (first | (first | exact run_load_mid _ _ rfl g _ rfl _ _ qa.1 Tryd.underlying28 rfl size_V | exact run_load_mid _ _ rfl g _ rfl _ _ qa.2 Tryd.underlying28 rfl size_V | (go_simp <;> rfl)) | (go_simp <;> rfl)); simp only [Act.put, List.setIfInBounds_toArray, List.set_cons_zero, List.set_cons_succ])
          | (refine wpT_skip rfl rfl ?_; simp only [Act.put, List.setIfInBounds_toArray, List.set_cons_zero, List.set_cons_succ])
        refine wpT_op rfl ?_
        go_wp2_with ((go_at_call 17; refine (HC.out _ HS.out).mono ?_; rintro e w_ ⟨rfl, f⟩; replace HS := hid (HS.out.fre f); clear f))
        (refine ⟨?_, ?_⟩; focus (intro kz hk hk2 hh; first | (exfalso; simp at hk2; omega) | exact hh | exact (fun h => absurd h (by omega)) | obtain ⟨qa, qb⟩ := hh; first | exact ⟨qa, qb⟩ | (refine ⟨fun h => absurd h (by omega), ?_⟩; first | exact qb | (exact ⟨HS.out.x, HS.out.y⟩)) | (refine ⟨fun h => ?_, ?_⟩; (have qa := qa h); all_goals (first | exact qa | exact qb | (exact ⟨HS.out.x, HS.out.y⟩)))))
        repeat
          first
          | (refine wpT_pure rfl rfl rfl ?_; apply Exists.intro; refine ⟨?_, ?_⟩; intro w; (first | (first | exact run_load_mid _ _ rfl g _ rfl _ _ qa.1 Tryd.underlying28 rfl size_V | exact run_load_mid _ _ rfl g _ rfl _ _ qa.2 Tryd.underlying28 rfl size_V | (go_simp <;> rfl)) | (go_simp <;> rfl)); simp only [Act.put, List.setIfInBounds_toArray, List.set_cons_zero, List.set_cons_succ])
          | (refine wpT_take 30 rfl rfl (by decide +kernel) ⟨fun _ => ⟨HS.out.x, HS.out.y⟩, trivial⟩ ?_; apply Exists.intro; refine ⟨?_, ?_⟩; intro w hw; (have qa := hw.1 (Nat.le_refl _); have qb := hw.2); (first | (first | exact run_load_mid _ _ rfl g _ rfl _ _ qa.1 Tryd.underlying28 rfl size_V | exact run_load_mid _ _ rfl g _ rfl _ _ qa.2 Tryd.underlying28 rfl size_V | (go_simp <;> rfl)) | (go_simp <;> rfl)); simp only [Act.put, List.setIfInBounds_toArray, List.set_cons_zero, List.set_cons_succ])
          | (refine wpT_skip rfl rfl ?_; simp only [Act.put, List.setIfInBounds_toArray, List.set_cons_zero, List.set_cons_succ])
        refine wpT_nil ?_
        go_wp2_with (fail)
        go_ret
        exact ⟨rfl, HS.out.fr⟩
      · have hc0 : (c == 0) = false := by simpa using c0
        rw [hc0] at hz
        refine wp_region_scr (.take 0 (.take 1 (.take 2 (.take 3 (.take 4 (.op 5 (.take 6 (.take 7 (.take 8 (.take 9 (.take 10 (.op 11 (.take 12 (.take 13 (.take 14 (.take 15 (.take 16 (.take 17 (.take 18 (.take 19 (.take 20 (.take 21 (.take 22 (.take 23 (.op 24 (.take 25 (.take 26 (.take 27 (.take 28 (.take 29 .done)))))))))))))))))))))))))))))) (fun kz w => (kz ≤ 30 → w.rangeAt g 0 (V.cells x) ∧ w.rangeAt g 3 (V.cells y)) ∧ True) (by kernel_rfl) (by kernel_rfl) (by intro c a d v w h; cases d <;> exact h) ?_
        repeat
          first
          | (refine wpT_pure rfl rfl rfl ?_; apply Exists.intro; refine ⟨?_, ?_⟩; intro w; (first | (first | exact run_load_mid _ _ rfl g _ rfl _ _ qa.1 Tryd.underlying28 rfl size_V | exact run_load_mid _ _ rfl g _ rfl _ _ qa.2 Tryd.underlying28 rfl size_V | (go_simp <;> rfl)) | (go_simp <;> rfl)); simp only [Act.put, List.setIfInBounds_toArray, List.set_cons_zero, List.set_cons_succ])
          | (refine wpT_take 30 rfl rfl (by decide +kernel) ⟨fun _ => ⟨HS.out.x, HS.out.y⟩, trivial⟩ ?_; apply Exists.intro; refine ⟨?_, ?_⟩; intro w hw; (have qa := hw.1 (Nat.le_refl _); have qb := hw.2); (first | (first | exact run_load_mid _ _ rfl g _ rfl _ _ qa.1 Tryd.underlying28 rfl size_V | exact run_load_mid _ _ rfl g _ rfl _ _ qa.2 Tryd.underlying28 rfl size_V | (go_simp <;> rfl)) | (go_simp <;> rfl)); simp only [Act.put, List.setIfInBounds_toArray, List.set_cons_zero, List.set_cons_succ])
          | (refine wpT_skip rfl rfl ?_; simp only [Act.put, List.setIfInBounds_toArray, List.set_cons_zero, List.set_cons_succ])
        refine wpT_op rfl ?_
        go_wp2_with ((go_at_call 15; refine (HR1.out _).mono ?_; rintro e w_ ⟨rfl, f⟩; replace HS := hid (HS.out.fre f); clear f))
        (refine ⟨?_, ?_⟩; focus (intro kz hk hk2 hh; first | (exfalso; simp at hk2; omega) | exact hh | exact (fun h => absurd h (by omega)) | obtain ⟨qa, qb⟩ := hh; first | exact ⟨qa, qb⟩ | (refine ⟨fun h => absurd h (by omega), ?_⟩; first | exact qb | (exact ⟨HS.out.x, HS.out.y⟩)) | (refine ⟨fun h => ?_, ?_⟩; (have qa := qa h); all_goals (first | exact qa | exact qb | (exact ⟨HS.out.x, HS.out.y⟩)))))
        repeat
          first
          | (refine wpT_pure rfl rfl rfl ?_; apply Exists.intro; refine ⟨?_, ?_⟩; intro w; (first | (first | exact run_load_mid _ _ rfl g _ rfl _ _ qa.1 Tryd.underlying28 rfl size_V | exact run_load_mid _ _ rfl g _ rfl _ _ qa.2 Tryd.underlying28 rfl size_V | (go_simp <;> rfl)) | (go_simp <;> rfl)); simp only [Act.put, List.setIfInBounds_toArray, List.set_cons_zero, List.set_cons_succ])
          | (refine wpT_take 30 rfl rfl (by decide +kernel) ⟨fun _ => ⟨HS.out.x, HS.out.y⟩, trivial⟩ ?_; apply Exists.intro; refine ⟨?_, ?_⟩; intro w hw; (have qa := hw.1 (Nat.le_refl _); have qb := hw.2); (first | (first | exact run_load_mid _ _ rfl g _ rfl _ _ qa.1 Tryd.underlying28 rfl size_V | exact run_load_mid _ _ rfl g _ rfl _ _ qa.2 Tryd.underlying28 rfl size_V | (go_simp <;> rfl)) | (go_simp <;> rfl)); simp only [Act.put, List.setIfInBounds_toArray, List.set_cons_zero, List.set_cons_succ])
          | (refine wpT_skip rfl rfl ?_; simp only [Act.put, List.setIfInBounds_toArray, List.set_cons_zero, List.set_cons_succ])
        refine wpT_op rfl ?_
        go_wp2_with ((go_at_call 15; refine (HR2.out _).mono ?_; rintro e w_ ⟨rfl, f⟩; replace HS := hid (HS.out.fre f); clear f))
        (refine ⟨?_, ?_⟩; focus (intro kz hk hk2 hh; first | (exfalso; simp at hk2; omega) | exact hh | exact (fun h => absurd h (by omega)) | obtain ⟨qa, qb⟩ := hh; first | exact ⟨qa, qb⟩ | (refine ⟨fun h => absurd h (by omega), ?_⟩; first | exact qb | (exact ⟨HS.out.x, HS.out.y⟩)) | (refine ⟨fun h => ?_, ?_⟩; (have qa := qa h); all_goals (first | exact qa | exact qb | (exact ⟨HS.out.x, HS.out.y⟩)))))
        repeat
          first
          | (refine wpT_pure rfl rfl rfl ?_; apply Exists.intro; refine ⟨?_, ?_⟩; intro w; (first | (first | exact run_load_mid _ _ rfl g _ rfl _ _ qa.1 Tryd.underlying28 rfl size_V | exact run_load_mid _ _ rfl g _ rfl _ _ qa.2 Tryd.underlying28 rfl size_V | (go_simp <;> rfl)) | (go_simp <;> rfl)); simp only [Act.put, List.setIfInBounds_toArray, List.set_cons_zero, List.set_cons_succ])
          | (refine wpT_take 30 rfl rfl (by decide +kernel) ⟨fun _ => ⟨HS.out.x, HS.out.y⟩, trivial⟩ ?_; apply Exists.intro; refine ⟨?_, ?_⟩; intro w hw; (have qa := hw.1 (Nat.le_refl _); have qb := hw.2); (first | (first | exact run_load_mid _ _ rfl g _ rfl _ _ qa.1 Tryd.underlying28 rfl size_V | exact run_load_mid _ _ rfl g _ rfl _ _ qa.2 Tryd.underlying28 rfl size_V | (go_simp <;> rfl)) | (go_simp <;> rfl)); simp only [Act.put, List.setIfInBounds_toArray, List.set_cons_zero, List.set_cons_succ])
          | (refine wpT_skip rfl rfl ?_; simp only [Act.put, List.setIfInBounds_toArray, List.set_cons_zero, List.set_cons_succ])
        refine wpT_op rfl ?_
        go_wp2_with ((go_at_call 17; refine (HC.out _ HS.out).mono ?_; rintro e w_ ⟨rfl, f⟩; replace HS := hid (HS.out.fre f); clear f))
        (refine ⟨?_, ?_⟩; focus (intro kz hk hk2 hh; first | (exfalso; simp at hk2; omega) | exact hh | exact (fun h => absurd h (by omega)) | obtain ⟨qa, qb⟩ := hh; first | exact ⟨qa, qb⟩ | (refine ⟨fun h => absurd h (by omega), ?_⟩; first | exact qb | (exact ⟨HS.out.x, HS.out.y⟩)) | (refine ⟨fun h => ?_, ?_⟩; (have qa := qa h); all_goals (first | exact qa | exact qb | (exact ⟨HS.out.x, HS.out.y⟩)))))
        repeat
          first
          | (refine wpT_pure rfl rfl rfl ?_; apply Exists.intro; refine ⟨?_, ?_⟩; intro w; (first | (first | exact run_load_mid _ _ rfl g _ rfl _ _ qa.1 Tryd.underlying28 rfl size_V | exact run_load_mid _ _ rfl g _ rfl _ _ qa.2 Tryd.underlying28 rfl size_V | (go_simp <;> rfl)) | (go_simp <;> rfl)); simp only [Act.put, List.setIfInBounds_toArray, List.set_cons_zero, List.set_cons_succ])
          | (refine wpT_take 30 rfl rfl (by decide +kernel) ⟨fun _ => ⟨HS.out.x, HS.out.y⟩, trivial⟩ ?_; apply Exists.intro; refine ⟨?_, ?_⟩; intro w hw; (have qa := hw.1 (Nat.le_refl _); have qb := hw.2); (first | (first | exact run_load_mid _ _ rfl g _ rfl _ _ qa.1 Tryd.underlying28 rfl size_V | exact run_load_mid _ _ rfl g _ rfl _ _ qa.2 Tryd.underlying28 rfl size_V | (go_simp <;> rfl)) | (go_simp <;> rfl)); simp only [Act.put, List.setIfInBounds_toArray, List.set_cons_zero, List.set_cons_succ])
          | (refine wpT_skip rfl rfl ?_; simp only [Act.put, List.setIfInBounds_toArray, List.set_cons_zero, List.set_cons_succ])
        refine wpT_nil ?_
        go_wp2_with (fail)
        go_ret
        exact ⟨rfl, HS.out.fr⟩
end Go.Proofs.YtknpncpoojjbfaaDoor
namespace Go.Proofs.YtknpncpoojjbfaaDoor.valueText
open Go.ChangeShapes Go.WideShapes Go.ChangeAt Go.RowKit Go.VB Go.VB.Rec
set_option maxHeartbeats 400000 in
set_option maxRecDepth 100000 in
theorem lifted (os : Os) (started : os.Started) (H : Type) (enc : TypeId × Value → H) :
    ReturnsInHanded {} Tryd.checked os 10 .any (fun w args => (Rows.valueTextSpec.pre enc Tryd.prog Tryd.f10 Rows.valueTextRow.domain false w args ∧ laidMetH Tryd.prog Rows.valueTextRow.laid w) ∧ sizedMet enc Tryd.prog Tryd.f10 (OpenSpec.ofChange Rows.valueTextSpec) false w args) (Rows.valueTextSpec.post enc Tryd.prog Tryd.f10 false true false false) := by
  refine handed_and_shaped (C := Tryd.checked) (X := fun w _ => laidMetH Tryd.prog Rows.valueTextRow.laid w) (fun _ _ _ hh h => h.of_heap hh) own started (by kernel_rfl) Tryd.func10
    (ChangeSpec.witness_shaped (enc := enc) (C := Tryd.checked) (os := os) (X := fun w _ => laidMetH Tryd.prog Rows.valueTextRow.laid w) false (startW os) #[.agg #[.int .i64 0, .int .i64 0, .string ⟨#[]⟩], .agg #[.int .i64 0, .int .i64 0, .string ⟨#[]⟩]] 8 rfl (start_shaped os _) (by kernel_rfl) (by kernel_rfl) (by kernel_rfl) (start_met os _)) ?_
  intro W base args ds gs before hval0 hW hL hsh
  have GV : Hid (Gv W) := hid (gv_of hL hsh)
  clear hL hsh
  have hval : ∀ (j : Nat) t v, Tryd.f10.params[j]? = some t → args[j]? = some v → Value.okWide Tryd.prog W .any base t v := hval0
  have hW' := hW
  obtain ⟨p, q, hA0, hV, rfl, hfz, hnd⟩ := hW
  have hA : DataW.TrodAll enc Tryd.prog W 0 (fun _ => true) true Tryd.f10.params.toList args.toList ds p := hA0
  rw [Tryd.params10] at hA hval
  obtain ⟨v0, vs0, d0, ds0, p0, q0, hargs, rfl, rfl, h0, r0⟩ := trodAll_cons hA
  obtain ⟨v1, vs1, d1, ds1, p1, q1, rfl, rfl, rfl, h1, r1⟩ := trodAll_cons r0
  obtain ⟨rfl, rfl, rfl⟩ := trodAll_nil r1
  obtain rfl : args = #[v0, v1] := by cases args; simp_all
  obtain ⟨rfl, rfl⟩ := trodVars_none hV
  clear hA0 hval0
  refine Calls.mono (R := fun e w' => e = .returned (.bool true) ∧ Fr (fun _ => False) W w') ?_ fun e W' ⟨he, hf⟩ => ⟨_, he, post_law sound (by decide +kernel) rfl rfl (ht := Tryd.underlying4) (by rfl) hW' hf⟩
  obtain ⟨a, rfl, ia⟩ := open_val (hval 0 28 v0 rfl rfl) h0
  obtain ⟨b, rfl, ib⟩ := open_val (hval 1 28 v1 rfl rfl) h1
  exact Text_walk GV.out a b ia ib
theorem row_holds : Rows.ValueTextSaid :=
  OpenClaim.holds_of_wide 10 Tryd.f10 rfl rfl rfl rfl rfl rfl rfl ⟨rfl, rfl, rfl, rfl, rfl⟩ rfl rfl rfl rfl rfl (by kernel_rfl) Tryd.func10 (by kernel_rfl)
    (of_decide_eq_true (by kernel_rfl)) (by unfold Func.isWrapper; first | (rw [if_pos (by decide +kernel)]; kernel_rfl) | (rw [if_neg (by decide +kernel)]; exact ⟨rfl, rfl⟩))
    (fun os started H enc _ => lifted os started H enc)
theorem proved : Rows.ValueTextCardSaid :=
  Claim7.holds_tied_plain_at .later [] Rows.valueTextCard.laidKinds true Rows.valueTextCard.stood.harness true row_holds (fun _ h => by cases h) (by kernel_rfl) (fun _ h => by cases h) valueText_row_tie rfl ⟨rfl, rfl⟩ (by kernel_rfl) rfl
    (fun f fn hf hfn => by
      obtain rfl : f = 10 := Option.some.inj ((show Tryd.prog.funcNamed "vintner/vintnerlaw02.ValueText" = some 10 by kernel_rfl).symm.trans hf) |>.symm
      obtain rfl : fn = Tryd.f10 := (Option.some.inj (Tryd.func10.symm.trans hfn)).symm
      exact ⟨by kernel_rfl, fun j t ht => by
        rw [Tryd.params10] at ht
        have hm : t ∈ [28, 28] := by simpa using Array.mem_of_getElem? ht
        have hall : ([28, 28].all fun u => !Tryd.prog.wantsStandIn u) = true := by kernel_rfl
        exact (show Tryd.prog.wantsStandIn t = false by simpa using List.all_eq_true.1 hall t hm)⟩)
    (by kernel_rfl)
end Go.Proofs.YtknpncpoojjbfaaDoor.valueText
