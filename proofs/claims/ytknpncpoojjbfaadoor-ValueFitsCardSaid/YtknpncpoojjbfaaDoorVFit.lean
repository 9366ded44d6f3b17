/- Proved: for every two values and every integer the law ValueFits of chapter 02 returns true, and its arguments read afterwards as before. Conditions: none beyond the given statement, a tied card. -/
import Derived.Test.YtknpncpoojjbfaaDoorVF
import Derived.Test.YtknpncpoojjbfaaDoorVO
import Derived.Test.YtknpncpoojjbfaaDoorVR2
import Derived.Test.YtknpncpoojjbfaaDoorVAr
import Derived.Test.YtknpncpoojjbfaaDoorCards
import Derived.Test.YtknpncpoojjbfaaDoorTie
import Derived.SevenTiedAt
set_option linter.unusedVariables false
namespace Go.VB.Rec
/-- how many of the operators 1 .. k hold -/
def cnt (x y : V) (k : Nat) : Nat := ((List.range k).filter fun i => V.fits x ((i + 1 : Nat) : Int) y).length
theorem cnt_le (x y : V) (k : Nat) : cnt x y k ≤ k := by unfold cnt; have := List.length_filter_le (fun i : Nat => V.fits x ((i + 1 : Nat) : Int) y) (List.range k); rw [List.length_range] at this; exact this
theorem cnt_succ (x y : V) (k : Nat) : cnt x y (k + 1) = cnt x y k + if V.fits x ((k : Int) + 1) y then 1 else 0 := by
  unfold cnt
  rw [List.range_succ, List.filter_append, List.length_append]
  congr 1
  have e : ((k + 1 : Nat) : Int) = (k : Int) + 1 := by omega
  simp only [List.filter_cons, List.filter_nil, e]
  split <;> rfl
theorem cnt6 {x y : V} (h : x.k = y.k) (h1 : x.k = 1 ∨ x.k = 2) : cnt x y 6 = 3 := by
  have hf : ∀ op : Int, V.fits x op y = opHolds op (V.cmp x y) := fun op => by
    unfold V.fits
    have hr : rank x.k = x.k := by unfold rank; rw [if_pos (by omega)]
    rw [if_neg (by rw [← h, hr]; omega), if_neg (fun g => g h)]
  simp only [cnt_succ, hf]
  have h0 : cnt x y 0 = 0 := rfl
  rw [h0]
  rcases ord_cmp.rng x y with e | e | e <;> rw [e] <;> decide
end Go.VB.Rec
namespace Go.Proofs.YtknpncpoojjbfaaDoor
open Go.RowKit Go.VB Go.VB.Oct Go.VB.Rec
/-- two values in memory -/
structure TwoV (w0 W : World) (g : Nat) (x y : V) : Prop where
  x : W.rangeAt g 0 (V.cells x)
  y : W.rangeAt g 3 (V.cells y)
  gv : Gv W
  fr : Fr (fun _ => False) w0 W
theorem TwoV.fre {w0 W W' : World} {g : Nat} {x y : V} (h : TwoV w0 W g x y) (f : Fr (fun _ => False) W W') : TwoV w0 W' g x y :=
  ⟨fun i u hu => cell_fr (h.x i u hu) f (fun h => h), fun i u hu => cell_fr (h.y i u hu) f (fun h => h), h.gv.fre f, h.fr.trans f (fun _ h _ => h)⟩
theorem two_rows {B : Nat} {W : World} {a : Option Addr} {c : Nat} {x y : V} (h : Row 28 3 B W (.slice a 2 c) 2 ([x, y].flatMap V.cells)) : ∃ g, a = some ⟨g, 0, none⟩ ∧ W.rangeAt g 0 (V.cells x) ∧ W.rangeAt g 3 (V.cells y) := by
  obtain ⟨g, h1, _, h3⟩ := row_range h (by simp [V.cells])
  refine ⟨g, h1, fun i u hu => ?_, fun i u hu => ?_⟩
  · have hi : i < 3 := (List.getElem?_eq_some_iff.1 hu).1
    exact h3 i u (by rw [List.flatMap_cons, List.getElem?_append_left hi]; exact hu)
  · have := h3 (3 + i) u (by rw [List.flatMap_cons, List.getElem?_append_right (by simp [V.cells]), List.flatMap_cons, List.flatMap_nil, List.append_nil]; simpa [V.cells] using hu)
    simpa using this
set_option maxRecDepth 20000 in
set_option maxHeartbeats 8000000 in
theorem Fits_walk {w : World} (G : Gv w) (a b : V) (op : Int) :
    Calls Tryd.prog 9 #[vagg a, vagg b, .int .i64 op] w fun e w' => e = .returned (.bool true) ∧ Fr (fun _ => False) w w' := by
  have HG := hid G
  have B0 := hid ((Blk.new w a.cells 28).alloc (.cells b.cells.toArray 28))
  have B1 := hid (Blk.new (w.alloc (.cells a.cells.toArray 28)) b.cells 28)
  have F0 := hid (((Fr.refl (fun _ => False) w).alloc (.cells a.cells.toArray 28)).alloc (.cells b.cells.toArray 28))
  have HSA := hid (sanity_go (G.fre F0.out))
  have hcut : cutRow [a, b] = [a.cut, b.cut] := rfl
  have HXS := hid (show a.cut.s.length ≤ 60 from by unfold V.cut; dsimp only; rw [List.length_take]; omega)
  have HYS := hid (show b.cut.s.length ≤ 60 from by unfold V.cut; dsimp only; rw [List.length_take]; omega)
  clear G
  simp only [World.size_alloc] at B1
  generalize hx : a.cut = x at *
  generalize hy : b.cut = y at *
  clear hx hy
  obtain ⟨ak, an, ax⟩ := a
  obtain ⟨bk, bn, bx⟩ := b
  unfold vagg
  go_enter Tryd.func9, Tryd.ntmps9
  go_wp2_with (fail)
  refine HSA.out.mono ?_
  rintro e w1 ⟨rfl, f⟩
  have F1 := hid (F0.out.trans f (fun _ h _ => h))
  have C0 := hid (Blk.fr B0.out f (fun h => h))
  have C1 := hid (Blk.fr B1.out f (fun h => h))
  clear f HSA F0 B0 B1
  obtain ⟨p0, p1, p2⟩ : w1.cell? ⟨w.heap.size, 0, none⟩ = some (.int .i64 ak) ∧ w1.cell? ⟨w.heap.size, 1, none⟩ = some (.int .i64 an) ∧ w1.cell? ⟨w.heap.size, 2, none⟩ = some (.string (bs ax)) := ⟨C0.out.cell 0, C0.out.cell 1, C0.out.cell 2⟩
  obtain ⟨q0, q1, q2⟩ : w1.cell? ⟨w.heap.size + 1, 0, none⟩ = some (.int .i64 bk) ∧ w1.cell? ⟨w.heap.size + 1, 1, none⟩ = some (.int .i64 bn) ∧ w1.cell? ⟨w.heap.size + 1, 2, none⟩ = some (.string (bs bx)) := ⟨C1.out.cell 0, C1.out.cell 1, C1.out.cell 2⟩
  have HROW := hid (Row.built (e := 28) (size := 3) (B := w1.heap.size) w1 (l := [⟨ak, an, ax⟩, ⟨bk, bn, bx⟩].flatMap V.cells) (n := 2) rfl (by decide) (Nat.le_refl _))
  have HFW := hid (few2_go (r := [⟨ak, an, ax⟩, ⟨bk, bn, bx⟩]) (HROW.out.sl' (R := fun _ => True) (fun _ _ => trivial)) (by simp))
  rw [hcut] at HFW
  have FB := hid (F1.out.alloc (.cells ([⟨ak, an, ax⟩, ⟨bk, bn, bx⟩].flatMap V.cells).toArray 28))
  clear hcut
  go_wp2_with (fail)
  refine HFW.out.mono ?_
  rintro e w2 ⟨a1, c1, rfl, hr, f⟩
  obtain ⟨g, rfl, hx, hy⟩ := two_rows hr
  have HS := hid (show TwoV w w2 g x y from ⟨hx, hy, HG.out.fre (FB.out.trans f (fun _ h _ => h)), FB.out.trans f (fun _ h _ => h)⟩)
  clear hx hy hr f HFW HROW FB F1 C0 C1 p0 p1 p2 q0 q1 q2 HG
  go_wp2_with (fail)
  go_loopw [9] (fun i wr => ∃ j : Nat, j ≤ 8 ∧ i = .int .i64 j ∧ TwoV w wr g x y) (fun i _ => 8 - (intOf i).toNat)
  case atStart => exact ⟨0, by omega, rfl, HS.out⟩
  case round =>
    obtain ⟨j, hj, rfl, hs⟩ := hrel
    by_cases hj8 : j < 8
    · replace HS := hid (hs.fre ((Fr.refl (fun _ => False) wr).drew))
      clear hs
      have i2 : (j : Int) < 8 := by omega
      have HF1 := hid (fun (W : World) (h : TwoV w W g x y) => VFits_go x (j : Int) y h.gv.kn)
      have HF2 := hid (fun W => r2Fits_go x (j : Int) y (Nat.le_trans HXS.out (by decide)) (Nat.le_trans HYS.out (by decide)) W)
      generalize V.fits x (j : Int) y = z at *
      have hzz : (z != z) = false := bne_self_eq_false _
      go_upto_region 6 with fail
      refine wp_region_scr (.take 0 (.take 1 (.take 2 (.take 3 (.take 4 (.take 5 (.take 6 (.take 8 (.take 9 (.take 10 (.take 11 (.take 12 (.take 13 (.take 14 (.op 7 (.op 15 (.take 16 .done))))))))))))))))) (fun kz w => (kz ≤ 17 → w.rangeAt g 0 (V.cells x) ∧ w.rangeAt g 3 (V.cells y)) ∧ True) (by kernel_rfl) (by kernel_rfl) (by intro c a d v w h; cases d <;> exact h) ?_
      repeat
        first
        | (refine wpT_pure rfl rfl rfl ?_; apply Exists.intro; refine ⟨?_, ?_⟩; intro w; (first | (first | exact run_load_mid _ _ rfl g _ rfl _ _ qa.1 Tryd.underlying28 rfl size_V | exact run_load_mid _ _ rfl g _ rfl _ _ qa.2 Tryd.underlying28 rfl size_V | (go_simp <;> rfl)) | (go_simp <;> rfl)); simp only [Act.put, List.setIfInBounds_toArray, List.set_cons_zero, List.set_cons_succ])
        | (refine wpT_take 17 rfl rfl (by decide +kernel) ⟨fun _ => ⟨HS.out.x, HS.out.y⟩, trivial⟩ ?_; apply Exists.intro; refine ⟨?_, ?_⟩; intro w hw; (have qa := hw.1 (Nat.le_refl _); have qb := hw.2); (first | (first | exact run_load_mid _ _ rfl g _ rfl _ _ qa.1 Tryd.underlying28 rfl size_V | exact run_load_mid _ _ rfl g _ rfl _ _ qa.2 Tryd.underlying28 rfl size_V | (go_simp <;> rfl)) | (go_simp <;> rfl)); simp only [Act.put, List.setIfInBounds_toArray, List.set_cons_zero, List.set_cons_succ])
        | (refine wpT_skip rfl rfl ?_; simp only [Act.put, List.setIfInBounds_toArray, List.set_cons_zero, List.set_cons_succ])
      refine wpT_op rfl ?_
      go_wp2_with ((go_at_call 32; refine (HF1.out _ HS.out).mono ?_; rintro e w_ ⟨rfl, f⟩; replace HS := hid (HS.out.fre f); clear f))
      (refine ⟨?_, ?_⟩; focus (intro kz hk hk2 hh; first | (exfalso; simp at hk2; omega) | exact hh | exact (fun h => absurd h (by omega)) | obtain ⟨qa, qb⟩ := hh; first | exact ⟨qa, qb⟩ | (refine ⟨fun h => absurd h (by omega), ?_⟩; first | exact qb | (exact ⟨HS.out.x, HS.out.y⟩)) | (refine ⟨fun h => ?_, ?_⟩; (have qa := qa h); all_goals (first | exact qa | exact qb | (exact ⟨HS.out.x, HS.out.y⟩)))))
      refine wpT_op rfl ?_
      go_wp2_with ((go_at_call 33; refine (HF2.out _).mono ?_; rintro e w_ ⟨rfl, f⟩; replace HS := hid (HS.out.fre f); clear f))
      (refine ⟨?_, ?_⟩; focus (intro kz hk hk2 hh; first | (exfalso; simp at hk2; omega) | exact hh | exact (fun h => absurd h (by omega)) | obtain ⟨qa, qb⟩ := hh; first | exact ⟨qa, qb⟩ | (refine ⟨fun h => absurd h (by omega), ?_⟩; first | exact qb | (exact ⟨HS.out.x, HS.out.y⟩)) | (refine ⟨fun h => ?_, ?_⟩; (have qa := qa h); all_goals (first | exact qa | exact qb | (exact ⟨HS.out.x, HS.out.y⟩)))))
      repeat
        first
        | (refine wpT_pure rfl rfl rfl ?_; apply Exists.intro; refine ⟨?_, ?_⟩; intro w; (first | (first | exact run_load_mid _ _ rfl g _ rfl _ _ qa.1 Tryd.underlying28 rfl size_V | exact run_load_mid _ _ rfl g _ rfl _ _ qa.2 Tryd.underlying28 rfl size_V | (go_simp <;> rfl)) | (go_simp <;> rfl)); simp only [Act.put, List.setIfInBounds_toArray, List.set_cons_zero, List.set_cons_succ])
        | (refine wpT_take 17 rfl rfl (by decide +kernel) ⟨fun _ => ⟨HS.out.x, HS.out.y⟩, trivial⟩ ?_; apply Exists.intro; refine ⟨?_, ?_⟩; intro w hw; (have qa := hw.1 (Nat.le_refl _); have qb := hw.2); (first | (first | exact run_load_mid _ _ rfl g _ rfl _ _ qa.1 Tryd.underlying28 rfl size_V | exact run_load_mid _ _ rfl g _ rfl _ _ qa.2 Tryd.underlying28 rfl size_V | (go_simp <;> rfl)) | (go_simp <;> rfl)); simp only [Act.put, List.setIfInBounds_toArray, List.set_cons_zero, List.set_cons_succ])
        | (refine wpT_skip rfl rfl ?_; simp only [Act.put, List.setIfInBounds_toArray, List.set_cons_zero, List.set_cons_succ])
      refine wpT_nil ?_
      go_wp2_with (fail)
      go_roundw
      case rel => exact ⟨j + 1, by omega, by simp, HS.out⟩
      case measure => simp [intOf]; omega
    · have i2 : ¬ (j : Int) < 8 := by omega
      have HZ := hid hs
      clear hs
      go_wp2_with (fail)
      go_loopw [10, 11] (fun n i wr => ∃ k : Nat, k ≤ 6 ∧ n = .int .i64 (cnt x y k) ∧ i = .int .i64 ((k : Int) + 1) ∧ TwoV w wr g x y) (fun _ i _ => 8 - (intOf i).toNat)
      case atStart => exact ⟨0, by omega, rfl, rfl, HZ.out⟩
      case round =>
        obtain ⟨k, hk, rfl, rfl, hs⟩ := hrel
        by_cases hk6 : k < 6
        · replace HS := hid (hs.fre ((Fr.refl (fun _ => False) wr).drew))
          clear hs HZ
          have i3 : (k : Int) + 1 ≤ 6 := by omega
          have hcl := cnt_le x y k
          have HCS := hid (cnt_succ x y k)
          have HF1 := hid (fun (W : World) (h : TwoV w W g x y) => VFits_go x ((k : Int) + 1) y h.gv.kn)
          generalize V.fits x ((k : Int) + 1) y = z at *
          generalize hn : cnt x y k = n at *
          clear hn
          go_upto_region 12 with fail
          refine wp_region_scr (.take 0 (.take 1 (.take 2 (.take 3 (.take 4 (.take 5 (.take 6 (.op 7 .done)))))))) (fun kz w => (kz ≤ 8 → w.rangeAt g 0 (V.cells x) ∧ w.rangeAt g 3 (V.cells y)) ∧ True) (by kernel_rfl) (by kernel_rfl) (by intro c a d v w h; cases d <;> exact h) ?_
          repeat
            first
            | (refine wpT_pure rfl rfl rfl ?_; apply Exists.intro; refine ⟨?_, ?_⟩; intro w; (first | (first | exact run_load_mid _ _ rfl g _ rfl _ _ qa.1 Tryd.underlying28 rfl size_V | exact run_load_mid _ _ rfl g _ rfl _ _ qa.2 Tryd.underlying28 rfl size_V | (go_simp <;> rfl)) | (go_simp <;> rfl)); simp only [Act.put, List.setIfInBounds_toArray, List.set_cons_zero, List.set_cons_succ])
            | (refine wpT_take 8 rfl rfl (by decide +kernel) ⟨fun _ => ⟨HS.out.x, HS.out.y⟩, trivial⟩ ?_; apply Exists.intro; refine ⟨?_, ?_⟩; intro w hw; (have qa := hw.1 (Nat.le_refl _); have qb := hw.2); (first | (first | exact run_load_mid _ _ rfl g _ rfl _ _ qa.1 Tryd.underlying28 rfl size_V | exact run_load_mid _ _ rfl g _ rfl _ _ qa.2 Tryd.underlying28 rfl size_V | (go_simp <;> rfl)) | (go_simp <;> rfl)); simp only [Act.put, List.setIfInBounds_toArray, List.set_cons_zero, List.set_cons_succ])
            | (refine wpT_skip rfl rfl ?_; simp only [Act.put, List.setIfInBounds_toArray, List.set_cons_zero, List.set_cons_succ])
          refine wpT_op rfl ?_
          go_wp2_with ((go_at_call 32; refine (HF1.out _ HS.out).mono ?_; rintro e w_ ⟨rfl, f⟩; replace HS := hid (HS.out.fre f); clear f))
          (refine ⟨?_, ?_⟩; focus (intro kz hk hk2 hh; first | (exfalso; simp at hk2; omega) | exact hh | exact (fun h => absurd h (by omega)) | obtain ⟨qa, qb⟩ := hh; first | exact ⟨qa, qb⟩ | (refine ⟨fun h => absurd h (by omega), ?_⟩; first | exact qb | (exact ⟨HS.out.x, HS.out.y⟩)) | (refine ⟨fun h => ?_, ?_⟩; (have qa := qa h); all_goals (first | exact qa | exact qb | (exact ⟨HS.out.x, HS.out.y⟩)))))
          refine wpT_nil ?_
          cases z with
          | true =>
            go_wp2_with (fail)
            go_roundw
            case rel => exact ⟨k + 1, by omega, by rw [HCS.out]; simp, by simp, HS.out⟩
            case measure => simp [intOf]; omega
          | false =>
            go_wp2_with (fail)
            go_roundw
            case rel => exact ⟨k + 1, by omega, by rw [HCS.out]; simp, by simp, HS.out⟩
            case measure => simp [intOf]; omega
        · obtain rfl : k = 6 := by omega
          replace HS := hid (hs.fre ((Fr.refl (fun _ => False) wr).drew))
          clear hs HZ hj8 i2 hk hk6 hj
          have HF1 := hid (fun (W : World) (h : TwoV w W g x y) => VFits_go x op y h.gv.kn)
          have HF2 := hid (fun W => r2Fits_go x op y (Nat.le_trans HXS.out (by decide)) (Nat.le_trans HYS.out (by decide)) W)
          have HC6 := hid (fun h h1 => cnt6 (x := x) (y := y) h h1)
          generalize V.fits x op y = z at *
          generalize cnt x y 6 = n at *
          have hzz : (z == z) = true := beq_self_eq_true _
          go_upto_region 14 with fail
          go_cut [12] (fun v12 wx => ∃ s : Bool, v12 = .bool s ∧ (s = true → n = 3) ∧ TwoV w wx g x y)
          case first =>
            have hx0 : wr.drew.cell? ⟨g, 0, none⟩ = some (.int .i64 x.k) := HS.out.x 0 _ rfl
            have hy0 : wr.drew.cell? ⟨g, 3, none⟩ = some (.int .i64 y.k) := HS.out.y 0 _ rfl
            have HX0 := hid hx0
            have HY0 := hid hy0
            clear hx0 hy0
            generalize x.k = xk at *
            generalize y.k = yk at *
            have SCR : True := trivial
            by_cases hxy : xk = yk
            · subst hxy
              by_cases h1 : xk = 1
              · subst h1
                refine wp_region_scr (.take 0 (.take 1 (.take 2 (.take 3 (.take 4 (.take 5 (.take 6 (.take 7 (.take 8 (.take 9 (.take 10 (.take 11 (.take 12 (.take 13 (.take 14 (.take 15 (.take 16 (.take 17 (.take 18 (.take 19 (.take 20 (.take 21 (.take 22 (.take 23 .done)))))))))))))))))))))))) (fun kz w => (kz ≤ 24 → w.cell? ⟨g, 0, none⟩ = some (.int .i64 1) ∧ w.cell? ⟨g, 3, none⟩ = some (.int .i64 1)) ∧ True) (by kernel_rfl) (by kernel_rfl) (by intro c a d v w h; cases d <;> exact h) ?_
                repeat
                  first
                  | (refine wpT_pure rfl rfl rfl ?_; apply Exists.intro; refine ⟨?_, ?_⟩; intro w; (first | ((obtain ⟨qa1, qa2⟩ := qa; go_simp <;> rfl)) | (go_simp <;> rfl)); simp only [Act.put, List.setIfInBounds_toArray, List.set_cons_zero, List.set_cons_succ])
                  | (refine wpT_take 24 rfl rfl (by decide +kernel) ⟨fun _ => ⟨HX0.out, HY0.out⟩, trivial⟩ ?_; apply Exists.intro; refine ⟨?_, ?_⟩; intro w hw; (have qa := hw.1 (Nat.le_refl _); have qb := hw.2); (first | ((obtain ⟨qa1, qa2⟩ := qa; go_simp <;> rfl)) | (go_simp <;> rfl)); simp only [Act.put, List.setIfInBounds_toArray, List.set_cons_zero, List.set_cons_succ])
                  | (refine wpT_skip rfl rfl ?_; simp only [Act.put, List.setIfInBounds_toArray, List.set_cons_zero, List.set_cons_succ])
                refine wpT_nil ?_
                go_wp2_with (fail)
                go_meet
                exact ⟨true, rfl, fun _ => HC6.out (by simp) (by simp), HS.out⟩
              · have e1 : (xk == 1) = false := by simpa using h1
                by_cases h2 : xk = 2
                · subst h2
                  refine wp_region_scr (.take 0 (.take 1 (.take 2 (.take 3 (.take 4 (.take 5 (.take 6 (.take 7 (.take 8 (.take 9 (.take 10 (.take 11 (.take 12 (.take 13 (.take 14 (.take 15 (.take 16 (.take 17 (.take 18 (.take 19 (.take 20 (.take 21 (.take 22 (.take 23 .done)))))))))))))))))))))))) (fun kz w => (kz ≤ 24 → w.cell? ⟨g, 0, none⟩ = some (.int .i64 2) ∧ w.cell? ⟨g, 3, none⟩ = some (.int .i64 2)) ∧ True) (by kernel_rfl) (by kernel_rfl) (by intro c a d v w h; cases d <;> exact h) ?_
                  repeat
                    first
                    | (refine wpT_pure rfl rfl rfl ?_; apply Exists.intro; refine ⟨?_, ?_⟩; intro w; (first | ((obtain ⟨qa1, qa2⟩ := qa; go_simp <;> rfl)) | (go_simp <;> rfl)); simp only [Act.put, List.setIfInBounds_toArray, List.set_cons_zero, List.set_cons_succ])
                    | (refine wpT_take 24 rfl rfl (by decide +kernel) ⟨fun _ => ⟨HX0.out, HY0.out⟩, trivial⟩ ?_; apply Exists.intro; refine ⟨?_, ?_⟩; intro w hw; (have qa := hw.1 (Nat.le_refl _); have qb := hw.2); (first | ((obtain ⟨qa1, qa2⟩ := qa; go_simp <;> rfl)) | (go_simp <;> rfl)); simp only [Act.put, List.setIfInBounds_toArray, List.set_cons_zero, List.set_cons_succ])
                    | (refine wpT_skip rfl rfl ?_; simp only [Act.put, List.setIfInBounds_toArray, List.set_cons_zero, List.set_cons_succ])
                  refine wpT_nil ?_
                  go_wp2_with (fail)
                  go_meet
                  exact ⟨true, rfl, fun _ => HC6.out (by simp) (by simp), HS.out⟩
                · have e2 : (xk == 2) = false := by simpa using h2
                  have e3 : (xk == xk) = true := beq_self_eq_true _
                  refine wp_region_scr (.take 0 (.take 1 (.take 2 (.take 3 (.take 4 (.take 5 (.take 6 (.take 7 (.take 8 (.take 9 (.take 10 (.take 11 (.take 12 (.take 13 (.take 14 (.take 15 (.take 16 (.take 17 (.take 18 (.take 19 (.take 20 (.take 21 (.take 22 (.take 23 .done)))))))))))))))))))))))) (fun kz w => (kz ≤ 24 → w.cell? ⟨g, 0, none⟩ = some (.int .i64 xk) ∧ w.cell? ⟨g, 3, none⟩ = some (.int .i64 xk)) ∧ True) (by kernel_rfl) (by kernel_rfl) (by intro c a d v w h; cases d <;> exact h) ?_
                  repeat
                    first
                    | (refine wpT_pure rfl rfl rfl ?_; apply Exists.intro; refine ⟨?_, ?_⟩; intro w; (first | ((obtain ⟨qa1, qa2⟩ := qa; go_simp <;> rfl)) | (go_simp <;> rfl)); simp only [Act.put, List.setIfInBounds_toArray, List.set_cons_zero, List.set_cons_succ])
                    | (refine wpT_take 24 rfl rfl (by decide +kernel) ⟨fun _ => ⟨HX0.out, HY0.out⟩, trivial⟩ ?_; apply Exists.intro; refine ⟨?_, ?_⟩; intro w hw; (have qa := hw.1 (Nat.le_refl _); have qb := hw.2); (first | ((obtain ⟨qa1, qa2⟩ := qa; go_simp <;> rfl)) | (go_simp <;> rfl)); simp only [Act.put, List.setIfInBounds_toArray, List.set_cons_zero, List.set_cons_succ])
                    | (refine wpT_skip rfl rfl ?_; simp only [Act.put, List.setIfInBounds_toArray, List.set_cons_zero, List.set_cons_succ])
                  refine wpT_nil ?_
                  go_wp2_with (fail)
                  go_meet
                  exact ⟨false, rfl, (fun h => by cases h), HS.out⟩
            · have e3 : (xk == yk) = false := by simpa using hxy
              refine wp_region_scr (.take 0 (.take 1 (.take 2 (.take 3 (.take 4 (.take 5 (.take 6 (.take 7 (.take 8 (.take 9 (.take 10 (.take 11 (.take 12 (.take 13 (.take 14 (.take 15 (.take 16 (.take 17 (.take 18 (.take 19 (.take 20 (.take 21 (.take 22 (.take 23 .done)))))))))))))))))))))))) (fun kz w => (kz ≤ 24 → w.cell? ⟨g, 0, none⟩ = some (.int .i64 xk) ∧ w.cell? ⟨g, 3, none⟩ = some (.int .i64 yk)) ∧ True) (by kernel_rfl) (by kernel_rfl) (by intro c a d v w h; cases d <;> exact h) ?_
              repeat
                first
                | (refine wpT_pure rfl rfl rfl ?_; apply Exists.intro; refine ⟨?_, ?_⟩; intro w; (first | ((obtain ⟨qa1, qa2⟩ := qa; go_simp <;> rfl)) | (go_simp <;> rfl)); simp only [Act.put, List.setIfInBounds_toArray, List.set_cons_zero, List.set_cons_succ])
                | (refine wpT_take 24 rfl rfl (by decide +kernel) ⟨fun _ => ⟨HX0.out, HY0.out⟩, trivial⟩ ?_; apply Exists.intro; refine ⟨?_, ?_⟩; intro w hw; (have qa := hw.1 (Nat.le_refl _); have qb := hw.2); (first | ((obtain ⟨qa1, qa2⟩ := qa; go_simp <;> rfl)) | (go_simp <;> rfl)); simp only [Act.put, List.setIfInBounds_toArray, List.set_cons_zero, List.set_cons_succ])
                | (refine wpT_skip rfl rfl ?_; simp only [Act.put, List.setIfInBounds_toArray, List.set_cons_zero, List.set_cons_succ])
              refine wpT_nil ?_
              go_wp2_with (fail)
              go_meet
              exact ⟨false, rfl, (fun h => by cases h), HS.out⟩
          case rest =>
            obtain ⟨s, rfl, hs3, hs⟩ := hcut
            replace HS := hid (hs.fre ((Fr.refl (fun _ => False) wc).drew))
            have HS3 := hid hs3
            clear hs hs3
            go_upto_region 15 with fail
            cases s with
            | true =>
              obtain rfl : n = 3 := HS3.out rfl
              refine wp_region_scr (.take 0 (.take 1 (.take 2 (.take 3 (.take 4 (.take 5 (.take 6 (.take 7 (.take 8 (.take 10 (.take 11 (.take 12 (.take 13 (.take 14 (.take 15 (.take 16 (.op 9 (.op 17 (.take 18 (.take 19 (.take 20 (.take 21 (.take 22 (.take 23 (.take 24 (.take 25 (.take 26 (.take 27 (.take 28 .done))))))))))))))))))))))))))))) (fun kz w => (kz ≤ 29 → w.rangeAt g 0 (V.cells x) ∧ w.rangeAt g 3 (V.cells y)) ∧ True) (by kernel_rfl) (by kernel_rfl) (by intro c a d v w h; cases d <;> exact h) ?_
              repeat
                first
                | (refine wpT_pure rfl rfl rfl ?_; apply Exists.intro; refine ⟨?_, ?_⟩; intro w; (first | (first | exact run_load_mid _ _ rfl g _ rfl _ _ qa.1 Tryd.underlying28 rfl size_V | exact run_load_mid _ _ rfl g _ rfl _ _ qa.2 Tryd.underlying28 rfl size_V | (go_simp <;> rfl)) | (go_simp <;> rfl)); simp only [Act.put, List.setIfInBounds_toArray, List.set_cons_zero, List.set_cons_succ])
                | (refine wpT_take 29 rfl rfl (by decide +kernel) ⟨fun _ => ⟨HS.out.x, HS.out.y⟩, trivial⟩ ?_; apply Exists.intro; refine ⟨?_, ?_⟩; intro w hw; (have qa := hw.1 (Nat.le_refl _); have qb := hw.2); (first | (first | exact run_load_mid _ _ rfl g _ rfl _ _ qa.1 Tryd.underlying28 rfl size_V | exact run_load_mid _ _ rfl g _ rfl _ _ qa.2 Tryd.underlying28 rfl size_V | (go_simp <;> rfl)) | (go_simp <;> rfl)); simp only [Act.put, List.setIfInBounds_toArray, List.set_cons_zero, List.set_cons_succ])
                | (refine wpT_skip rfl rfl ?_; simp only [Act.put, List.setIfInBounds_toArray, List.set_cons_zero, List.set_cons_succ])
              refine wpT_op rfl ?_
              go_wp2_with ((go_at_call 32; refine (HF1.out _ HS.out).mono ?_; rintro e w_ ⟨rfl, f⟩; replace HS := hid (HS.out.fre f); clear f))
              (refine ⟨?_, ?_⟩; focus (intro kz hk hk2 hh; first | (exfalso; simp at hk2; omega) | exact hh | exact (fun h => absurd h (by omega)) | obtain ⟨qa, qb⟩ := hh; first | exact ⟨qa, qb⟩ | (refine ⟨fun h => absurd h (by omega), ?_⟩; first | exact qb | (exact ⟨HS.out.x, HS.out.y⟩)) | (refine ⟨fun h => ?_, ?_⟩; (have qa := qa h); all_goals (first | exact qa | exact qb | (exact ⟨HS.out.x, HS.out.y⟩)))))
              refine wpT_op rfl ?_
              go_wp2_with ((go_at_call 33; refine (HF2.out _).mono ?_; rintro e w_ ⟨rfl, f⟩; replace HS := hid (HS.out.fre f); clear f))
              (refine ⟨?_, ?_⟩; focus (intro kz hk hk2 hh; first | (exfalso; simp at hk2; omega) | exact hh | exact (fun h => absurd h (by omega)) | obtain ⟨qa, qb⟩ := hh; first | exact ⟨qa, qb⟩ | (refine ⟨fun h => absurd h (by omega), ?_⟩; first | exact qb | (exact ⟨HS.out.x, HS.out.y⟩)) | (refine ⟨fun h => ?_, ?_⟩; (have qa := qa h); all_goals (first | exact qa | exact qb | (exact ⟨HS.out.x, HS.out.y⟩)))))
              repeat
                first
                | (refine wpT_pure rfl rfl rfl ?_; apply Exists.intro; refine ⟨?_, ?_⟩; intro w; (first | (first | exact run_load_mid _ _ rfl g _ rfl _ _ qa.1 Tryd.underlying28 rfl size_V | exact run_load_mid _ _ rfl g _ rfl _ _ qa.2 Tryd.underlying28 rfl size_V | (go_simp <;> rfl)) | (go_simp <;> rfl)); simp only [Act.put, List.setIfInBounds_toArray, List.set_cons_zero, List.set_cons_succ])
                | (refine wpT_take 29 rfl rfl (by decide +kernel) ⟨fun _ => ⟨HS.out.x, HS.out.y⟩, trivial⟩ ?_; apply Exists.intro; refine ⟨?_, ?_⟩; intro w hw; (have qa := hw.1 (Nat.le_refl _); have qb := hw.2); (first | (first | exact run_load_mid _ _ rfl g _ rfl _ _ qa.1 Tryd.underlying28 rfl size_V | exact run_load_mid _ _ rfl g _ rfl _ _ qa.2 Tryd.underlying28 rfl size_V | (go_simp <;> rfl)) | (go_simp <;> rfl)); simp only [Act.put, List.setIfInBounds_toArray, List.set_cons_zero, List.set_cons_succ])
                | (refine wpT_skip rfl rfl ?_; simp only [Act.put, List.setIfInBounds_toArray, List.set_cons_zero, List.set_cons_succ])
              refine wpT_nil ?_
              go_wp2_with (fail)
              go_ret
              exact ⟨rfl, HS.out.fr⟩
            | false =>
              refine wp_region_scr (.take 0 (.take 1 (.take 2 (.take 3 (.take 4 (.take 5 (.take 6 (.take 7 (.take 8 (.take 10 (.take 11 (.take 12 (.take 13 (.take 14 (.take 15 (.take 16 (.op 9 (.op 17 (.take 18 (.take 19 (.take 20 (.take 21 (.take 22 (.take 23 (.take 24 (.take 25 (.take 26 (.take 27 (.take 28 .done))))))))))))))))))))))))))))) (fun kz w => (kz ≤ 29 → w.rangeAt g 0 (V.cells x) ∧ w.rangeAt g 3 (V.cells y)) ∧ True) (by kernel_rfl) (by kernel_rfl) (by intro c a d v w h; cases d <;> exact h) ?_
              repeat
                first
                | (refine wpT_pure rfl rfl rfl ?_; apply Exists.intro; refine ⟨?_, ?_⟩; intro w; (first | (first | exact run_load_mid _ _ rfl g _ rfl _ _ qa.1 Tryd.underlying28 rfl size_V | exact run_load_mid _ _ rfl g _ rfl _ _ qa.2 Tryd.underlying28 rfl size_V | (go_simp <;> rfl)) | (go_simp <;> rfl)); simp only [Act.put, List.setIfInBounds_toArray, List.set_cons_zero, List.set_cons_succ])
                | (refine wpT_take 29 rfl rfl (by decide +kernel) ⟨fun _ => ⟨HS.out.x, HS.out.y⟩, trivial⟩ ?_; apply Exists.intro; refine ⟨?_, ?_⟩; intro w hw; (have qa := hw.1 (Nat.le_refl _); have qb := hw.2); (first | (first | exact run_load_mid _ _ rfl g _ rfl _ _ qa.1 Tryd.underlying28 rfl size_V | exact run_load_mid _ _ rfl g _ rfl _ _ qa.2 Tryd.underlying28 rfl size_V | (go_simp <;> rfl)) | (go_simp <;> rfl)); simp only [Act.put, List.setIfInBounds_toArray, List.set_cons_zero, List.set_cons_succ])
                | (refine wpT_skip rfl rfl ?_; simp only [Act.put, List.setIfInBounds_toArray, List.set_cons_zero, List.set_cons_succ])
              refine wpT_op rfl ?_
              go_wp2_with ((go_at_call 32; refine (HF1.out _ HS.out).mono ?_; rintro e w_ ⟨rfl, f⟩; replace HS := hid (HS.out.fre f); clear f))
              (refine ⟨?_, ?_⟩; focus (intro kz hk hk2 hh; first | (exfalso; simp at hk2; omega) | exact hh | exact (fun h => absurd h (by omega)) | obtain ⟨qa, qb⟩ := hh; first | exact ⟨qa, qb⟩ | (refine ⟨fun h => absurd h (by omega), ?_⟩; first | exact qb | (exact ⟨HS.out.x, HS.out.y⟩)) | (refine ⟨fun h => ?_, ?_⟩; (have qa := qa h); all_goals (first | exact qa | exact qb | (exact ⟨HS.out.x, HS.out.y⟩)))))
              refine wpT_op rfl ?_
              go_wp2_with ((go_at_call 33; refine (HF2.out _).mono ?_; rintro e w_ ⟨rfl, f⟩; replace HS := hid (HS.out.fre f); clear f))
              (refine ⟨?_, ?_⟩; focus (intro kz hk hk2 hh; first | (exfalso; simp at hk2; omega) | exact hh | exact (fun h => absurd h (by omega)) | obtain ⟨qa, qb⟩ := hh; first | exact ⟨qa, qb⟩ | (refine ⟨fun h => absurd h (by omega), ?_⟩; first | exact qb | (exact ⟨HS.out.x, HS.out.y⟩)) | (refine ⟨fun h => ?_, ?_⟩; (have qa := qa h); all_goals (first | exact qa | exact qb | (exact ⟨HS.out.x, HS.out.y⟩)))))
              repeat
                first
                | (refine wpT_pure rfl rfl rfl ?_; apply Exists.intro; refine ⟨?_, ?_⟩; intro w; (first | (first | exact run_load_mid _ _ rfl g _ rfl _ _ qa.1 Tryd.underlying28 rfl size_V | exact run_load_mid _ _ rfl g _ rfl _ _ qa.2 Tryd.underlying28 rfl size_V | (go_simp <;> rfl)) | (go_simp <;> rfl)); simp only [Act.put, List.setIfInBounds_toArray, List.set_cons_zero, List.set_cons_succ])
                | (refine wpT_take 29 rfl rfl (by decide +kernel) ⟨fun _ => ⟨HS.out.x, HS.out.y⟩, trivial⟩ ?_; apply Exists.intro; refine ⟨?_, ?_⟩; intro w hw; (have qa := hw.1 (Nat.le_refl _); have qb := hw.2); (first | (first | exact run_load_mid _ _ rfl g _ rfl _ _ qa.1 Tryd.underlying28 rfl size_V | exact run_load_mid _ _ rfl g _ rfl _ _ qa.2 Tryd.underlying28 rfl size_V | (go_simp <;> rfl)) | (go_simp <;> rfl)); simp only [Act.put, List.setIfInBounds_toArray, List.set_cons_zero, List.set_cons_succ])
                | (refine wpT_skip rfl rfl ?_; simp only [Act.put, List.setIfInBounds_toArray, List.set_cons_zero, List.set_cons_succ])
              refine wpT_nil ?_
              go_wp2_with (fail)
              go_ret
              exact ⟨rfl, HS.out.fr⟩
end Go.Proofs.YtknpncpoojjbfaaDoor
namespace Go.Proofs.YtknpncpoojjbfaaDoor.valueFits
open Go.ChangeShapes Go.WideShapes Go.ChangeAt Go.RowKit Go.VB Go.VB.Rec
set_option maxHeartbeats 400000 in
set_option maxRecDepth 100000 in
theorem lifted (os : Os) (started : os.Started) (H : Type) (enc : TypeId × Value → H) :
    ReturnsInHanded {} Tryd.checked os 9 .any (fun w args => (Rows.valueFitsSpec.pre enc Tryd.prog Tryd.f9 Rows.valueFitsRow.domain false w args ∧ laidMetH Tryd.prog Rows.valueFitsRow.laid w) ∧ sizedMet enc Tryd.prog Tryd.f9 (OpenSpec.ofChange Rows.valueFitsSpec) false w args) (Rows.valueFitsSpec.post enc Tryd.prog Tryd.f9 false true false false) := by
  refine handed_and_shaped (C := Tryd.checked) (X := fun w _ => laidMetH Tryd.prog Rows.valueFitsRow.laid w) (fun _ _ _ hh h => h.of_heap hh) own started (by kernel_rfl) Tryd.func9
    (ChangeSpec.witness_shaped (enc := enc) (C := Tryd.checked) (os := os) (X := fun w _ => laidMetH Tryd.prog Rows.valueFitsRow.laid w) false (startW os) #[.agg #[.int .i64 0, .int .i64 0, .string ⟨#[]⟩], .agg #[.int .i64 0, .int .i64 0, .string ⟨#[]⟩], .int .i64 0] 8 rfl (start_shaped os _) (by kernel_rfl) (by kernel_rfl) (by kernel_rfl) (start_met os _)) ?_
  intro W base args ds gs before hval0 hW hL hsh
  have GV : Hid (Gv W) := hid (gv_of hL hsh)
  clear hL hsh
  have hval : ∀ (j : Nat) t v, Tryd.f9.params[j]? = some t → args[j]? = some v → Value.okWide Tryd.prog W .any base t v := hval0
  have hW' := hW
  obtain ⟨p, q, hA0, hV, rfl, hfz, hnd⟩ := hW
  have hA : DataW.TrodAll enc Tryd.prog W 0 (fun _ => true) true Tryd.f9.params.toList args.toList ds p := hA0
  rw [Tryd.params9] at hA hval
  obtain ⟨v0, vs0, d0, ds0, p0, q0, hargs, rfl, rfl, h0, r0⟩ := trodAll_cons hA
  obtain ⟨v1, vs1, d1, ds1, p1, q1, rfl, rfl, rfl, h1, r1⟩ := trodAll_cons r0
  obtain ⟨v2, vs2, d2, ds2, p2, q2, rfl, rfl, rfl, h2, r2⟩ := trodAll_cons r1
  obtain ⟨rfl, rfl, rfl⟩ := trodAll_nil r2
  obtain rfl : args = #[v0, v1, v2] := by cases args; simp_all
  obtain ⟨rfl, rfl⟩ := trodVars_none hV
  clear hA0 hval0
  refine Calls.mono (R := fun e w' => e = .returned (.bool true) ∧ Fr (fun _ => False) W w') ?_ fun e W' ⟨he, hf⟩ => ⟨_, he, post_law sound (by decide +kernel) rfl rfl (ht := Tryd.underlying4) (by rfl) hW' hf⟩
  obtain ⟨a, rfl, ia⟩ := open_val (hval 0 28 v0 rfl rfl) h0
  obtain ⟨b, rfl, ib⟩ := open_val (hval 1 28 v1 rfl rfl) h1
  obtain ⟨op, rfl, -, -, -⟩ := open_int Tryd.underlying3 (hval 2 3 v2 rfl rfl) h2
  exact Fits_walk GV.out a b op
theorem row_holds : Rows.ValueFitsSaid :=
  OpenClaim.holds_of_wide 9 Tryd.f9 rfl rfl rfl rfl rfl rfl rfl ⟨rfl, rfl, rfl, rfl, rfl⟩ rfl rfl rfl rfl rfl (by kernel_rfl) Tryd.func9 (by kernel_rfl)
    (of_decide_eq_true (by kernel_rfl)) (by unfold Func.isWrapper; first | (rw [if_pos (by decide +kernel)]; kernel_rfl) | (rw [if_neg (by decide +kernel)]; exact ⟨rfl, rfl⟩))
    (fun os started H enc _ => lifted os started H enc)
theorem proved : Rows.ValueFitsCardSaid :=
  Claim7.holds_tied_plain_at .later [] Rows.valueFitsCard.laidKinds true Rows.valueFitsCard.stood.harness true row_holds (fun _ h => by cases h) (by kernel_rfl) (fun _ h => by cases h) valueFits_row_tie rfl ⟨rfl, rfl⟩ (by kernel_rfl) rfl
    (fun f fn hf hfn => by
      obtain rfl : f = 9 := Option.some.inj ((show Tryd.prog.funcNamed "vintner/vintnerlaw02.ValueFits" = some 9 by kernel_rfl).symm.trans hf) |>.symm
      obtain rfl : fn = Tryd.f9 := (Option.some.inj (Tryd.func9.symm.trans hfn)).symm
      exact ⟨by kernel_rfl, fun j t ht => by
        rw [Tryd.params9] at ht
        have hm : t ∈ [28, 3] := by simpa using Array.mem_of_getElem? ht
        have hall : ([28, 3].all fun u => !Tryd.prog.wantsStandIn u) = true := by kernel_rfl
        exact (show Tryd.prog.wantsStandIn t = false by simpa using List.all_eq_true.1 hall t hm)⟩)
    (by kernel_rfl)
end Go.Proofs.YtknpncpoojjbfaaDoor.valueFits
