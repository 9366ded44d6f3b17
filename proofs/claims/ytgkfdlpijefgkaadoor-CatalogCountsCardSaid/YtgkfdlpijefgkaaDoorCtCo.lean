import Derived.Test.YtgkfdlpijefgkaaDoorCtAr
import Derived.Test.YtgkfdlpijefgkaaDoorCards
import Derived.Test.YtgkfdlpijefgkaaDoorTie
import Derived.SevenTiedAt
/-
For every table and every two lists of rows: the program's counts do not hang on the order of rows, duplicates add nothing, and the counts of a concatenation lie between the maximum and the sum (CatalogCounts).
Conditions: none beyond the row's own.
-/
set_option linter.unusedVariables false
namespace Go.VB.Cat
open Go.VB Go.VB.Oct Go.VB.Rec
def twoOf (l : List (List V)) : List (List V) := l.flatMap fun x => [x, x]
theorem colV_app (i : Nat) (a b : List (List V)) : colV i (a ++ b) = colV i a ++ colV i b := by unfold colV; rw [List.filterMap_append]
theorem colV_two (i : Nat) : ∀ l : List (List V), colV i (twoOf l) = (colV i l).flatMap fun x => [x, x]
  | [] => rfl
  | x :: l => by
    have ih := colV_two i l
    rw [show twoOf (x :: l) = [x, x] ++ twoOf l from rfl, colV_app, ih]
    unfold colV
    simp only [List.filterMap_cons, List.filterMap_nil]
    cases x[i]? <;> rfl
theorem colV_perm (i : Nat) {a b : List (List V)} (h : a.Perm b) : (colV i a).Perm (colV i b) := h.filterMap _
theorem count_two (i : Nat) {a b : List (List V)} (h : b = twoOf a.reverse) : dc eqV (colV i b) = dc eqV (colV i a) := by
  rw [h, colV_two, dc_twice eqv_V]
  exact dc_perm eqv_V (colV_perm i a.reverse_perm)
theorem count_app (i : Nat) (a b : List (List V)) : dc eqV (colV i a) ≤ dc eqV (colV i (a ++ b)) ∧ dc eqV (colV i b) ≤ dc eqV (colV i (a ++ b)) ∧ dc eqV (colV i (a ++ b)) ≤ dc eqV (colV i a) + dc eqV (colV i b) := by
  rw [colV_app]
  exact ⟨dc_app_left eqv_V _ _, dc_app_right _ _, dc_le_app _ _⟩
theorem dc_bound {p : V → V → Bool} : ∀ l : List V, dc p l ≤ l.length
  | [] => Nat.le_refl _
  | x :: l => by
    have := dc_bound (p := p) l
    rw [dc_cons, List.length_cons]
    split <;> omega
theorem count_bound (i : Nat) (l : List (List V)) : dc eqV (colV i l) ≤ l.length := Nat.le_trans (dc_bound _) (colV_len i l)
theorem count_cell {n i : Nat} (h : i < n) (l : List (List V)) : ((countM n l).flatMap ncell)[i]? = some (.int .i64 (dc eqV (colV i l) : Nat)) := by
  have e : ∀ k : List Nat, k.flatMap ncell = k.map (fun n : Nat => Value.int .i64 n) := fun k => by
    induction k with
    | nil => rfl
    | cons a k ih => rw [List.flatMap_cons, ih]; rfl
  rw [e, List.getElem?_map]
  unfold countM
  rw [List.getElem?_map, List.getElem?_range h]
  rfl
theorem count_at {n i : Nat} (h : i < n) (l : List (List V)) : (countM n l)[i]? = some (dc eqV (colV i l)) := by
  unfold countM
  rw [List.getElem?_map, List.getElem?_range h]
  rfl
end Go.VB.Cat
namespace Go.Proofs.YtgkfdlpijefgkaaDoor
open Go.RowKit Go.VB Go.VB.Oct Go.VB.Cat Go.VB.Rec
theorem put_stats {W : World} {z : List Value} {d : Nat} (h : Blk W d z 32) (vs : List Value) (hl : z.length = vs.length) : Blk (W.setCells d 0 vs) d vs 32 := by
  have := h.put 0 vs (by omega)
  rw [List.take_zero, List.nil_append, List.drop_eq_nil_of_le (by omega), List.append_nil] at this
  exact this
theorem rows_app {R : Nat → Prop} {B : Nat} {W : World} {vx vy v : Value} {X Y : List RowV} (hx : RowsS R W vx X) (hy : RowsS R W vy Y) (hR : ∀ k, R k) (h : Row 29 1 B W v (X.length + Y.length) ([] ++ X.flatMap RowV.cells ++ Y.flatMap RowV.cells)) : RowsS R W v (X ++ Y) := by
  refine ⟨(h.cast (m := (X ++ Y).length) (ys := (X ++ Y).flatMap RowV.cells) (by rw [List.length_append]) (by rw [List.nil_append, List.flatMap_append])).sl' (fun k _ => hR k), fun x hm => ?_⟩
  rcases List.mem_append.1 hm with g | g
  · exact hx.x x g
  · exact hy.x x g
theorem rowsOf_len {n m : Nat} {X L : List RowV} (h : X.map RowV.r = rowsOf n m L) : X.length ≤ n := by
  have := congrArg List.length h
  rw [List.length_map] at this
  unfold rowsOf at this
  rw [List.length_map, List.length_take] at this
  omega
theorem two_back {X : List RowV} {i : Nat} (h : i < X.length) : twoOf ((X.drop i).map RowV.r).reverse = twoOf ((X.drop (i + 1)).map RowV.r).reverse ++ [X[i].r, X[i].r] := by
  rw [List.drop_eq_getElem_cons h, List.map_cons, List.reverse_cons]
  unfold twoOf
  rw [List.flatMap_append]
  rfl
theorem rcell_one (l : List RowV) (h : ∀ x ∈ l, ∃ a n c, x.v = .slice a n c) : ∀ u ∈ l.flatMap RowV.cells, u.oneCell' = true := by
  intro u hu
  obtain ⟨x, hx, h1⟩ := List.mem_flatMap.1 hu
  simp only [RowV.cells, List.mem_cons, List.not_mem_nil, or_false] at h1
  obtain ⟨a, n, c, e⟩ := h x hx
  rw [h1, e]
  rfl
theorem ccell_one (l : List Col) : ∀ u ∈ l.flatMap Col.cells, u.oneCell' = true := by
  intro u hu
  obtain ⟨x, _, h⟩ := List.mem_flatMap.1 hu
  simp only [Col.cells, List.mem_cons, List.not_mem_nil, or_false] at h
  rcases h with rfl | rfl <;> rfl
set_option maxRecDepth 20000 in
set_option maxHeartbeats 4000000 in
theorem Counts_walk (id : Int) (name : Bs) {ac ai : Option Addr} {cols : List Col} {cc ni ci : Nat} {va vb : Value} {A B : List RowV} {w : World} (G : Gv w) {R : Nat → Prop}
    (hc : Sl R w (.slice ac cols.length cc) cols.length (cols.flatMap Col.cells)) (hA : RowsA R w va A) (hB : RowsA R w vb B) :
    Calls Tryd.prog 6 #[.agg #[.int .i64 id, .string (bs name), .slice ac cols.length cc, .slice ai ni ci], va, vb] w fun e w' => e = .returned (.bool true) ∧ Fr (fun _ => False) w w' := by
  have HC := hid hc
  have HA := hid hA
  have HB := hid hB
  have HK := hid G.kn
  clear hc hA hB G
  have F0 := hid ((Fr.refl (fun _ => False) w).alloc (.cells #[.int .i64 id, .string (bs name), .slice ac cols.length cc, .slice ai ni ci] 25))
  have B0 := hid (Blk.new w [.int .i64 id, .string (bs name), .slice ac cols.length cc, .slice ai ni ci] 25)
  have HD := hid (Nat.le_refl w.heap.size)
  have HSA := hid (sanity_go (HK.out.fre F0.out))
  obtain ⟨m, hmin, hm6, hml⟩ : ∃ m : Nat, (min (cols.length : Int) 6 = (m : Int) ∧ (if (6 : Int) < (cols.length : Int) then (6 : Int) else (cols.length : Int)) = (m : Int)) ∧ m ≤ 6 ∧ m ≤ cols.length := ⟨min 6 cols.length, ⟨by omega, by split <;> omega⟩, by omega, by omega⟩
  obtain ⟨hmin1, hmin2⟩ := hmin
  have i6 : (0 : Int) ≤ (m : Int) := by omega
  have i7 : (m : Int) ≤ (cc : Int) := by
    obtain ⟨_, c', e, h, _⟩ := HC.out
    cases e
    omega
  go_enter Tryd.func6, Tryd.ntmps6
  go_upto_region 1 with fail
  generalize hd : w.heap.size = d at *
  generalize w.alloc _ = w0 at *
  go_upto_region 2 with (go_at_call 10; refine HSA.out.mono ?_; rintro e w1 ⟨rfl, f⟩; have F1 := hid (F0.out.trans f (fun _ h _ => h)); have B1 := hid (Blk.fr B0.out f (fun h => h)); clear f)
  clear HSA F0 B0
  have HS1 := hid (Sl.srcK (P := Tryd.prog) (size := 2) ((Sl.firsts (kk := 2) (fun _ => rfl) HC.out hml).fr (F1.out.alloc (.cells #[] 40)) (fun _ _ h => h)) (by rw [flat_len (k := 2) (fun _ => rfl), List.length_take, Nat.min_eq_left hml]) (by decide) (ccell_one _))
  have HR1 := hid (Row.built (e := 40) (n := 0) (size := 2) (B := w1.heap.size) w1 (l := []) rfl (by decide) (Nat.le_refl _))
  have B2 := hid (B1.out.alloc (.cells #[] 40))
  have F2 := hid (F1.out.alloc (.cells #[] 40))
  have x0 : (w1.alloc (.cells #[] 40)).cell? ⟨d, 0, none⟩ = some (.int .i64 id) := B2.out.cell 0
  have x1 : (w1.alloc (.cells #[] 40)).cell? ⟨d, 1, none⟩ = some (.string (bs name)) := B2.out.cell 1
  have x2 : (w1.alloc (.cells #[] 40)).cell? ⟨d, 2, none⟩ = some (.slice ac cols.length cc) := B2.out.cell 2
  have x3 : (w1.alloc (.cells #[] 40)).cell? ⟨d, 3, none⟩ = some (.slice ai ni ci) := B2.out.cell 3
  clear HC
  go_upto_region 3 with (at_builtin; refine wpList_appS rfl (s := .tmp 18) (x := .tmp 25) (t := 22) (tx := 22) rfl Tryd.underlying22 Tryd.underlying22 (.inr ⟨_, rfl⟩) info_col rfl rfl rfl HR1.out (by rw [World.size_alloc]; omega) HS1.out (by omega) (by omega) ?_; intro ab cb wg APP; simp only [Nat.zero_add] at APP ⊢; have B3 := hid (Blk.fr B2.out APP.fr (fun h => HR1.out.ne B2.out (by decide) _ h rfl)); have F3 := hid (F2.out.trans APP.fr (fun k hk hl => by have := HR1.out.new k hk; have := F1.out.size; omega)); have y2 : wg.cell? ⟨d, 2, none⟩ = some (.slice ac cols.length cc) := B3.out.cell 2; have z2 : wg.frozen? ⟨d, 2, none⟩ = false := B3.out.frozen 2; clear APP)
  have HB4 := hid (show Blk (wg.setCell ⟨d, 2, none⟩ (.slice ab m cb)) d [.int .i64 id, .string (bs name), .slice ab m cb, .slice ai ni ci] 25 from B3.out.set 2 (.slice ab m cb))
  have F4 := hid (F3.out.trans ((Fr.refl (fun k => k = d) wg).setCell ⟨d, 2, none⟩ (.slice ab m cb) (fun _ => rfl)) (fun k hk hl => by omega))
  clear B1 HS1 HR1 B2 F2 x0 x1 x2 x3 B3 F3 y2 z2 F1
  generalize wg.setCell _ _ = W4 at *
  have HLA := hid (list_go (HA.out.fre F4.out))
  go_upto_region 4 with (go_at_call 24; refine HLA.out.mono ?_; rintro e w5 ⟨vx, X, rfl, hmx, hx, f⟩; have HXN := hid (rowsOf_len hmx); clear hmx; have HX5 := hid (hx.rows); have HXL := hid (hx.s.slice); have F5 := hid (F4.out.trans f (fun _ h _ => h)); have B5 := hid (Blk.fr HB4.out f (fun h => h)); clear hx f)
  obtain ⟨ax, cx, evx, -⟩ := HXL.out
  subst evx
  have HLB := hid (list_go (HB.out.fre F5.out))
  go_upto_region 5 with (go_at_call 24; refine HLB.out.mono ?_; rintro e w6 ⟨vy, Y, rfl, hmy, hy, f⟩; have HYN := hid (rowsOf_len hmy); clear hmy; have HY6 := hid (hy.rows); have HYL := hid (hy.s.slice); have F6 := hid (F5.out.trans f (fun _ h _ => h)); have B6 := hid (Blk.fr B5.out f (fun h => h)); have HX6 := hid (HX5.out.fre f); clear hy f)
  obtain ⟨ay, cy, evy, -⟩ := HYL.out
  subst evy
  have HKS := hid (HK.out.fre F6.out)
  clear HLA HLB HXL HYL HX5 B5 F5 HA HB HB4 F4 HK
  have F7 := hid ((Fr.refl (fun _ => False) w6).alloc (.cells #[] 29))
  have HR7 := hid (Row.built (e := 29) (n := 0) (size := 1) (B := w6.heap.size) w6 (l := []) rfl (by decide) (Nat.le_refl _))
  have i8 : IntKind.i64.wrap ((X.length : Int) - 1) = (X.length : Int) - 1 := IntWalk.i64_in _ (by have := HXN.out; omega)
  go_wp2_with (fail)
  go_loopw [10, 11] (fun s10 s11 wr => ∃ (j : Nat) (Z : List RowV) (az : Option Addr) (cz : Nat), j ≤ X.length ∧ s11 = .int .i64 ((j : Int) - 1) ∧ s10 = .slice az Z.length cz ∧ Row 29 1 w6.heap.size wr (.slice az Z.length cz) Z.length (Z.flatMap RowV.cells) ∧ (∀ x ∈ Z, x ∈ X) ∧ Z.map RowV.r = twoOf ((X.drop j).map RowV.r).reverse ∧ Z.length + 2 * j = 2 * X.length ∧ Fr (fun _ => False) w6 wr) (fun _ s11 _ => (intOf s11 + 1).toNat)
  case atStart => exact ⟨X.length, [], _, _, by omega, rfl, rfl, HR7.out, (fun _ h => by cases h), (by rw [List.drop_length]; rfl), by simp, F7.out⟩
  case round =>
    obtain ⟨j, Z, az, cz, hj, rfl, rfl, hrow, hmem, hmap, hlen, hf⟩ := hrel
    have HZ := hid hrow
    have HZM := hid (And.intro hmem (And.intro hmap hlen))
    have FZ := hid hf
    clear hrow hmem hmap hlen hf HR7 F7 i8
    by_cases hj0 : 0 < j
    · obtain ⟨i, rfl⟩ : ∃ i, j = i + 1 := ⟨j - 1, by omega⟩
      have hiX : i < X.length := by omega
      rw [show ((i + 1 : Nat) : Int) - 1 = (i : Int) by omega]
      have i1 : (0 : Int) ≤ (i : Int) := by omega
      have i2 : (i : Int) < (X.length : Int) := by omega
      have i3 : IntKind.i64.wrap ((i : Int) - 1) = (i : Int) - 1 := IntWalk.i64_in _ (by have := HXN.out; omega)
      obtain ⟨g, o, rfl, -, hcell⟩ := sl_cell1 (f := RowV.cells) rowv_len HX6.out.s (by intro e; rw [e] at hiX; simp at hiX)
      have hq := hcell i hiX
      have HTB := hid (two_back hiX)
      obtain ⟨x, hx⟩ : ∃ x, x = X[i] := ⟨_, rfl⟩
      rw [← hx] at hq HTB
      have HXM := hid (show x ∈ X from by rw [hx]; exact List.getElem_mem hiX)
      clear hx hcell
      obtain ⟨vx, rx⟩ := x
      obtain ⟨ax, cx', hvx, -⟩ := (HX6.out.x _ HXM.out).1
      dsimp only at hvx
      subst hvx
      have HQ6 := hid (show w6.cell? ⟨g, o + i, none⟩ = some (.slice ax rx.length cx') from hq)
      have HQ := hid (cell_fr HQ6.out FZ.out (fun h => h))
      clear hq
      go_upto_region 9 with fail
      have fd := (Fr.refl (fun _ => False) wr).drew
      have HZ1 := hid (HZ.out.fre fd)
      have F8 := hid (FZ.out.trans fd (fun _ h _ => h))
      have HQ1 := hid (cell_fr HQ.out fd (fun h => h))
      clear fd HZ FZ HQ
      refine wp_region_scr (.take 0 (.take 1 (.take 2 (.take 3 (.take 4 (.take 5 (.take 6 (.take 7 (.take 8 (.op 9 (.op 10 (.take 11 .done)))))))))))) (fun kz w => (kz ≤ 12 → w.cell? ⟨g, o + i, none⟩ = some (.slice ax rx.length cx')) ∧ Hid True) (by kernel_rfl) (by kernel_rfl) (by intro c a d v w h; cases d <;> exact h) ?_
      repeat
        first
        | (refine wpT_pure rfl rfl rfl ?_; apply Exists.intro; refine ⟨?_, ?_⟩; intro w; ((go_simp <;> rfl)); simp only [Act.put, List.setIfInBounds_toArray, List.set_cons_zero, List.set_cons_succ])
        | (refine wpT_take 12 rfl rfl (by decide +kernel) ⟨fun _ => HQ1.out, hid trivial⟩ ?_; apply Exists.intro; refine ⟨?_, ?_⟩; intro w hw; (have qa := hw.1 (Nat.le_refl _); have qb := hw.2); ((go_simp <;> rfl)); simp only [Act.put, List.setIfInBounds_toArray, List.set_cons_zero, List.set_cons_succ])
        | (refine wpT_skip rfl rfl ?_; simp only [Act.put, List.setIfInBounds_toArray, List.set_cons_zero, List.set_cons_succ])
      generalize wr.drew = WA at *
      have fa := (Fr.refl (fun _ => False) WA).alloc (.cells #[.slice ax rx.length cx', .slice ax rx.length cx'] 29)
      have HZ2 := hid (HZ1.out.fre fa)
      have F9 := hid (F8.out.trans fa (fun _ h _ => h))
      have HQ2 := hid (cell_fr HQ1.out fa (fun h => h))
      have HSR := hid ((Row.built (e := 29) (size := 1) (n := 2) (B := 0) WA (l := [.slice ax rx.length cx', .slice ax rx.length cx']) rfl (by decide) (Nat.zero_le _)).src (P := Tryd.prog) (by intro u hu; simp only [List.mem_cons, List.not_mem_nil, or_false] at hu; rcases hu with rfl | rfl <;> rfl))
      clear fa HZ1 F8 HQ1
      refine wpT_op rfl ?_
      go_wp2_with (fail)
      (refine ⟨?_, ?_⟩; focus (intro kz hk hk2 hh; first | (exfalso; simp at hk2; omega) | exact hh | exact (fun h => absurd h (by omega)) | obtain ⟨qa, qb⟩ := hh; first | exact ⟨qa, qb⟩ | (refine ⟨fun h => absurd h (by omega), ?_⟩; first | exact qb | (exact HQ2.out)) | (refine ⟨fun h => ?_, ?_⟩; (have qa := qa h); all_goals (first | exact qa | exact qb | (exact HQ2.out)))))
      refine wpT_op rfl ?_
      go_wp2_with ((at_builtin; refine wpList_appS rfl (s := .tmp 40) (x := .tmp 49) (t := 26) (tx := 26) rfl Tryd.underlying26 Tryd.underlying26 (.inr ⟨_, rfl⟩) info_row rfl rfl rfl HZ2.out F9.out.size HSR.out (by have := HZM.out.2.2; have := HXN.out; omega) (by have := HZM.out.2.2; have := HXN.out; omega) ?_; intro ab2 ac2 wh APP; have FA := hid (F9.out.trans APP.fr (fun k hk hl => by have := HZ2.out.new k hk; omega)); have HZ3 := hid (APP.row.cast (m := (Z ++ [(⟨.slice ax rx.length cx', rx⟩ : RowV), ⟨.slice ax rx.length cx', rx⟩]).length) (ys := (Z ++ [(⟨.slice ax rx.length cx', rx⟩ : RowV), ⟨.slice ax rx.length cx', rx⟩]).flatMap RowV.cells) (by simp) (by simp [RowV.cells])); clear APP))
      (refine ⟨?_, ?_⟩; focus (intro kz hk hk2 hh; first | (exfalso; simp at hk2; omega) | exact hh | exact (fun h => absurd h (by omega)) | obtain ⟨qa, qb⟩ := hh; first | exact ⟨qa, qb⟩ | (refine ⟨fun h => absurd h (by omega), ?_⟩; first | exact qb | (exact cell_fr HQ6.out FA.out (fun h => h))) | (refine ⟨fun h => ?_, ?_⟩; (have qa := qa h); all_goals (first | exact qa | exact qb | (exact cell_fr HQ6.out FA.out (fun h => h))))))
      clear HZ2 F9 HQ2 HSR
      repeat
        first
        | (refine wpT_pure rfl rfl rfl ?_; apply Exists.intro; refine ⟨?_, ?_⟩; intro w; ((go_simp <;> rfl)); simp only [Act.put, List.setIfInBounds_toArray, List.set_cons_zero, List.set_cons_succ])
        | (refine wpT_take 12 rfl rfl (by decide +kernel) ⟨fun _ => cell_fr HQ6.out FA.out (fun h => h), hid trivial⟩ ?_; apply Exists.intro; refine ⟨?_, ?_⟩; intro w hw; (have qa := hw.1 (Nat.le_refl _); have qb := hw.2); ((go_simp <;> rfl)); simp only [Act.put, List.setIfInBounds_toArray, List.set_cons_zero, List.set_cons_succ])
        | (refine wpT_skip rfl rfl ?_; simp only [Act.put, List.setIfInBounds_toArray, List.set_cons_zero, List.set_cons_succ])
      refine wpT_nil ?_
      go_wp2_with (fail)
      go_roundw
      case rel =>
        refine ⟨i, Z ++ [(⟨.slice ax rx.length cx', rx⟩ : RowV), ⟨.slice ax rx.length cx', rx⟩], ab2, ac2, by omega, rfl, by simp, ?_, fun x hx => ?_, ?_, ?_, FA.out⟩
        · have e : (Z ++ [(⟨.slice ax rx.length cx', rx⟩ : RowV), ⟨.slice ax rx.length cx', rx⟩]).length = Z.length + 2 := by simp
          have := HZ3.out
          rw [e] at this ⊢
          exact this
        · rcases List.mem_append.1 hx with h | h
          · exact HZM.out.1 x h
          · simp only [List.mem_cons, List.not_mem_nil, or_false, or_self] at h
            rw [h]
            exact HXM.out
        · rw [List.map_append, HZM.out.2.1, HTB.out]
          rfl
        · have := HZM.out.2.2
          rw [List.length_append]
          simp only [List.length_cons, List.length_nil]
          omega
      case measure => simp [intOf]
    · obtain rfl : j = 0 := by omega
      have HZW := hid (show RowsS (fun _ => True) wr (.slice az Z.length cz) Z from ⟨HZ.out.sl' (fun _ _ => trivial), fun x hx => (HX6.out.fre FZ.out).x x (HZM.out.1 x hx)⟩)
      have HZE := hid (And.intro HZM.out.2.1 HZM.out.2.2)
      have HXW := hid (HX6.out.fre FZ.out)
      have HYW := hid (HY6.out.fre FZ.out)
      have BW := hid (Blk.fr B6.out FZ.out (fun h => h))
      have HKW := hid (HKS.out.fre FZ.out)
      have FW := hid (F6.out.trans FZ.out (fun _ h _ => h))
      clear HZ HZM FZ HX6 HY6 B6 HKS F6
      go_upto_region 10 with fail
      have hZ20 : Z.length ≤ 20 := by have := HZE.out.2; have := HXN.out; omega
      have HC1 := hid (Count_go id name (ac := ab) (cc := cb) (ai := ai) (ni := ni) (ci := ci) (nc := m) (by omega) HXW.out (by have := HXN.out; omega) HKW.out)
      go_upto_region 11 with (first
        | (refine wpList_load_mid rfl 25 (.tmp 3) rfl d 0 rfl _ _ BW.out.all Tryd.underlying25 rfl size_tab2 ?_)
        | (go_at_call 11; refine HC1.out.mono ?_; rintro e w7 ⟨v1, rfl, hv, f⟩; obtain ⟨a1, c1, rfl, _⟩ := hv.slice; have HV1 := hid (hv.low (Nat.zero_le _)); have F7 := hid f; clear hv f))
      clear HC1
      have FA := (Fr.refl (fun _ => False) w7).alloc (.cells #[.int .i64 X.length, .slice a1 m c1] 32)
      have HV8 := hid (HV1.out.fre FA)
      have BP8 := hid (Blk.new w7 [.int .i64 X.length, .slice a1 m c1] 32)
      have F8 := hid (F7.out.trans FA (fun _ h _ => h))
      clear FA HV1 F7
      generalize w7.heap.size = dp at *
      generalize w7.alloc _ = W8 at *
      have HC2 := hid (Count_go id name (ac := ab) (cc := cb) (ai := ai) (ni := ni) (ci := ci) (nc := m) (by omega) (HYW.out.fre F8.out) (by have := HYN.out; omega) (HKW.out.fre F8.out))
      have BW8 := hid (Blk.fr BW.out F8.out (fun h => h))
      go_upto_region 12 with (first
        | (refine wpList_load_mid rfl 25 (.tmp 3) rfl d 0 rfl _ _ BW8.out.all Tryd.underlying25 rfl size_tab2 ?_)
        | (go_at_call 11; refine HC2.out.mono ?_; rintro e w9 ⟨v1, rfl, hv, f⟩; obtain ⟨a2, c2, rfl, _⟩ := hv.slice; have HV2 := hid (hv.low (Nat.zero_le _)); have F9 := hid f; clear hv f))
      clear HC2
      have FA := (Fr.refl (fun _ => False) w9).alloc (.cells #[.int .i64 Y.length, .slice a2 m c2] 32)
      have HV10 := hid (HV2.out.fre FA)
      have BQ10 := hid (Blk.new w9 [.int .i64 Y.length, .slice a2 m c2] 32)
      have F10 := hid (F9.out.trans FA (fun _ h _ => h))
      clear FA HV2 F9
      generalize w9.heap.size = dq at *
      generalize w9.alloc _ = W10 at *
      have F10w := hid (F8.out.trans F10.out (fun _ h _ => h))
      have BW10 := hid (Blk.fr BW8.out F10.out (fun h => h))
      have HVP10 := hid (HV8.out.fre F10.out)
      have BP10 := hid (Blk.fr BP8.out F10.out (fun h => h))
      clear BW8 HV8 BP8 F8 F10
      have HSX := hid (fun (W : World) (f : Fr (fun _ => False) W10 W) => Sl.srcK (P := Tryd.prog) (size := 1) (HXW.out.fre (F10w.out.trans f (fun _ h _ => h))).s (by rw [flat_len (k := 1) rowv_len]) (by decide) (rcell_one X (fun x hx => by obtain ⟨a, c, e, _⟩ := (HXW.out.x x hx).1; exact ⟨a, _, c, e⟩)))
      have HSY := hid (fun (W : World) (f : Fr (fun _ => False) W10 W) => Sl.srcK (P := Tryd.prog) (size := 1) (HYW.out.fre (F10w.out.trans f (fun _ h _ => h))).s (by rw [flat_len (k := 1) rowv_len]) (by decide) (rcell_one Y (fun x hx => by obtain ⟨a, c, e, _⟩ := (HYW.out.x x hx).1; exact ⟨a, _, c, e⟩)))
      have HC3 : Hid (∀ (W : World), Fr (fun _ => False) W10 W → ∀ (a : Option Addr) (c : Nat), Row 29 1 W10.heap.size W (.slice a (X.length + Y.length) c) (X.length + Y.length) ([] ++ X.flatMap RowV.cells ++ Y.flatMap RowV.cells) → Calls Tryd.prog 11 #[.agg #[.int .i64 id, .string (bs name), .slice ab m cb, .slice ai ni ci], .slice a (X.length + Y.length) c] W fun e w' => ∃ v, e = .returned (.agg #[.int .i64 ((X.length + Y.length : Nat) : Int), v]) ∧ Row 3 1 W.heap.size w' v m ((countM m (X.map RowV.r ++ Y.map RowV.r)).flatMap ncell) ∧ Fr (fun _ => False) W w') := hid (fun W f a c h => by
        have := Count_go id name (ac := ab) (cc := cb) (ai := ai) (ni := ni) (ci := ci) (nc := m) (by omega) (rows_app (HXW.out.fre (F10w.out.trans f (fun _ h _ => h))) (HYW.out.fre (F10w.out.trans f (fun _ h _ => h))) (fun _ => trivial) h) (by rw [List.length_append]; have := HXN.out; have := HYN.out; omega) (HKW.out.fre (F10w.out.trans f (fun _ h _ => h)))
        rw [List.length_append, List.map_append] at this
        exact this)
      go_cut [14] (fun s14 wx => ∃ (dr : Nat) (a3 : Option Addr) (c3 : Nat), s14 = .pointer (some ⟨dr, 0, none⟩) ∧ Blk wx dr [.int .i64 ((X.length + Y.length : Nat) : Int), .slice a3 m c3] 32 ∧ Row 3 1 0 wx (.slice a3 m c3) m ((countM m (X.map RowV.r ++ Y.map RowV.r)).flatMap ncell) ∧ Fr (fun _ => False) W10 wx)
      case first =>
        have FT0 := hid ((Fr.refl (fun _ => False) W10).drew)
        refine wp_region_scr (.take 0 (.take 2 (.take 4 (.two 1 7 (.two 3 7 (.two 5 7 (.two 6 7 (.op 7 (.op 8 .done)) (.op 6 (.op 8 .done))) (.op 5 (.op 6 (.op 8 .done)))) (.op 3 (.op 5 (.op 6 (.op 8 .done))))) (.op 1 (.op 3 (.op 5 (.op 6 (.op 8 .done))))))))) (fun kz w => (kz ≤ 9 → w.rangeAt d 0 [.int .i64 id, .string (bs name), .slice ab m cb, .slice ai ni ci]) ∧ Hid True) (by kernel_rfl) (by kernel_rfl) (by intro c a d v w h; cases d <;> exact h) ?_
        repeat
          first
          | (refine wpT_pure rfl rfl rfl ?_; apply Exists.intro; refine ⟨?_, ?_⟩; intro w; (first | (first | exact run_load_mid _ _ rfl d _ rfl _ _ qa Tryd.underlying25 rfl size_tab2 | (go_simp <;> rfl)) | (go_simp <;> rfl)); simp only [Act.put, List.setIfInBounds_toArray, List.set_cons_zero, List.set_cons_succ])
          | (refine wpT_take 9 rfl rfl (by decide +kernel) ⟨fun _ => (Blk.fr BW10.out FT0.out (fun h => h)).all, hid trivial⟩ ?_; apply Exists.intro; refine ⟨?_, ?_⟩; intro w hw; (have qa := hw.1 (Nat.le_refl _); have qb := hw.2); (first | (first | exact run_load_mid _ _ rfl d _ rfl _ _ qa Tryd.underlying25 rfl size_tab2 | (go_simp <;> rfl)) | (go_simp <;> rfl)); simp only [Act.put, List.setIfInBounds_toArray, List.set_cons_zero, List.set_cons_succ])
          | (refine wpT_skip rfl rfl ?_; simp only [Act.put, List.setIfInBounds_toArray, List.set_cons_zero, List.set_cons_succ])
        generalize W10.drew = WA at *
        refine wpT_two ?_ ?_
        · skip
          have fa := (Fr.refl (fun _ => False) WA).alloc (.cells #[] 29)
          have FT1 := hid (FT0.out.trans fa (fun _ h _ => h))
          have HR1 := hid (Row.built (e := 29) (n := 0) (size := 1) (B := W10.heap.size) WA (l := []) rfl (by decide) FT0.out.size)
          clear fa FT0
          refine wpT_op rfl ?_
          go_wp2_with (fail)
          (refine ⟨?_, ?_⟩; focus (intro kz hk hk2 hh; first | (exfalso; simp at hk2; omega) | exact hh | exact (fun h => absurd h (by omega)) | obtain ⟨qa, qb⟩ := hh; first | exact ⟨qa, qb⟩ | (refine ⟨fun h => absurd h (by omega), ?_⟩; first | exact qb | (exact (Blk.fr BW10.out FT1.out (fun h => h)).all)) | (refine ⟨fun h => ?_, ?_⟩; (have qa := qa h); all_goals (first | exact qa | exact qb | (exact (Blk.fr BW10.out FT1.out (fun h => h)).all)))))
          generalize WA.alloc _ = W1 at *
          refine wpT_two ?_ ?_
          · skip
            refine wpT_op rfl ?_
            go_wp2_with ((at_builtin; refine wpList_appS rfl (s := .tmp 58) (x := .tmp 59) (t := 26) (tx := 26) rfl Tryd.underlying26 Tryd.underlying26 (.inr ⟨_, rfl⟩) info_row rfl rfl rfl HR1.out FT1.out.size (HSX.out _ FT1.out) (by have := HXN.out; have := HYN.out; omega) (by have := HXN.out; have := HYN.out; omega) ?_; intro aa2 ca2 W2 APP; simp only [Nat.zero_add] at APP ⊢; have FT2 := hid (FT1.out.trans APP.fr (fun k hk hl => by have := HR1.out.new k hk; omega)); have HR2 := hid APP.row; clear APP))
            (refine ⟨?_, ?_⟩; focus (intro kz hk hk2 hh; first | (exfalso; simp at hk2; omega) | exact hh | exact (fun h => absurd h (by omega)) | obtain ⟨qa, qb⟩ := hh; first | exact ⟨qa, qb⟩ | (refine ⟨fun h => absurd h (by omega), ?_⟩; first | exact qb | (exact (Blk.fr BW10.out FT2.out (fun h => h)).all)) | (refine ⟨fun h => ?_, ?_⟩; (have qa := qa h); all_goals (first | exact qa | exact qb | (exact (Blk.fr BW10.out FT2.out (fun h => h)).all)))))
            clear HR1 FT1
            refine wpT_two ?_ ?_
            · skip
              refine wpT_op rfl ?_
              go_wp2_with ((at_builtin; refine wpList_appS rfl (s := .tmp 60) (x := .tmp 61) (t := 26) (tx := 26) rfl Tryd.underlying26 Tryd.underlying26 (.inr ⟨_, rfl⟩) info_row rfl rfl rfl HR2.out FT2.out.size (HSY.out _ FT2.out) (by have := HXN.out; have := HYN.out; omega) (by have := HXN.out; have := HYN.out; omega) ?_; intro aa3 ca3 W3 APP; simp only [Nat.zero_add] at APP ⊢; have FT3 := hid (FT2.out.trans APP.fr (fun k hk hl => by have := HR2.out.new k hk; omega)); have HR3 := hid APP.row; clear APP))
              (refine ⟨?_, ?_⟩; focus (intro kz hk hk2 hh; first | (exfalso; simp at hk2; omega) | exact hh | exact (fun h => absurd h (by omega)) | obtain ⟨qa, qb⟩ := hh; first | exact ⟨qa, qb⟩ | (refine ⟨fun h => absurd h (by omega), ?_⟩; first | exact qb | (exact (Blk.fr BW10.out FT3.out (fun h => h)).all)) | (refine ⟨fun h => ?_, ?_⟩; (have qa := qa h); all_goals (first | exact qa | exact qb | (exact (Blk.fr BW10.out FT3.out (fun h => h)).all)))))
              clear HR2 FT2
              refine wpT_two ?_ ?_
              · skip
                refine wpT_op rfl ?_
                go_wp2_with ((go_at_call 11; refine (HC3.out _ FT3.out _ _ HR3.out).mono ?_; rintro e W4 ⟨v3, rfl, hv, f⟩; obtain ⟨a3, c3, rfl, _⟩ := hv.slice; have HV4 := hid (hv.low (Nat.zero_le _)); have FT4 := hid (FT3.out.trans f (fun _ h _ => h)); clear hv f))
                (refine ⟨?_, ?_⟩; focus (intro kz hk hk2 hh; first | (exfalso; simp at hk2; omega) | exact hh | exact (fun h => absurd h (by omega)) | obtain ⟨qa, qb⟩ := hh; first | exact ⟨qa, qb⟩ | (refine ⟨fun h => absurd h (by omega), ?_⟩; first | exact qb | (exact (Blk.fr BW10.out FT4.out (fun h => h)).all)) | (refine ⟨fun h => ?_, ?_⟩; (have qa := qa h); all_goals (first | exact qa | exact qb | (exact (Blk.fr BW10.out FT4.out (fun h => h)).all)))))
                clear HR3 FT3
                have fa := (Fr.refl (fun _ => False) W4).alloc (.cells #[.int .i64 0, .slice none 0 0] 32)
                have FT5 := hid (FT4.out.trans fa (fun _ h _ => h))
                have HV5 := hid (HV4.out.fre fa)
                have BZ5 := hid (Blk.new W4 [.int .i64 0, .slice none 0 0] 32)
                have HDR := hid FT4.out.size
                clear fa FT4 HV4
                refine wpT_op rfl ?_
                go_wp2_with (fail)
                (refine ⟨?_, ?_⟩; focus (intro kz hk hk2 hh; first | (exfalso; simp at hk2; omega) | exact hh | exact (fun h => absurd h (by omega)) | obtain ⟨qa, qb⟩ := hh; first | exact ⟨qa, qb⟩ | (refine ⟨fun h => absurd h (by omega), ?_⟩; first | exact qb | (exact (Blk.fr BW10.out FT5.out (fun h => h)).all)) | (refine ⟨fun h => ?_, ?_⟩; (have qa := qa h); all_goals (first | exact qa | exact qb | (exact (Blk.fr BW10.out FT5.out (fun h => h)).all)))))
                generalize W4.heap.size = dr at *
                generalize W4.alloc _ = W5 at *
                have hth : W5.there dr 0 2 := BZ5.out.there 0 2 (by simp)
                have BF := hid (put_stats BZ5.out [.int .i64 ((X.length + Y.length : Nat) : Int), .slice a3 m c3] rfl)
                have FF := hid ((Fr.refl (fun k => k = dr) W5).put dr 0 [.int .i64 ((X.length + Y.length : Nat) : Int), .slice a3 m c3] (fun _ => rfl))
                have FE := hid (FT5.out.trans FF.out (fun k hk hl => by have := HDR.out; omega))
                have HVF := hid (HV5.out.fr FF.out (fun k hk e => HV5.out.ne BZ5.out (by decide) k hk e))
                refine wpT_op rfl ?_
                refine wpList_store_mid rfl 32 (.tmp 14) (.tmp 63) rfl _ 0 #[.int .i64 ((X.length + Y.length : Nat) : Int), .slice a3 m c3] rfl rfl hth size_stats (by simp [Value.oneCell']) ?_
                rw [List.toList_toArray]
                go_wp2_with (fail)
                refine ⟨fun kz hk hk2 hh => (by first | exact ⟨fun _ => (Blk.fr BW10.out FE.out (fun h => h)).all, hid trivial⟩ | exact fun _ => (Blk.fr BW10.out FE.out (fun h => h)).all), ?_⟩
                clear hth
                refine wpT_nil ?_
                go_wp2_with (fail)
                go_meet
                exact ⟨dr, a3, c3, rfl, BF.out, HVF.out, FE.out⟩
              · skip
                have fa := (Fr.refl (fun _ => False) W3).alloc (.cells #[.int .i64 0, .slice none 0 0] 32)
                have FT4 := hid (FT3.out.trans fa (fun _ h _ => h))
                have HR4 := hid (HR3.out.fre fa)
                have BZ4 := hid (Blk.new W3 [.int .i64 0, .slice none 0 0] 32)
                have HDR := hid FT3.out.size
                clear fa FT3 HR3
                refine wpT_op rfl ?_
                go_wp2_with (fail)
                (refine ⟨?_, ?_⟩; focus (intro kz hk hk2 hh; first | (exfalso; simp at hk2; omega) | exact hh | exact (fun h => absurd h (by omega)) | obtain ⟨qa, qb⟩ := hh; first | exact ⟨qa, qb⟩ | (refine ⟨fun h => absurd h (by omega), ?_⟩; first | exact qb | (exact (Blk.fr BW10.out FT4.out (fun h => h)).all)) | (refine ⟨fun h => ?_, ?_⟩; (have qa := qa h); all_goals (first | exact qa | exact qb | (exact (Blk.fr BW10.out FT4.out (fun h => h)).all)))))
                generalize W3.heap.size = dr at *
                generalize W3.alloc _ = W4 at *
                refine wpT_op rfl ?_
                go_wp2_with ((go_at_call 11; refine (HC3.out _ FT4.out _ _ HR4.out).mono ?_; rintro e W5 ⟨v3, rfl, hv, f⟩; obtain ⟨a3, c3, rfl, _⟩ := hv.slice; have HV5 := hid (hv.low (Nat.zero_le _)); have FT5 := hid (FT4.out.trans f (fun _ h _ => h)); have BZ5 := hid (Blk.fr BZ4.out f (fun h => h)); clear hv f))
                (refine ⟨?_, ?_⟩; focus (intro kz hk hk2 hh; first | (exfalso; simp at hk2; omega) | exact hh | exact (fun h => absurd h (by omega)) | obtain ⟨qa, qb⟩ := hh; first | exact ⟨qa, qb⟩ | (refine ⟨fun h => absurd h (by omega), ?_⟩; first | exact qb | (exact (Blk.fr BW10.out FT5.out (fun h => h)).all)) | (refine ⟨fun h => ?_, ?_⟩; (have qa := qa h); all_goals (first | exact qa | exact qb | (exact (Blk.fr BW10.out FT5.out (fun h => h)).all)))))
                clear HR4 FT4 BZ4
                have hth : W5.there dr 0 2 := BZ5.out.there 0 2 (by simp)
                have BF := hid (put_stats BZ5.out [.int .i64 ((X.length + Y.length : Nat) : Int), .slice a3 m c3] rfl)
                have FF := hid ((Fr.refl (fun k => k = dr) W5).put dr 0 [.int .i64 ((X.length + Y.length : Nat) : Int), .slice a3 m c3] (fun _ => rfl))
                have FE := hid (FT5.out.trans FF.out (fun k hk hl => by have := HDR.out; omega))
                have HVF := hid (HV5.out.fr FF.out (fun k hk e => HV5.out.ne BZ5.out (by decide) k hk e))
                refine wpT_op rfl ?_
                refine wpList_store_mid rfl 32 (.tmp 14) (.tmp 63) rfl _ 0 #[.int .i64 ((X.length + Y.length : Nat) : Int), .slice a3 m c3] rfl rfl hth size_stats (by simp [Value.oneCell']) ?_
                rw [List.toList_toArray]
                go_wp2_with (fail)
                refine ⟨fun kz hk hk2 hh => (by first | exact ⟨fun _ => (Blk.fr BW10.out FE.out (fun h => h)).all, hid trivial⟩ | exact fun _ => (Blk.fr BW10.out FE.out (fun h => h)).all), ?_⟩
                clear hth
                refine wpT_nil ?_
                go_wp2_with (fail)
                go_meet
                exact ⟨dr, a3, c3, rfl, BF.out, HVF.out, FE.out⟩
            · skip
              have fa := (Fr.refl (fun _ => False) W2).alloc (.cells #[.int .i64 0, .slice none 0 0] 32)
              have FT3 := hid (FT2.out.trans fa (fun _ h _ => h))
              have HR3 := hid (HR2.out.fre fa)
              have BZ3 := hid (Blk.new W2 [.int .i64 0, .slice none 0 0] 32)
              have HDR := hid FT2.out.size
              clear fa FT2 HR2
              refine wpT_op rfl ?_
              go_wp2_with (fail)
              (refine ⟨?_, ?_⟩; focus (intro kz hk hk2 hh; first | (exfalso; simp at hk2; omega) | exact hh | exact (fun h => absurd h (by omega)) | obtain ⟨qa, qb⟩ := hh; first | exact ⟨qa, qb⟩ | (refine ⟨fun h => absurd h (by omega), ?_⟩; first | exact qb | (exact (Blk.fr BW10.out FT3.out (fun h => h)).all)) | (refine ⟨fun h => ?_, ?_⟩; (have qa := qa h); all_goals (first | exact qa | exact qb | (exact (Blk.fr BW10.out FT3.out (fun h => h)).all)))))
              generalize W2.heap.size = dr at *
              generalize W2.alloc _ = W3 at *
              refine wpT_op rfl ?_
              go_wp2_with ((at_builtin; refine wpList_appS rfl (s := .tmp 60) (x := .tmp 61) (t := 26) (tx := 26) rfl Tryd.underlying26 Tryd.underlying26 (.inr ⟨_, rfl⟩) info_row rfl rfl rfl HR3.out FT3.out.size (HSY.out _ FT3.out) (by have := HXN.out; have := HYN.out; omega) (by have := HXN.out; have := HYN.out; omega) ?_; intro aa4 ca4 W4 APP; simp only [Nat.zero_add] at APP ⊢; have FT4 := hid (FT3.out.trans APP.fr (fun k hk hl => by have := HR3.out.new k hk; omega)); have HR4 := hid APP.row; have BZ4 := hid (Blk.fr BZ3.out APP.fr (fun h => HR3.out.ne BZ3.out (by decide) _ h rfl)); clear APP))
              (refine ⟨?_, ?_⟩; focus (intro kz hk hk2 hh; first | (exfalso; simp at hk2; omega) | exact hh | exact (fun h => absurd h (by omega)) | obtain ⟨qa, qb⟩ := hh; first | exact ⟨qa, qb⟩ | (refine ⟨fun h => absurd h (by omega), ?_⟩; first | exact qb | (exact (Blk.fr BW10.out FT4.out (fun h => h)).all)) | (refine ⟨fun h => ?_, ?_⟩; (have qa := qa h); all_goals (first | exact qa | exact qb | (exact (Blk.fr BW10.out FT4.out (fun h => h)).all)))))
              clear HR3 FT3 BZ3
              refine wpT_op rfl ?_
              go_wp2_with ((go_at_call 11; refine (HC3.out _ FT4.out _ _ HR4.out).mono ?_; rintro e W5 ⟨v3, rfl, hv, f⟩; obtain ⟨a3, c3, rfl, _⟩ := hv.slice; have HV5 := hid (hv.low (Nat.zero_le _)); have FT5 := hid (FT4.out.trans f (fun _ h _ => h)); have BZ5 := hid (Blk.fr BZ4.out f (fun h => h)); clear hv f))
              (refine ⟨?_, ?_⟩; focus (intro kz hk hk2 hh; first | (exfalso; simp at hk2; omega) | exact hh | exact (fun h => absurd h (by omega)) | obtain ⟨qa, qb⟩ := hh; first | exact ⟨qa, qb⟩ | (refine ⟨fun h => absurd h (by omega), ?_⟩; first | exact qb | (exact (Blk.fr BW10.out FT5.out (fun h => h)).all)) | (refine ⟨fun h => ?_, ?_⟩; (have qa := qa h); all_goals (first | exact qa | exact qb | (exact (Blk.fr BW10.out FT5.out (fun h => h)).all)))))
              clear HR4 FT4 BZ4
              have hth : W5.there dr 0 2 := BZ5.out.there 0 2 (by simp)
              have BF := hid (put_stats BZ5.out [.int .i64 ((X.length + Y.length : Nat) : Int), .slice a3 m c3] rfl)
              have FF := hid ((Fr.refl (fun k => k = dr) W5).put dr 0 [.int .i64 ((X.length + Y.length : Nat) : Int), .slice a3 m c3] (fun _ => rfl))
              have FE := hid (FT5.out.trans FF.out (fun k hk hl => by have := HDR.out; omega))
              have HVF := hid (HV5.out.fr FF.out (fun k hk e => HV5.out.ne BZ5.out (by decide) k hk e))
              refine wpT_op rfl ?_
              refine wpList_store_mid rfl 32 (.tmp 14) (.tmp 63) rfl _ 0 #[.int .i64 ((X.length + Y.length : Nat) : Int), .slice a3 m c3] rfl rfl hth size_stats (by simp [Value.oneCell']) ?_
              rw [List.toList_toArray]
              go_wp2_with (fail)
              refine ⟨fun kz hk hk2 hh => (by first | exact ⟨fun _ => (Blk.fr BW10.out FE.out (fun h => h)).all, hid trivial⟩ | exact fun _ => (Blk.fr BW10.out FE.out (fun h => h)).all), ?_⟩
              clear hth
              refine wpT_nil ?_
              go_wp2_with (fail)
              go_meet
              exact ⟨dr, a3, c3, rfl, BF.out, HVF.out, FE.out⟩
          · skip
            have fa := (Fr.refl (fun _ => False) W1).alloc (.cells #[.int .i64 0, .slice none 0 0] 32)
            have FT2 := hid (FT1.out.trans fa (fun _ h _ => h))
            have HR2 := hid (HR1.out.fre fa)
            have BZ2 := hid (Blk.new W1 [.int .i64 0, .slice none 0 0] 32)
            have HDR := hid FT1.out.size
            clear fa FT1 HR1
            refine wpT_op rfl ?_
            go_wp2_with (fail)
            (refine ⟨?_, ?_⟩; focus (intro kz hk hk2 hh; first | (exfalso; simp at hk2; omega) | exact hh | exact (fun h => absurd h (by omega)) | obtain ⟨qa, qb⟩ := hh; first | exact ⟨qa, qb⟩ | (refine ⟨fun h => absurd h (by omega), ?_⟩; first | exact qb | (exact (Blk.fr BW10.out FT2.out (fun h => h)).all)) | (refine ⟨fun h => ?_, ?_⟩; (have qa := qa h); all_goals (first | exact qa | exact qb | (exact (Blk.fr BW10.out FT2.out (fun h => h)).all)))))
            generalize W1.heap.size = dr at *
            generalize W1.alloc _ = W2 at *
            refine wpT_op rfl ?_
            go_wp2_with ((at_builtin; refine wpList_appS rfl (s := .tmp 58) (x := .tmp 59) (t := 26) (tx := 26) rfl Tryd.underlying26 Tryd.underlying26 (.inr ⟨_, rfl⟩) info_row rfl rfl rfl HR2.out FT2.out.size (HSX.out _ FT2.out) (by have := HXN.out; have := HYN.out; omega) (by have := HXN.out; have := HYN.out; omega) ?_; intro aa3 ca3 W3 APP; simp only [Nat.zero_add] at APP ⊢; have FT3 := hid (FT2.out.trans APP.fr (fun k hk hl => by have := HR2.out.new k hk; omega)); have HR3 := hid APP.row; have BZ3 := hid (Blk.fr BZ2.out APP.fr (fun h => HR2.out.ne BZ2.out (by decide) _ h rfl)); clear APP))
            (refine ⟨?_, ?_⟩; focus (intro kz hk hk2 hh; first | (exfalso; simp at hk2; omega) | exact hh | exact (fun h => absurd h (by omega)) | obtain ⟨qa, qb⟩ := hh; first | exact ⟨qa, qb⟩ | (refine ⟨fun h => absurd h (by omega), ?_⟩; first | exact qb | (exact (Blk.fr BW10.out FT3.out (fun h => h)).all)) | (refine ⟨fun h => ?_, ?_⟩; (have qa := qa h); all_goals (first | exact qa | exact qb | (exact (Blk.fr BW10.out FT3.out (fun h => h)).all)))))
            clear HR2 FT2 BZ2
            refine wpT_op rfl ?_
            go_wp2_with ((at_builtin; refine wpList_appS rfl (s := .tmp 60) (x := .tmp 61) (t := 26) (tx := 26) rfl Tryd.underlying26 Tryd.underlying26 (.inr ⟨_, rfl⟩) info_row rfl rfl rfl HR3.out FT3.out.size (HSY.out _ FT3.out) (by have := HXN.out; have := HYN.out; omega) (by have := HXN.out; have := HYN.out; omega) ?_; intro aa4 ca4 W4 APP; simp only [Nat.zero_add] at APP ⊢; have FT4 := hid (FT3.out.trans APP.fr (fun k hk hl => by have := HR3.out.new k hk; omega)); have HR4 := hid APP.row; have BZ4 := hid (Blk.fr BZ3.out APP.fr (fun h => HR3.out.ne BZ3.out (by decide) _ h rfl)); clear APP))
            (refine ⟨?_, ?_⟩; focus (intro kz hk hk2 hh; first | (exfalso; simp at hk2; omega) | exact hh | exact (fun h => absurd h (by omega)) | obtain ⟨qa, qb⟩ := hh; first | exact ⟨qa, qb⟩ | (refine ⟨fun h => absurd h (by omega), ?_⟩; first | exact qb | (exact (Blk.fr BW10.out FT4.out (fun h => h)).all)) | (refine ⟨fun h => ?_, ?_⟩; (have qa := qa h); all_goals (first | exact qa | exact qb | (exact (Blk.fr BW10.out FT4.out (fun h => h)).all)))))
            clear HR3 FT3 BZ3
            refine wpT_op rfl ?_
            go_wp2_with ((go_at_call 11; refine (HC3.out _ FT4.out _ _ HR4.out).mono ?_; rintro e W5 ⟨v3, rfl, hv, f⟩; obtain ⟨a3, c3, rfl, _⟩ := hv.slice; have HV5 := hid (hv.low (Nat.zero_le _)); have FT5 := hid (FT4.out.trans f (fun _ h _ => h)); have BZ5 := hid (Blk.fr BZ4.out f (fun h => h)); clear hv f))
            (refine ⟨?_, ?_⟩; focus (intro kz hk hk2 hh; first | (exfalso; simp at hk2; omega) | exact hh | exact (fun h => absurd h (by omega)) | obtain ⟨qa, qb⟩ := hh; first | exact ⟨qa, qb⟩ | (refine ⟨fun h => absurd h (by omega), ?_⟩; first | exact qb | (exact (Blk.fr BW10.out FT5.out (fun h => h)).all)) | (refine ⟨fun h => ?_, ?_⟩; (have qa := qa h); all_goals (first | exact qa | exact qb | (exact (Blk.fr BW10.out FT5.out (fun h => h)).all)))))
            clear HR4 FT4 BZ4
            have hth : W5.there dr 0 2 := BZ5.out.there 0 2 (by simp)
            have BF := hid (put_stats BZ5.out [.int .i64 ((X.length + Y.length : Nat) : Int), .slice a3 m c3] rfl)
            have FF := hid ((Fr.refl (fun k => k = dr) W5).put dr 0 [.int .i64 ((X.length + Y.length : Nat) : Int), .slice a3 m c3] (fun _ => rfl))
            have FE := hid (FT5.out.trans FF.out (fun k hk hl => by have := HDR.out; omega))
            have HVF := hid (HV5.out.fr FF.out (fun k hk e => HV5.out.ne BZ5.out (by decide) k hk e))
            refine wpT_op rfl ?_
            refine wpList_store_mid rfl 32 (.tmp 14) (.tmp 63) rfl _ 0 #[.int .i64 ((X.length + Y.length : Nat) : Int), .slice a3 m c3] rfl rfl hth size_stats (by simp [Value.oneCell']) ?_
            rw [List.toList_toArray]
            go_wp2_with (fail)
            refine ⟨fun kz hk hk2 hh => (by first | exact ⟨fun _ => (Blk.fr BW10.out FE.out (fun h => h)).all, hid trivial⟩ | exact fun _ => (Blk.fr BW10.out FE.out (fun h => h)).all), ?_⟩
            clear hth
            refine wpT_nil ?_
            go_wp2_with (fail)
            go_meet
            exact ⟨dr, a3, c3, rfl, BF.out, HVF.out, FE.out⟩
        · skip
          have fa := (Fr.refl (fun _ => False) WA).alloc (.cells #[.int .i64 0, .slice none 0 0] 32)
          have FT1 := hid (FT0.out.trans fa (fun _ h _ => h))
          have BZ1 := hid (Blk.new WA [.int .i64 0, .slice none 0 0] 32)
          have HDR := hid FT0.out.size
          clear fa FT0
          refine wpT_op rfl ?_
          go_wp2_with (fail)
          (refine ⟨?_, ?_⟩; focus (intro kz hk hk2 hh; first | (exfalso; simp at hk2; omega) | exact hh | exact (fun h => absurd h (by omega)) | obtain ⟨qa, qb⟩ := hh; first | exact ⟨qa, qb⟩ | (refine ⟨fun h => absurd h (by omega), ?_⟩; first | exact qb | (exact (Blk.fr BW10.out FT1.out (fun h => h)).all)) | (refine ⟨fun h => ?_, ?_⟩; (have qa := qa h); all_goals (first | exact qa | exact qb | (exact (Blk.fr BW10.out FT1.out (fun h => h)).all)))))
          generalize WA.heap.size = dr at *
          generalize WA.alloc _ = W1 at *
          have fa := (Fr.refl (fun _ => False) W1).alloc (.cells #[] 29)
          have FT2 := hid (FT1.out.trans fa (fun _ h _ => h))
          have HR2 := hid (Row.built (e := 29) (n := 0) (size := 1) (B := W10.heap.size) W1 (l := []) rfl (by decide) FT1.out.size)
          have BZ2 := hid (Blk.fr BZ1.out fa (fun h => h))
          clear fa FT1 BZ1
          refine wpT_op rfl ?_
          go_wp2_with (fail)
          (refine ⟨?_, ?_⟩; focus (intro kz hk hk2 hh; first | (exfalso; simp at hk2; omega) | exact hh | exact (fun h => absurd h (by omega)) | obtain ⟨qa, qb⟩ := hh; first | exact ⟨qa, qb⟩ | (refine ⟨fun h => absurd h (by omega), ?_⟩; first | exact qb | (exact (Blk.fr BW10.out FT2.out (fun h => h)).all)) | (refine ⟨fun h => ?_, ?_⟩; (have qa := qa h); all_goals (first | exact qa | exact qb | (exact (Blk.fr BW10.out FT2.out (fun h => h)).all)))))
          generalize W1.alloc _ = W2 at *
          refine wpT_op rfl ?_
          go_wp2_with ((at_builtin; refine wpList_appS rfl (s := .tmp 58) (x := .tmp 59) (t := 26) (tx := 26) rfl Tryd.underlying26 Tryd.underlying26 (.inr ⟨_, rfl⟩) info_row rfl rfl rfl HR2.out FT2.out.size (HSX.out _ FT2.out) (by have := HXN.out; have := HYN.out; omega) (by have := HXN.out; have := HYN.out; omega) ?_; intro aa3 ca3 W3 APP; simp only [Nat.zero_add] at APP ⊢; have FT3 := hid (FT2.out.trans APP.fr (fun k hk hl => by have := HR2.out.new k hk; omega)); have HR3 := hid APP.row; have BZ3 := hid (Blk.fr BZ2.out APP.fr (fun h => HR2.out.ne BZ2.out (by decide) _ h rfl)); clear APP))
          (refine ⟨?_, ?_⟩; focus (intro kz hk hk2 hh; first | (exfalso; simp at hk2; omega) | exact hh | exact (fun h => absurd h (by omega)) | obtain ⟨qa, qb⟩ := hh; first | exact ⟨qa, qb⟩ | (refine ⟨fun h => absurd h (by omega), ?_⟩; first | exact qb | (exact (Blk.fr BW10.out FT3.out (fun h => h)).all)) | (refine ⟨fun h => ?_, ?_⟩; (have qa := qa h); all_goals (first | exact qa | exact qb | (exact (Blk.fr BW10.out FT3.out (fun h => h)).all)))))
          clear HR2 FT2 BZ2
          refine wpT_op rfl ?_
          go_wp2_with ((at_builtin; refine wpList_appS rfl (s := .tmp 60) (x := .tmp 61) (t := 26) (tx := 26) rfl Tryd.underlying26 Tryd.underlying26 (.inr ⟨_, rfl⟩) info_row rfl rfl rfl HR3.out FT3.out.size (HSY.out _ FT3.out) (by have := HXN.out; have := HYN.out; omega) (by have := HXN.out; have := HYN.out; omega) ?_; intro aa4 ca4 W4 APP; simp only [Nat.zero_add] at APP ⊢; have FT4 := hid (FT3.out.trans APP.fr (fun k hk hl => by have := HR3.out.new k hk; omega)); have HR4 := hid APP.row; have BZ4 := hid (Blk.fr BZ3.out APP.fr (fun h => HR3.out.ne BZ3.out (by decide) _ h rfl)); clear APP))
          (refine ⟨?_, ?_⟩; focus (intro kz hk hk2 hh; first | (exfalso; simp at hk2; omega) | exact hh | exact (fun h => absurd h (by omega)) | obtain ⟨qa, qb⟩ := hh; first | exact ⟨qa, qb⟩ | (refine ⟨fun h => absurd h (by omega), ?_⟩; first | exact qb | (exact (Blk.fr BW10.out FT4.out (fun h => h)).all)) | (refine ⟨fun h => ?_, ?_⟩; (have qa := qa h); all_goals (first | exact qa | exact qb | (exact (Blk.fr BW10.out FT4.out (fun h => h)).all)))))
          clear HR3 FT3 BZ3
          refine wpT_op rfl ?_
          go_wp2_with ((go_at_call 11; refine (HC3.out _ FT4.out _ _ HR4.out).mono ?_; rintro e W5 ⟨v3, rfl, hv, f⟩; obtain ⟨a3, c3, rfl, _⟩ := hv.slice; have HV5 := hid (hv.low (Nat.zero_le _)); have FT5 := hid (FT4.out.trans f (fun _ h _ => h)); have BZ5 := hid (Blk.fr BZ4.out f (fun h => h)); clear hv f))
          (refine ⟨?_, ?_⟩; focus (intro kz hk hk2 hh; first | (exfalso; simp at hk2; omega) | exact hh | exact (fun h => absurd h (by omega)) | obtain ⟨qa, qb⟩ := hh; first | exact ⟨qa, qb⟩ | (refine ⟨fun h => absurd h (by omega), ?_⟩; first | exact qb | (exact (Blk.fr BW10.out FT5.out (fun h => h)).all)) | (refine ⟨fun h => ?_, ?_⟩; (have qa := qa h); all_goals (first | exact qa | exact qb | (exact (Blk.fr BW10.out FT5.out (fun h => h)).all)))))
          clear HR4 FT4 BZ4
          have hth : W5.there dr 0 2 := BZ5.out.there 0 2 (by simp)
          have BF := hid (put_stats BZ5.out [.int .i64 ((X.length + Y.length : Nat) : Int), .slice a3 m c3] rfl)
          have FF := hid ((Fr.refl (fun k => k = dr) W5).put dr 0 [.int .i64 ((X.length + Y.length : Nat) : Int), .slice a3 m c3] (fun _ => rfl))
          have FE := hid (FT5.out.trans FF.out (fun k hk hl => by have := HDR.out; omega))
          have HVF := hid (HV5.out.fr FF.out (fun k hk e => HV5.out.ne BZ5.out (by decide) k hk e))
          refine wpT_op rfl ?_
          refine wpList_store_mid rfl 32 (.tmp 14) (.tmp 63) rfl _ 0 #[.int .i64 ((X.length + Y.length : Nat) : Int), .slice a3 m c3] rfl rfl hth size_stats (by simp [Value.oneCell']) ?_
          rw [List.toList_toArray]
          go_wp2_with (fail)
          refine ⟨fun kz hk hk2 hh => (by first | exact ⟨fun _ => (Blk.fr BW10.out FE.out (fun h => h)).all, hid trivial⟩ | exact fun _ => (Blk.fr BW10.out FE.out (fun h => h)).all), ?_⟩
          clear hth
          refine wpT_nil ?_
          go_wp2_with (fail)
          go_meet
          exact ⟨dr, a3, c3, rfl, BF.out, HVF.out, FE.out⟩
      case rest =>
        obtain ⟨dr, a3, c3, rfl, hb3, hv3, f3⟩ := hcut
        have BR := hid hb3
        have HVR := hid hv3
        have F3 := hid f3
        clear hb3 hv3 f3 HSX HSY HC3
        have BP11 := hid (Blk.fr BP10.out F3.out (fun h => h))
        have BQ11 := hid (Blk.fr BQ10.out F3.out (fun h => h))
        have HVP11 := hid (HVP10.out.fre F3.out)
        have HVQ11 := hid (HV10.out.fre F3.out)
        have F11w := hid (F10w.out.trans F3.out (fun _ h _ => h))
        clear BP10 BQ10 HVP10 HV10 F10w F3 BW10
        have BW11 := hid (Blk.fr BW.out F11w.out (fun h => h))
        have HC4 := hid (Count_go id name (ac := ab) (cc := cb) (ai := ai) (ni := ni) (ci := ci) (nc := m) (by omega) (HZW.out.fre F11w.out) (by omega) (HKW.out.fre F11w.out))
        go_upto_region 14 with (first
          | (refine wpList_load_mid rfl 25 (.tmp 3) rfl d 0 rfl _ _ BW11.out.all Tryd.underlying25 rfl size_tab2 ?_)
          | (go_at_call 11; refine HC4.out.mono ?_; rintro e w12 ⟨v1, rfl, hv, f⟩; obtain ⟨a4, c4, rfl, _⟩ := hv.slice; have HV4 := hid (hv.low (Nat.zero_le _)); have F12 := hid f; clear hv f))
        have FA := (F12.out).alloc (.cells #[.int .i64 Z.length, .slice a4 m c4] 32)
        have BS := hid (Blk.new w12 [.int .i64 Z.length, .slice a4 m c4] 32)
        have HVS := hid (HV4.out.fre ((Fr.refl (fun _ => False) w12).alloc (.cells #[.int .i64 Z.length, .slice a4 m c4] 32)))
        have BP := hid (Blk.fr BP11.out FA (fun h => h))
        have BQ := hid (Blk.fr BQ11.out FA (fun h => h))
        have BR2 := hid (Blk.fr BR.out FA (fun h => h))
        have HVP := hid (HVP11.out.fre FA)
        have HVQ := hid (HVQ11.out.fre FA)
        have HVR2 := hid (HVR.out.fre FA)
        have BT := hid (Blk.fr BW11.out FA (fun h => h))
        have FZ := hid ((FW.out.trans F11w.out (fun _ h _ => h)).trans FA (fun _ h _ => h))
        clear FA HV4 F12 HC4 BP11 BQ11 HVP11 HVQ11 BR HVR F11w BW11
        generalize w12.heap.size = ds at *
        generalize w12.alloc _ = WF at *
        have p0 : WF.cell? ⟨dp, 0, none⟩ = some (.int .i64 X.length) := BP.out.cell 0
        have p1 : WF.cell? ⟨dp, 1, none⟩ = some (.slice a1 m c1) := BP.out.cell 1
        have q0 : WF.cell? ⟨dq, 0, none⟩ = some (.int .i64 Y.length) := BQ.out.cell 0
        have q1 : WF.cell? ⟨dq, 1, none⟩ = some (.slice a2 m c2) := BQ.out.cell 1
        have r0 : WF.cell? ⟨dr, 0, none⟩ = some (.int .i64 ((X.length + Y.length : Nat) : Int)) := BR2.out.cell 0
        have r1 : WF.cell? ⟨dr, 1, none⟩ = some (.slice a3 m c3) := BR2.out.cell 1
        have s0 : WF.cell? ⟨ds, 0, none⟩ = some (.int .i64 Z.length) := BS.out.cell 0
        have s1 : WF.cell? ⟨ds, 1, none⟩ = some (.slice a4 m c4) := BS.out.cell 1
        have t0 : WF.cell? ⟨d, 0, none⟩ = some (.int .i64 id) := BT.out.cell 0
        have t1 : WF.cell? ⟨d, 1, none⟩ = some (.string (bs name)) := BT.out.cell 1
        have t2 : WF.cell? ⟨d, 2, none⟩ = some (.slice ab m cb) := BT.out.cell 2
        have t3 : WF.cell? ⟨d, 3, none⟩ = some (.slice ai ni ci) := BT.out.cell 3
        have HLR := hid (And.intro HXN.out (And.intro HYN.out HZE.out))
        have HXR := hid (show X.length = (X.map RowV.r).length from (List.length_map _).symm)
        have HYR := hid (show Y.length = (Y.map RowV.r).length from (List.length_map _).symm)
        have HZR := hid (show Z.map RowV.r = twoOf (X.map RowV.r).reverse from by have := HZE.out.1; rw [List.drop_zero] at this; exact this)
        have e1 : IntKind.i64.wrap ((X.length : Int) + (Y.length : Int)) = ((X.length + Y.length : Nat) : Int) := by rw [IntWalk.i64_in _ (by have := HXN.out; have := HYN.out; omega)]; omega
        have e2 : IntKind.i64.wrap (2 * (X.length : Int)) = (Z.length : Int) := by rw [IntWalk.i64_in _ (by have := HXN.out; omega)]; have := HZE.out.2; omega
        clear HXN HYN HZE HZW HXW HYW BW HKW FW hZ20 hj0 hj
        generalize hxy : X.length + Y.length = xy at *
        generalize hzl : Z.length = zl at *
        generalize hxl : X.length = xl at *
        generalize hyl : Y.length = yl at *
        have HQS := hid (And.intro hxy (And.intro hzl (And.intro hxl hyl)))
        clear hxy hzl hxl hyl
        go_upto_region 16 with fail
        go_wp2_with (fail)
        go_loopw [16] (fun s16 wz => ∃ (i : Nat), i ≤ m ∧ s16 = .int .i64 i ∧ Fr (fun _ => False) WF wz) (fun s16 _ => m - (intOf s16).toNat)
        case atStart => exact ⟨0, by omega, rfl, Fr.refl _ _⟩
        case round =>
          obtain ⟨i, hi, rfl, hf⟩ := hrel
          have FQ := hid hf
          have tq2 : wr.cell? ⟨d, 2, none⟩ = some (.slice ab m cb) := cell_fr t2 hf (fun h => h)
          clear hf
          by_cases him : i < m
          · have j1 : (0 : Int) ≤ (i : Int) := by omega
            have j2 : (i : Int) < (m : Int) := by omega
            have j3 : IntKind.i64.wrap ((i : Int) + 1) = (i : Int) + 1 := IntWalk.i64_in _ (by omega)
            have hc1 := count_cell him (X.map RowV.r)
            have hc2 := count_cell him (Y.map RowV.r)
            have hc3 := count_cell him (X.map RowV.r ++ Y.map RowV.r)
            have hc4 := count_cell him (Z.map RowV.r)
            have ne : ∀ l : List (List V), (countM m l).flatMap ncell ≠ [] := fun l e => by have := count_cell him l; rw [e] at this; cases this
            obtain ⟨g1, rfl, -, hg1⟩ := row_cells HVP.out (ne _)
            obtain ⟨g2, rfl, -, hg2⟩ := row_cells HVQ.out (ne _)
            obtain ⟨g3, rfl, -, hg3⟩ := row_cells HVR2.out (ne _)
            obtain ⟨g4, rfl, -, hg4⟩ := row_cells HVS.out (ne _)
            have hl := HLR.out
            have hxr := HXR.out
            have hyr := HYR.out
            have b1 := count_bound i (X.map RowV.r)
            have b2 := count_bound i (Y.map RowV.r)
            obtain ⟨o1, o2, o3⟩ := count_app i (X.map RowV.r) (Y.map RowV.r)
            rw [count_two i HZR.out] at hc4
            generalize dc eqV (colV i (X.map RowV.r)) = np at *
            generalize dc eqV (colV i (Y.map RowV.r)) = nq at *
            generalize dc eqV (colV i (X.map RowV.r ++ Y.map RowV.r)) = nr at *
            have HCE := hid (And.intro (hg1 _ _ hc1) (And.intro (hg2 _ _ hc2) (And.intro (hg3 _ _ hc3) (hg4 _ _ hc4))))
            have k1 : ¬ (nr : Int) < max (np : Int) (nq : Int) := by omega
            have k2 : IntKind.i64.wrap ((np : Int) + (nq : Int)) = (np : Int) + (nq : Int) := IntWalk.i64_in _ (by omega)
            have k3 : ¬ (np : Int) + (nq : Int) < (nr : Int) := by omega
            clear hc1 hc2 hc3 hc4 ne hg1 hg2 hg3 hg4 hl hxr hyr b1 b2 o1 o2 o3
            go_upto_region 19 with fail
            have fd := FQ.out.trans ((Fr.refl (fun _ => False) wr).drew) (fun _ h _ => h)
            have FQ2 := hid fd
            have HCD := hid (And.intro (cell_fr HCE.out.1 fd (fun h => h)) (And.intro (cell_fr HCE.out.2.1 fd (fun h => h)) (And.intro (cell_fr HCE.out.2.2.1 fd (fun h => h)) (cell_fr HCE.out.2.2.2 fd (fun h => h)))))
            have HCB := hid (And.intro (cell_fr p1 fd (fun h => h)) (And.intro (cell_fr q1 fd (fun h => h)) (And.intro (cell_fr r1 fd (fun h => h)) (cell_fr s1 fd (fun h => h)))))
            clear fd
            refine wp_region_scr (.take 0 (.take 1 (.take 2 (.take 3 (.take 4 (.take 5 (.take 6 (.take 7 (.take 8 (.take 9 (.take 10 (.take 11 (.take 12 (.take 13 (.take 14 (.take 15 (.take 16 (.take 17 (.take 18 (.take 19 (.take 20 (.take 21 (.take 22 (.take 23 (.take 24 (.take 25 (.take 26 (.take 27 (.take 28 (.take 29 (.take 30 (.take 31 (.take 32 (.take 33 (.take 34 (.take 35 (.take 36 (.take 37 (.take 38 (.take 39 (.take 40 (.take 41 (.take 42 (.take 43 (.take 44 (.take 45 (.take 46 (.take 47 (.take 48 .done))))))))))))))))))))))))))))))))))))))))))))))))) (fun kz w => (kz ≤ 49 → w.cell? ⟨dp, 1, none⟩ = some (.slice (some ⟨g1, 0, none⟩) m c1) ∧ w.cell? ⟨dq, 1, none⟩ = some (.slice (some ⟨g2, 0, none⟩) m c2) ∧ w.cell? ⟨dr, 1, none⟩ = some (.slice (some ⟨g3, 0, none⟩) m c3) ∧ w.cell? ⟨ds, 1, none⟩ = some (.slice (some ⟨g4, 0, none⟩) m c4) ∧ w.cell? ⟨g1, i, none⟩ = some (.int .i64 (np : Nat)) ∧ w.cell? ⟨g2, i, none⟩ = some (.int .i64 (nq : Nat)) ∧ w.cell? ⟨g3, i, none⟩ = some (.int .i64 (nr : Nat)) ∧ w.cell? ⟨g4, i, none⟩ = some (.int .i64 (np : Nat))) ∧ Hid True) (by kernel_rfl) (by kernel_rfl) (by intro c a d v w h; cases d <;> exact h) ?_
            repeat
              first
              | (refine wpT_pure rfl rfl rfl ?_; apply Exists.intro; refine ⟨?_, ?_⟩; intro w; (first | ((obtain ⟨qa1, qa2, qa3, qa4, qa5, qa6, qa7, qa8⟩ := qa; go_simp <;> rfl)) | (go_simp <;> rfl)); simp only [Act.put, List.setIfInBounds_toArray, List.set_cons_zero, List.set_cons_succ])
              | (refine wpT_take 49 rfl rfl (by decide +kernel) ⟨fun _ => ⟨HCB.out.1, HCB.out.2.1, HCB.out.2.2.1, HCB.out.2.2.2, HCD.out.1, HCD.out.2.1, HCD.out.2.2.1, HCD.out.2.2.2⟩, hid trivial⟩ ?_; apply Exists.intro; refine ⟨?_, ?_⟩; intro w hw; (have qa := hw.1 (Nat.le_refl _); have qb := hw.2); (first | ((obtain ⟨qa1, qa2, qa3, qa4, qa5, qa6, qa7, qa8⟩ := qa; go_simp <;> rfl)) | (go_simp <;> rfl)); simp only [Act.put, List.setIfInBounds_toArray, List.set_cons_zero, List.set_cons_succ])
              | (refine wpT_skip rfl rfl ?_; simp only [Act.put, List.setIfInBounds_toArray, List.set_cons_zero, List.set_cons_succ])
            refine wpT_nil ?_
            generalize wr.drew = wn at *
            go_wp2_with (fail)
            go_roundw
            case rel => exact ⟨i + 1, by omega, rfl, FQ2.out⟩
            case measure => simp [intOf]; omega
          · obtain rfl : i = m := by omega
            have j2 : ¬ (i : Int) < (i : Int) := by omega
            have FY := hid (FZ.out.trans FQ.out (fun _ h _ => h))
            go_wp2_with (fail)
            go_ret
            exact ⟨rfl, FY.out⟩
end Go.Proofs.YtgkfdlpijefgkaaDoor
namespace Go.Proofs.YtgkfdlpijefgkaaDoor.catalogCounts
open Go.ChangeShapes Go.WideShapes Go.ChangeAt Go.RowKit Go.VB Go.VB.Rec
set_option maxHeartbeats 400000 in
set_option maxRecDepth 100000 in
theorem lifted (os : Os) (started : os.Started) (H : Type) (enc : TypeId × Value → H) :
    ReturnsInHanded {} Tryd.checked os 6 .any (fun w args => (Rows.catalogCountsSpec.pre enc Tryd.prog Tryd.f6 Rows.catalogCountsRow.domain false w args ∧ laidMetH Tryd.prog Rows.catalogCountsRow.laid w) ∧ sizedMet enc Tryd.prog Tryd.f6 (OpenSpec.ofChange Rows.catalogCountsSpec) false w args) (Rows.catalogCountsSpec.post enc Tryd.prog Tryd.f6 false true false false) := by
  refine handed_and_shaped (C := Tryd.checked) (X := fun w _ => laidMetH Tryd.prog Rows.catalogCountsRow.laid w) (fun _ _ _ hh h => h.of_heap hh) own started (by kernel_rfl) Tryd.func6
    (ChangeSpec.witness_shaped (enc := enc) (C := Tryd.checked) (os := os) (X := fun w _ => laidMetH Tryd.prog Rows.catalogCountsRow.laid w) false (startW os) #[.agg #[.int .i64 0, .string .empty, .slice none 0 0, .slice none 0 0], .slice none 0 0, .slice none 0 0] 8 rfl (start_shaped os _) (by kernel_rfl) (by kernel_rfl) (by kernel_rfl) (start_met os _)) ?_
  intro W base args ds gs before hval0 hW hL hsh
  have GV : Hid (Gv W) := hid (gv_of hL hsh)
  clear hL hsh
  have hval : ∀ (j : Nat) t v, Tryd.f6.params[j]? = some t → args[j]? = some v → Value.okWide Tryd.prog W .any base t v := hval0
  have hW' := hW
  obtain ⟨p, q, hA0, hV, rfl, hfz, hnd⟩ := hW
  have hA : DataW.TrodAll enc Tryd.prog W 0 (fun _ => true) true Tryd.f6.params.toList args.toList ds p := hA0
  rw [Tryd.params6] at hA hval
  obtain ⟨v0, vs0, d0, ds0, p0, q0, hargs, rfl, rfl, h0, r0⟩ := trodAll_cons hA
  obtain ⟨v1, vs1, d1, ds1, p1, q1, rfl, rfl, rfl, h1, r1⟩ := trodAll_cons r0
  obtain ⟨v2, vs2, d2, ds2, p2, q2, rfl, rfl, rfl, h2, r2⟩ := trodAll_cons r1
  obtain ⟨rfl, rfl, rfl⟩ := trodAll_nil r2
  obtain rfl : args = #[v0, v1, v2] := by cases args; simp_all
  obtain ⟨rfl, rfl⟩ := trodVars_none hV
  clear hA0 hval0
  refine Calls.mono (R := fun e w' => e = .returned (.bool true) ∧ Fr (fun _ => False) W w') ?_ fun e W' ⟨he, hf⟩ => ⟨_, he, post_law sound (by decide +kernel) rfl rfl (ht := Tryd.underlying4) (by rfl) hW' hf⟩
  obtain ⟨id, name, ac, ai, cols, cc, ni, ci, rfl, hc, -, -⟩ := open_tab (hval 0 25 v0 rfl rfl) h0
  obtain ⟨A, hA⟩ := open_rows (hval 1 26 v1 rfl rfl) h1
  obtain ⟨B, hB⟩ := open_rows (hval 2 26 v2 rfl rfl) h2
  exact Counts_walk id name GV.out hc hA hB
theorem row_holds : Rows.CatalogCountsSaid :=
  OpenClaim.holds_of_wide 6 Tryd.f6 rfl rfl rfl rfl rfl rfl rfl ⟨rfl, rfl, rfl, rfl, rfl⟩ rfl rfl rfl rfl rfl (by kernel_rfl) Tryd.func6 (by kernel_rfl)
    (of_decide_eq_true (by kernel_rfl)) (by unfold Func.isWrapper; first | (rw [if_pos (by decide +kernel)]; kernel_rfl) | (rw [if_neg (by decide +kernel)]; exact ⟨rfl, rfl⟩))
    (fun os started H enc _ => lifted os started H enc)
theorem proved : Rows.CatalogCountsCardSaid :=
  Claim7.holds_tied_plain_at .later [] Rows.catalogCountsCard.laidKinds true Rows.catalogCountsCard.stood.harness Rows.catalogCountsCard.stood.looks row_holds (fun _ h => by cases h) (by kernel_rfl) (fun _ h => by cases h) catalogCounts_row_tie rfl ⟨rfl, rfl⟩ (by kernel_rfl) rfl
    (fun f fn hf hfn => by
      obtain rfl : f = 6 := Option.some.inj ((show Tryd.prog.funcNamed "vintner/vintnerlaw14.CatalogCounts" = some 6 by kernel_rfl).symm.trans hf) |>.symm
      obtain rfl : fn = Tryd.f6 := (Option.some.inj (Tryd.func6.symm.trans hfn)).symm
      exact ⟨by kernel_rfl, fun j t ht => by
        rw [Tryd.params6] at ht
        have hm : t ∈ [25, 26, 26] := by simpa using Array.mem_of_getElem? ht
        have hall : ([25, 26, 26].all fun u => !Tryd.prog.wantsStandIn u) = true := by kernel_rfl
        exact (show Tryd.prog.wantsStandIn t = false by simpa using List.all_eq_true.1 hall t hm)⟩)
    (by kernel_rfl)
end Go.Proofs.YtgkfdlpijefgkaaDoor.catalogCounts
