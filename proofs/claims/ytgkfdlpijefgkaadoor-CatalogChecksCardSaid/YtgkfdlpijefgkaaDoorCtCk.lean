import Derived.Test.YtgkfdlpijefgkaaDoorCtRn
/- The walk of CatalogChecks. -/
set_option linter.unusedVariables false
namespace Go.Proofs.YtgkfdlpijefgkaaDoor
open Go.RowKit Go.VB Go.VB.Oct Go.VB.Cat Go.VB.Rec
section
open Go.WideShapes Go.ChangeShapes
variable {H : Type} {enc : TypeId × Value → H} {w : World} {base : Nat} {sp : Nat → Bool} {held : Bool}
set_option maxRecDepth 100000 in
theorem elem_valB : ∀ fuel cs (r : DataW H × List MemPlace), cs.length = 3 → DataW.trod enc Tryd.prog w base sp held fuel 77 cs = some r → ∃ p : V, cs = p.cells ∧ p.s.length ≤ maxLen := by
  intro fuel cs r hl h
  match cs, hl with
  | [a, b, c], _ =>
    cases fuel with
    | zero => simp [DataW.trod] at h
    | succ m =>
      unfold DataW.trod at h
      rw [Tryd.underlying77] at h
      dsimp only at h
      rw [if_pos (by rw [cells_val]; rfl)] at h
      simp only [Option.map_eq_some_iff, List.mapM_cons, List.mapM_nil, Option.bind_eq_bind, Option.bind_eq_some_iff, Option.pure_def, Option.some.injEq, cells_int, cells_i64, cells_str] at h
      obtain ⟨xs, ⟨y0, h0, x1, ⟨y1, h1, x2, ⟨y2, h2, -⟩, -⟩, -⟩, -⟩ := h
      obtain ⟨i0, e0, g0⟩ := elem_int Tryd.underlying3 _ _ _ h0
      obtain ⟨i1, e1, g1⟩ := elem_int Tryd.underlying2 _ _ _ h1
      obtain ⟨s2, e2, g2⟩ := elem_string Tryd.underlying9 _ _ _ h2
      obtain rfl : a = .int .i64 i0 := by simpa using e0
      obtain rfl : b = .int .i64 i1 := by simpa using e1
      obtain rfl : c = .string (bs s2) := by simpa using e2
      exact ⟨⟨i0, i1, s2⟩, rfl, g2⟩
set_option maxRecDepth 100000 in
theorem open_rowsB {w0 : World} {r : Reach} {b0 : Nat} {v : Value} {d : DataW H} {ps : List MemPlace} (hval : Value.okWide Tryd.prog w0 r b0 26 v) (h : DataW.Trod enc Tryd.prog w base sp held 26 v d ps) :
    ∃ L : List RowV, RowsA (fun k => k < w.heap.size) w v L ∧ ∀ x ∈ L, ∀ v ∈ x.r, v.s.length ≤ maxLen := by
  obtain ⟨L, h1, h2, h3⟩ := open_sl Tryd.underlying26 (k := 1) cells_row (by omega) hval h RowV.cells (fun p => (Sl (fun k => k < w.heap.size) w p.v p.r.length (p.r.flatMap V.cells) ∧ p.r.length ≤ maxLen) ∧ ∀ v ∈ p.r, v.s.length ≤ maxLen) (fun _ => rfl) (fun fuel cs r' hcs ht => by
    obtain ⟨v', L, rfl, h1, h2, h3⟩ := open_cs Tryd.underlying29 (k := 3) cells_val (by omega) ht V.cells (fun p => p.s.length ≤ maxLen) (fun _ => rfl) (fun fuel cs r hc h => elem_valB fuel cs r hc h)
    exact ⟨⟨v', L⟩, rfl, ⟨h1, h3⟩, h2⟩)
  exact ⟨L, ⟨h1, fun x hx => (h2 x hx).1, h3⟩, fun x hx => (h2 x hx).2⟩
end
theorem chk_bound (i : Nat) (l : List (List V)) : dc eqV (colV i l) ≤ l.length := Nat.le_trans (dc_le _ _) (colV_len i l)
theorem chk_cell {n i : Nat} (h : i < n) (l : List (List V)) : ((countM n l).flatMap ncell)[i]? = some (.int .i64 (dc eqV (colV i l) : Nat)) := by
  have e : ∀ k : List Nat, k.flatMap ncell = k.map (fun n : Nat => Value.int .i64 n) := fun k => by
    induction k with
    | nil => rfl
    | cons a k ih => rw [List.flatMap_cons, ih]; rfl
  rw [e, List.getElem?_map]
  unfold countM
  rw [List.getElem?_map, List.getElem?_range h]
  rfl
theorem ccell_one (l : List Col) : ∀ u ∈ l.flatMap Col.cells, u.oneCell' = true := by
  intro u hu
  obtain ⟨x, _, h⟩ := List.mem_flatMap.1 hu
  simp only [Col.cells, List.mem_cons, List.not_mem_nil, or_false] at h
  rcases h with rfl | rfl <;> rfl
set_option maxRecDepth 20000 in
set_option maxHeartbeats 4000000 in
theorem Checks_walk (id : Int) (name nm : Bs) {ac ai : Option Addr} {cols : List Col} {cc ni ci : Nat} {va : Value} {A : List RowV} {w : World} (G : Gv w) {R : Nat → Prop}
    (hc : Sl R w (.slice ac cols.length cc) cols.length (cols.flatMap Col.cells)) (hA : RowsA R w va A) (hS : ∀ x ∈ A, ∀ v ∈ x.r, v.s.length ≤ 9223372036854775807) :
    Calls Tryd.prog 3 #[.agg #[.int .i64 id, .string (bs name), .slice ac cols.length cc, .slice ai ni ci], .string (bs nm), va] w fun e w' => e = .returned (.bool true) ∧ Fr (fun _ => False) w w' := by
  obtain ⟨a, c, hv, hc0, hx⟩ := hA.s
  subst hv
  clear hc0 hx
  have HC := hid hc
  have HA := hid hA
  have HSS := hid hS
  have HK := hid G.kn
  clear hc hA hS G
  have F0 := hid ((Fr.refl (fun _ => False) w).alloc (.cells #[.int .i64 id, .string (bs name), .slice ac cols.length cc, .slice ai ni ci] 25))
  have B0 := hid (Blk.new w [.int .i64 id, .string (bs name), .slice ac cols.length cc, .slice ai ni ci] 25)
  have HSA := hid (sanity_go (HK.out.fre F0.out))
  obtain ⟨nc, hnmin, hn8, hnl⟩ : ∃ m : Nat, (min (cols.length : Int) 8 = (m : Int) ∧ (if (8 : Int) < (cols.length : Int) then (8 : Int) else (cols.length : Int)) = (m : Int)) ∧ m ≤ 8 ∧ m ≤ cols.length := ⟨min 8 cols.length, ⟨by omega, by split <;> omega⟩, by omega, by omega⟩
  obtain ⟨hnmin1, hnmin2⟩ := hnmin
  have n6 : (0 : Int) ≤ (nc : Int) := by omega
  have n7 : (nc : Int) ≤ (cc : Int) := by
    obtain ⟨_, c', e, h, _⟩ := HC.out
    cases e
    omega
  go_enter Tryd.func3, Tryd.ntmps3
  go_upto_region 1 with fail
  generalize hd : w.heap.size = d at *
  generalize w.alloc _ = w0 at *
  go_upto_region 2 with (go_at_call 10; refine HSA.out.mono ?_; rintro e w1 ⟨rfl, f⟩; have F1 := hid (F0.out.trans f (fun _ h _ => h)); have B1 := hid (Blk.fr B0.out f (fun h => h)); clear f)
  clear HSA F0 B0
  have HS1 := hid (Sl.srcK (P := Tryd.prog) (size := 2) ((Sl.firsts (kk := 2) (fun _ => rfl) HC.out hnl).fr (F1.out.alloc (.cells #[] 40)) (fun _ _ h => h)) (by rw [flat_len (k := 2) (fun _ => rfl), List.length_take, Nat.min_eq_left hnl]) (by decide) (ccell_one _))
  have HR1 := hid (Row.built (e := 40) (n := 0) (size := 2) (B := w1.heap.size) w1 (l := []) rfl (by decide) (Nat.le_refl _))
  have B2 := hid (B1.out.alloc (.cells #[] 40))
  have F2 := hid (F1.out.alloc (.cells #[] 40))
  have x0 : (w1.alloc (.cells #[] 40)).cell? ⟨d, 0, none⟩ = some (.int .i64 id) := B2.out.cell 0
  have x1 : (w1.alloc (.cells #[] 40)).cell? ⟨d, 1, none⟩ = some (.string (bs name)) := B2.out.cell 1
  have x2 : (w1.alloc (.cells #[] 40)).cell? ⟨d, 2, none⟩ = some (.slice ac cols.length cc) := B2.out.cell 2
  have x3 : (w1.alloc (.cells #[] 40)).cell? ⟨d, 3, none⟩ = some (.slice ai ni ci) := B2.out.cell 3
  clear HC
  go_upto_region 3 with (at_builtin; refine wpList_appS rfl (s := .tmp 16) (x := .tmp 23) (t := 22) (tx := 22) rfl Tryd.underlying22 Tryd.underlying22 (.inr ⟨_, rfl⟩) info_col rfl rfl rfl HR1.out (by rw [World.size_alloc]; omega) HS1.out (by omega) (by omega) ?_; intro ap cp wg APP; simp only [Nat.zero_add] at APP ⊢; have B3 := hid (Blk.fr B2.out APP.fr (fun h => HR1.out.ne B2.out (by decide) _ h rfl)); have F3 := hid (F2.out.trans APP.fr (fun k hk hl => by have := HR1.out.new k hk; have := F1.out.size; omega)); have HCR := hid (show Row 40 2 w1.heap.size wg (.slice ap nc cp) nc ((cols.take nc).flatMap Col.cells) from APP.row.cast (Nat.zero_add _) (List.nil_append _)); have y2 : wg.cell? ⟨d, 2, none⟩ = some (.slice ac cols.length cc) := B3.out.cell 2; have z2 : wg.frozen? ⟨d, 2, none⟩ = false := B3.out.frozen 2; clear APP)
  have HB4 := hid (show Blk (wg.setCell ⟨d, 2, none⟩ (.slice ap nc cp)) d [.int .i64 id, .string (bs name), .slice ap nc cp, .slice ai ni ci] 25 from B3.out.set 2 (.slice ap nc cp))
  have fs := (Fr.refl (fun k => k = d) wg).setCell ⟨d, 2, none⟩ (.slice ap nc cp) (fun _ => rfl)
  have F4 := hid (F3.out.trans fs (fun k hk hl => by omega))
  have HCL := hid (show (cols.take nc).length = nc from by rw [List.length_take, Nat.min_eq_left hnl])
  have HCS := hid ((HCR.out.fr fs (fun k hk e => HCR.out.ne B3.out (by decide) k hk e)).sl' (R := fun _ => True) (fun _ _ => trivial))
  clear B1 HS1 HR1 B2 F2 x0 x1 x2 x3 B3 F3 y2 z2 F1 fs HCR
  generalize wg.setCell _ _ = W4 at *
  generalize cols.take nc = cl at *
  obtain rfl : cl.length = nc := HCL.out
  have HA4 := hid (HA.out.fre F4.out)
  have HNN := hid HA.out.n
  have HK4 := hid (HK.out.fre F4.out)
  clear HA HK HCL hnmin1 hnmin2 n6 n7 hnl
  have F0 := hid ((Fr.refl (fun _ => False) W4).alloc (.cells #[] 29))
  have HR0 := hid (Row.built (e := 29) (n := 0) (size := 1) (B := W4.heap.size) W4 (l := []) rfl (by decide) (Nat.le_refl _))
  go_wp2_with (fail)
  go_loopw [8, 9] (fun s8 s9 wr => ∃ (j : Nat) (L' : List RowV) (ab : Option Addr) (ac : Nat), j ≤ A.length ∧ j ≤ 12 ∧ s9 = .int .i64 j ∧ s8 = .slice ab j ac ∧ L'.length = j ∧ L'.map RowV.r = (A.take j).map (fun x => x.r.take 8) ∧ RowsM W4.heap.size wr (.slice ab j ac) L' ∧ Fr (fun _ => False) W4 wr) (fun _ s9 _ => A.length - (intOf s9).toNat)
  case atStart => exact ⟨0, [], _, _, by omega, by omega, rfl, rfl, rfl, rfl, ⟨HR0.out, fun _ h => by cases h⟩, F0.out⟩
  case round =>
    obtain ⟨j, L', ab, ac, hjl, hj12, rfl, rfl, hl', hm', hrm, hf⟩ := hrel
    have HM := hid hrm
    have HL := hid (And.intro hl' hm')
    have FW := hid hf
    clear hrm hl' hm' hf HR0 F0
    have i1 : (0 : Int) ≤ (j : Int) := by omega
    by_cases hc : j < A.length ∧ j < 12
    · obtain ⟨hjL, hj12'⟩ := hc
      have i2 : (j : Int) < (A.length : Int) := by omega
      have i3 : (j : Int) < 12 := by omega
      have i5 : IntKind.i64.wrap ((j : Int) + 1) = (j : Int) + 1 := IntWalk.i64_in _ (by omega)
      have HAJ := hid (HA4.out.fre FW.out)
      obtain ⟨g, o, rfl, -, hcell⟩ := sl_cell1 (f := RowV.cells) rowv_len HA4.out.s (by intro e; rw [e] at hjL; simp at hjL)
      have hq := hcell j hjL
      obtain ⟨x, hx⟩ : ∃ x, x = A[j] := ⟨_, rfl⟩
      rw [← hx] at hq
      have HX := hid (HAJ.out.x x (by rw [hx]; exact List.getElem_mem hjL))
      have HTK := hid (show (A.take (j + 1)).map (fun x => x.r.take 8) = (A.take j).map (fun x => x.r.take 8) ++ [x.r.take 8] from by rw [List.take_succ_eq_append_getElem hjL, List.map_append, ← hx]; rfl)
      clear hx hcell
      obtain ⟨vx, rx⟩ := x
      obtain ⟨ax, cx, hvx, hcx, -⟩ := HX.out.1
      dsimp only at hvx
      subst hvx
      have HQW := hid (show W4.cell? ⟨g, o + j, none⟩ = some (.slice ax rx.length cx) from hq)
      have HQ := hid (cell_fr HQW.out FW.out (fun h => h))
      clear hq
      obtain ⟨m, hmin, hm6, hml, htk⟩ : ∃ m : Nat, (min (rx.length : Int) 8 = (m : Int) ∧ (if (8 : Int) < (rx.length : Int) then (8 : Int) else (rx.length : Int)) = (m : Int)) ∧ m ≤ 8 ∧ m ≤ rx.length ∧ rx.take 8 = rx.take m := by
        refine ⟨min 8 rx.length, ⟨by omega, by split <;> omega⟩, by omega, by omega, ?_⟩
        rcases Nat.le_total 8 rx.length with h | h
        · rw [Nat.min_eq_left h]
        · rw [Nat.min_eq_right h, List.take_of_length_le h, List.take_of_length_le (Nat.le_refl _)]
      obtain ⟨hmin1, hmin2⟩ := hmin
      have i6 : (0 : Int) ≤ (m : Int) := by omega
      have i7 : (m : Int) ≤ (cx : Int) := by dsimp only at hcx; omega
      have HS := hid (Sl.firsts (kk := 3) (fun _ => rfl) HX.out.1 hml)
      have HTM := hid (And.intro htk (And.intro hm6 hml))
      clear HAJ HX htk
      go_upto_region 7 with fail
      have fd := (Fr.refl (fun _ => False) wr).drew
      have HQ0 := hid (show W4.cell? ⟨g, o + j, none⟩ = some (.slice ax rx.length cx) from HQW.out)
      have HM1 := hid (HM.out.fre fd)
      have F1 := hid (FW.out.trans fd (fun _ h _ => h))
      have HS1 := hid (HS.out.fr fd (fun _ _ h => h))
      have HQ1 := hid (cell_fr HQ.out fd (fun h => h))
      clear fd HM FW HS HQ HQW
      refine wp_region_scr (.take 0 (.take 2 (.take 3 (.take 4 (.take 5 (.take 6 (.take 7 (.take 8 (.take 9 (.take 10 (.take 11 (.take 12 (.op 1 (.op 13 (.op 14 (.op 15 (.take 16 .done))))))))))))))))) (fun kz w => (kz ≤ 17 → w.cell? ⟨g, o + j, none⟩ = some (.slice ax rx.length cx)) ∧ Hid True) (by kernel_rfl) (by kernel_rfl) (by intro c a d v w h; cases d <;> exact h) ?_
      repeat
        first
        | (refine wpT_pure rfl rfl rfl ?_; apply Exists.intro; refine ⟨?_, ?_⟩; intro w; ((go_simp <;> rfl)); simp only [Act.put, List.setIfInBounds_toArray, List.set_cons_zero, List.set_cons_succ])
        | (refine wpT_take 17 rfl rfl (by decide +kernel) ⟨fun _ => HQ1.out, hid trivial⟩ ?_; apply Exists.intro; refine ⟨?_, ?_⟩; intro w hw; (have qa := hw.1 (Nat.le_refl _); have qb := hw.2); ((go_simp <;> rfl)); simp only [Act.put, List.setIfInBounds_toArray, List.set_cons_zero, List.set_cons_succ])
        | (refine wpT_skip rfl rfl ?_; simp only [Act.put, List.setIfInBounds_toArray, List.set_cons_zero, List.set_cons_succ])
      generalize wr.drew = WA at *
      have HR1 := hid (Row.built (e := 77) (n := 0) (size := 3) (B := W4.heap.size) WA (l := []) rfl (by decide) F1.out.size)
      have fa := (Fr.refl (fun _ => False) WA).alloc (.cells #[] 77)
      have HM2 := hid (HM1.out.fre fa)
      have F2 := hid (F1.out.trans fa (fun _ h _ => h))
      have HSR := hid (Sl.srcK (P := Tryd.prog) (size := 3) (HS1.out.fr fa (fun _ _ h => h)) (by rw [flat_len (k := 3) (fun _ => rfl), List.length_take, Nat.min_eq_left HTM.out.2.2]) (by decide) (vcell_one _))
      have HQ2 := hid (cell_fr HQ1.out fa (fun h => h))
      clear fa
      refine wpT_op rfl ?_
      go_wp2_with (fail)
      (refine ⟨?_, ?_⟩; focus (intro kz hk hk2 hh; first | (exfalso; simp at hk2; omega) | exact hh | exact (fun h => absurd h (by omega)) | obtain ⟨qa, qb⟩ := hh; first | exact ⟨qa, qb⟩ | (refine ⟨fun h => absurd h (by omega), ?_⟩; first | exact qb | (exact HQ2.out)) | (refine ⟨fun h => ?_, ?_⟩; (have qa := qa h); all_goals (first | exact qa | exact qb | (exact HQ2.out)))))
      have HLT := hid (fun x hx k (hk : (x : RowV).v.ownBlock = some k) => (HM1.out.x x hx).1.lt hk)
      clear HM1 F1 HS1 HQ1
      refine wpT_op rfl ?_
      go_wp2_with ((at_builtin; refine wpList_appS rfl (s := .tmp 38) (x := .tmp 49) (t := 29) (tx := 29) rfl Tryd.underlying29 Tryd.underlying29 (.inr ⟨_, rfl⟩) info_val rfl rfl rfl HR1.out F2.out.size HSR.out (by omega) (by omega) ?_; intro ab2 ac2 wg APP; simp only [Nat.zero_add] at APP ⊢; have F3 := hid (F2.out.trans APP.fr (fun k hk hl => by have := HR1.out.new k hk; omega)); have HM3 := hid (show RowsM W4.heap.size wg (.slice ab j ac) L' from ⟨HM2.out.s.fr APP.fr (fun k hk h => row_ne HM2.out.s HR1.out (by decide) k hk h), fun x hx => ⟨(HM2.out.x x hx).1.fr APP.fr (fun k hk h => by have h1 := HLT.out x hx k hk; have h2 := own_at h; omega), (HM2.out.x x hx).2⟩⟩); have HX3 := hid (APP.row.cast (m := (rx.take m).length) (ys := (rx.take m).flatMap V.cells) (by rw [List.length_take, Nat.min_eq_left hml, Nat.zero_add]) rfl); have HQ3 := hid (cell_fr HQ0.out F3.out (fun h => h)); clear APP))
      (refine ⟨?_, ?_⟩; focus (intro kz hk hk2 hh; first | (exfalso; simp at hk2; omega) | exact hh | exact (fun h => absurd h (by omega)) | obtain ⟨qa, qb⟩ := hh; first | exact ⟨qa, qb⟩ | (refine ⟨fun h => absurd h (by omega), ?_⟩; first | exact qb | (exact HQ3.out)) | (refine ⟨fun h => ?_, ?_⟩; (have qa := qa h); all_goals (first | exact qa | exact qb | (exact HQ3.out)))))
      clear HR1 HM2 F2 HSR HQ2 HLT
      have HSZ := hid F3.out.size
      refine wpT_op rfl ?_
      go_wp2_with (fail)
      (refine ⟨?_, ?_⟩; focus (intro kz hk hk2 hh; first | (exfalso; simp at hk2; omega) | exact hh | exact (fun h => absurd h (by omega)) | obtain ⟨qa, qb⟩ := hh; first | exact ⟨qa, qb⟩ | (refine ⟨fun h => absurd h (by omega), ?_⟩; first | exact qb | (exact cell_fr HQ3.out ((Fr.refl (fun _ => False) wg).alloc _) (fun h => h))) | (refine ⟨fun h => ?_, ?_⟩; (have qa := qa h); all_goals (first | exact qa | exact qb | (exact cell_fr HQ3.out ((Fr.refl (fun _ => False) wg).alloc _) (fun h => h))))))
      refine wpT_op rfl ?_
      go_wp2_with ((at_builtin; refine wpList_app1 rfl (s := .tmp 37) (x := .tmp 51) (t := 26) rfl Tryd.underlying26 info_row rfl rfl rfl HM3.out.s HSZ.out rfl (by simp [Value.oneCell']) (by have := HL.out.1; omega) (by have := HL.out.1; omega) ?_; intro ab4 ac4 wh APP; have F4 := hid (F3.out.trans APP.fr (fun k hk hl => by have := HM3.out.s.new k hk; omega)); have HM4 := hid (HM3.out.snoc (y := ⟨.slice ab2 m ac2, rx.take m⟩) HX3.out (by have := HTM.out.2.1; rw [List.length_take]; omega) APP); clear APP))
      (refine ⟨?_, ?_⟩; focus (intro kz hk hk2 hh; first | (exfalso; simp at hk2; omega) | exact hh | exact (fun h => absurd h (by omega)) | obtain ⟨qa, qb⟩ := hh; first | exact ⟨qa, qb⟩ | (refine ⟨fun h => absurd h (by omega), ?_⟩; first | exact qb | (exact cell_fr HQ0.out F4.out (fun h => h))) | (refine ⟨fun h => ?_, ?_⟩; (have qa := qa h); all_goals (first | exact qa | exact qb | (exact cell_fr HQ0.out F4.out (fun h => h))))))
      clear HM3 F3 HX3 HQ3
      repeat
        first
        | (refine wpT_pure rfl rfl rfl ?_; apply Exists.intro; refine ⟨?_, ?_⟩; intro w; ((go_simp <;> rfl)); simp only [Act.put, List.setIfInBounds_toArray, List.set_cons_zero, List.set_cons_succ])
        | (refine wpT_take 17 rfl rfl (by decide +kernel) ⟨fun _ => cell_fr HQ0.out F4.out (fun h => h), hid trivial⟩ ?_; apply Exists.intro; refine ⟨?_, ?_⟩; intro w hw; (have qa := hw.1 (Nat.le_refl _); have qb := hw.2); ((go_simp <;> rfl)); simp only [Act.put, List.setIfInBounds_toArray, List.set_cons_zero, List.set_cons_succ])
        | (refine wpT_skip rfl rfl ?_; simp only [Act.put, List.setIfInBounds_toArray, List.set_cons_zero, List.set_cons_succ])
      refine wpT_nil ?_
      go_wp2_with (fail)
      go_roundw
      case rel =>
        have h1 := HL.out.1
        refine ⟨j + 1, L' ++ [⟨.slice ab2 m ac2, rx.take m⟩], ab4, ac4, by omega, by omega, rfl, by rw [h1], by rw [List.length_append, h1]; rfl, ?_, by rw [← h1]; exact HM4.out, F4.out⟩
        rw [HTK.out, List.map_append, HL.out.2, HTM.out.1]
        rfl
      case measure => simp [intOf]; omega
    · have hend : j = A.length ∨ (j < A.length ∧ j = 12) := by omega
      have HLN := hid (show L'.length ≤ 12 from by have := HL.out.1; omega)
      have HLS := hid (show ∀ x ∈ L', ∀ v ∈ x.r, v.s.length ≤ 9223372036854775807 from fun x hx v hv => by
        have h1 : x.r ∈ L'.map RowV.r := List.mem_map_of_mem hx
        rw [HL.out.2, List.mem_map] at h1
        obtain ⟨y, hy, e⟩ := h1
        exact HSS.out y (List.mem_of_mem_take hy) v (List.mem_of_mem_take (e ▸ hv)))
      have hj := HL.out.1
      subst hj
      have i2 : (12 : Int) ≤ (L'.length : Int) ∨ (A.length : Int) ≤ (L'.length : Int) := by omega
      clear hc HL
      have HMS := hid HM.out.rows
      have BD := hid (Blk.fr HB4.out FW.out (fun h => h))
      have HCD := hid (HCS.out.fr FW.out (fun _ _ h => h))
      have HKD := hid (HK4.out.fre FW.out)
      have FD := hid (F4.out.trans FW.out (fun _ h _ => h))
      clear HM FW HB4 HCS HK4 F4
      rcases hend with h | ⟨h1, h2⟩
      · have i2 : ¬ ((L'.length : Nat) : Int) < (A.length : Int) := by omega
        clear h
        go_upto_region 8 with fail
        have HC1 := hid (Count_go id name (ac := ap) (cc := cp) (ai := ai) (ni := ni) (ci := ci) (nc := cl.length) (by omega) HMS.out (by have := HLN.out; omega) HKD.out)
        go_upto_region 9 with (first
          | (refine wpList_load_mid rfl 25 (.tmp 3) rfl d 0 rfl _ _ BD.out.all Tryd.underlying25 rfl size_tab2 ?_)
          | (go_at_call 11; refine HC1.out.mono ?_; rintro e w7 ⟨v1, rfl, hv, f⟩; obtain ⟨a1, c1, rfl, _⟩ := hv.slice; have HV1 := hid (hv.low (Nat.zero_le _)); have F7 := hid f; clear hv f))
        have FA := (Fr.refl (fun _ => False) w7).alloc (.cells #[.int .i64 L'.length, .slice a1 cl.length c1] 32)
        have HV8 := hid (HV1.out.fre FA)
        have BP8 := hid (Blk.new w7 [.int .i64 L'.length, .slice a1 cl.length c1] 32)
        have F8 := hid (F7.out.trans FA (fun _ h _ => h))
        clear FA HV1 F7 HC1
        generalize w7.heap.size = dp at *
        generalize w7.alloc _ = W8 at *
        have HC2 := hid (rfCount_go id name (ac := ap) (cc := cp) (ai := ai) (ni := ni) (ci := ci) (nc := cl.length) (by omega) (HMS.out.fre F8.out) (by have := HLN.out; omega) HLS.out)
        have BD8 := hid (Blk.fr BD.out F8.out (fun h => h))
        go_upto_region 10 with (first
          | (refine wpList_load_mid rfl 25 (.tmp 3) rfl d 0 rfl _ _ BD8.out.all Tryd.underlying25 rfl size_tab2 ?_)
          | (go_at_call 12; refine HC2.out.mono ?_; rintro e w9 ⟨v1, rfl, hv, f⟩; obtain ⟨a2, c2, rfl, _⟩ := hv.slice; have HV2 := hid (hv.low (Nat.zero_le _)); have F9 := hid f; clear hv f))
        have FA := (Fr.refl (fun _ => False) w9).alloc (.cells #[.int .i64 L'.length, .slice a2 cl.length c2] 34)
        have HVQ := hid (HV2.out.fre FA)
        have BQ := hid (Blk.new w9 [.int .i64 L'.length, .slice a2 cl.length c2] 34)
        have F10 := hid (F9.out.trans FA (fun _ h _ => h))
        clear FA HV2 F9 HC2
        generalize w9.heap.size = dq at *
        generalize w9.alloc _ = W10 at *
        have FW := hid (F8.out.trans F10.out (fun _ h _ => h))
        have BDW := hid (Blk.fr BD.out FW.out (fun h => h))
        have HCW := hid (HCD.out.fr FW.out (fun _ _ h => h))
        have HMW := hid (HMS.out.fre FW.out)
        have HVP := hid (HV8.out.fre F10.out)
        have BP := hid (Blk.fr BP8.out F10.out (fun h => h))
        have FDW := hid (FD.out.trans FW.out (fun _ h _ => h))
        clear BD8 HV8 BP8 F8 F10 FW BD HCD HMS FD HKD
        have p0 : W10.cell? ⟨dp, 0, none⟩ = some (.int .i64 L'.length) := BP.out.cell 0
        have p1 : W10.cell? ⟨dp, 1, none⟩ = some (.slice a1 cl.length c1) := BP.out.cell 1
        have q0 : W10.cell? ⟨dq, 0, none⟩ = some (.int .i64 L'.length) := BQ.out.cell 0
        have q1 : W10.cell? ⟨dq, 1, none⟩ = some (.slice a2 cl.length c2) := BQ.out.cell 1
        go_upto_region 12 with fail
        clear q0
        go_wp2_with (fail)
        go_loopw [12] (fun s12 wz => ∃ (i : Nat), i ≤ cl.length ∧ s12 = .int .i64 i ∧ Fr (fun _ => False) W10 wz) (fun s12 _ => cl.length - (intOf s12).toNat)
        case atStart => exact ⟨0, by omega, rfl, Fr.refl _ _⟩
        case round =>
          obtain ⟨i, hi, rfl, hf⟩ := hrel
          have FQ := hid hf
          have tp1 : wr.cell? ⟨dp, 1, none⟩ = some (.slice a1 cl.length c1) := cell_fr p1 hf (fun h => h)
          clear hf
          by_cases hin : i < cl.length
          · have j1 : (0 : Int) ≤ (i : Int) := by omega
            have j2 : (i : Int) < (cl.length : Int) := by omega
            have j3 : IntKind.i64.wrap ((i : Int) + 1) = (i : Int) + 1 := IntWalk.i64_in _ (by omega)
            have hc1 := chk_cell hin (L'.map RowV.r)
            have ne : (countM cl.length (L'.map RowV.r)).flatMap ncell ≠ [] := fun e => by rw [e] at hc1; cases hc1
            obtain ⟨g1, rfl, -, hg1⟩ := row_cells HVP.out ne
            obtain ⟨g2, rfl, -, hg2⟩ := row_cells HVQ.out ne
            have b1 := chk_bound i (L'.map RowV.r)
            rw [List.length_map] at b1
            generalize dc eqV (colV i (L'.map RowV.r)) = np at *
            have HG1 := hid (hg1 _ _ hc1)
            have HG2 := hid (hg2 _ _ hc1)
            have k1 : ¬ (L'.length : Int) < (np : Int) := by omega
            clear hc1 ne hg1 hg2 b1
            go_upto_region 15 with fail
            have FQ2 := hid (FQ.out.trans ((Fr.refl (fun _ => False) wr).drew) (fun _ h _ => h))
            refine wp_region_scr (.take 0 (.take 1 (.take 2 (.take 3 (.take 4 (.take 5 (.take 6 (.take 7 (.take 8 (.take 9 (.take 10 (.take 11 (.take 12 (.take 13 (.take 14 (.take 15 (.take 16 (.take 17 (.take 18 (.take 19 (.take 20 .done))))))))))))))))))))) (fun kz w => (kz ≤ 21 → w.cell? ⟨dp, 1, none⟩ = some (.slice (some ⟨g1, 0, none⟩) cl.length c1) ∧ w.cell? ⟨dq, 1, none⟩ = some (.slice (some ⟨g2, 0, none⟩) cl.length c2) ∧ w.cell? ⟨dp, 0, none⟩ = some (.int .i64 (L'.length : Nat)) ∧ w.cell? ⟨g1, i, none⟩ = some (.int .i64 (np : Nat)) ∧ w.cell? ⟨g2, i, none⟩ = some (.int .i64 (np : Nat))) ∧ Hid True) (by kernel_rfl) (by kernel_rfl) (by intro c a d v w h; cases d <;> exact h) ?_
            repeat
              first
              | (refine wpT_pure rfl rfl rfl ?_; apply Exists.intro; refine ⟨?_, ?_⟩; intro w; (first | ((obtain ⟨qa1, qa2, qa3, qa4, qa5⟩ := qa; go_simp <;> rfl)) | (go_simp <;> rfl)); simp only [Act.put, List.setIfInBounds_toArray, List.set_cons_zero, List.set_cons_succ])
              | (refine wpT_take 21 rfl rfl (by decide +kernel) ⟨fun _ => ⟨cell_fr p1 FQ2.out (fun h => h), cell_fr q1 FQ2.out (fun h => h), cell_fr p0 FQ2.out (fun h => h), cell_fr HG1.out FQ2.out (fun h => h), cell_fr HG2.out FQ2.out (fun h => h)⟩, hid trivial⟩ ?_; apply Exists.intro; refine ⟨?_, ?_⟩; intro w hw; (have qa := hw.1 (Nat.le_refl _); have qb := hw.2); (first | ((obtain ⟨qa1, qa2, qa3, qa4, qa5⟩ := qa; go_simp <;> rfl)) | (go_simp <;> rfl)); simp only [Act.put, List.setIfInBounds_toArray, List.set_cons_zero, List.set_cons_succ])
              | (refine wpT_skip rfl rfl ?_; simp only [Act.put, List.setIfInBounds_toArray, List.set_cons_zero, List.set_cons_succ])
            refine wpT_nil ?_
            generalize wr.drew = wn at *
            go_wp2_with (fail)
            go_roundw
            case rel => exact ⟨i + 1, by omega, rfl, FQ2.out⟩
            case measure => simp [intOf]; omega
          · obtain rfl : i = cl.length := by omega
            have j2 : ¬ ((cl.length : Nat) : Int) < (cl.length : Int) := by omega
            go_upto_region 17 with fail
            have BDX := hid (Blk.fr BDW.out FQ.out (fun h => h))
            have HCX := hid (HCW.out.fr FQ.out (fun _ _ h => h))
            have HMX := hid (HMW.out.fre FQ.out)
            have FDX := hid (FDW.out.trans FQ.out (fun _ h _ => h))
            clear BDW HCW HMW FDW FQ HVP HVQ BP BQ p0 p1 q1 tp1
            generalize wr = W17 at *
            go_wp2_with (fail)
            go_loopw [13] (fun s13 wz => ∃ (i : Nat), i ≤ L'.length ∧ s13 = .int .i64 i ∧ Fr (fun _ => False) W17 wz) (fun s13 _ => L'.length - (intOf s13).toNat)
            case atStart => exact ⟨0, by omega, rfl, Fr.refl _ _⟩
            case round =>
              obtain ⟨i, hi, rfl, hf⟩ := hrel
              have FQ := hid hf
              clear hf
              by_cases hin : i < L'.length
              · have j1 : (0 : Int) ≤ (i : Int) := by omega
                have j2 : (i : Int) < (L'.length : Int) := by omega
                have j3 : IntKind.i64.wrap ((i : Int) + 1) = (i : Int) + 1 := IntWalk.i64_in _ (by have := HLN.out; omega)
                obtain ⟨g, o, rfl, -, hcell⟩ := sl_cell1 (f := RowV.cells) rowv_len HMX.out.s (by intro e; rw [e] at hin; simp at hin)
                have q := hcell i hin
                obtain ⟨x, hx⟩ : ∃ x, x = L'[i] := ⟨_, rfl⟩
                rw [← hx] at q
                have HX := hid (HMX.out.x x (by rw [hx]; exact List.getElem_mem hin))
                clear hx hcell
                obtain ⟨vx, r⟩ := x
                obtain ⟨ar, cr, hvx, _, _⟩ := HX.out.1
                dsimp only at hvx
                subst hvx
                dsimp only at HX
                have HQ := hid (show W17.cell? ⟨g, o + i, none⟩ = some (.slice ar r.length cr) from q)
                clear q
                have HK1 := hid (fun (W : World) (f : Fr (fun _ => False) W17 W) => Check_go id name (ai := ai) (ni := ni) (ci := ci) (HCX.out.fr f (fun _ _ h => h)) (by omega) (HX.out.1.fr f (fun _ _ h => h)) HX.out.2)
                have HK2 := hid (fun (W : World) (f : Fr (fun _ => False) W17 W) => rfCheck_go id name (ai := ai) (ni := ni) (ci := ci) (HCX.out.fr f (fun _ _ h => h)) (by omega) (HX.out.1.fr f (fun _ _ h => h)) HX.out.2)
                generalize checkM cl r = z at *
                go_upto_region 20 with fail
                have FQ2 := hid (FQ.out.trans ((Fr.refl (fun _ => False) wr).drew) (fun _ h _ => h))
                refine wp_region_scr (.take 0 (.take 1 (.take 2 (.take 3 (.take 4 (.take 6 (.take 7 (.take 8 (.take 9 (.take 10 (.op 5 (.op 11 (.take 12 .done))))))))))))) (fun kz w => (kz ≤ 13 → w.rangeAt d 0 [.int .i64 id, .string (bs name), .slice ap cl.length cp, .slice ai ni ci] ∧ w.cell? ⟨g, o + i, none⟩ = some (.slice ar r.length cr)) ∧ Hid True) (by kernel_rfl) (by kernel_rfl) (by intro c a d v w h; cases d <;> exact h) ?_
                repeat
                  first
                  | (refine wpT_pure rfl rfl rfl ?_; apply Exists.intro; refine ⟨?_, ?_⟩; intro w; (first | (first | exact run_load_mid _ _ rfl d _ rfl _ _ qa.1 Tryd.underlying25 rfl size_tab2 | (obtain ⟨qa1, qa2⟩ := qa; go_simp <;> rfl)) | (go_simp <;> rfl)); simp only [Act.put, List.setIfInBounds_toArray, List.set_cons_zero, List.set_cons_succ])
                  | (refine wpT_take 13 rfl rfl (by decide +kernel) ⟨fun _ => ⟨(Blk.fr BDX.out FQ2.out (fun h => h)).all, cell_fr HQ.out FQ2.out (fun h => h)⟩, hid trivial⟩ ?_; apply Exists.intro; refine ⟨?_, ?_⟩; intro w hw; (have qa := hw.1 (Nat.le_refl _); have qb := hw.2); (first | (first | exact run_load_mid _ _ rfl d _ rfl _ _ qa.1 Tryd.underlying25 rfl size_tab2 | (obtain ⟨qa1, qa2⟩ := qa; go_simp <;> rfl)) | (go_simp <;> rfl)); simp only [Act.put, List.setIfInBounds_toArray, List.set_cons_zero, List.set_cons_succ])
                  | (refine wpT_skip rfl rfl ?_; simp only [Act.put, List.setIfInBounds_toArray, List.set_cons_zero, List.set_cons_succ])
                generalize wr.drew = WA at *
                refine wpT_op rfl ?_
                go_wp2_with ((go_at_call 13; refine (HK1.out _ FQ2.out).mono ?_; rintro e WB ⟨rfl, f⟩; have FQ3 := hid (FQ2.out.trans f (fun _ h _ => h)); clear f))
                (refine ⟨?_, ?_⟩; focus (intro kz hk hk2 hh; first | (exfalso; simp at hk2; omega) | exact hh | exact (fun h => absurd h (by omega)) | obtain ⟨qa, qb⟩ := hh; first | exact ⟨qa, qb⟩ | (refine ⟨fun h => absurd h (by omega), ?_⟩; first | exact qb | (exact ⟨(Blk.fr BDX.out FQ3.out (fun h => h)).all, cell_fr HQ.out FQ3.out (fun h => h)⟩)) | (refine ⟨fun h => ?_, ?_⟩; (have qa := qa h); all_goals (first | exact qa | exact qb | (exact ⟨(Blk.fr BDX.out FQ3.out (fun h => h)).all, cell_fr HQ.out FQ3.out (fun h => h)⟩)))))
                refine wpT_op rfl ?_
                go_wp2_with ((go_at_call 14; refine (HK2.out _ FQ3.out).mono ?_; rintro e WC ⟨rfl, f⟩; have FQ4 := hid (FQ3.out.trans f (fun _ h _ => h)); clear f))
                (refine ⟨?_, ?_⟩; focus (intro kz hk hk2 hh; first | (exfalso; simp at hk2; omega) | exact hh | exact (fun h => absurd h (by omega)) | obtain ⟨qa, qb⟩ := hh; first | exact ⟨qa, qb⟩ | (refine ⟨fun h => absurd h (by omega), ?_⟩; first | exact qb | (exact ⟨(Blk.fr BDX.out FQ4.out (fun h => h)).all, cell_fr HQ.out FQ4.out (fun h => h)⟩)) | (refine ⟨fun h => ?_, ?_⟩; (have qa := qa h); all_goals (first | exact qa | exact qb | (exact ⟨(Blk.fr BDX.out FQ4.out (fun h => h)).all, cell_fr HQ.out FQ4.out (fun h => h)⟩)))))
                have hzz : (z != z) = false := bne_self_eq_false _
                repeat
                  first
                  | (refine wpT_pure rfl rfl rfl ?_; apply Exists.intro; refine ⟨?_, ?_⟩; intro w; ((go_simp <;> rfl)); simp only [Act.put, List.setIfInBounds_toArray, List.set_cons_zero, List.set_cons_succ])
                  | (refine wpT_take 13 rfl rfl (by decide +kernel) ⟨fun _ => ⟨(Blk.fr BDX.out FQ4.out (fun h => h)).all, cell_fr HQ.out FQ4.out (fun h => h)⟩, hid trivial⟩ ?_; apply Exists.intro; refine ⟨?_, ?_⟩; intro w hw; (have qa := hw.1 (Nat.le_refl _); have qb := hw.2); ((go_simp <;> rfl)); simp only [Act.put, List.setIfInBounds_toArray, List.set_cons_zero, List.set_cons_succ])
                  | (refine wpT_skip rfl rfl ?_; simp only [Act.put, List.setIfInBounds_toArray, List.set_cons_zero, List.set_cons_succ])
                refine wpT_nil ?_
                go_wp2_with (fail)
                go_roundw
                case rel => exact ⟨i + 1, by omega, rfl, FQ4.out⟩
                case measure => simp [intOf]; omega
              · obtain rfl : i = L'.length := by omega
                have j2 : ¬ ((L'.length : Nat) : Int) < (L'.length : Int) := by omega
                go_upto_region 22 with fail
                have BDY := hid (Blk.fr BDX.out FQ.out (fun h => h))
                have HCY := hid (HCX.out.fr FQ.out (fun _ _ h => h))
                have FDY := hid (FDX.out.trans FQ.out (fun _ h _ => h))
                clear BDX HCX HMX FDX FQ
                generalize wr = W22 at *
                go_wp2_with (fail)
                go_loopw [14] (fun s14 wz => ∃ (i : Nat), i ≤ cl.length ∧ s14 = .int .i64 i ∧ Fr (fun _ => False) W22 wz) (fun s14 _ => cl.length - (intOf s14).toNat)
                case atStart => exact ⟨0, by omega, rfl, Fr.refl _ _⟩
                case round =>
                  obtain ⟨i, hi, rfl, hf⟩ := hrel
                  have FQ := hid hf
                  have t2 : wr.cell? ⟨d, 2, none⟩ = some (.slice ap cl.length cp) := (Blk.fr BDY.out hf (fun h => h)).cell 2
                  clear hf
                  by_cases hin : i < cl.length
                  · have j1 : (0 : Int) ≤ (i : Int) := by omega
                    have j2 : (i : Int) < (cl.length : Int) := by omega
                    have j3 : IntKind.i64.wrap ((i : Int) + 1) = (i : Int) + 1 := IntWalk.i64_in _ (by omega)
                    obtain ⟨gc, oc, rfl, -, qc⟩ := slK (k := 2) (f := Col.cells) (by decide) col_len HCY.out hin
                    have q := qc 0 (by decide)
                    obtain ⟨x, hx⟩ : ∃ x, x = cl[i] := ⟨_, rfl⟩
                    rw [← hx] at q
                    clear hx qc
                    obtain ⟨cn, ck⟩ := x
                    simp only [Col.cells, Nat.add_zero, List.getElem?_cons_zero] at q
                    have HQ := hid q
                    clear q
                    have HK1 := hid (fun (W : World) (f : Fr (fun _ => False) W22 W) => Col_go id name (vi := .slice ai ni ci) cn (HCY.out.fr f (fun _ _ h => h)) (by omega))
                    have HK2 := hid (fun (W : World) (f : Fr (fun _ => False) W22 W) => rfCol_go id name (vi := .slice ai ni ci) cn (HCY.out.fr f (fun _ _ h => h)) (by omega))
                    generalize colOf cl cn = z at *
                    go_upto_region 25 with fail
                    have FQ2 := hid (FQ.out.trans ((Fr.refl (fun _ => False) wr).drew) (fun _ h _ => h))
                    refine wp_region_scr (.take 0 (.take 1 (.take 2 (.take 3 (.take 4 (.take 5 (.take 6 (.take 8 (.take 9 (.take 10 (.take 11 (.take 12 (.take 13 (.take 14 (.op 7 (.op 15 (.take 16 .done))))))))))))))))) (fun kz w => (kz ≤ 17 → w.rangeAt d 0 [.int .i64 id, .string (bs name), .slice (some ⟨gc, oc, none⟩) cl.length cp, .slice ai ni ci] ∧ w.cell? ⟨d, 2, none⟩ = some (.slice (some ⟨gc, oc, none⟩) cl.length cp) ∧ w.cell? ⟨gc, oc + i * 2, none⟩ = some (.string (bs cn))) ∧ Hid True) (by kernel_rfl) (by kernel_rfl) (by intro c a d v w h; cases d <;> exact h) ?_
                    repeat
                      first
                      | (refine wpT_pure rfl rfl rfl ?_; apply Exists.intro; refine ⟨?_, ?_⟩; intro w; (first | (first | exact run_load_mid _ _ rfl d _ rfl _ _ qa.1 Tryd.underlying25 rfl size_tab2 | (obtain ⟨qa1, qa2, qa3⟩ := qa; go_simp <;> rfl)) | (go_simp <;> rfl)); simp only [Act.put, List.setIfInBounds_toArray, List.set_cons_zero, List.set_cons_succ])
                      | (refine wpT_take 17 rfl rfl (by decide +kernel) ⟨fun _ => ⟨(Blk.fr BDY.out FQ2.out (fun h => h)).all, (Blk.fr BDY.out FQ2.out (fun h => h)).cell 2, cell_fr HQ.out FQ2.out (fun h => h)⟩, hid trivial⟩ ?_; apply Exists.intro; refine ⟨?_, ?_⟩; intro w hw; (have qa := hw.1 (Nat.le_refl _); have qb := hw.2); (first | (first | exact run_load_mid _ _ rfl d _ rfl _ _ qa.1 Tryd.underlying25 rfl size_tab2 | (obtain ⟨qa1, qa2, qa3⟩ := qa; go_simp <;> rfl)) | (go_simp <;> rfl)); simp only [Act.put, List.setIfInBounds_toArray, List.set_cons_zero, List.set_cons_succ])
                      | (refine wpT_skip rfl rfl ?_; simp only [Act.put, List.setIfInBounds_toArray, List.set_cons_zero, List.set_cons_succ])
                    generalize wr.drew = WA at *
                    refine wpT_op rfl ?_
                    go_wp2_with ((go_at_call 15; refine (HK1.out _ FQ2.out).mono ?_; rintro e WB ⟨rfl, f⟩; have FQ3 := hid (FQ2.out.trans f (fun _ h _ => h)); clear f))
                    (refine ⟨?_, ?_⟩; focus (intro kz hk hk2 hh; first | (exfalso; simp at hk2; omega) | exact hh | exact (fun h => absurd h (by omega)) | obtain ⟨qa, qb⟩ := hh; first | exact ⟨qa, qb⟩ | (refine ⟨fun h => absurd h (by omega), ?_⟩; first | exact qb | (exact ⟨(Blk.fr BDY.out FQ3.out (fun h => h)).all, (Blk.fr BDY.out FQ3.out (fun h => h)).cell 2, cell_fr HQ.out FQ3.out (fun h => h)⟩)) | (refine ⟨fun h => ?_, ?_⟩; (have qa := qa h); all_goals (first | exact qa | exact qb | (exact ⟨(Blk.fr BDY.out FQ3.out (fun h => h)).all, (Blk.fr BDY.out FQ3.out (fun h => h)).cell 2, cell_fr HQ.out FQ3.out (fun h => h)⟩)))))
                    refine wpT_op rfl ?_
                    go_wp2_with ((go_at_call 16; refine (HK2.out _ FQ3.out).mono ?_; rintro e WC ⟨rfl, f⟩; have FQ4 := hid (FQ3.out.trans f (fun _ h _ => h)); clear f))
                    (refine ⟨?_, ?_⟩; focus (intro kz hk hk2 hh; first | (exfalso; simp at hk2; omega) | exact hh | exact (fun h => absurd h (by omega)) | obtain ⟨qa, qb⟩ := hh; first | exact ⟨qa, qb⟩ | (refine ⟨fun h => absurd h (by omega), ?_⟩; first | exact qb | (exact ⟨(Blk.fr BDY.out FQ4.out (fun h => h)).all, (Blk.fr BDY.out FQ4.out (fun h => h)).cell 2, cell_fr HQ.out FQ4.out (fun h => h)⟩)) | (refine ⟨fun h => ?_, ?_⟩; (have qa := qa h); all_goals (first | exact qa | exact qb | (exact ⟨(Blk.fr BDY.out FQ4.out (fun h => h)).all, (Blk.fr BDY.out FQ4.out (fun h => h)).cell 2, cell_fr HQ.out FQ4.out (fun h => h)⟩)))))
                    have hzz : (z != z) = false := bne_self_eq_false _
                    repeat
                      first
                      | (refine wpT_pure rfl rfl rfl ?_; apply Exists.intro; refine ⟨?_, ?_⟩; intro w; ((go_simp <;> rfl)); simp only [Act.put, List.setIfInBounds_toArray, List.set_cons_zero, List.set_cons_succ])
                      | (refine wpT_take 17 rfl rfl (by decide +kernel) ⟨fun _ => ⟨(Blk.fr BDY.out FQ4.out (fun h => h)).all, (Blk.fr BDY.out FQ4.out (fun h => h)).cell 2, cell_fr HQ.out FQ4.out (fun h => h)⟩, hid trivial⟩ ?_; apply Exists.intro; refine ⟨?_, ?_⟩; intro w hw; (have qa := hw.1 (Nat.le_refl _); have qb := hw.2); ((go_simp <;> rfl)); simp only [Act.put, List.setIfInBounds_toArray, List.set_cons_zero, List.set_cons_succ])
                      | (refine wpT_skip rfl rfl ?_; simp only [Act.put, List.setIfInBounds_toArray, List.set_cons_zero, List.set_cons_succ])
                    refine wpT_nil ?_
                    go_wp2_with (fail)
                    go_roundw
                    case rel => exact ⟨i + 1, by omega, rfl, FQ4.out⟩
                    case measure => simp [intOf]; omega
                  · obtain rfl : i = cl.length := by omega
                    have j2 : ¬ ((cl.length : Nat) : Int) < (cl.length : Int) := by omega
                    have HK1 := hid (fun (W : World) (f : Fr (fun _ => False) W22 W) => Col_go id name (vi := .slice ai ni ci) nm (HCY.out.fr f (fun _ _ h => h)) (by omega))
                    have HK2 := hid (fun (W : World) (f : Fr (fun _ => False) W22 W) => rfCol_go id name (vi := .slice ai ni ci) nm (HCY.out.fr f (fun _ _ h => h)) (by omega))
                    generalize colOf cl nm = z at *
                    go_upto_region 27 with fail
                    have FQ2 := hid (FQ.out.trans ((Fr.refl (fun _ => False) wr).drew) (fun _ h _ => h))
                    refine wp_region_scr (.take 0 (.take 1 (.take 2 (.take 3 (.take 5 (.take 6 (.op 4 (.op 7 (.take 8 (.take 9 (.take 10 .done))))))))))) (fun kz w => (kz ≤ 11 → w.rangeAt d 0 [.int .i64 id, .string (bs name), .slice ap cl.length cp, .slice ai ni ci] ∧ True) ∧ Hid True) (by kernel_rfl) (by kernel_rfl) (by intro c a d v w h; cases d <;> exact h) ?_
                    repeat
                      first
                      | (refine wpT_pure rfl rfl rfl ?_; apply Exists.intro; refine ⟨?_, ?_⟩; intro w; (first | (first | exact run_load_mid _ _ rfl d _ rfl _ _ qa.1 Tryd.underlying25 rfl size_tab2 | (go_simp <;> rfl)) | (go_simp <;> rfl)); simp only [Act.put, List.setIfInBounds_toArray, List.set_cons_zero, List.set_cons_succ])
                      | (refine wpT_take 11 rfl rfl (by decide +kernel) ⟨fun _ => ⟨(Blk.fr BDY.out FQ2.out (fun h => h)).all, trivial⟩, hid trivial⟩ ?_; apply Exists.intro; refine ⟨?_, ?_⟩; intro w hw; (have qa := hw.1 (Nat.le_refl _); have qb := hw.2); (first | (first | exact run_load_mid _ _ rfl d _ rfl _ _ qa.1 Tryd.underlying25 rfl size_tab2 | (go_simp <;> rfl)) | (go_simp <;> rfl)); simp only [Act.put, List.setIfInBounds_toArray, List.set_cons_zero, List.set_cons_succ])
                      | (refine wpT_skip rfl rfl ?_; simp only [Act.put, List.setIfInBounds_toArray, List.set_cons_zero, List.set_cons_succ])
                    generalize wr.drew = WA at *
                    refine wpT_op rfl ?_
                    go_wp2_with ((go_at_call 15; refine (HK1.out _ FQ2.out).mono ?_; rintro e WB ⟨rfl, f⟩; have FQ3 := hid (FQ2.out.trans f (fun _ h _ => h)); clear f))
                    (refine ⟨?_, ?_⟩; focus (intro kz hk hk2 hh; first | (exfalso; simp at hk2; omega) | exact hh | exact (fun h => absurd h (by omega)) | obtain ⟨qa, qb⟩ := hh; first | exact ⟨qa, qb⟩ | (refine ⟨fun h => absurd h (by omega), ?_⟩; first | exact qb | (exact ⟨(Blk.fr BDY.out FQ3.out (fun h => h)).all, trivial⟩)) | (refine ⟨fun h => ?_, ?_⟩; (have qa := qa h); all_goals (first | exact qa | exact qb | (exact ⟨(Blk.fr BDY.out FQ3.out (fun h => h)).all, trivial⟩)))))
                    refine wpT_op rfl ?_
                    go_wp2_with ((go_at_call 16; refine (HK2.out _ FQ3.out).mono ?_; rintro e WC ⟨rfl, f⟩; have FQ4 := hid (FQ3.out.trans f (fun _ h _ => h)); clear f))
                    (refine ⟨?_, ?_⟩; focus (intro kz hk hk2 hh; first | (exfalso; simp at hk2; omega) | exact hh | exact (fun h => absurd h (by omega)) | obtain ⟨qa, qb⟩ := hh; first | exact ⟨qa, qb⟩ | (refine ⟨fun h => absurd h (by omega), ?_⟩; first | exact qb | (exact ⟨(Blk.fr BDY.out FQ4.out (fun h => h)).all, trivial⟩)) | (refine ⟨fun h => ?_, ?_⟩; (have qa := qa h); all_goals (first | exact qa | exact qb | (exact ⟨(Blk.fr BDY.out FQ4.out (fun h => h)).all, trivial⟩)))))
                    have hzz : (z == z) = true := beq_self_eq_true _
                    repeat
                      first
                      | (refine wpT_pure rfl rfl rfl ?_; apply Exists.intro; refine ⟨?_, ?_⟩; intro w; ((go_simp <;> rfl)); simp only [Act.put, List.setIfInBounds_toArray, List.set_cons_zero, List.set_cons_succ])
                      | (refine wpT_take 11 rfl rfl (by decide +kernel) ⟨fun _ => ⟨(Blk.fr BDY.out FQ4.out (fun h => h)).all, trivial⟩, hid trivial⟩ ?_; apply Exists.intro; refine ⟨?_, ?_⟩; intro w hw; (have qa := hw.1 (Nat.le_refl _); have qb := hw.2); ((go_simp <;> rfl)); simp only [Act.put, List.setIfInBounds_toArray, List.set_cons_zero, List.set_cons_succ])
                      | (refine wpT_skip rfl rfl ?_; simp only [Act.put, List.setIfInBounds_toArray, List.set_cons_zero, List.set_cons_succ])
                    refine wpT_nil ?_
                    have FY := hid (FDY.out.trans FQ4.out (fun _ h _ => h))
                    go_wp2_with (fail)
                    go_ret
                    exact ⟨rfl, FY.out⟩
      · have i2 : ((L'.length : Nat) : Int) < (A.length : Int) := by omega
        have i3 : ¬ ((L'.length : Nat) : Int) < 12 := by omega
        clear h1 h2
        go_upto_region 8 with fail
        have HC1 := hid (Count_go id name (ac := ap) (cc := cp) (ai := ai) (ni := ni) (ci := ci) (nc := cl.length) (by omega) HMS.out (by have := HLN.out; omega) HKD.out)
        go_upto_region 9 with (first
          | (refine wpList_load_mid rfl 25 (.tmp 3) rfl d 0 rfl _ _ BD.out.all Tryd.underlying25 rfl size_tab2 ?_)
          | (go_at_call 11; refine HC1.out.mono ?_; rintro e w7 ⟨v1, rfl, hv, f⟩; obtain ⟨a1, c1, rfl, _⟩ := hv.slice; have HV1 := hid (hv.low (Nat.zero_le _)); have F7 := hid f; clear hv f))
        have FA := (Fr.refl (fun _ => False) w7).alloc (.cells #[.int .i64 L'.length, .slice a1 cl.length c1] 32)
        have HV8 := hid (HV1.out.fre FA)
        have BP8 := hid (Blk.new w7 [.int .i64 L'.length, .slice a1 cl.length c1] 32)
        have F8 := hid (F7.out.trans FA (fun _ h _ => h))
        clear FA HV1 F7 HC1
        generalize w7.heap.size = dp at *
        generalize w7.alloc _ = W8 at *
        have HC2 := hid (rfCount_go id name (ac := ap) (cc := cp) (ai := ai) (ni := ni) (ci := ci) (nc := cl.length) (by omega) (HMS.out.fre F8.out) (by have := HLN.out; omega) HLS.out)
        have BD8 := hid (Blk.fr BD.out F8.out (fun h => h))
        go_upto_region 10 with (first
          | (refine wpList_load_mid rfl 25 (.tmp 3) rfl d 0 rfl _ _ BD8.out.all Tryd.underlying25 rfl size_tab2 ?_)
          | (go_at_call 12; refine HC2.out.mono ?_; rintro e w9 ⟨v1, rfl, hv, f⟩; obtain ⟨a2, c2, rfl, _⟩ := hv.slice; have HV2 := hid (hv.low (Nat.zero_le _)); have F9 := hid f; clear hv f))
        have FA := (Fr.refl (fun _ => False) w9).alloc (.cells #[.int .i64 L'.length, .slice a2 cl.length c2] 34)
        have HVQ := hid (HV2.out.fre FA)
        have BQ := hid (Blk.new w9 [.int .i64 L'.length, .slice a2 cl.length c2] 34)
        have F10 := hid (F9.out.trans FA (fun _ h _ => h))
        clear FA HV2 F9 HC2
        generalize w9.heap.size = dq at *
        generalize w9.alloc _ = W10 at *
        have FW := hid (F8.out.trans F10.out (fun _ h _ => h))
        have BDW := hid (Blk.fr BD.out FW.out (fun h => h))
        have HCW := hid (HCD.out.fr FW.out (fun _ _ h => h))
        have HMW := hid (HMS.out.fre FW.out)
        have HVP := hid (HV8.out.fre F10.out)
        have BP := hid (Blk.fr BP8.out F10.out (fun h => h))
        have FDW := hid (FD.out.trans FW.out (fun _ h _ => h))
        clear BD8 HV8 BP8 F8 F10 FW BD HCD HMS FD HKD
        have p0 : W10.cell? ⟨dp, 0, none⟩ = some (.int .i64 L'.length) := BP.out.cell 0
        have p1 : W10.cell? ⟨dp, 1, none⟩ = some (.slice a1 cl.length c1) := BP.out.cell 1
        have q0 : W10.cell? ⟨dq, 0, none⟩ = some (.int .i64 L'.length) := BQ.out.cell 0
        have q1 : W10.cell? ⟨dq, 1, none⟩ = some (.slice a2 cl.length c2) := BQ.out.cell 1
        go_upto_region 12 with fail
        clear q0
        go_wp2_with (fail)
        go_loopw [12] (fun s12 wz => ∃ (i : Nat), i ≤ cl.length ∧ s12 = .int .i64 i ∧ Fr (fun _ => False) W10 wz) (fun s12 _ => cl.length - (intOf s12).toNat)
        case atStart => exact ⟨0, by omega, rfl, Fr.refl _ _⟩
        case round =>
          obtain ⟨i, hi, rfl, hf⟩ := hrel
          have FQ := hid hf
          have tp1 : wr.cell? ⟨dp, 1, none⟩ = some (.slice a1 cl.length c1) := cell_fr p1 hf (fun h => h)
          clear hf
          by_cases hin : i < cl.length
          · have j1 : (0 : Int) ≤ (i : Int) := by omega
            have j2 : (i : Int) < (cl.length : Int) := by omega
            have j3 : IntKind.i64.wrap ((i : Int) + 1) = (i : Int) + 1 := IntWalk.i64_in _ (by omega)
            have hc1 := chk_cell hin (L'.map RowV.r)
            have ne : (countM cl.length (L'.map RowV.r)).flatMap ncell ≠ [] := fun e => by rw [e] at hc1; cases hc1
            obtain ⟨g1, rfl, -, hg1⟩ := row_cells HVP.out ne
            obtain ⟨g2, rfl, -, hg2⟩ := row_cells HVQ.out ne
            have b1 := chk_bound i (L'.map RowV.r)
            rw [List.length_map] at b1
            generalize dc eqV (colV i (L'.map RowV.r)) = np at *
            have HG1 := hid (hg1 _ _ hc1)
            have HG2 := hid (hg2 _ _ hc1)
            have k1 : ¬ (L'.length : Int) < (np : Int) := by omega
            clear hc1 ne hg1 hg2 b1
            go_upto_region 15 with fail
            have FQ2 := hid (FQ.out.trans ((Fr.refl (fun _ => False) wr).drew) (fun _ h _ => h))
            refine wp_region_scr (.take 0 (.take 1 (.take 2 (.take 3 (.take 4 (.take 5 (.take 6 (.take 7 (.take 8 (.take 9 (.take 10 (.take 11 (.take 12 (.take 13 (.take 14 (.take 15 (.take 16 (.take 17 (.take 18 (.take 19 (.take 20 .done))))))))))))))))))))) (fun kz w => (kz ≤ 21 → w.cell? ⟨dp, 1, none⟩ = some (.slice (some ⟨g1, 0, none⟩) cl.length c1) ∧ w.cell? ⟨dq, 1, none⟩ = some (.slice (some ⟨g2, 0, none⟩) cl.length c2) ∧ w.cell? ⟨dp, 0, none⟩ = some (.int .i64 (L'.length : Nat)) ∧ w.cell? ⟨g1, i, none⟩ = some (.int .i64 (np : Nat)) ∧ w.cell? ⟨g2, i, none⟩ = some (.int .i64 (np : Nat))) ∧ Hid True) (by kernel_rfl) (by kernel_rfl) (by intro c a d v w h; cases d <;> exact h) ?_
            repeat
              first
              | (refine wpT_pure rfl rfl rfl ?_; apply Exists.intro; refine ⟨?_, ?_⟩; intro w; (first | ((obtain ⟨qa1, qa2, qa3, qa4, qa5⟩ := qa; go_simp <;> rfl)) | (go_simp <;> rfl)); simp only [Act.put, List.setIfInBounds_toArray, List.set_cons_zero, List.set_cons_succ])
              | (refine wpT_take 21 rfl rfl (by decide +kernel) ⟨fun _ => ⟨cell_fr p1 FQ2.out (fun h => h), cell_fr q1 FQ2.out (fun h => h), cell_fr p0 FQ2.out (fun h => h), cell_fr HG1.out FQ2.out (fun h => h), cell_fr HG2.out FQ2.out (fun h => h)⟩, hid trivial⟩ ?_; apply Exists.intro; refine ⟨?_, ?_⟩; intro w hw; (have qa := hw.1 (Nat.le_refl _); have qb := hw.2); (first | ((obtain ⟨qa1, qa2, qa3, qa4, qa5⟩ := qa; go_simp <;> rfl)) | (go_simp <;> rfl)); simp only [Act.put, List.setIfInBounds_toArray, List.set_cons_zero, List.set_cons_succ])
              | (refine wpT_skip rfl rfl ?_; simp only [Act.put, List.setIfInBounds_toArray, List.set_cons_zero, List.set_cons_succ])
            refine wpT_nil ?_
            generalize wr.drew = wn at *
            go_wp2_with (fail)
            go_roundw
            case rel => exact ⟨i + 1, by omega, rfl, FQ2.out⟩
            case measure => simp [intOf]; omega
          · obtain rfl : i = cl.length := by omega
            have j2 : ¬ ((cl.length : Nat) : Int) < (cl.length : Int) := by omega
            go_upto_region 17 with fail
            have BDX := hid (Blk.fr BDW.out FQ.out (fun h => h))
            have HCX := hid (HCW.out.fr FQ.out (fun _ _ h => h))
            have HMX := hid (HMW.out.fre FQ.out)
            have FDX := hid (FDW.out.trans FQ.out (fun _ h _ => h))
            clear BDW HCW HMW FDW FQ HVP HVQ BP BQ p0 p1 q1 tp1
            generalize wr = W17 at *
            go_wp2_with (fail)
            go_loopw [13] (fun s13 wz => ∃ (i : Nat), i ≤ L'.length ∧ s13 = .int .i64 i ∧ Fr (fun _ => False) W17 wz) (fun s13 _ => L'.length - (intOf s13).toNat)
            case atStart => exact ⟨0, by omega, rfl, Fr.refl _ _⟩
            case round =>
              obtain ⟨i, hi, rfl, hf⟩ := hrel
              have FQ := hid hf
              clear hf
              by_cases hin : i < L'.length
              · have j1 : (0 : Int) ≤ (i : Int) := by omega
                have j2 : (i : Int) < (L'.length : Int) := by omega
                have j3 : IntKind.i64.wrap ((i : Int) + 1) = (i : Int) + 1 := IntWalk.i64_in _ (by have := HLN.out; omega)
                obtain ⟨g, o, rfl, -, hcell⟩ := sl_cell1 (f := RowV.cells) rowv_len HMX.out.s (by intro e; rw [e] at hin; simp at hin)
                have q := hcell i hin
                obtain ⟨x, hx⟩ : ∃ x, x = L'[i] := ⟨_, rfl⟩
                rw [← hx] at q
                have HX := hid (HMX.out.x x (by rw [hx]; exact List.getElem_mem hin))
                clear hx hcell
                obtain ⟨vx, r⟩ := x
                obtain ⟨ar, cr, hvx, _, _⟩ := HX.out.1
                dsimp only at hvx
                subst hvx
                dsimp only at HX
                have HQ := hid (show W17.cell? ⟨g, o + i, none⟩ = some (.slice ar r.length cr) from q)
                clear q
                have HK1 := hid (fun (W : World) (f : Fr (fun _ => False) W17 W) => Check_go id name (ai := ai) (ni := ni) (ci := ci) (HCX.out.fr f (fun _ _ h => h)) (by omega) (HX.out.1.fr f (fun _ _ h => h)) HX.out.2)
                have HK2 := hid (fun (W : World) (f : Fr (fun _ => False) W17 W) => rfCheck_go id name (ai := ai) (ni := ni) (ci := ci) (HCX.out.fr f (fun _ _ h => h)) (by omega) (HX.out.1.fr f (fun _ _ h => h)) HX.out.2)
                generalize checkM cl r = z at *
                go_upto_region 20 with fail
                have FQ2 := hid (FQ.out.trans ((Fr.refl (fun _ => False) wr).drew) (fun _ h _ => h))
                refine wp_region_scr (.take 0 (.take 1 (.take 2 (.take 3 (.take 4 (.take 6 (.take 7 (.take 8 (.take 9 (.take 10 (.op 5 (.op 11 (.take 12 .done))))))))))))) (fun kz w => (kz ≤ 13 → w.rangeAt d 0 [.int .i64 id, .string (bs name), .slice ap cl.length cp, .slice ai ni ci] ∧ w.cell? ⟨g, o + i, none⟩ = some (.slice ar r.length cr)) ∧ Hid True) (by kernel_rfl) (by kernel_rfl) (by intro c a d v w h; cases d <;> exact h) ?_
                repeat
                  first
                  | (refine wpT_pure rfl rfl rfl ?_; apply Exists.intro; refine ⟨?_, ?_⟩; intro w; (first | (first | exact run_load_mid _ _ rfl d _ rfl _ _ qa.1 Tryd.underlying25 rfl size_tab2 | (obtain ⟨qa1, qa2⟩ := qa; go_simp <;> rfl)) | (go_simp <;> rfl)); simp only [Act.put, List.setIfInBounds_toArray, List.set_cons_zero, List.set_cons_succ])
                  | (refine wpT_take 13 rfl rfl (by decide +kernel) ⟨fun _ => ⟨(Blk.fr BDX.out FQ2.out (fun h => h)).all, cell_fr HQ.out FQ2.out (fun h => h)⟩, hid trivial⟩ ?_; apply Exists.intro; refine ⟨?_, ?_⟩; intro w hw; (have qa := hw.1 (Nat.le_refl _); have qb := hw.2); (first | (first | exact run_load_mid _ _ rfl d _ rfl _ _ qa.1 Tryd.underlying25 rfl size_tab2 | (obtain ⟨qa1, qa2⟩ := qa; go_simp <;> rfl)) | (go_simp <;> rfl)); simp only [Act.put, List.setIfInBounds_toArray, List.set_cons_zero, List.set_cons_succ])
                  | (refine wpT_skip rfl rfl ?_; simp only [Act.put, List.setIfInBounds_toArray, List.set_cons_zero, List.set_cons_succ])
                generalize wr.drew = WA at *
                refine wpT_op rfl ?_
                go_wp2_with ((go_at_call 13; refine (HK1.out _ FQ2.out).mono ?_; rintro e WB ⟨rfl, f⟩; have FQ3 := hid (FQ2.out.trans f (fun _ h _ => h)); clear f))
                (refine ⟨?_, ?_⟩; focus (intro kz hk hk2 hh; first | (exfalso; simp at hk2; omega) | exact hh | exact (fun h => absurd h (by omega)) | obtain ⟨qa, qb⟩ := hh; first | exact ⟨qa, qb⟩ | (refine ⟨fun h => absurd h (by omega), ?_⟩; first | exact qb | (exact ⟨(Blk.fr BDX.out FQ3.out (fun h => h)).all, cell_fr HQ.out FQ3.out (fun h => h)⟩)) | (refine ⟨fun h => ?_, ?_⟩; (have qa := qa h); all_goals (first | exact qa | exact qb | (exact ⟨(Blk.fr BDX.out FQ3.out (fun h => h)).all, cell_fr HQ.out FQ3.out (fun h => h)⟩)))))
                refine wpT_op rfl ?_
                go_wp2_with ((go_at_call 14; refine (HK2.out _ FQ3.out).mono ?_; rintro e WC ⟨rfl, f⟩; have FQ4 := hid (FQ3.out.trans f (fun _ h _ => h)); clear f))
                (refine ⟨?_, ?_⟩; focus (intro kz hk hk2 hh; first | (exfalso; simp at hk2; omega) | exact hh | exact (fun h => absurd h (by omega)) | obtain ⟨qa, qb⟩ := hh; first | exact ⟨qa, qb⟩ | (refine ⟨fun h => absurd h (by omega), ?_⟩; first | exact qb | (exact ⟨(Blk.fr BDX.out FQ4.out (fun h => h)).all, cell_fr HQ.out FQ4.out (fun h => h)⟩)) | (refine ⟨fun h => ?_, ?_⟩; (have qa := qa h); all_goals (first | exact qa | exact qb | (exact ⟨(Blk.fr BDX.out FQ4.out (fun h => h)).all, cell_fr HQ.out FQ4.out (fun h => h)⟩)))))
                have hzz : (z != z) = false := bne_self_eq_false _
                repeat
                  first
                  | (refine wpT_pure rfl rfl rfl ?_; apply Exists.intro; refine ⟨?_, ?_⟩; intro w; ((go_simp <;> rfl)); simp only [Act.put, List.setIfInBounds_toArray, List.set_cons_zero, List.set_cons_succ])
                  | (refine wpT_take 13 rfl rfl (by decide +kernel) ⟨fun _ => ⟨(Blk.fr BDX.out FQ4.out (fun h => h)).all, cell_fr HQ.out FQ4.out (fun h => h)⟩, hid trivial⟩ ?_; apply Exists.intro; refine ⟨?_, ?_⟩; intro w hw; (have qa := hw.1 (Nat.le_refl _); have qb := hw.2); ((go_simp <;> rfl)); simp only [Act.put, List.setIfInBounds_toArray, List.set_cons_zero, List.set_cons_succ])
                  | (refine wpT_skip rfl rfl ?_; simp only [Act.put, List.setIfInBounds_toArray, List.set_cons_zero, List.set_cons_succ])
                refine wpT_nil ?_
                go_wp2_with (fail)
                go_roundw
                case rel => exact ⟨i + 1, by omega, rfl, FQ4.out⟩
                case measure => simp [intOf]; omega
              · obtain rfl : i = L'.length := by omega
                have j2 : ¬ ((L'.length : Nat) : Int) < (L'.length : Int) := by omega
                go_upto_region 22 with fail
                have BDY := hid (Blk.fr BDX.out FQ.out (fun h => h))
                have HCY := hid (HCX.out.fr FQ.out (fun _ _ h => h))
                have FDY := hid (FDX.out.trans FQ.out (fun _ h _ => h))
                clear BDX HCX HMX FDX FQ
                generalize wr = W22 at *
                go_wp2_with (fail)
                go_loopw [14] (fun s14 wz => ∃ (i : Nat), i ≤ cl.length ∧ s14 = .int .i64 i ∧ Fr (fun _ => False) W22 wz) (fun s14 _ => cl.length - (intOf s14).toNat)
                case atStart => exact ⟨0, by omega, rfl, Fr.refl _ _⟩
                case round =>
                  obtain ⟨i, hi, rfl, hf⟩ := hrel
                  have FQ := hid hf
                  have t2 : wr.cell? ⟨d, 2, none⟩ = some (.slice ap cl.length cp) := (Blk.fr BDY.out hf (fun h => h)).cell 2
                  clear hf
                  by_cases hin : i < cl.length
                  · have j1 : (0 : Int) ≤ (i : Int) := by omega
                    have j2 : (i : Int) < (cl.length : Int) := by omega
                    have j3 : IntKind.i64.wrap ((i : Int) + 1) = (i : Int) + 1 := IntWalk.i64_in _ (by omega)
                    obtain ⟨gc, oc, rfl, -, qc⟩ := slK (k := 2) (f := Col.cells) (by decide) col_len HCY.out hin
                    have q := qc 0 (by decide)
                    obtain ⟨x, hx⟩ : ∃ x, x = cl[i] := ⟨_, rfl⟩
                    rw [← hx] at q
                    clear hx qc
                    obtain ⟨cn, ck⟩ := x
                    simp only [Col.cells, Nat.add_zero, List.getElem?_cons_zero] at q
                    have HQ := hid q
                    clear q
                    have HK1 := hid (fun (W : World) (f : Fr (fun _ => False) W22 W) => Col_go id name (vi := .slice ai ni ci) cn (HCY.out.fr f (fun _ _ h => h)) (by omega))
                    have HK2 := hid (fun (W : World) (f : Fr (fun _ => False) W22 W) => rfCol_go id name (vi := .slice ai ni ci) cn (HCY.out.fr f (fun _ _ h => h)) (by omega))
                    generalize colOf cl cn = z at *
                    go_upto_region 25 with fail
                    have FQ2 := hid (FQ.out.trans ((Fr.refl (fun _ => False) wr).drew) (fun _ h _ => h))
                    refine wp_region_scr (.take 0 (.take 1 (.take 2 (.take 3 (.take 4 (.take 5 (.take 6 (.take 8 (.take 9 (.take 10 (.take 11 (.take 12 (.take 13 (.take 14 (.op 7 (.op 15 (.take 16 .done))))))))))))))))) (fun kz w => (kz ≤ 17 → w.rangeAt d 0 [.int .i64 id, .string (bs name), .slice (some ⟨gc, oc, none⟩) cl.length cp, .slice ai ni ci] ∧ w.cell? ⟨d, 2, none⟩ = some (.slice (some ⟨gc, oc, none⟩) cl.length cp) ∧ w.cell? ⟨gc, oc + i * 2, none⟩ = some (.string (bs cn))) ∧ Hid True) (by kernel_rfl) (by kernel_rfl) (by intro c a d v w h; cases d <;> exact h) ?_
                    repeat
                      first
                      | (refine wpT_pure rfl rfl rfl ?_; apply Exists.intro; refine ⟨?_, ?_⟩; intro w; (first | (first | exact run_load_mid _ _ rfl d _ rfl _ _ qa.1 Tryd.underlying25 rfl size_tab2 | (obtain ⟨qa1, qa2, qa3⟩ := qa; go_simp <;> rfl)) | (go_simp <;> rfl)); simp only [Act.put, List.setIfInBounds_toArray, List.set_cons_zero, List.set_cons_succ])
                      | (refine wpT_take 17 rfl rfl (by decide +kernel) ⟨fun _ => ⟨(Blk.fr BDY.out FQ2.out (fun h => h)).all, (Blk.fr BDY.out FQ2.out (fun h => h)).cell 2, cell_fr HQ.out FQ2.out (fun h => h)⟩, hid trivial⟩ ?_; apply Exists.intro; refine ⟨?_, ?_⟩; intro w hw; (have qa := hw.1 (Nat.le_refl _); have qb := hw.2); (first | (first | exact run_load_mid _ _ rfl d _ rfl _ _ qa.1 Tryd.underlying25 rfl size_tab2 | (obtain ⟨qa1, qa2, qa3⟩ := qa; go_simp <;> rfl)) | (go_simp <;> rfl)); simp only [Act.put, List.setIfInBounds_toArray, List.set_cons_zero, List.set_cons_succ])
                      | (refine wpT_skip rfl rfl ?_; simp only [Act.put, List.setIfInBounds_toArray, List.set_cons_zero, List.set_cons_succ])
                    generalize wr.drew = WA at *
                    refine wpT_op rfl ?_
                    go_wp2_with ((go_at_call 15; refine (HK1.out _ FQ2.out).mono ?_; rintro e WB ⟨rfl, f⟩; have FQ3 := hid (FQ2.out.trans f (fun _ h _ => h)); clear f))
                    (refine ⟨?_, ?_⟩; focus (intro kz hk hk2 hh; first | (exfalso; simp at hk2; omega) | exact hh | exact (fun h => absurd h (by omega)) | obtain ⟨qa, qb⟩ := hh; first | exact ⟨qa, qb⟩ | (refine ⟨fun h => absurd h (by omega), ?_⟩; first | exact qb | (exact ⟨(Blk.fr BDY.out FQ3.out (fun h => h)).all, (Blk.fr BDY.out FQ3.out (fun h => h)).cell 2, cell_fr HQ.out FQ3.out (fun h => h)⟩)) | (refine ⟨fun h => ?_, ?_⟩; (have qa := qa h); all_goals (first | exact qa | exact qb | (exact ⟨(Blk.fr BDY.out FQ3.out (fun h => h)).all, (Blk.fr BDY.out FQ3.out (fun h => h)).cell 2, cell_fr HQ.out FQ3.out (fun h => h)⟩)))))
                    refine wpT_op rfl ?_
                    go_wp2_with ((go_at_call 16; refine (HK2.out _ FQ3.out).mono ?_; rintro e WC ⟨rfl, f⟩; have FQ4 := hid (FQ3.out.trans f (fun _ h _ => h)); clear f))
                    (refine ⟨?_, ?_⟩; focus (intro kz hk hk2 hh; first | (exfalso; simp at hk2; omega) | exact hh | exact (fun h => absurd h (by omega)) | obtain ⟨qa, qb⟩ := hh; first | exact ⟨qa, qb⟩ | (refine ⟨fun h => absurd h (by omega), ?_⟩; first | exact qb | (exact ⟨(Blk.fr BDY.out FQ4.out (fun h => h)).all, (Blk.fr BDY.out FQ4.out (fun h => h)).cell 2, cell_fr HQ.out FQ4.out (fun h => h)⟩)) | (refine ⟨fun h => ?_, ?_⟩; (have qa := qa h); all_goals (first | exact qa | exact qb | (exact ⟨(Blk.fr BDY.out FQ4.out (fun h => h)).all, (Blk.fr BDY.out FQ4.out (fun h => h)).cell 2, cell_fr HQ.out FQ4.out (fun h => h)⟩)))))
                    have hzz : (z != z) = false := bne_self_eq_false _
                    repeat
                      first
                      | (refine wpT_pure rfl rfl rfl ?_; apply Exists.intro; refine ⟨?_, ?_⟩; intro w; ((go_simp <;> rfl)); simp only [Act.put, List.setIfInBounds_toArray, List.set_cons_zero, List.set_cons_succ])
                      | (refine wpT_take 17 rfl rfl (by decide +kernel) ⟨fun _ => ⟨(Blk.fr BDY.out FQ4.out (fun h => h)).all, (Blk.fr BDY.out FQ4.out (fun h => h)).cell 2, cell_fr HQ.out FQ4.out (fun h => h)⟩, hid trivial⟩ ?_; apply Exists.intro; refine ⟨?_, ?_⟩; intro w hw; (have qa := hw.1 (Nat.le_refl _); have qb := hw.2); ((go_simp <;> rfl)); simp only [Act.put, List.setIfInBounds_toArray, List.set_cons_zero, List.set_cons_succ])
                      | (refine wpT_skip rfl rfl ?_; simp only [Act.put, List.setIfInBounds_toArray, List.set_cons_zero, List.set_cons_succ])
                    refine wpT_nil ?_
                    go_wp2_with (fail)
                    go_roundw
                    case rel => exact ⟨i + 1, by omega, rfl, FQ4.out⟩
                    case measure => simp [intOf]; omega
                  · obtain rfl : i = cl.length := by omega
                    have j2 : ¬ ((cl.length : Nat) : Int) < (cl.length : Int) := by omega
                    have HK1 := hid (fun (W : World) (f : Fr (fun _ => False) W22 W) => Col_go id name (vi := .slice ai ni ci) nm (HCY.out.fr f (fun _ _ h => h)) (by omega))
                    have HK2 := hid (fun (W : World) (f : Fr (fun _ => False) W22 W) => rfCol_go id name (vi := .slice ai ni ci) nm (HCY.out.fr f (fun _ _ h => h)) (by omega))
                    generalize colOf cl nm = z at *
                    go_upto_region 27 with fail
                    have FQ2 := hid (FQ.out.trans ((Fr.refl (fun _ => False) wr).drew) (fun _ h _ => h))
                    refine wp_region_scr (.take 0 (.take 1 (.take 2 (.take 3 (.take 5 (.take 6 (.op 4 (.op 7 (.take 8 (.take 9 (.take 10 .done))))))))))) (fun kz w => (kz ≤ 11 → w.rangeAt d 0 [.int .i64 id, .string (bs name), .slice ap cl.length cp, .slice ai ni ci] ∧ True) ∧ Hid True) (by kernel_rfl) (by kernel_rfl) (by intro c a d v w h; cases d <;> exact h) ?_
                    repeat
                      first
                      | (refine wpT_pure rfl rfl rfl ?_; apply Exists.intro; refine ⟨?_, ?_⟩; intro w; (first | (first | exact run_load_mid _ _ rfl d _ rfl _ _ qa.1 Tryd.underlying25 rfl size_tab2 | (go_simp <;> rfl)) | (go_simp <;> rfl)); simp only [Act.put, List.setIfInBounds_toArray, List.set_cons_zero, List.set_cons_succ])
                      | (refine wpT_take 11 rfl rfl (by decide +kernel) ⟨fun _ => ⟨(Blk.fr BDY.out FQ2.out (fun h => h)).all, trivial⟩, hid trivial⟩ ?_; apply Exists.intro; refine ⟨?_, ?_⟩; intro w hw; (have qa := hw.1 (Nat.le_refl _); have qb := hw.2); (first | (first | exact run_load_mid _ _ rfl d _ rfl _ _ qa.1 Tryd.underlying25 rfl size_tab2 | (go_simp <;> rfl)) | (go_simp <;> rfl)); simp only [Act.put, List.setIfInBounds_toArray, List.set_cons_zero, List.set_cons_succ])
                      | (refine wpT_skip rfl rfl ?_; simp only [Act.put, List.setIfInBounds_toArray, List.set_cons_zero, List.set_cons_succ])
                    generalize wr.drew = WA at *
                    refine wpT_op rfl ?_
                    go_wp2_with ((go_at_call 15; refine (HK1.out _ FQ2.out).mono ?_; rintro e WB ⟨rfl, f⟩; have FQ3 := hid (FQ2.out.trans f (fun _ h _ => h)); clear f))
                    (refine ⟨?_, ?_⟩; focus (intro kz hk hk2 hh; first | (exfalso; simp at hk2; omega) | exact hh | exact (fun h => absurd h (by omega)) | obtain ⟨qa, qb⟩ := hh; first | exact ⟨qa, qb⟩ | (refine ⟨fun h => absurd h (by omega), ?_⟩; first | exact qb | (exact ⟨(Blk.fr BDY.out FQ3.out (fun h => h)).all, trivial⟩)) | (refine ⟨fun h => ?_, ?_⟩; (have qa := qa h); all_goals (first | exact qa | exact qb | (exact ⟨(Blk.fr BDY.out FQ3.out (fun h => h)).all, trivial⟩)))))
                    refine wpT_op rfl ?_
                    go_wp2_with ((go_at_call 16; refine (HK2.out _ FQ3.out).mono ?_; rintro e WC ⟨rfl, f⟩; have FQ4 := hid (FQ3.out.trans f (fun _ h _ => h)); clear f))
                    (refine ⟨?_, ?_⟩; focus (intro kz hk hk2 hh; first | (exfalso; simp at hk2; omega) | exact hh | exact (fun h => absurd h (by omega)) | obtain ⟨qa, qb⟩ := hh; first | exact ⟨qa, qb⟩ | (refine ⟨fun h => absurd h (by omega), ?_⟩; first | exact qb | (exact ⟨(Blk.fr BDY.out FQ4.out (fun h => h)).all, trivial⟩)) | (refine ⟨fun h => ?_, ?_⟩; (have qa := qa h); all_goals (first | exact qa | exact qb | (exact ⟨(Blk.fr BDY.out FQ4.out (fun h => h)).all, trivial⟩)))))
                    have hzz : (z == z) = true := beq_self_eq_true _
                    repeat
                      first
                      | (refine wpT_pure rfl rfl rfl ?_; apply Exists.intro; refine ⟨?_, ?_⟩; intro w; ((go_simp <;> rfl)); simp only [Act.put, List.setIfInBounds_toArray, List.set_cons_zero, List.set_cons_succ])
                      | (refine wpT_take 11 rfl rfl (by decide +kernel) ⟨fun _ => ⟨(Blk.fr BDY.out FQ4.out (fun h => h)).all, trivial⟩, hid trivial⟩ ?_; apply Exists.intro; refine ⟨?_, ?_⟩; intro w hw; (have qa := hw.1 (Nat.le_refl _); have qb := hw.2); ((go_simp <;> rfl)); simp only [Act.put, List.setIfInBounds_toArray, List.set_cons_zero, List.set_cons_succ])
                      | (refine wpT_skip rfl rfl ?_; simp only [Act.put, List.setIfInBounds_toArray, List.set_cons_zero, List.set_cons_succ])
                    refine wpT_nil ?_
                    have FY := hid (FDY.out.trans FQ4.out (fun _ h _ => h))
                    go_wp2_with (fail)
                    go_ret
                    exact ⟨rfl, FY.out⟩
end Go.Proofs.YtgkfdlpijefgkaaDoor
