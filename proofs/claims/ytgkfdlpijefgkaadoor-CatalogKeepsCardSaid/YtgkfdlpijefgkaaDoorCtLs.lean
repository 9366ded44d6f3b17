import Derived.Test.YtgkfdlpijefgkaaDoorCtX
import Derived.Test.YtgkfdlpijefgkaaDoorCtFr
/- Rows and tables as arguments; the law's copy of rows (list). -/
set_option linter.unusedVariables false
namespace Go.Proofs.YtgkfdlpijefgkaaDoor
open Go.RowKit Go.VB Go.VB.Oct Go.VB.Cat Go.VB.Rec
theorem Sl.firsts {R : Nat → Prop} {W : World} {a : Option Addr} {c kk : Nat} {α : Type} {f : α → List Value} (hf : ∀ x, (f x).length = kk) {L : List α} (h : Sl R W (.slice a L.length c) L.length (L.flatMap f)) {k : Nat} (hk : k ≤ L.length) :
    Sl R W (.slice a k c) k ((L.take k).flatMap f) := by
  obtain ⟨a', c', e, hc, hx⟩ := h
  cases e
  refine ⟨a, c, rfl, by omega, fun hne => ?_⟩
  have hd : L.flatMap f = (L.take k).flatMap f ++ (L.drop k).flatMap f := by rw [← List.flatMap_append, List.take_append_drop]
  obtain ⟨g, o, h1, h2, h3⟩ := hx (by rw [hd]; intro h; exact hne (List.append_eq_nil_iff.1 h).1)
  refine ⟨g, o, h1, h2, fun j u hu => h3 j u ?_⟩
  rw [hd, List.getElem?_append_left (List.getElem?_eq_some_iff.1 hu).1]
  exact hu
theorem row_ne {e e' : TypeId} {s s' B B' n n' : Nat} {W : World} {v v' : Value} {xs xs' : List Value} (h : Row e s B W v n xs) (h' : Row e' s' B' W v' n' xs') (hne : e ≠ e') : ∀ k, v.ownBlock = some k → ¬ v'.ownBlock = some k := by
  intro k hk hk'
  rcases h.own.2 with ⟨rfl, -⟩ | ⟨g, cap, cur, rfl, hb, hgg, -⟩
  · simp [Value.ownBlock] at hk
  rcases h'.own.2 with ⟨rfl, -⟩ | ⟨g', cap', cur', rfl, hb', hgg', -⟩
  · simp [Value.ownBlock] at hk'
  simp [Value.ownBlock] at hk hk'
  subst hk hk'
  rw [hgg] at hgg'
  injection hgg' with h1
  injection h1 with h2 h3
  exact hne h3
theorem own_at {g k n c : Nat} (h : (Value.slice (some ⟨g, 0, none⟩) n c).ownBlock = some k) : k = g := by
  simp [Value.ownBlock] at h
  exact h.symm
theorem vcell_one (l : List V) : ∀ u ∈ l.flatMap V.cells, u.oneCell' = true := by
  intro u hu
  obtain ⟨x, _, h⟩ := List.mem_flatMap.1 hu
  simp only [V.cells, List.mem_cons, List.not_mem_nil, or_false] at h
  rcases h with rfl | rfl | rfl <;> rfl
theorem info_row : (Tryd.prog.info? 29).map (fun i => (i.zero, i.size, i.bytes)) = some (some (.slice none 0 0), 1, 24) := by kernel_rfl
/-- rows as they came -/
structure RowsA (R : Nat → Prop) (W : World) (v : Value) (L : List RowV) : Prop where
  s : Sl R W v L.length (L.flatMap RowV.cells)
  x : ∀ x ∈ L, Sl R W x.v x.r.length (x.r.flatMap V.cells) ∧ x.r.length ≤ maxLen
  n : L.length ≤ maxLen
theorem RowsA.fre {R : Nat → Prop} {W W' : World} {v : Value} {L : List RowV} (h : RowsA R W v L) (f : Fr (fun _ => False) W W') : RowsA R W' v L := ⟨h.s.fr f (fun _ _ h => h), fun x hx => ⟨(h.x x hx).1.fr f (fun _ _ h => h), (h.x x hx).2⟩, h.n⟩
/-- rows that the call made -/
structure RowsM (B : Nat) (W : World) (v : Value) (L : List RowV) : Prop where
  s : Row 29 1 B W v L.length (L.flatMap RowV.cells)
  x : ∀ x ∈ L, Row 77 3 B W x.v x.r.length (x.r.flatMap V.cells) ∧ x.r.length ≤ 8
theorem RowsM.fre {B : Nat} {W W' : World} {v : Value} {L : List RowV} (h : RowsM B W v L) (f : Fr (fun _ => False) W W') : RowsM B W' v L := ⟨h.s.fre f, fun x hx => ⟨(h.x x hx).1.fre f, (h.x x hx).2⟩⟩
theorem RowsM.rows {B : Nat} {W : World} {v : Value} {L : List RowV} (h : RowsM B W v L) : RowsS (fun _ => True) W v L := ⟨h.s.sl' (fun _ _ => trivial), fun x hx => ⟨(h.x x hx).1.sl' (fun _ _ => trivial), by have := (h.x x hx).2; omega⟩⟩
theorem RowsM.nil (B : Nat) (W : World) : RowsM B W (.slice none 0 0) [] := ⟨Row.nil, fun _ h => by cases h⟩
theorem RowsM.snoc {B : Nat} {wg wh : World} {v v' : Value} {L : List RowV} {y : RowV} (h : RowsM B wg v L) (hx : Row 77 3 B wg y.v y.r.length (y.r.flatMap V.cells)) (hy : y.r.length ≤ 8) (a : App 29 1 B wg wh v v' L.length (L.flatMap RowV.cells) [y.v]) : RowsM B wh v' (L ++ [y]) := by
  refine ⟨a.row.cast (by simp) (by simp [RowV.cells]), fun x hxm => ?_⟩
  rcases List.mem_append.1 hxm with g | g
  · exact ⟨(h.x x g).1.fr a.fr (fun k hk e => row_ne (h.x x g).1 h.s (by decide) k hk e), (h.x x g).2⟩
  · rw [List.mem_singleton.1 g]
    exact ⟨hx.fr a.fr (fun k hk e => row_ne hx h.s (by decide) k hk e), hy⟩
def rowsOf (n m : Nat) (L : List RowV) : List (List V) := (L.take n).map fun x => x.r.take m
set_option maxRecDepth 20000 in
set_option maxHeartbeats 4000000 in
theorem list_go {R : Nat → Prop} {w : World} {v : Value} {L : List RowV} (h : RowsA R w v L) :
    Calls Tryd.prog 24 #[v] w fun e w' => ∃ v' L', e = .returned v' ∧ L'.map RowV.r = rowsOf 10 6 L ∧ RowsM w.heap.size w' v' L' ∧ Fr (fun _ => False) w w' := by
  obtain ⟨a, c, hv, hc, hx⟩ := h.s
  subst hv
  clear hc hx
  have HA := hid h
  have HN := hid h.n
  clear h
  go_enter Tryd.func24, Tryd.ntmps24
  have F0 := hid ((Fr.refl (fun _ => False) w).alloc (.cells #[] 29))
  have HR0 := hid (Row.built (e := 29) (n := 0) (size := 1) (B := w.heap.size) w (l := []) rfl (by decide) (Nat.le_refl _))
  go_wp2_with (fail)
  go_loopw [3, 4] (fun s3 s4 wr => ∃ (j : Nat) (L' : List RowV) (ab : Option Addr) (ac : Nat), j ≤ L.length ∧ j ≤ 10 ∧ s4 = .int .i64 j ∧ s3 = .slice ab j ac ∧ L'.length = j ∧ L'.map RowV.r = (L.take j).map (fun x => x.r.take 6) ∧ RowsM w.heap.size wr (.slice ab j ac) L' ∧ Fr (fun _ => False) w wr) (fun _ s4 _ => L.length - (intOf s4).toNat)
  case atStart => exact ⟨0, [], _, _, by omega, by omega, rfl, rfl, rfl, rfl, ⟨HR0.out, fun _ h => by cases h⟩, F0.out⟩
  case round =>
    obtain ⟨j, L', ab, ac, hjl, hj10, rfl, rfl, hl', hm', hrm, hf⟩ := hrel
    have HM := hid hrm
    have HL := hid (And.intro hl' hm')
    have FW := hid hf
    clear hrm hl' hm' hf HR0 F0
    have i1 : (0 : Int) ≤ (j : Int) := by omega
    by_cases hc : j < L.length ∧ j < 10
    · obtain ⟨hjL, hj10'⟩ := hc
      have i2 : (j : Int) < (L.length : Int) := by omega
      have i3 : (j : Int) < 10 := by omega
      have i5 : IntKind.i64.wrap ((j : Int) + 1) = (j : Int) + 1 := IntWalk.i64_in _ (by omega)
      have HA2 := hid (HA.out.fre FW.out)
      obtain ⟨g, o, rfl, -, hcell⟩ := sl_cell1 (f := RowV.cells) rowv_len HA.out.s (by intro e; rw [e] at hjL; simp at hjL)
      have hq := hcell j hjL
      obtain ⟨x, hx⟩ : ∃ x, x = L[j] := ⟨_, rfl⟩
      rw [← hx] at hq
      have HX := hid (HA2.out.x x (by rw [hx]; exact List.getElem_mem hjL))
      have HTK := hid (show (L.take (j + 1)).map (fun x => x.r.take 6) = (L.take j).map (fun x => x.r.take 6) ++ [x.r.take 6] from by rw [List.take_succ_eq_append_getElem hjL, List.map_append, ← hx]; rfl)
      clear hx hcell
      obtain ⟨vx, rx⟩ := x
      obtain ⟨ax, cx, hvx, hcx, -⟩ := HX.out.1
      dsimp only at hvx
      subst hvx
      have HQW := hid (show w.cell? ⟨g, o + j, none⟩ = some (.slice ax rx.length cx) from hq)
      have HQ := hid (cell_fr HQW.out FW.out (fun h => h))
      clear hq
      obtain ⟨m, hmin, hm6, hml, htk⟩ : ∃ m : Nat, (min (rx.length : Int) 6 = (m : Int) ∧ (if (6 : Int) < (rx.length : Int) then (6 : Int) else (rx.length : Int)) = (m : Int)) ∧ m ≤ 6 ∧ m ≤ rx.length ∧ rx.take 6 = rx.take m := by
        refine ⟨min 6 rx.length, ⟨by omega, by split <;> omega⟩, by omega, by omega, ?_⟩
        rcases Nat.le_total 6 rx.length with h | h
        · rw [Nat.min_eq_left h]
        · rw [Nat.min_eq_right h, List.take_of_length_le h, List.take_of_length_le (Nat.le_refl _)]
      obtain ⟨hmin1, hmin2⟩ := hmin
      have i6 : (0 : Int) ≤ (m : Int) := by omega
      have i7 : (m : Int) ≤ (cx : Int) := by dsimp only at hcx; omega
      have HS := hid (Sl.firsts (kk := 3) (fun _ => rfl) HX.out.1 hml)
      have HTM := hid (And.intro htk (And.intro hm6 hml))
      clear HA2 HX htk
      go_upto_region 5 with fail
      have fd := (Fr.refl (fun _ => False) wr).drew
      have HQ0 := hid (show w.cell? ⟨g, o + j, none⟩ = some (.slice ax rx.length cx) from HQW.out)
      have HM1 := hid (HM.out.fre fd)
      have F1 := hid (FW.out.trans fd (fun _ h _ => h))
      have HS1 := hid (HS.out.fr fd (fun _ _ h => h))
      have HQ1 := hid (cell_fr HQ.out fd (fun h => h))
      clear fd HM FW HS HQ HQW
      refine wp_region_scr (.take 0 (.take 2 (.take 3 (.take 4 (.take 5 (.take 6 (.take 7 (.take 8 (.take 9 (.take 10 (.take 11 (.take 12 (.op 1 (.op 13 (.op 14 (.op 15 (.take 16 .done))))))))))))))))) (fun kz w => (kz ≤ 17 → w.cell? ⟨g, o + j, none⟩ = some (.slice ax rx.length cx)) ∧ Hid True) (by kernel_rfl) (by kernel_rfl) (by intro c a d v w h; cases d <;> exact h) ?_
      repeat
        first
        | (refine wpT_pure rfl rfl rfl ?_; apply Exists.intro; refine ⟨?_, ?_⟩; intro w; ((go_simp <;> rfl)); simp only [Act.put, List.setIfInBounds_toArray, List.set_cons_zero, List.set_cons_succ])
        | (refine wpT_take 17 rfl rfl (by decide +kernel) ⟨fun _ => HQ1.out, hid trivial⟩ ?_; apply Exists.intro; refine ⟨?_, ?_⟩; intro w hw; (have qa := hw.1 (Nat.le_refl _); have qb := hw.2); ((go_simp <;> rfl)); simp only [Act.put, List.setIfInBounds_toArray, List.set_cons_zero, List.set_cons_succ])
        | (refine wpT_skip rfl rfl ?_; simp only [Act.put, List.setIfInBounds_toArray, List.set_cons_zero, List.set_cons_succ])
      generalize wr.drew = WA at *
      have HR1 := hid (Row.built (e := 77) (n := 0) (size := 3) (B := w.heap.size) WA (l := []) rfl (by decide) F1.out.size)
      have fa := (Fr.refl (fun _ => False) WA).alloc (.cells #[] 77)
      have HM2 := hid (HM1.out.fre fa)
      have F2 := hid (F1.out.trans fa (fun _ h _ => h))
      have HSR := hid (Sl.srcK (P := Tryd.prog) (size := 3) (HS1.out.fr fa (fun _ _ h => h)) (by rw [flat_len (k := 3) (fun _ => rfl), List.length_take, Nat.min_eq_left HTM.out.2.2]) (by decide) (vcell_one _))
      have HQ2 := hid (cell_fr HQ1.out fa (fun h => h))
      clear fa
      refine wpT_op rfl ?_
      go_wp2_with (fail)
      (refine ⟨?_, ?_⟩; focus (intro kz hk hk2 hh; first | (exfalso; simp at hk2; omega) | exact hh | exact (fun h => absurd h (by omega)) | obtain ⟨qa, qb⟩ := hh; first | exact ⟨qa, qb⟩ | (refine ⟨fun h => absurd h (by omega), ?_⟩; first | exact qb | (exact HQ2.out)) | (refine ⟨fun h => ?_, ?_⟩; (have qa := qa h); all_goals (first | exact qa | exact qb | (exact HQ2.out)))))
      have HLT := hid (fun x hx k (hk : (x : RowV).v.ownBlock = some k) => (HM1.out.x x hx).1.lt hk)
      clear HM1 F1 HS1 HQ1
      refine wpT_op rfl ?_
      go_wp2_with ((at_builtin; refine wpList_appS rfl (s := .tmp 17) (x := .tmp 28) (t := 29) (tx := 29) rfl Tryd.underlying29 Tryd.underlying29 (.inr ⟨_, rfl⟩) info_val rfl rfl rfl HR1.out F2.out.size HSR.out (by omega) (by omega) ?_; intro ab2 ac2 wg APP; simp only [Nat.zero_add] at APP ⊢; have F3 := hid (F2.out.trans APP.fr (fun k hk hl => by have := HR1.out.new k hk; omega)); have HM3 := hid (show RowsM w.heap.size wg (.slice ab j ac) L' from ⟨HM2.out.s.fr APP.fr (fun k hk h => row_ne HM2.out.s HR1.out (by decide) k hk h), fun x hx => ⟨(HM2.out.x x hx).1.fr APP.fr (fun k hk h => by have h1 := HLT.out x hx k hk; have h2 := own_at h; omega), (HM2.out.x x hx).2⟩⟩); have HX3 := hid (APP.row.cast (m := (rx.take m).length) (ys := (rx.take m).flatMap V.cells) (by rw [List.length_take, Nat.min_eq_left hml, Nat.zero_add]) rfl); have HQ3 := hid (cell_fr HQ0.out F3.out (fun h => h)); clear APP))
      (refine ⟨?_, ?_⟩; focus (intro kz hk hk2 hh; first | (exfalso; simp at hk2; omega) | exact hh | exact (fun h => absurd h (by omega)) | obtain ⟨qa, qb⟩ := hh; first | exact ⟨qa, qb⟩ | (refine ⟨fun h => absurd h (by omega), ?_⟩; first | exact qb | (exact HQ3.out)) | (refine ⟨fun h => ?_, ?_⟩; (have qa := qa h); all_goals (first | exact qa | exact qb | (exact HQ3.out)))))
      clear HR1 HM2 F2 HSR HQ2 HLT
      have HSZ := hid F3.out.size
      refine wpT_op rfl ?_
      go_wp2_with (fail)
      (refine ⟨?_, ?_⟩; focus (intro kz hk hk2 hh; first | (exfalso; simp at hk2; omega) | exact hh | exact (fun h => absurd h (by omega)) | obtain ⟨qa, qb⟩ := hh; first | exact ⟨qa, qb⟩ | (refine ⟨fun h => absurd h (by omega), ?_⟩; first | exact qb | (exact cell_fr HQ3.out ((Fr.refl (fun _ => False) wg).alloc _) (fun h => h))) | (refine ⟨fun h => ?_, ?_⟩; (have qa := qa h); all_goals (first | exact qa | exact qb | (exact cell_fr HQ3.out ((Fr.refl (fun _ => False) wg).alloc _) (fun h => h))))))
      refine wpT_op rfl ?_
      go_wp2_with ((at_builtin; refine wpList_app1 rfl (s := .tmp 16) (x := .tmp 30) (t := 26) rfl Tryd.underlying26 info_row rfl rfl rfl HM3.out.s HSZ.out rfl (by simp [Value.oneCell']) (by have := HL.out.1; omega) (by have := HL.out.1; omega) ?_; intro ab4 ac4 wh APP; have F4 := hid (F3.out.trans APP.fr (fun k hk hl => by have := HM3.out.s.new k hk; omega)); have HM4 := hid (HM3.out.snoc (y := ⟨.slice ab2 m ac2, rx.take m⟩) HX3.out (by have := HTM.out.2.1; rw [List.length_take]; omega) APP); clear APP))
      (refine ⟨?_, ?_⟩; focus (intro kz hk hk2 hh; first | (exfalso; simp at hk2; omega) | exact hh | exact (fun h => absurd h (by omega)) | obtain ⟨qa, qb⟩ := hh; first | exact ⟨qa, qb⟩ | (refine ⟨fun h => absurd h (by omega), ?_⟩; first | exact qb | (exact cell_fr HQ0.out F4.out (fun h => h))) | (refine ⟨fun h => ?_, ?_⟩; (have qa := qa h); all_goals (first | exact qa | exact qb | (exact cell_fr HQ0.out F4.out (fun h => h))))))
      clear HM3 F3 HX3 HQ3
      repeat
        first
        | (refine wpT_pure rfl rfl rfl ?_; apply Exists.intro; refine ⟨?_, ?_⟩; intro w; ((go_simp <;> rfl)); simp only [Act.put, List.setIfInBounds_toArray, List.set_cons_zero, List.set_cons_succ])
        | (refine wpT_take 17 rfl rfl (by decide +kernel) ⟨fun _ => cell_fr HQ0.out F4.out (fun h => h), hid trivial⟩ ?_; apply Exists.intro; refine ⟨?_, ?_⟩; intro w hw; (have qa := hw.1 (Nat.le_refl _); have qb := hw.2); ((go_simp <;> rfl)); simp only [Act.put, List.setIfInBounds_toArray, List.set_cons_zero, List.set_cons_succ])
        | (refine wpT_skip rfl rfl ?_; simp only [Act.put, List.setIfInBounds_toArray, List.set_cons_zero, List.set_cons_succ])
      refine wpT_nil ?_
      go_wp2_with (fail)
      go_roundw
      case rel =>
        have h1 := HL.out.1
        refine ⟨j + 1, L' ++ [⟨.slice ab2 m ac2, rx.take m⟩], ab4, ac4, by omega, by omega, rfl, by rw [h1], by rw [List.length_append, h1]; rfl, ?_, by rw [← h1]; exact HM4.out, F4.out⟩
        rw [HTK.out, List.map_append, HL.out.2, HTM.out.1]
        rfl
      case measure => simp [intOf]; omega
    · have hend : j = L.length ∨ (j < L.length ∧ j = 10) := by omega
      have HE := hid (show (L.take j).map (fun x => x.r.take 6) = rowsOf 10 6 L from by
        unfold rowsOf
        rcases hend with h | ⟨h1, h2⟩
        · rw [List.take_of_length_le (by omega), List.take_of_length_le (by omega)]
        · rw [h2])
      clear hc
      rcases hend with h | ⟨h1, h2⟩
      · subst h
        have i2 : ¬ ((L.length : Nat) : Int) < (L.length : Int) := by omega
        go_wp2_with (fail)
        go_ret
        exact ⟨_, rfl, L', HL.out.2.trans HE.out, HM.out, FW.out⟩
      · subst h2
        have i2 : ((10 : Nat) : Int) < (L.length : Int) := by omega
        have i3 : ¬ ((10 : Nat) : Int) < 10 := by omega
        go_wp2_with (fail)
        go_ret
        exact ⟨_, rfl, L', HL.out.2.trans HE.out, HM.out, FW.out⟩
end Go.Proofs.YtgkfdlpijefgkaaDoor
