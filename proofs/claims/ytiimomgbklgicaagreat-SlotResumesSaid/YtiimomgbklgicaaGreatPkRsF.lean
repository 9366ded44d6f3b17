import Derived.Maps.OwnSet
import Derived.Test.YtiimomgbklgicaaGreatPkRsD
import Derived.Test.YtiimomgbklgicaaGreatPkRsE
set_option linter.unusedVariables false
namespace Go.VB.Cat
open Go.VB Go.VB.Oct
theorem indexE_arg {m : List Tab} {s : St} {root : Int} (h : named s.name = false ∨ s.names.length < 1 ∨ 6 < s.names.length ∨ root < 0 ∨ 400 ≤ root) : indexE m s root = 1 := by unfold indexE; rw [if_pos h]
theorem indexE_none {m : List Tab} {s : St} {root : Int} (h : ¬ (named s.name = false ∨ s.names.length < 1 ∨ 6 < s.names.length ∨ root < 0 ∨ 400 ≤ root)) (hf : find m s.table < 0) : indexE m s root = 50 := by
  unfold indexE
  rw [if_neg h]
  cases m[(find m s.table).toNat]? with
  | none => rfl
  | some t => dsimp only; rw [if_pos hf]
theorem indexE_at {m : List Tab} {s : St} {root : Int} (h : ¬ (named s.name = false ∨ s.names.length < 1 ∨ 6 < s.names.length ∨ root < 0 ∨ 400 ≤ root)) {i : Nat} (hi : i < m.length) (hf : find m s.table = (i : Int)) :
    indexE m s root = if s.names.any (fun n => colOf m[i].cols n == -1) = true then 50 else if dup s.names = true ∨ m.any (fun t => t.ixs.any (fun x => x.name == s.name)) = true then 51 else if 4 ≤ m[i].ixs.length then 2 else 0 := by
  unfold indexE
  rw [if_neg h]
  have e : (find m s.table).toNat = i := by omega
  rw [e, List.getElem?_eq_getElem hi]
  dsimp only
  rw [if_neg (by omega)]
theorem index_err {m : List Tab} {s : St} {root e : Int} (h : indexE m s root = e) (he : e ≠ 0) : index m s root = (m, e) := by
  unfold index
  rw [h, if_neg he]
theorem cols_has (cols : List Col) (l : List Bs) : (l.map (colOf cols)).contains (-1) = l.any (fun n => colOf cols n == -1) := by
  induction l with
  | nil => rfl
  | cons a l ih =>
    rw [List.map_cons, List.contains_cons, List.any_cons, ih]
    congr 1
    rw [Bool.eq_iff_iff, beq_iff_eq, beq_iff_eq]
    exact eq_comm
end Go.VB.Cat
namespace Go.Proofs.YtiimomgbklgicaaGreat
open Go.RowKit Go.VB Go.VB.Oct Go.VB.Cat Go.VB.Rec
theorem IContains_go {B : Nat} {w : World} {v : Value} {l : List Int} (k : Int) (h : Row 3 1 B w v l.length (l.flatMap icell)) (hl : l.length ≤ 1048576) :
    Calls Tryz.prog 187 #[v, .int .i64 k] w fun e w' => e = .returned (.bool (l.contains k)) ∧ w' = w := by
  obtain ⟨a, c, rfl, _⟩ := h.slice
  by_cases h0 : l = []
  · subst h0
    exact Tryz.slices_Contains_int_empty a c k w
  · obtain ⟨g, rfl, _, hc⟩ := row_cells h (by intro e; have := congrArg List.length e; rw [flat_len (k := 1) (fun _ => rfl)] at this; simp at this; exact h0 this)
    have := Tryz.slices_Contains_int g 0 l.length c l k w (Nat.le_refl _) (by omega) fun j hj => by
      rw [Nat.zero_add]
      refine hc j _ ?_
      have h1 := flatK (k := 1) icell (fun _ => rfl) l j hj 0 (by omega)
      rw [Nat.mul_one, Nat.add_zero] at h1
      rw [h1, List.getD_eq_getElem?_getD, List.getElem?_eq_getElem hj]
      rfl
    rwa [List.take_length] at this
theorem info_ix : (Tryz.prog.info? 177).map (fun i => (i.zero, i.size, i.bytes)) = some (some (.agg #[.string .empty, .slice none 0 0, .int .i64 0]), 3, 48) := by kernel_rfl
theorem size_ix : (Tryz.prog.info? 177).map (·.size) = some 3 := by kernel_rfl
theorem any_ixs (name : Bs) : ∀ {ts : List TabV}, (∀ t ∈ ts, t.t.ixs = t.ix.map IxV.x) → (ts.map TabV.t).any (fun t => t.ixs.any fun x => x.name == name) = ts.any (fun t => t.ix.any fun y => y.x.name == name)
  | [], _ => rfl
  | t :: ts, h => by
    rw [List.map_cons, List.any_cons, List.any_cons, any_ixs name (fun u hu => h u (List.mem_cons_of_mem _ hu)), h t List.mem_cons_self, List.any_map]
    rfl
theorem Sl.live {R : Nat → Prop} {w : World} {v : Value} {n : Nat} {xs : List Value} (h : Sl R w v n xs) : Sl (fun k => k < w.heap.size) w v n xs := by
  obtain ⟨a, cap, rfl, hc, h⟩ := h
  refine ⟨a, cap, rfl, hc, fun hq => ?_⟩
  obtain ⟨g, o, h1, _, h3⟩ := h hq
  refine ⟨g, o, h1, ?_, h3⟩
  cases xs with
  | nil => exact absurd rfl hq
  | cons x xs => exact lt_of_cell (h3 0 x rfl)
set_option maxRecDepth 20000 in
set_option maxHeartbeats 4000000 in
theorem index_go {S P : Nat → Prop} {w : World} {c : Nat} {v : Value} {ts : List TabV} (h : CRv 225 S w c v ts) (hl : ts.length ≤ 8) (hcl : ∀ t ∈ ts, t.t.cols.length ≤ 6) (hil : ∀ t ∈ ts, t.ix.length ≤ 4) {t : StV} (hs : StR P w t) (root : Int) :
    Calls Tryz.prog 168 #[.pointer (some ⟨c, 0, none⟩), .agg t.cells.toArray, .int .i64 root] w fun e w' => e = .returned (.int .i64 (index (ts.map TabV.t) t.s root).2) ∧ CR 225 (Ext S w w') w' c (index (ts.map TabV.t) t.s root).1 ∧ Fr S w w' := by
  obtain ⟨⟨kind, table, name, cols, names, join⟩, oc, cc, on, cn, a5, n5, c5, a6, n6, c6, a7, n7, c7, y9, y10, i11, a12, n12, c12, i13, i14⟩ := t
  have HC := hid h
  have HCL := hid hcl
  have HIL := hid hil
  have HSN := hid hs.n
  have hln := hs.ln
  have HSS := hid hs.sn
  dsimp only at HSN hln HSS
  obtain ⟨s, hs'⟩ : ∃ s : St, s = ⟨kind, table, name, cols, names, join⟩ := ⟨_, rfl⟩
  have hst : s.table = table := by rw [hs']
  have hsn : s.name = name := by rw [hs']
  have hsm : s.names = names := by rw [hs']
  unfold StV.cells
  dsimp only
  rw [← hs']
  have HE1 := hid (fun h => indexE_arg (m := ts.map TabV.t) (s := s) (root := root) h)
  have HE2 := hid (fun h1 h2 => indexE_none (m := ts.map TabV.t) (s := s) (root := root) h1 h2)
  have HE3 := hid (fun h1 i hi hf => indexE_at (m := ts.map TabV.t) (s := s) (root := root) h1 (i := i) hi hf)
  have HER := hid (fun e h he => index_err (m := ts.map TabV.t) (s := s) (root := root) (e := e) h he)
  rw [hst] at HE2 HE3
  rw [hsn, hsm] at HE1 HE2 HE3
  have HSE := hid (And.intro hst (And.intro hsn hsm))
  clear h hcl hil hs hs' hst hsn hsm
  have F1 := hid ((Fr.refl (fun _ => False) w).alloc (.cells #[.int .i64 kind, .string (bs table), .string (bs name), .slice oc cols.length cc, .slice on names.length cn, .slice a5 n5 c5, .slice a6 n6 c6, .slice a7 n7 c7, .string (bs join), .string y9, .string y10, .int .i64 i11, .slice a12 n12 c12, .int .i64 i13, .int .i64 i14] 90))
  have B1 := hid (Blk.new w [.int .i64 kind, .string (bs table), .string (bs name), .slice oc cols.length cc, .slice on names.length cn, .slice a5 n5 c5, .slice a6 n6 c6, .slice a7 n7 c7, .string (bs join), .string y9, .string y10, .int .i64 i11, .slice a12 n12 c12, .int .i64 i13, .int .i64 i14] 90)
  go_enter Tryz.func168, Tryz.ntmps168
  go_upto_region 1 with fail
  generalize hd : w.heap.size = d at *
  have HD := hid hd
  clear hd
  generalize w.alloc _ = W1 at *
  obtain ⟨q1, q2, q4⟩ : W1.cell? ⟨d, 1, none⟩ = some (.string (bs table)) ∧ W1.cell? ⟨d, 2, none⟩ = some (.string (bs name)) ∧ W1.cell? ⟨d, 4, none⟩ = some (.slice on names.length cn) := ⟨B1.out.cell 1, B1.out.cell 2, B1.out.cell 4⟩
  have HNM := hid (named_go name)
  by_cases hbad : named name = false ∨ names.length < 1 ∨ 6 < names.length ∨ root < 0 ∨ 400 ≤ root
  · have HX := hid (HER.out 1 (HE1.out hbad) (by decide))
    clear HE1 HE2 HE3 HER
    cases hnn : named name with
    | false =>
      rw [hnn] at HNM
      clear hbad hnn
      go_wp2_with (go_at_call 178; refine (HNM.out _).mono ?_; rintro e w3 ⟨rfl, rfl⟩)
      go_ret
      exact err_fin HC.out HX.out F1.out
    | true =>
      rw [hnn] at HNM hbad
      have hb2 : (names.length : Int) < 1 ∨ (¬ (names.length : Int) < 1 ∧ (6 : Int) < names.length) ∨ (¬ (names.length : Int) < 1 ∧ ¬ (6 : Int) < names.length ∧ root < 0) ∨ (¬ (names.length : Int) < 1 ∧ ¬ (6 : Int) < names.length ∧ ¬ root < 0 ∧ 400 ≤ root) := by
        rcases hbad with q | q | q | q | q
        · cases q
        all_goals omega
      clear hbad hnn
      rcases hb2 with j1 | ⟨j1, j2⟩ | ⟨j1, j2, j3⟩ | ⟨j1, j2, j3, j4⟩
      all_goals
        go_wp2_with (go_at_call 178; refine (HNM.out _).mono ?_; rintro e w3 ⟨rfl, rfl⟩)
        go_ret
        exact err_fin HC.out HX.out F1.out
  · have hnn : named name = true := by
      cases hq : named name
      · exact absurd (.inl hq) hbad
      · rfl
    rw [hnn] at HNM
    have HE2' := hid (HE2.out hbad)
    have HE3' := hid (HE3.out hbad)
    have j1 : ¬ (names.length : Int) < 1 := by omega
    have j2 : ¬ (6 : Int) < names.length := by omega
    have j3 : ¬ root < 0 := by omega
    have j4 : root < 400 := by omega
    clear HE1 HE2 HE3 hbad hnn
    have HFI := hid (find_go (HC.out.fre F1.out) (by omega) table)
    obtain ⟨z, hz⟩ : ∃ z, find (ts.map TabV.t) table = z := ⟨_, rfl⟩
    have hzc := find_cases (ts.map TabV.t) table
    rw [hz] at HFI HE2' HE3' hzc
    have HZ := hid hz
    clear hz
    rcases hzc with hz0 | ⟨i, hi, rfl⟩
    · have HX := hid (HER.out 50 (HE2'.out hz0) (by decide))
      clear HE2' HE3' HER
      go_wp2_with (first
        | (go_at_call 178; refine (HNM.out _).mono ?_; rintro e w3 ⟨rfl, rfl⟩)
        | (go_at_call 184; refine HFI.out.mono ?_; rintro e w4 ⟨rfl, f⟩; have F2 := hid (F1.out.trans f (fun _ h _ => h)); clear f))
      go_ret
      exact err_fin HC.out HX.out F2.out
    · have HE4 := hid (HE3'.out i hi rfl)
      have hit : i < ts.length := by simpa using hi
      clear HE2' HE3'
      go_upto_region 6 with (first
        | (go_at_call 178; refine (HNM.out _).mono ?_; rintro e w3 ⟨rfl, rfl⟩)
        | (go_at_call 184; refine HFI.out.mono ?_; rintro e w4 ⟨rfl, f⟩; have F2 := hid (F1.out.trans f (fun _ h _ => h)); have B2 := hid (Blk.fr B1.out f (fun h => h)); clear f))
      clear HNM HFI q1 q2 q4 B1 F1
      have HC4 := hid (HC.out.fre F2.out)
      obtain ⟨av, cv, rfl, hcap⟩ := HC.out.r.slice
      obtain ⟨g, rfl, -, hr⟩ := tab_at HC4.out.r hit
      have HXT := hid (HC.out.t _ (List.getElem_mem hit))
      have hxl := HCL.out _ (List.getElem_mem hit)
      have hxi := HIL.out _ (List.getElem_mem hit)
      rw [List.getElem_map] at HE4
      obtain ⟨x, hx⟩ : ∃ x, x = ts[i] := ⟨_, rfl⟩
      have HXI := hid hx
      rw [← hx] at hr HXT hxl hxi HE4
      have k0 : w4.cell? ⟨c, 0, none⟩ = some (.slice (some ⟨g, 0, none⟩) ts.length cv) := HC4.out.b.cell 0
      have q2 : w4.cell? ⟨d, 2, none⟩ = some (.string (bs name)) := B2.out.cell 2
      have i1 : (0 : Int) ≤ (i : Int) := by omega
      have i2 : (i : Int) < (ts.length : Int) := by omega
      clear hx
      go_upto_region 8 with fail
      have fa := (Fr.refl (fun _ => False) w4).alloc (.cells #[.string (bs name), .slice none 0 0, .int .i64 root] 177)
      have E5 := hid (Blk.new w4 [.string (bs name), .slice none 0 0, .int .i64 root] 177)
      have F3 := hid (F2.out.trans fa (fun _ h _ => h))
      have B3 := hid (Blk.fr B2.out fa (fun h => h))
      have HR3 := hid (fun j u hu => cell_fr (hr j u hu) fa (fun h => h) : (w4.alloc (.cells #[.string (bs name), .slice none 0 0, .int .i64 root] 177)).rangeAt g (i * 4) [.int .i64 x.t.id, .string (bs x.t.name), x.vc, x.vi])
      have HCO := hid (fun (W : World) (f : Fr (fun _ => False) w W) (n : Bs) => Col_go x.t.id x.t.name (vi := x.vi) n ((HXT.out.fr f (fun _ _ h => h)).c.sl' (R := fun _ => True) (fun _ _ => trivial)) (by omega))
      have HEW := hid (show w.heap.size ≤ w4.heap.size from F2.out.size)
      have HDX := hid (show d < w4.heap.size from B2.out.lt)
      clear hr k0 q2 fa B2 F2 HC4
      generalize w4.heap.size = ex at *
      generalize w4.alloc _ = W5 at *
      have HW5 := hid (show w.heap.size ≤ W5.heap.size from F3.out.size)
      have q4 : W5.cell? ⟨d, 4, none⟩ = some (.slice on names.length cn) := B3.out.cell 4
      go_wp2_with (fail)
      go_loopw [57] (fun k wr => ∃ (j : Nat) (vx : Value), j ≤ names.length ∧ k = .int .i64 j ∧ Blk wr ex [.string (bs name), vx, .int .i64 root] 177 ∧ Row 3 1 W5.heap.size wr vx j (((names.take j).map (colOf x.t.cols)).flatMap icell) ∧ Fr (fun k => k = ex) W5 wr) (fun k _ => names.length - (intOf k).toNat)
      case atStart => exact ⟨0, _, by omega, rfl, E5.out, Row.nil, Fr.refl _ _⟩
      case round =>
        obtain ⟨j, vx, hj, rfl, hbe, hrow, fr⟩ := hrel
        have HBE := hid hbe
        have HROW := hid hrow
        have FR := hid fr
        obtain ⟨ax, cx, rfl, hcx⟩ := hrow.slice
        clear hbe hrow fr q4 E5
        by_cases hjn : j < names.length
        · have m1 : (0 : Int) ≤ (j : Int) := by omega
          have m2 : (j : Int) < (names.length : Int) := by omega
          obtain ⟨_, _, hes, _, hx2⟩ := HSN.out
          cases hes
          obtain ⟨gn, og, rfl, _, hrn⟩ := hx2 (by intro e; have := congrArg List.length e; simp [sv] at this; rw [this] at hjn; simp at hjn)
          have F6 := hid (F3.out.trans FR.out (fun k hk hl => by have := HEW.out; omega))
          have hge : ¬ g = ex := fun e => by
            have := HC.out.lt g (HC.out.rS g rfl)
            have := HEW.out
            omega
          have qn : wr.cell? ⟨gn, og + j, none⟩ = some (.string (bs names[j])) := cell_fr (hrn j _ (by simp [sv, hjn])) F6.out (fun h => h)
          have HT := hid (show (((names.take (j + 1)).map (colOf x.t.cols)).flatMap icell) = (((names.take j).map (colOf x.t.cols)).flatMap icell) ++ [.int .i64 (colOf x.t.cols names[j])] from by
            rw [List.take_succ_eq_append_getElem hjn, List.map_append, List.flatMap_append]
            rfl)
          have HCJ := hid (fun (W : World) (f : Fr (fun _ => False) w W) => HCO.out W f names[j])
          have HR6 := hid (fun j u hu => cell_fr (HR3.out j u hu) FR.out hge : wr.rangeAt g (i * 4) [.int .i64 x.t.id, .string (bs x.t.name), x.vc, x.vi])
          clear hx2 hrn
          generalize names[j] = nj at *
          obtain ⟨zj, hzj⟩ : ∃ z, colOf x.t.cols nj = z := ⟨_, rfl⟩
          rw [hzj] at HT HCJ
          clear hzj
          go_upto_region 11 with fail
          have fd := (Fr.refl (fun _ => False) wr).drew
          have F7 := hid (F6.out.trans fd (fun _ h _ => h))
          have HBE7 := hid (Blk.fr HBE.out fd (fun h => h))
          have HR7 := hid (fun j u hu => cell_fr (HR6.out j u hu) fd (fun h => h) : wr.drew.rangeAt g (i * 4) [.int .i64 x.t.id, .string (bs x.t.name), x.vc, x.vi])
          have HROW7 := hid (HROW.out.fre fd)
          have FR7 := hid (FR.out.trans fd (fun _ h _ => h.elim))
          have HC7 := hid (HCJ.out wr.drew F7.out)
          clear fd qn F6 HR6 HBE HROW FR HCJ
          refine wp_region_scr (.take 0 (.take 1 (.take 2 (.take 3 (.take 4 (.take 5 (.op 6 (.op 7 (.op 8 (.take 9 (.op 10 .done))))))))))) (fun kz w => (kz ≤ 10 → w.cell? ⟨ex, 1, none⟩ = some (.slice ax j cx) ∧ w.rangeAt g (i * 4) [.int .i64 x.t.id, .string (bs x.t.name), x.vc, x.vi]) ∧ True) (by kernel_rfl) (by kernel_rfl) (by intro c a d v w h; cases d <;> exact h) ?_
          repeat
            first
            | (refine wpT_pure rfl rfl rfl ?_; apply Exists.intro; refine ⟨?_, ?_⟩; intro w; (first | (first | exact run_load_mid _ _ rfl g _ rfl _ _ qa.2 Tryz.underlying175 rfl size_tab | (obtain ⟨qa1, qa2⟩ := qa; go_simp <;> rfl)) | (go_simp <;> rfl)); simp only [Act.put, List.setIfInBounds_toArray, List.set_cons_zero, List.set_cons_succ])
            | (refine wpT_take 10 rfl rfl (by decide +kernel) ⟨fun _ => ⟨HBE7.out.cell 1, HR7.out⟩, trivial⟩ ?_; apply Exists.intro; refine ⟨?_, ?_⟩; intro w hw; (have qa := hw.1 (Nat.le_refl _); have qb := hw.2); (first | (first | exact run_load_mid _ _ rfl g _ rfl _ _ qa.2 Tryz.underlying175 rfl size_tab | (obtain ⟨qa1, qa2⟩ := qa; go_simp <;> rfl)) | (go_simp <;> rfl)); simp only [Act.put, List.setIfInBounds_toArray, List.set_cons_zero, List.set_cons_succ])
            | (refine wpT_skip rfl rfl ?_; simp only [Act.put, List.setIfInBounds_toArray, List.set_cons_zero, List.set_cons_succ])
          refine wpT_op rfl ?_
          go_wp2_with ((go_at_call 185; refine HC7.out.mono ?_; rintro e w8 ⟨rfl, f⟩; have F8 := hid (F7.out.trans f (fun _ h _ => h)); have HBE8 := hid (Blk.fr HBE7.out f (fun h => h)); have HR8 := hid (fun j u hu => cell_fr (HR7.out j u hu) f (fun h => h) : w8.rangeAt g (i * 4) [.int .i64 x.t.id, .string (bs x.t.name), x.vc, x.vi]); have HROW8 := hid (HROW7.out.fre f); have FR8 := hid (FR7.out.trans f (fun _ h _ => h.elim)); clear f))
          (refine ⟨?_, ?_⟩; focus (intro kz hk hk2 hh; first | (exfalso; simp at hk2; omega) | exact hh | exact (fun h => absurd h (by omega)) | obtain ⟨qa, qb⟩ := hh; first | exact ⟨qa, qb⟩ | (refine ⟨fun h => absurd h (by omega), ?_⟩; first | exact qb | (exact ⟨HBE8.out.cell 1, HR8.out⟩)) | (refine ⟨fun h => ?_, ?_⟩; (have qa := qa h); all_goals (first | exact qa | exact qb | (exact ⟨HBE8.out.cell 1, HR8.out⟩)))))
          have FA := hid (fun o => (Fr.refl (fun _ => False) w8).alloc o)
          refine wpT_op rfl ?_
          go_wp2_with (fail)
          (refine ⟨?_, ?_⟩; focus (intro kz hk hk2 hh; first | (exfalso; simp at hk2; omega) | exact hh | exact (fun h => absurd h (by omega)) | obtain ⟨qa, qb⟩ := hh; first | exact ⟨qa, qb⟩ | (refine ⟨fun h => absurd h (by omega), ?_⟩; first | exact qb | (exact ⟨(Blk.fr HBE8.out (FA.out _) (fun h => h)).cell 1, fun j u hu => cell_fr (HR8.out j u hu) (FA.out _) (fun h => h)⟩)) | (refine ⟨fun h => ?_, ?_⟩; (have qa := qa h); all_goals (first | exact qa | exact qb | (exact ⟨(Blk.fr HBE8.out (FA.out _) (fun h => h)).cell 1, fun j u hu => cell_fr (HR8.out j u hu) (FA.out _) (fun h => h)⟩)))))
          have HNE := hid (HROW8.out.ne HBE8.out (by decide))
          have HNG := hid (rows_ne HROW8.out (HC.out.fre F8.out).r (by decide))
          have hsz := FR8.out.size
          refine wpT_op rfl ?_
          go_wp2_with ((at_builtin; refine wpList_app1 rfl (s := .tmp 62) (x := .tmp 68) (t := 22) rfl Tryz.underlying22 info_int rfl rfl rfl HROW8.out hsz rfl (by simp [Value.oneCell']) (by omega) (by omega) ?_; intro ab ac wg APP; have HG := hid APP; have HBE9 := hid (Blk.fr HBE8.out APP.fr (fun hk => HNE.out _ hk rfl)); have HR9 := hid (fun j u hu => cell_fr (HR8.out j u hu) APP.fr (fun hk => HNG.out _ hk rfl) : wg.rangeAt g (i * 4) [.int .i64 x.t.id, .string (bs x.t.name), x.vc, x.vi]); clear APP))
          (refine ⟨?_, ?_⟩; focus (intro kz hk hk2 hh; first | (exfalso; simp at hk2; omega) | exact hh | exact (fun h => absurd h (by omega)) | obtain ⟨qa, qb⟩ := hh; first | exact ⟨qa, qb⟩ | (refine ⟨fun h => absurd h (by omega), ?_⟩; first | exact qb | (exact ⟨HBE9.out.cell 1, HR9.out⟩)) | (refine ⟨fun h => ?_, ?_⟩; (have qa := qa h); all_goals (first | exact qa | exact qb | (exact ⟨HBE9.out.cell 1, HR9.out⟩)))))
          repeat
            first
            | (refine wpT_pure rfl rfl rfl ?_; apply Exists.intro; refine ⟨?_, ?_⟩; intro w; ((go_simp <;> rfl)); simp only [Act.put, List.setIfInBounds_toArray, List.set_cons_zero, List.set_cons_succ])
            | (refine wpT_take 10 rfl rfl (by decide +kernel) ⟨fun _ => ⟨HBE9.out.cell 1, HR9.out⟩, trivial⟩ ?_; apply Exists.intro; refine ⟨?_, ?_⟩; intro w hw; (have qa := hw.1 (Nat.le_refl _); have qb := hw.2); ((go_simp <;> rfl)); simp only [Act.put, List.setIfInBounds_toArray, List.set_cons_zero, List.set_cons_succ])
            | (refine wpT_skip rfl rfl ?_; simp only [Act.put, List.setIfInBounds_toArray, List.set_cons_zero, List.set_cons_succ])
          have k1 : wg.cell? ⟨ex, 1, none⟩ = some (.slice ax j cx) := HBE9.out.cell 1
          have z1 : wg.frozen? ⟨ex, 1, none⟩ = false := HBE9.out.frozen 1
          have FS := hid ((Fr.refl (fun k => k = ex) wg).setCell ⟨ex, 1, none⟩ (.slice ab (j + 1) ac) (fun _ => rfl))
          have HRWE := hid (HG.out.row.ne HBE9.out (by decide))
          have HREL := hid (show Blk (wg.setCell ⟨ex, 1, none⟩ (.slice ab (j + 1) ac)) ex [.string (bs name), .slice ab (j + 1) ac, .int .i64 root] 177 ∧ Row 3 1 W5.heap.size (wg.setCell ⟨ex, 1, none⟩ (.slice ab (j + 1) ac)) (.slice ab (j + 1) ac) (j + 1) (((names.take (j + 1)).map (colOf x.t.cols)).flatMap icell) ∧ Fr (fun k => k = ex) W5 (wg.setCell ⟨ex, 1, none⟩ (.slice ab (j + 1) ac)) from
            ⟨HBE9.out.set 1 _, (HG.out.row.cast rfl HT.out.symm).fr FS.out (fun k hk e => HRWE.out k hk e), (FR8.out.trans HG.out.fr (fun k hk hl => by have := HROW8.out.new k hk; omega)).trans FS.out (fun k hk _ => hk)⟩)
          refine wpT_op rfl ?_
          go_wp2_with (fail)
          (refine ⟨?_, ?_⟩; focus (intro kz hk hk2 hh; first | (exfalso; simp at hk2; omega) | exact hh | exact (fun h => absurd h (by omega)) | obtain ⟨qa, qb⟩ := hh; first | exact ⟨qa, qb⟩ | (refine ⟨fun h => absurd h (by omega), ?_⟩; first | exact qb | (trivial)) | (refine ⟨fun h => ?_, ?_⟩; (have qa := qa h); all_goals (first | exact qa | exact qb | (trivial)))))
          refine wpT_nil ?_
          go_wp2_with (fail)
          go_roundw
          case rel => exact ⟨j + 1, _, by omega, by go_num, HREL.out.1, HREL.out.2.1, HREL.out.2.2⟩
          case measure => simp [intOf]; omega
        · obtain rfl : j = names.length := by omega
          rw [List.take_length] at HROW
          have F6 := hid (F3.out.trans FR.out (fun k hk hl => by have := HEW.out; omega))
          have hde : ¬ d = ex := fun e => by
            have := HDX.out
            omega
          have B6 := hid (Blk.fr B3.out FR.out hde)
          clear B3 F3 FR HR3
          have hmf : ∀ (fn : Fn) (first cap : Array Value) (w : World), (Instr.makeFunc fn first cap).run Tryz.prog w = .ok (.func fn first cap) w := fun _ _ _ _ => rfl
          have hsf : ∀ (a : Addr) (fn : Fn) (x y : Array Value) (w : World), (store a (.func fn x y)).run Tryz.prog w = stored Tryz.prog w a (.func fn x y) .plain := fun a fn x y w => run_store Tryz.prog w a _ .plain rfl
          have q1 : wr.cell? ⟨ex, 1, none⟩ = some (.slice ax names.length cx) := HBE.out.cell 1
          go_upto_region 14 with fail
          have fa := (Fr.refl (fun _ => False) wr).alloc (.cells #[.func (.func 186) #[] #[.pointer (some ⟨d, 0, none⟩)]] 266)
          have ES := hid (Blk.new wr [.func (.func 186) #[] #[.pointer (some ⟨d, 0, none⟩)]] 266)
          have F7 := hid (F6.out.trans fa (fun _ h _ => h))
          have B7 := hid (Blk.fr B6.out fa (fun h => h))
          have HBE7 := hid (Blk.fr HBE.out fa (fun h => h))
          have HROW7 := hid (HROW.out.fre fa)
          clear q1 fa F6 B6 HBE HROW
          generalize wr.heap.size = sm at *
          generalize wr.alloc _ = W7 at *
          have q1 : W7.cell? ⟨ex, 1, none⟩ = some (.slice ax names.length cx) := HBE7.out.cell 1
          have HCI := hid (IContains_go (l := names.map (colOf x.t.cols)) (-1) (by rw [List.length_map]; exact HROW7.out) (by rw [List.length_map]; exact hln))
          rw [cols_has] at HCI
          by_cases hnc : names.any (fun n => colOf x.t.cols n == -1) = true
          · rw [hnc] at HCI
            rw [if_pos hnc] at HE4
            have HX := hid (HER.out 50 HE4.out (by decide))
            clear hnc HE4
            go_wp2_with (go_at_call 187; refine HCI.out.mono ?_; rintro e w8 ⟨rfl, rfl⟩)
            go_ret
            exact err_fin HC.out HX.out F7.out
          · rw [if_neg hnc] at HE4
            rw [Bool.not_eq_true] at hnc
            rw [hnc] at HCI
            clear hnc
            go_upto_region 16 with (go_at_call 187; refine HCI.out.mono ?_; rintro e W7 ⟨rfl, rfl⟩)
            clear HCI q1
            have HTW := hid (twice_go (Sl.live (HSN.out.fr F7.out (fun _ _ h => h))) (fun _ h => h) hln HSS.out)
            have e2 : W7.cell? ⟨d, 2, none⟩ = some (.string (bs name)) := B7.out.cell 2
            have e0 : W7.cell? ⟨sm, 0, none⟩ = some (.func (.func 186) #[] #[.pointer (some ⟨d, 0, none⟩)]) := ES.out.cell 0
            have HHAS := hid (fun (W : World) (f : Fr (fun _ => False) W7 W) => ContainsFunc_has (cv := .pointer (some ⟨sm, 0, none⟩)) (p := fun t : TabV => t.ix.any fun y => y.x.name == name) ((HC.out.r.fr (F7.out.trans f (fun _ h _ => h)) (fun _ _ h => h)).sl' (R := fun _ => True) (fun _ _ => trivial)) (by omega) (fun t ht w' f' => index2_go t name d sm (cell_fr e2 (f.trans f' (fun _ h _ => h)) (fun h => h)) (cell_fr e0 (f.trans f' (fun _ h _ => h)) (fun h => h)) (((HC.out.t t ht).fr (F7.out.trans (f.trans f' (fun _ h _ => h)) (fun _ h _ => h)) (fun _ _ h => h)).i.sl' (R := fun _ => True) (fun _ _ => trivial)) (by have := HIL.out t ht; omega)))
            clear e2 e0 ES
            rw [any_ixs name (fun t ht => (HC.out.t t ht).e), show x.t.ixs.length = x.ix.length from by rw [HXT.out.e, List.length_map]] at HE4
            obtain ⟨dp, hdp⟩ : ∃ b, dup names = b := ⟨_, rfl⟩
            obtain ⟨tw, htw⟩ : ∃ b, (ts.any fun t : TabV => t.ix.any fun y => y.x.name == name) = b := ⟨_, rfl⟩
            rw [hdp] at HTW HE4
            rw [htw] at HHAS HE4
            have k0 : W7.cell? ⟨d, 4, none⟩ = some (.slice on names.length cn) := B7.out.cell 4
            clear hdp htw
            cases dp with
            | true =>
              have HX := hid (HER.out 51 (HE4.out.trans (if_pos (.inl rfl))) (by decide))
              clear HE4
              go_wp2_with (go_at_call 183; refine HTW.out.mono ?_; rintro e w8 ⟨rfl, f⟩; have F8 := hid (F7.out.trans f (fun _ h _ => h)); clear f)
              go_ret
              exact err_fin HC.out HX.out F8.out
            | false =>
              cases tw with
              | true =>
                have HX := hid (HER.out 51 (HE4.out.trans (if_pos (.inr rfl))) (by decide))
                clear HE4
                go_wp2_with (first
                  | (go_at_call 183; refine HTW.out.mono ?_; rintro e w8 ⟨rfl, f⟩; have q1 := (HC.out.fre (F7.out.trans f (fun _ h _ => h))).b.cell 0; have F8 := hid f; clear f)
                  | (go_at_call 188; refine (HHAS.out _ F8.out).mono ?_; rintro e w9 ⟨rfl, f⟩; have F9 := hid ((F7.out.trans F8.out (fun _ h _ => h)).trans f (fun _ h _ => h)); clear f))
                go_ret
                exact err_fin HC.out HX.out F9.out
              | false =>
                have HE5 := hid (HE4.out.trans (if_neg (by rintro (h | h) <;> cases h)))
                clear HE4
                go_upto_region 18 with (first
                  | (go_at_call 183; refine HTW.out.mono ?_; rintro e w8 ⟨rfl, f⟩; have q1 := (HC.out.fre (F7.out.trans f (fun _ h _ => h))).b.cell 0; have F8 := hid f; clear f)
                  | (go_at_call 188; refine (HHAS.out _ F8.out).mono ?_; rintro e w9 ⟨rfl, f⟩; have F9 := hid (F8.out.trans f (fun _ h _ => h)); clear f))
                have F10 := hid (F7.out.trans F9.out (fun _ h _ => h))
                have B10 := hid (Blk.fr B7.out F9.out (fun h => h))
                have HBE10 := hid (Blk.fr HBE7.out F9.out (fun h => h))
                have HROW10 := hid (HROW7.out.fre F9.out)
                obtain ⟨g', eg, -, hr⟩ := tab_at (HC.out.fre F10.out).r hit
                cases eg
                rw [← HXI.out] at hr
                obtain ⟨ai, ci, hvi, _⟩ := HXT.out.i.slice
                have k3 : w9.cell? ⟨g, i * 4 + 3, none⟩ = some (.slice ai x.ix.length ci) := by rw [← hvi]; exact hr 3 _ rfl
                have HVI := hid hvi
                have HR10 := hid hr
                clear hvi hr HTW HHAS k0 q1 F8 F9 F7 B7 HBE7 HROW7
                by_cases h4 : x.ix.length = 4
                · have HX := hid (HER.out 2 (HE5.out.trans (if_pos (by omega))) (by decide))
                  have m4 : ((x.ix.length : Int) == 4) = true := by simp [h4]
                  clear HE5 h4
                  go_wp2_with (fail)
                  go_ret
                  exact err_fin HC.out HX.out F10.out
                · have HX := hid (HE5.out.trans (if_neg (by omega)))
                  have m4 : ((x.ix.length : Int) == 4) = false := by rw [beq_eq_false_iff_ne]; omega
                  clear HE5
                  go_upto_region 20 with fail
                  have fd := (Fr.refl (fun _ => False) w9).drew
                  have F11 := hid (F10.out.trans fd (fun _ h _ => h))
                  have HBE11 := hid (Blk.fr HBE10.out fd (fun h => h))
                  have HROW11 := hid (HROW10.out.fre fd)
                  have HR11 := hid (cell_fr k3 fd (fun h => h))
                  clear fd k3 B10 F10 HBE10 HROW10 HR10
                  refine wp_region_scr (.take 0 (.take 1 (.take 2 (.take 3 (.take 4 (.op 5 (.op 6 (.take 7 .done)))))))) (fun kz w => (kz ≤ 7 → w.cell? ⟨g, i * 4 + 3, none⟩ = some (.slice ai x.ix.length ci) ∧ w.rangeAt ex 0 [.string (bs name), .slice ax names.length cx, .int .i64 root]) ∧ True) (by kernel_rfl) (by kernel_rfl) (by intro c a d v w h; cases d <;> exact h) ?_
                  repeat
                    first
                    | (refine wpT_pure rfl rfl rfl ?_; apply Exists.intro; refine ⟨?_, ?_⟩; intro w; (first | (first | exact run_load_mid _ _ rfl ex _ rfl _ _ qa.2 Tryz.underlying177 rfl size_ix | (obtain ⟨qa1, qa2⟩ := qa; go_simp <;> rfl)) | (go_simp <;> rfl)); simp only [Act.put, List.setIfInBounds_toArray, List.set_cons_zero, List.set_cons_succ])
                    | (refine wpT_take 7 rfl rfl (by decide +kernel) ⟨fun _ => ⟨HR11.out, fun j u hu => by rw [Nat.zero_add]; exact (HBE11.out.cell j).trans hu⟩, trivial⟩ ?_; apply Exists.intro; refine ⟨?_, ?_⟩; intro w hw; (have qa := hw.1 (Nat.le_refl _); have qb := hw.2); (first | (first | exact run_load_mid _ _ rfl ex _ rfl _ _ qa.2 Tryz.underlying177 rfl size_ix | (obtain ⟨qa1, qa2⟩ := qa; go_simp <;> rfl)) | (go_simp <;> rfl)); simp only [Act.put, List.setIfInBounds_toArray, List.set_cons_zero, List.set_cons_succ])
                    | (refine wpT_skip rfl rfl ?_; simp only [Act.put, List.setIfInBounds_toArray, List.set_cons_zero, List.set_cons_succ])
                  generalize w9.drew = W11 at *
                  have FA := hid (fun o => (Fr.refl (fun _ => False) W11).alloc o)
                  have HRI := hid (show Row 177 3 0 W11 (.slice ai x.ix.length ci) x.ix.length (x.ix.flatMap IxV.cells) from HVI.out ▸ (HXT.out.i.fr F11.out (fun _ _ h => h)))
                  have HNG := hid (rows_ne HRI.out (HC.out.fre F11.out).r (by decide))
                  have HNE := hid (show ¬ (Value.slice ai x.ix.length ci).ownBlock = some ex from fun hk => by
                    have := HC.out.lt _ (HXT.out.iS _ (by rw [HVI.out]; exact hk))
                    have := HEW.out
                    omega)
                  obtain ⟨lg, hbg⟩ := row_blk (HC.out.fre F11.out).r (k := g) rfl
                  have HBG := hid hbg
                  clear hbg
                  refine wpT_op rfl ?_
                  go_wp2_with (fail)
                  (refine ⟨?_, ?_⟩; focus (intro kz hk hk2 hh; first | (exfalso; simp at hk2; omega) | exact hh | exact (fun h => absurd h (by omega)) | obtain ⟨qa, qb⟩ := hh; first | exact ⟨qa, qb⟩ | (refine ⟨fun h => absurd h (by omega), ?_⟩; first | exact qb | (exact ⟨cell_fr HR11.out (FA.out _) (fun h => h), fun j u hu => by rw [Nat.zero_add]; exact ((Blk.fr HBE11.out (FA.out _) (fun h => h)).cell j).trans hu⟩)) | (refine ⟨fun h => ?_, ?_⟩; (have qa := qa h); all_goals (first | exact qa | exact qb | (exact ⟨cell_fr HR11.out (FA.out _) (fun h => h), fun j u hu => by rw [Nat.zero_add]; exact ((Blk.fr HBE11.out (FA.out _) (fun h => h)).cell j).trans hu⟩)))))
                  refine wpT_op rfl ?_
                  go_wp2_with ((at_builtin; refine wpList_app1 rfl (s := .tmp 99) (x := .tmp 101) (t := 173) rfl Tryz.underlying173 info_ix rfl rfl rfl HRI.out (Nat.zero_le _) rfl (by simp [Value.oneCell']) (by omega) (by omega) ?_; intro ab ac wg APP; have HG := hid APP; have HBE12 := hid (Blk.fr HBE11.out APP.fr (fun hk => HNE.out hk)); have HR12 := hid (cell_fr HR11.out APP.fr (fun hk => HNG.out _ hk rfl)); have HBG12 := hid (Blk.fr HBG.out APP.fr (fun hk => HNG.out _ hk rfl)); clear APP))
                  (refine ⟨?_, ?_⟩; focus (intro kz hk hk2 hh; first | (exfalso; simp at hk2; omega) | exact hh | exact (fun h => absurd h (by omega)) | obtain ⟨qa, qb⟩ := hh; first | exact ⟨qa, qb⟩ | (refine ⟨fun h => absurd h (by omega), ?_⟩; first | exact qb | (exact ⟨HR12.out, fun j u hu => by rw [Nat.zero_add]; exact (HBE12.out.cell j).trans hu⟩)) | (refine ⟨fun h => ?_, ?_⟩; (have qa := qa h); all_goals (first | exact qa | exact qb | (exact ⟨HR12.out, fun j u hu => by rw [Nat.zero_add]; exact (HBE12.out.cell j).trans hu⟩)))))
                  repeat
                    first
                    | (refine wpT_pure rfl rfl rfl ?_; apply Exists.intro; refine ⟨?_, ?_⟩; intro w; ((go_simp <;> rfl)); simp only [Act.put, List.setIfInBounds_toArray, List.set_cons_zero, List.set_cons_succ])
                    | (refine wpT_take 7 rfl rfl (by decide +kernel) ⟨fun _ => ⟨HR12.out, fun j u hu => by rw [Nat.zero_add]; exact (HBE12.out.cell j).trans hu⟩, trivial⟩ ?_; apply Exists.intro; refine ⟨?_, ?_⟩; intro w hw; (have qa := hw.1 (Nat.le_refl _); have qb := hw.2); ((go_simp <;> rfl)); simp only [Act.put, List.setIfInBounds_toArray, List.set_cons_zero, List.set_cons_succ])
                    | (refine wpT_skip rfl rfl ?_; simp only [Act.put, List.setIfInBounds_toArray, List.set_cons_zero, List.set_cons_succ])
                  refine wpT_nil ?_
                  have k3 : wg.cell? ⟨g, i * 4 + 3, none⟩ = some (.slice ai x.ix.length ci) := HR12.out
                  have z3 : wg.frozen? ⟨g, i * 4 + 3, none⟩ = false := HBG12.out.frozen (i * 4 + 3)
                  have HE := hid (show CR 225 (Ext S w (wg.setCell ⟨g, i * 4 + 3, none⟩ (.slice ab (x.ix.length + 1) ac))) (wg.setCell ⟨g, i * 4 + 3, none⟩ (.slice ab (x.ix.length + 1) ac)) c (index (ts.map TabV.t) s root).1 ∧ Fr S w (wg.setCell ⟨g, i * 4 + 3, none⟩ (.slice ab (x.ix.length + 1) ac)) from by
                    obtain ⟨e1, e2, e3⟩ := HSE.out
                    have hx := HXI.out
                    subst e1 e2 e3 hx
                    have hG := HG.out
                    rw [← HVI.out] at hG
                    exact index_end HC.out HX.out F11.out hit HZ.out rfl HW5.out HROW11.out hG)
                  have HZ2 := hid (show (0 : Int) = (index (ts.map TabV.t) s root).2 from by unfold index; rw [if_pos HX.out])
                  go_wp2_with (fail)
                  go_ret
                  exact ⟨ret_int HZ2.out, HE.out.1, HE.out.2⟩
end Go.Proofs.YtiimomgbklgicaaGreat
namespace Go.VB
open Go.RowKit
open Go.Maps (Keyed)
open Classical in
noncomputable def updG (f : Lit → Option Value) (l : Lit) (v : Option Value) : Lit → Option Value := fun y => if y = l then v else f y
theorem updG_same (f : Lit → Option Value) (l : Lit) (v : Option Value) : updG f l v l = v := by unfold updG; rw [if_pos rfl]
theorem updG_ne (f : Lit → Option Value) {l y : Lit} (v : Option Value) (h : y ≠ l) : updG f l v y = f y := by unfold updG; rw [if_neg h]
/-- block b is a map of at most n entries: at key x lies f x -/
def MapG (P : Program) (k : TypeId) (w : World) (b n : Nat) (f : Lit → Option Value) : Prop :=
  ∃ D : DataW Value, w.ownsMap P k selfR b n D ∧ Go.Maps.Tidy D ∧ ∀ x : Lit, Go.WideAt.IsKeyLit x → Go.Maps.has D x = (f x).isSome ∧ ∀ z, D.atKey x (.held z) = .held ((f x).getD z)
namespace MapG
variable {P : Program} {k : TypeId} {w w' : World} {b n : Nat} {f : Lit → Option Value}
theorem new (P : Program) (k : TypeId) (w : World) : MapG P k (w.alloc (.map #[] 0)) w.heap.size 0 (fun _ => none) :=
  ⟨.map [], World.ownsMap_made w P k selfR, Go.Maps.tidy_empty, fun x _ => ⟨rfl, fun z => by rw [Go.WideAt.atKey_none (.held z) (by simp)]; rfl⟩⟩
theorem lt (h : MapG P k w b n f) : b < w.heap.size := by
  obtain ⟨D, h, _⟩ := h
  exact h.lt
theorem fr {S : Nat → Prop} (h : MapG P k w b n f) (hf : Fr S w w') (hS : ¬ S b) : MapG P k w' b n f := by
  obtain ⟨D, ⟨es, clock, hb, hF, hn, hD⟩, h2, h3⟩ := h
  exact ⟨D, ⟨es, clock, by rw [hf.blk b (Array.getElem?_eq_some_iff.1 hb).1 hS]; exact hb, hF, hn, hD⟩, h2, h3⟩
theorem cast {g : Lit → Option Value} (h : MapG P k w b n f) (hg : ∀ x, Go.WideAt.IsKeyLit x → f x = g x) : MapG P k w b n g := by
  obtain ⟨D, h1, h2, h3⟩ := h
  exact ⟨D, h1, h2, fun x hx => by rw [← hg x hx]; exact h3 x hx⟩
theorem get {t e : TypeId} (h : MapG P k w b n f) (K : Keyed P k) (ht : P.underlying t = some (.map k e)) {z : Value} (hz : (zeroValue e).run P w = .ok z w) {key : Value} {x : Lit} (hkey : keyOf P k key = some x) (hx : Go.WideAt.IsKeyLit x) :
    (Instr.lookup t (.map (some b)) key false).run P w = .ok ((f x).getD z) w := by
  obtain ⟨D, h1, h2, h3⟩ := h
  obtain ⟨v, ps, hrun, hv⟩ := h1.lookup K ht hz (zd := .held z) (zp := []) rfl hkey
  rw [(h3 x hx).2 z] at hv
  simp only [selfR, Option.some.injEq, Prod.mk.injEq, DataW.held.injEq] at hv
  rw [hrun, hv.1]
theorem getok {t e : TypeId} (h : MapG P k w b n f) (K : Keyed P k) (ht : P.underlying t = some (.map k e)) {z : Value} (hz : (zeroValue e).run P w = .ok z w) {key : Value} {x : Lit} (hkey : keyOf P k key = some x) (hx : Go.WideAt.IsKeyLit x) :
    (Instr.lookup t (.map (some b)) key true).run P w = .ok (.tuple #[(f x).getD z, .bool (f x).isSome]) w := by
  obtain ⟨D, h1, h2, h3⟩ := h
  obtain ⟨v, ps, hrun, hv⟩ := h1.look_ok K ht hz (zd := .held z) (zp := []) rfl hkey
  rw [(h3 x hx).2 z] at hv
  simp only [selfR, Option.some.injEq, Prod.mk.injEq, DataW.held.injEq] at hv
  rw [hrun, hv.1, (h3 x hx).1]
theorem set {t e : TypeId} (h : MapG P k w b n f) (K : Keyed P k) (ht : P.underlying t = some (.map k e)) (hn : n < maxLen) {key : Value} {x : Lit} (val : Value) (hkey : keyOf P k key = some x) (hx : Go.WideAt.IsKeyLit x) :
    ∃ w', (Instr.mapUpdate t (.map (some b)) key val).run P w = .ok () w' ∧ MapG P k w' b (n + 1) (updG f x (some val)) ∧ Fr (fun j => j = b) w w' := by
  obtain ⟨D, h1, h2, h3⟩ := h
  obtain ⟨w', hrun, h', hg⟩ := h1.update K ht hn hkey (val := val) (d := .held val) (ps := []) rfl
  refine ⟨w', hrun, ⟨_, h', h2.put hx _, fun y hy => ?_⟩, (Fr.refl _ w).grown hg (fun j hj _ => by simpa using hj.symm)⟩
  by_cases e : y = x
  · subst e
    rw [updG_same]
    exact ⟨Go.Maps.has_put_same h2.isMap hx _, fun z => Go.Maps.atKey_put_same h2.isMap hx _ _⟩
  · rw [updG_ne _ _ e]
    exact ⟨(Go.Maps.has_put_other e _).trans (h3 y hy).1, fun z => (Go.Maps.atKey_put_other e _ _).trans ((h3 y hy).2 z)⟩
end MapG
theorem wpList_insert_G {P : Program} {ops : Array Oper} {rest : List Oper} {o : Oper} {a : Act} {w : World} {Q : Exit → Act → World → Prop} (hg : o.guard = none) {m x v : Operand} {t k e : TypeId} (hop : o.op = Op.insert t m x v)
    {b n : Nat} {f : Lit → Option Value} (hm : a.eval m = .map (some b)) (h : MapG P k w b n f) (K : Keyed P k) (ht : P.underlying t = some (.map k e)) (hn : n < maxLen) {key val : Value} {l : Lit} (hx : a.eval x = key) (hv : a.eval v = val) (hkey : keyOf P k key = some l) (hl : Go.WideAt.IsKeyLit l)
    (hK : ∀ w', MapG P k w' b (n + 1) (updG f l (some val)) → Fr (fun j => j = b) w w' → wpList P ops Q rest (a.put o.dst undef) w') : wpList P ops Q (o :: rest) a w := by
  refine wpList_plain hg fun K' hK' => ?_
  obtain ⟨w', hrun, r1, r2⟩ := h.set K ht hn val hkey hl
  unfold Oper.wp
  simp [execOp, hop, hm, hx, hv, hrun, Result.andThen]
  exact hK' _ _ (hK w' r1 r2)
theorem wpList_update_G {P : Program} {ops : Array Oper} {rest : List Oper} {o : Oper} {a : Act} {w : World} {Q : Exit → Act → World → Prop} (hg : o.guard = none) {m x v : Operand} {t k e : TypeId} (hop : o.op = Op.mapUpdate t m x v)
    {b n : Nat} {f : Lit → Option Value} (hm : a.eval m = .map (some b)) (h : MapG P k w b n f) (K : Keyed P k) (ht : P.underlying t = some (.map k e)) (hn : n < maxLen) {key val : Value} {l : Lit} (hx : a.eval x = key) (hv : a.eval v = val) (hkey : keyOf P k key = some l) (hl : Go.WideAt.IsKeyLit l)
    (hK : ∀ w', MapG P k w' b (n + 1) (updG f l (some val)) → Fr (fun j => j = b) w w' → wpList P ops Q rest (a.put o.dst undef) w') : wpList P ops Q (o :: rest) a w := by
  refine wpList_plain hg fun K' hK' => ?_
  obtain ⟨w', hrun, r1, r2⟩ := h.set K ht hn val hkey hl
  unfold Oper.wp
  simp [execOp, hop, hm, hx, hv, hrun, Result.andThen]
  exact hK' _ _ (hK w' r1 r2)
theorem wpList_lookup_G {P : Program} {ops : Array Oper} {rest : List Oper} {o : Oper} {a : Act} {w : World} {Q : Exit → Act → World → Prop} (hg : o.guard = none) {m x : Operand} {t k e : TypeId} (hop : o.op = Op.lookup t m x false)
    {b n : Nat} {f : Lit → Option Value} (hm : a.eval m = .map (some b)) (h : MapG P k w b n f) (K : Keyed P k) (ht : P.underlying t = some (.map k e)) {z : Value} (hz : (zeroValue e).run P w = .ok z w) {key : Value} {l : Lit} (hx : a.eval x = key) (hkey : keyOf P k key = some l) (hl : Go.WideAt.IsKeyLit l)
    (hK : wpList P ops Q rest (a.put o.dst ((f l).getD z)) w) : wpList P ops Q (o :: rest) a w := by
  refine wpList_plain hg fun K' hK' => ?_
  have hrun := h.get K ht hz hkey hl
  unfold Oper.wp
  simp [execOp, hop, hm, hx, hrun, Result.andThen]
  exact hK' _ _ hK
theorem wpList_lookok_G {P : Program} {ops : Array Oper} {rest : List Oper} {o : Oper} {a : Act} {w : World} {Q : Exit → Act → World → Prop} (hg : o.guard = none) {m x : Operand} {t k e : TypeId} (hop : o.op = Op.lookup t m x true)
    {b n : Nat} {f : Lit → Option Value} (hm : a.eval m = .map (some b)) (h : MapG P k w b n f) (K : Keyed P k) (ht : P.underlying t = some (.map k e)) {z : Value} (hz : (zeroValue e).run P w = .ok z w) {key : Value} {l : Lit} (hx : a.eval x = key) (hkey : keyOf P k key = some l) (hl : Go.WideAt.IsKeyLit l)
    (hK : wpList P ops Q rest (a.put o.dst (.tuple #[(f l).getD z, .bool (f l).isSome])) w) : wpList P ops Q (o :: rest) a w := by
  refine wpList_plain hg fun K' hK' => ?_
  have hrun := h.getok K ht hz hkey hl
  unfold Oper.wp
  simp [execOp, hop, hm, hx, hrun, Result.andThen]
  exact hK' _ _ hK
end Go.VB
