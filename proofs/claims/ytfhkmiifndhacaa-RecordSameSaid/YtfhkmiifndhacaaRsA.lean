import Derived.Test.YtfhkmiifndhacaaRecG
/- The reference's Same, of rows and of records. -/
set_option linter.unusedVariables false
namespace Go.Proofs.Ytfhkmiifndhacaa
open Go.RowKit Go.VB Go.VB.Oct Go.VB.Rec
set_option maxRecDepth 20000 in
theorem rfSame_go {R R' : Nat → Prop} {w : World} {va vb : Value} {l m : List V} (h : Sl R w va l.length (l.flatMap V.cells)) (k : Sl R' w vb m.length (m.flatMap V.cells)) (hn : l.length ≤ 1099511627776) (hm : m.length ≤ 1099511627776) :
    Calls Try.prog 66 #[va, vb] w fun e w' => e = .returned (.bool (decide (l = m))) ∧ Fr (fun _ => False) w w' := by
  obtain ⟨a, c, rfl, hc, hx⟩ := h
  obtain ⟨b, d, rfl, hd, hy⟩ := k
  have HX := hid (show Sl R w (.slice a l.length c) l.length (l.flatMap V.cells) from ⟨a, c, rfl, hc, hx⟩)
  have HY := hid (show Sl R' w (.slice b m.length d) m.length (m.flatMap V.cells) from ⟨b, d, rfl, hd, hy⟩)
  have F0 := hid (Fr.refl (fun _ => False) w)
  clear hx hy
  by_cases hlm : l.length = m.length
  · go_enter Try.func66, Try.ntmps66
    have HLM := hid hlm
    have hbn : ((l.length : Int) != (m.length : Int)) = false := by simp [hlm]
    clear hlm
    go_wp2_with (fail)
    go_loopw [5] (fun i wr => ∃ j : Nat, j ≤ l.length ∧ i = .int .i64 j ∧ l.take j = m.take j ∧ Fr (fun _ => False) w wr) (fun i _ => l.length - (intOf i).toNat)
    case atStart => exact ⟨0, by omega, rfl, rfl, F0.out⟩
    case round =>
      obtain ⟨j, hj, rfl, hall, fr⟩ := hrel
      have FR := hid fr
      have HA := hid hall
      clear fr hall
      by_cases hjl : j < l.length
      · have hjm : j < m.length := by have := HLM.out; omega
        obtain ⟨g, o, rfl, hg, q0, q1, q2⟩ := sl_three (f := V.cells) vcells_len (HX.out.fr FR.out (fun _ _ h => h)) hjl
        obtain ⟨g', o', rfl, hg', r0, r1, r2⟩ := sl_three (f := V.cells) vcells_len (HY.out.fr FR.out (fun _ _ h => h)) hjm
        have i1 : (0 : Int) ≤ (j : Int) := by omega
        have i2 : (j : Int) < l.length := by omega
        have i3 : (j : Int) < m.length := by omega
        simp only [V.cells, List.getElem?_cons_zero, List.getElem?_cons_succ] at q0 q1 q2 r0 r1 r2
        obtain ⟨x, hx⟩ : ∃ x, x = l[j] := ⟨_, rfl⟩
        obtain ⟨y, hy⟩ : ∃ y, y = m[j] := ⟨_, rfl⟩
        rw [← hx] at q0 q1 q2
        rw [← hy] at r0 r1 r2
        have HXX := hid hx
        have HYY := hid hy
        clear hx hy
        have RX := hid (range3 q0 q1 q2)
        have RY := hid (range3 r0 r1 r2)
        clear q0 q1 q2 r0 r1 r2
        go_wp2_with (fail)
        refine wp_region_scr (.take 0 (.take 1 (.take 2 (.take 3 (.take 4 (.take 5 (.take 6 (.take 7 (.take 8 .done))))))))) (fun kz w => (kz ≤ 9 → w.rangeAt g (o + j * 3) (V.cells x) ∧ w.rangeAt g' (o' + j * 3) (V.cells y)) ∧ True) (by kernel_rfl) (by kernel_rfl) (by intro c a d v w h; cases d <;> exact h) ?_
        repeat
          first
          | (refine wpT_pure rfl rfl rfl ?_; apply Exists.intro; refine ⟨?_, ?_⟩; intro w; (first | (first | exact run_load_mid _ _ rfl g _ rfl _ _ qa.1 Try.underlying53 rfl size_Value | exact run_load_mid _ _ rfl g' _ rfl _ _ qa.2 Try.underlying53 rfl size_Value | exact step_neq_Value _ _ rfl rfl rfl) | (go_simp <;> rfl)); simp only [Act.put, List.setIfInBounds_toArray, List.set_cons_zero, List.set_cons_succ])
          | (refine wpT_take 9 rfl rfl (by decide +kernel) ⟨fun _ => ⟨RX.out, RY.out⟩, trivial⟩ ?_; apply Exists.intro; refine ⟨?_, ?_⟩; intro w hw; (have qa := hw.1 (Nat.le_refl _); have qb := hw.2); (first | (first | exact run_load_mid _ _ rfl g _ rfl _ _ qa.1 Try.underlying53 rfl size_Value | exact run_load_mid _ _ rfl g' _ rfl _ _ qa.2 Try.underlying53 rfl size_Value | exact step_neq_Value _ _ rfl rfl rfl) | (go_simp <;> rfl)); simp only [Act.put, List.setIfInBounds_toArray, List.set_cons_zero, List.set_cons_succ])
          | (refine wpT_skip rfl rfl ?_; simp only [Act.put, List.setIfInBounds_toArray, List.set_cons_zero, List.set_cons_succ])
        refine wpT_nil ?_
        by_cases hxy : x = y
        · have HE := hid (show l[j] = m[j] by rw [← HXX.out, ← HYY.out, hxy])
          subst hxy
          go_wp2_with (fail)
          go_roundw
          case rel => exact ⟨j + 1, by omega, by go_num, take_eq_step hjl hjm HA.out HE.out, FR.out.drew⟩
          case measure => simp [intOf]; omega
        · rw [show (!decide (x = y)) = true by simp [hxy]]
          have hne : decide (l = m) = false := by
            refine decide_eq_false fun e => hxy ?_
            rw [HXX.out, HYY.out]
            subst e
            rfl
          go_wp2_with (fail)
          go_ret
          exact ⟨by rw [hne]; rfl, FR.out.drew⟩
      · obtain rfl : j = l.length := by omega
        have he : decide (l = m) = true := by
          have h1 := HA.out
          rw [List.take_length, HLM.out, List.take_length] at h1
          exact decide_eq_true h1
        go_wp2_with (fail)
        go_ret
        exact ⟨by rw [he]; rfl, FR.out⟩
  · have hne : decide (l = m) = false := decide_eq_false fun e => hlm (by rw [e])
    have hbn : ((l.length : Int) != (m.length : Int)) = true := by simpa using fun h => hlm (by omega)
    go_enter Try.func66, Try.ntmps66
    go_wp2_with (fail)
    go_ret
    exact ⟨by rw [hne]; rfl, F0.out⟩
theorem bne_dec (a b : Int) : (a != b) = !decide (a = b) := by by_cases h : a = b <;> simp [h]
theorem take_all {α : Type} {l m : List α} (h : l.length = m.length) (ht : l.take l.length = m.take l.length) : l = m := by
  rw [List.take_length, h, List.take_length] at ht
  exact ht
set_option maxRecDepth 20000 in
set_option maxHeartbeats 4000000 in
theorem r4Same_go {P P' : Nat → Prop} {w : World} {r q : R} {vo vn ve vx uo un ue ux : Value} (h : RV P w r vo vn ve vx) (k : RV P' w q uo un ue ux) : Calls Try.prog 28 #[.agg (rv r vo vn ve vx).toArray, .agg (rv q uo un ue ux).toArray] w fun e w' => e = .returned (.bool (decide (r = q))) ∧ Fr (fun _ => False) w w' := by
  have HO := hid (fun w' (f : Fr (fun _ => False) w w') => rfSame_go (h.fre f).o (k.fre f).o h.lo k.lo)
  have HN := hid (fun w' (f : Fr (fun _ => False) w w') => rfSame_go (h.fre f).n (k.fre f).n h.ln k.ln)
  have HEX := hid (fun w' (f : Fr (fun _ => False) w w') => (h.fre f).e)
  have HEY := hid (fun w' (f : Fr (fun _ => False) w w') => (k.fre f).e)
  have HXX := hid (fun w' (f : Fr (fun _ => False) w w') => (h.fre f).x)
  have HXY := hid (fun w' (f : Fr (fun _ => False) w w') => (k.fre f).x)
  have hle := h.le
  have hlx := h.lx
  obtain ⟨a1, c1, a2, c2, a3, c3, a4, c4, rfl, rfl, rfl, rfl⟩ := h.slices
  obtain ⟨b1, d1, b2, d2, b3, d3, b4, d4, rfl, rfl, rfl, rfl⟩ := k.slices
  clear h k
  rw [R_eq]
  have HB := hid (beq_dec r.note q.note)
  obtain ⟨kind, xid, table, old, new, edits, xids, note⟩ := r
  obtain ⟨kind', xid', table', old', new', edits', xids', note'⟩ := q
  unfold rv
  dsimp only at *
  have B1 := hid (Blk.new w [.int .i64 kind, .int .i64 xid, .int .i64 table, .slice a1 old.length c1, .slice a2 new.length c2, .slice a3 edits.length c3, .slice a4 xids.length c4, .string (bs note)] 27)
  have F1 := hid ((Fr.refl (fun _ => False) w).alloc (.cells #[.int .i64 kind, .int .i64 xid, .int .i64 table, .slice a1 old.length c1, .slice a2 new.length c2, .slice a3 edits.length c3, .slice a4 xids.length c4, .string (bs note)] 27))
  have B2 := hid (Blk.new (w.alloc (.cells #[.int .i64 kind, .int .i64 xid, .int .i64 table, .slice a1 old.length c1, .slice a2 new.length c2, .slice a3 edits.length c3, .slice a4 xids.length c4, .string (bs note)] 27)) [.int .i64 kind', .int .i64 xid', .int .i64 table', .slice b1 old'.length d1, .slice b2 new'.length d2, .slice b3 edits'.length d3, .slice b4 xids'.length d4, .string (bs note')] 27)
  have B3 := hid (B1.out.alloc (.cells #[.int .i64 kind', .int .i64 xid', .int .i64 table', .slice b1 old'.length d1, .slice b2 new'.length d2, .slice b3 edits'.length d3, .slice b4 xids'.length d4, .string (bs note')] 27))
  have F2 := hid (F1.out.alloc (.cells #[.int .i64 kind', .int .i64 xid', .int .i64 table', .slice b1 old'.length d1, .slice b2 new'.length d2, .slice b3 edits'.length d3, .slice b4 xids'.length d4, .string (bs note')] 27))
  rw [World.size_alloc] at B2
  clear B1 F1
  have hnote : ((bs note).toList == (bs note').toList) = decide (note = note') := HB.out
  obtain ⟨res, hres⟩ : ∃ res, res = (decide (kind = kind') && decide (xid = xid') && decide (table = table') && decide (old = old') && decide (new = new') && decide (edits = edits') && decide (xids = xids') && decide (note = note')) := ⟨_, rfl⟩
  rw [← hres]
  have HRES := hid hres
  clear hres
  go_enter Try.func28, Try.ntmps28
  go_upto_region 1 with fail
  generalize ((w.alloc (.cells #[.int .i64 kind, .int .i64 xid, .int .i64 table, .slice a1 old.length c1, .slice a2 new.length c2, .slice a3 edits.length c3, .slice a4 xids.length c4, .string (bs note)] 27)).alloc (.cells #[.int .i64 kind', .int .i64 xid', .int .i64 table', .slice b1 old'.length d1, .slice b2 new'.length d2, .slice b3 edits'.length d3, .slice b4 xids'.length d4, .string (bs note')] 27)) = W at *
  generalize w.heap.size = d at *
  have _b1_0 := B3.out.cell 0
  have _b1_1 := B3.out.cell 1
  have _b1_2 := B3.out.cell 2
  have _b1_5 := B3.out.cell 5
  have _b1_6 := B3.out.cell 6
  have _b1_7 := B3.out.cell 7
  have _b2_0 := B2.out.cell 0
  have _b2_1 := B2.out.cell 1
  have _b2_2 := B2.out.cell 2
  have _b2_5 := B2.out.cell 5
  have _b2_6 := B2.out.cell 6
  have _b2_7 := B2.out.cell 7
  have m1 := bne_dec kind kind'
  have m2 := bne_dec xid xid'
  have m3 := bne_dec table table'
  have m4 := bne_dec (edits.length : Int) (edits'.length : Int)
  have m5 := bne_dec (xids.length : Int) (xids'.length : Int)
  obtain ⟨e1, he1⟩ : ∃ e, e = decide (kind = kind') := ⟨_, rfl⟩
  obtain ⟨e2, he2⟩ : ∃ e, e = decide (xid = xid') := ⟨_, rfl⟩
  obtain ⟨e3, he3⟩ : ∃ e, e = decide (table = table') := ⟨_, rfl⟩
  obtain ⟨e4, he4⟩ : ∃ e, e = decide ((edits.length : Int) = (edits'.length : Int)) := ⟨_, rfl⟩
  obtain ⟨e5, he5⟩ : ∃ e, e = decide ((xids.length : Int) = (xids'.length : Int)) := ⟨_, rfl⟩
  obtain ⟨e6, he6⟩ : ∃ e, e = decide (note = note') := ⟨_, rfl⟩
  rw [← he1] at m1
  rw [← he2] at m2
  rw [← he3] at m3
  rw [← he4] at m4
  rw [← he5] at m5
  rw [← he6] at hnote
  have HE1 := hid he1
  have HE2 := hid he2
  have HE3 := hid he3
  have HE4 := hid he4
  have HE5 := hid he5
  have HE6 := hid he6
  clear he1 he2 he3 he4 he5 he6 HB
  go_cut [50] (fun s50 wx => s50 = .bool (!(e1 && e2 && e3 && e4 && e5 && e6)) ∧ wx = W)
  case first =>
    go_wp2_with (fail)
    all_goals (go_meet; exact ⟨by simp_all, rfl⟩)
  case rest =>
  obtain ⟨rfl, rfl⟩ := hcut
  have HGT : Hid ((e1 && e2 && e3 && e4 && e5 && e6) = true → kind = kind' ∧ xid = xid' ∧ table = table' ∧ edits.length = edits'.length ∧ xids.length = xids'.length ∧ note = note') := hid (fun hg => by
    rw [HE1.out, HE2.out, HE3.out, HE4.out, HE5.out, HE6.out] at hg
    simp only [Bool.and_eq_true, decide_eq_true_eq] at hg
    obtain ⟨⟨⟨⟨⟨h1, h2⟩, h3⟩, h4⟩, h5⟩, h6⟩ := hg
    exact ⟨h1, h2, h3, by omega, by omega, h6⟩)
  have HGF : Hid ((e1 && e2 && e3 && e4 && e5 && e6) = false → res = false) := hid (fun hg => by
    cases hr : res with
    | false => rfl
    | true =>
      have h0 := HRES.out
      rw [hr] at h0
      have h0 := h0.symm
      simp only [Bool.and_eq_true, decide_eq_true_eq] at h0
      obtain ⟨⟨⟨⟨⟨⟨⟨h1, h2⟩, h3⟩, h4⟩, h5⟩, h6⟩, h7⟩, h8⟩ := h0
      rw [HE1.out, HE2.out, HE3.out, HE4.out, HE5.out, HE6.out, h1, h2, h3, h6, h7, h8] at hg
      simp at hg)
  clear HE1 HE2 HE3 HE4 HE5 HE6 m1 m2 m3 m4 m5 hnote
  generalize (e1 && e2 && e3 && e4 && e5 && e6) = eg at *
  cases eg with
  | false =>
    have HR0 := hid (HGF.out rfl)
    clear HGF HGT
    go_wp2_with (fail)
    go_ret
    exact ⟨by rw [HR0.out]; rfl, F2.out⟩
  | true =>
    have HG := hid (HGT.out rfl)
    clear HGF HGT
    have hre : res = (decide (old = old') && decide (new = new') && decide (edits = edits') && decide (xids = xids')) := by
      obtain ⟨h1, h2, h3, -, -, h6⟩ := HG.out
      rw [HRES.out, decide_eq_true h1, decide_eq_true h2, decide_eq_true h3, decide_eq_true h6]
      simp
    have HRE := hid hre
    have HL3 := hid HG.out.2.2.2.1
    have HL4 := hid HG.out.2.2.2.2.1
    clear HRES hre HG
    clear _b1_0 _b1_1 _b1_2 _b1_5 _b1_6 _b1_7
    clear _b2_0 _b2_1 _b2_2 _b2_5 _b2_6 _b2_7
    have HB5 := hid (fun wr (f : Fr (fun _ => False) wc wr) => (Blk.fr B3.out f (fun h => h)))
    have HB6 := hid (fun wr (f : Fr (fun _ => False) wc wr) => (Blk.fr B2.out f (fun h => h)))
    clear B2 B3
    go_wp2_with (fail)
    go_loopw [5] (fun i wr => ∃ j : Nat, j ≤ edits.length ∧ i = .int .i64 j ∧ edits.take j = edits'.take j ∧ Fr (fun _ => False) wc wr) (fun i _ => edits.length - (intOf i).toNat)
    case atStart => exact ⟨0, by omega, rfl, rfl, Fr.refl _ _⟩
    case round =>
      obtain ⟨j, hj, rfl, hall, fr⟩ := hrel
      have FR := hid fr
      have HA := hid hall
      have HC5 := hid (HB5.out wr.drew fr.drew)
      have HC6 := hid (HB6.out wr.drew fr.drew)
      have p5 : wr.cell? ⟨d, 5, none⟩ = some (.slice a3 edits.length c3) := (HB5.out wr fr).cell 5
      clear fr hall
      by_cases hjl : j < edits.length
      · have hjm : j < edits'.length := by have := HL3.out; omega
        obtain ⟨g, o, rfl, hg, q0, q1, q2⟩ := sl_three (f := E.cells) ecells_len (HEX.out _ (F2.out.trans FR.out.drew (fun _ h _ => h))) hjl
        obtain ⟨g', o', rfl, hg', r0, r1, r2⟩ := sl_three (f := E.cells) ecells_len (HEY.out _ (F2.out.trans FR.out.drew (fun _ h _ => h))) hjm
        have i1 : (0 : Int) ≤ (j : Int) := by omega
        have i2 : (j : Int) < edits.length := by omega
        have i3 : (j : Int) < edits'.length := by omega
        simp only [E.cells, List.getElem?_cons_zero, List.getElem?_cons_succ] at q0 q1 q2 r0 r1 r2
        obtain ⟨x, hx⟩ : ∃ x, x = edits[j] := ⟨_, rfl⟩
        obtain ⟨y, hy⟩ : ∃ y, y = edits'[j] := ⟨_, rfl⟩
        rw [← hx] at q0 q1 q2
        rw [← hy] at r0 r1 r2
        have HXX := hid hx
        have HYY := hid hy
        clear hx hy
        have RX := hid (range3 q0 q1 q2)
        have RY := hid (range3 r0 r1 r2)
        clear q0 q1 q2 r0 r1 r2
        go_upto_region 6 with fail
        refine wp_region_scr (.take 0 (.take 1 (.take 2 (.take 3 (.take 4 (.take 5 (.take 6 (.take 7 (.take 8 (.take 9 (.take 10 .done))))))))))) (fun kz w => (kz ≤ 11 → (w.rangeAt g (o + j * 3) (E.cells x) ∧ w.rangeAt g' (o' + j * 3) (E.cells y)) ∧ w.cell? ⟨d, 5, none⟩ = some (.slice (some ⟨g, o, none⟩) edits.length c3) ∧ w.cell? ⟨d + 1, 5, none⟩ = some (.slice (some ⟨g', o', none⟩) edits'.length d3)) ∧ True) (by kernel_rfl) (by kernel_rfl) (by intro c a d v w h; cases d <;> exact h) ?_
        repeat
          first
          | (refine wpT_pure rfl rfl rfl ?_; apply Exists.intro; refine ⟨?_, ?_⟩; intro w; (first | (first | exact run_load_mid _ _ rfl g _ rfl _ _ qa.1.1 Try.underlying55 rfl size_Edit | exact run_load_mid _ _ rfl g' _ rfl _ _ qa.1.2 Try.underlying55 rfl size_Edit | exact step_neq_Edit _ _ rfl rfl rfl | (obtain ⟨qa0, qa1, qa2⟩ := qa; go_simp <;> rfl)) | (go_simp <;> rfl)); simp only [Act.put, List.setIfInBounds_toArray, List.set_cons_zero, List.set_cons_succ])
          | (refine wpT_take 11 rfl rfl (by decide +kernel) ⟨fun _ => ⟨⟨RX.out, RY.out⟩, HC5.out.cell 5, HC6.out.cell 5⟩, trivial⟩ ?_; apply Exists.intro; refine ⟨?_, ?_⟩; intro w hw; (have qa := hw.1 (Nat.le_refl _); have qb := hw.2); (first | (first | exact run_load_mid _ _ rfl g _ rfl _ _ qa.1.1 Try.underlying55 rfl size_Edit | exact run_load_mid _ _ rfl g' _ rfl _ _ qa.1.2 Try.underlying55 rfl size_Edit | exact step_neq_Edit _ _ rfl rfl rfl | (obtain ⟨qa0, qa1, qa2⟩ := qa; go_simp <;> rfl)) | (go_simp <;> rfl)); simp only [Act.put, List.setIfInBounds_toArray, List.set_cons_zero, List.set_cons_succ])
          | (refine wpT_skip rfl rfl ?_; simp only [Act.put, List.setIfInBounds_toArray, List.set_cons_zero, List.set_cons_succ])
        refine wpT_nil ?_
        by_cases hxy : x = y
        · have HE := hid (show edits[j] = edits'[j] by rw [← HXX.out, ← HYY.out, hxy])
          subst hxy
          go_wp2_with (fail)
          go_roundw
          case rel => exact ⟨j + 1, by omega, by go_num, take_eq_step hjl hjm HA.out HE.out, FR.out.drew⟩
          case measure => simp [intOf]; omega
        · rw [show (!decide (x = y)) = true by simp [hxy]]
          have hne : decide (edits = edits') = false := by
            refine decide_eq_false fun e => hxy ?_
            rw [HXX.out, HYY.out]
            subst e
            rfl
          have HNE := hid hne
          clear hne hxy
          go_wp2_with (fail)
          go_ret
          exact ⟨by rw [HRE.out, HNE.out]; simp, F2.out.trans FR.out.drew (fun _ h _ => h)⟩
      · obtain rfl : j = edits.length := by omega
        have hee := hid (take_all HL3.out HA.out)
        have hre : res = (decide (old = old') && decide (new = new') && decide (xids = xids')) := by rw [HRE.out, decide_eq_true hee.out]; simp
        have HRF := hid hre
        have FZ := hid FR.out
        clear hre HA HC5 HC6 FR HEX HEY HL3
        go_wp2_with (fail)
        clear p5
        go_loopw [6] (fun i wt => ∃ j : Nat, j ≤ xids.length ∧ i = .int .i64 j ∧ xids.take j = xids'.take j ∧ Fr (fun _ => False) wc wt) (fun i _ => xids.length - (intOf i).toNat)
        case atStart => exact ⟨0, by omega, rfl, rfl, FZ.out⟩
        case round =>
          obtain ⟨j, hj, rfl, hall, fr⟩ := hrel
          have FR := hid fr
          have HA := hid hall
          have HC5 := hid (HB5.out wr.drew fr.drew)
          have HC6 := hid (HB6.out wr.drew fr.drew)
          have p6 : wr.cell? ⟨d, 6, none⟩ = some (.slice a4 xids.length c4) := (HB5.out wr fr).cell 6
          clear fr hall
          by_cases hjl : j < xids.length
          · have hjm : j < xids'.length := by have := HL4.out; omega
            obtain ⟨g, o, rfl, hg, hcx⟩ := sl_cell1 (f := icell) icell_len (HXX.out _ (F2.out.trans FR.out.drew (fun _ h _ => h))) (fun h => by subst h; cases hjl)
            obtain ⟨g', o', rfl, hg', hcy⟩ := sl_cell1 (f := icell) icell_len (HXY.out _ (F2.out.trans FR.out.drew (fun _ h _ => h))) (fun h => by subst h; cases hjm)
            have q0 := hcx j hjl
            have r0 := hcy j hjm
            clear hcx hcy
            have i1 : (0 : Int) ≤ (j : Int) := by omega
            have i2 : (j : Int) < xids.length := by omega
            have i3 : (j : Int) < xids'.length := by omega
            simp only [icell, List.getElem?_cons_zero] at q0 r0
            obtain ⟨x, hx⟩ : ∃ x, x = xids[j] := ⟨_, rfl⟩
            obtain ⟨y, hy⟩ : ∃ y, y = xids'[j] := ⟨_, rfl⟩
            rw [← hx] at q0
            rw [← hy] at r0
            have HX0 := hid hx
            have HY0 := hid hy
            have RX := hid q0
            have RY := hid r0
            clear hx hy q0 r0
            go_upto_region 11 with fail
            refine wp_region_scr (.take 0 (.take 1 (.take 2 (.take 3 (.take 4 (.take 5 (.take 6 (.take 7 (.take 8 (.take 9 (.take 10 .done))))))))))) (fun kz w => (kz ≤ 11 → (w.cell? ⟨g, o + j, none⟩ = some (.int .i64 x) ∧ w.cell? ⟨g', o' + j, none⟩ = some (.int .i64 y)) ∧ w.cell? ⟨d, 6, none⟩ = some (.slice (some ⟨g, o, none⟩) xids.length c4) ∧ w.cell? ⟨d + 1, 6, none⟩ = some (.slice (some ⟨g', o', none⟩) xids'.length d4)) ∧ True) (by kernel_rfl) (by kernel_rfl) (by intro c a d v w h; cases d <;> exact h) ?_
            repeat
              first
              | (refine wpT_pure rfl rfl rfl ?_; apply Exists.intro; refine ⟨?_, ?_⟩; intro w; (first | ((obtain ⟨⟨qa0, qa3⟩, qa1, qa2⟩ := qa; go_simp <;> rfl)) | (go_simp <;> rfl)); simp only [Act.put, List.setIfInBounds_toArray, List.set_cons_zero, List.set_cons_succ])
              | (refine wpT_take 11 rfl rfl (by decide +kernel) ⟨fun _ => ⟨⟨RX.out, RY.out⟩, HC5.out.cell 6, HC6.out.cell 6⟩, trivial⟩ ?_; apply Exists.intro; refine ⟨?_, ?_⟩; intro w hw; (have qa := hw.1 (Nat.le_refl _); have qb := hw.2); (first | ((obtain ⟨⟨qa0, qa3⟩, qa1, qa2⟩ := qa; go_simp <;> rfl)) | (go_simp <;> rfl)); simp only [Act.put, List.setIfInBounds_toArray, List.set_cons_zero, List.set_cons_succ])
              | (refine wpT_skip rfl rfl ?_; simp only [Act.put, List.setIfInBounds_toArray, List.set_cons_zero, List.set_cons_succ])
            refine wpT_nil ?_
            by_cases hxy : x = y
            · have HE := hid (show xids[j] = xids'[j] by rw [← HX0.out, ← HY0.out, hxy])
              subst hxy
              go_wp2_with (fail)
              go_roundw
              case rel => exact ⟨j + 1, by omega, by go_num, take_eq_step hjl hjm HA.out HE.out, FR.out.drew⟩
              case measure => simp [intOf]; omega
            · have hne : decide (xids = xids') = false := by
                refine decide_eq_false fun e => hxy ?_
                rw [HX0.out, HY0.out]
                subst e
                rfl
              have HNE := hid hne
              have hxn : (x != y) = true := by simp [hxy]
              clear hne hxy
              go_wp2_with (fail)
              go_ret
              exact ⟨by rw [HRF.out, HNE.out]; simp, F2.out.trans FR.out.drew (fun _ h _ => h)⟩
          · obtain rfl : j = xids.length := by omega
            have hxx := hid (take_all HL4.out HA.out)
            have hre : res = (decide (old = old') && decide (new = new')) := by rw [HRF.out, decide_eq_true hxx.out]; simp
            have HRG := hid hre
            have q3 := (HB5.out _ FR.out).cell 3
            have q4 := (HB5.out _ FR.out).cell 4
            have r3 := (HB6.out _ FR.out).cell 3
            have r4 := (HB6.out _ FR.out).cell 4
            have FW := hid (F2.out.trans FR.out (fun _ h _ => h))
            clear hre HA HC5 HC6 HXX HXY HL4
            generalize hbo : decide (old = old') = bo at *
            generalize hbn : decide (new = new') = bn at *
            clear hbo hbn
            go_wp2_with (first | (go_at_call 66; with_reducible refine (HO.out _ FW.out).mono ?_; rintro e w1 ⟨rfl, f1⟩; have q4 := (HB5.out _ (FR.out.trans f1 (fun _ h _ => h))).cell 4; have r4 := (HB6.out _ (FR.out.trans f1 (fun _ h _ => h))).cell 4; replace FW := hid (FW.out.trans f1 (fun _ h _ => h)); clear f1) | (go_at_call 66; with_reducible refine (HN.out _ FW.out).mono ?_; rintro e w1 ⟨rfl, f1⟩; replace FW := hid (FW.out.trans f1 (fun _ h _ => h)); clear f1))
            all_goals (go_ret; exact ⟨by rw [HRG.out]; exact ret_bool (by simp_all), FW.out⟩)
end Go.Proofs.Ytfhkmiifndhacaa
