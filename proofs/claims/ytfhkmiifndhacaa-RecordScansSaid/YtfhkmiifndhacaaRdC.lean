import Derived.Test.YtfhkmiifndhacaaRecG
import Derived.Test.YtfhkmiifndhacaaRdN
import Derived.Test.YtfhkmiifndhacaaRdB
import Derived.Test.YtfhkmiifndhacaaRfB
import Derived.Test.YtfhkmiifndhacaaMdC
/- The reference's Same, of rows and of records. -/
set_option linter.unusedVariables false
namespace Go.Proofs.Ytfhkmiifndhacaa
open Go.RowKit Go.VB Go.VB.Oct Go.VB.Rec
set_option maxRecDepth 20000 in
theorem rfSame_go {R R' : Nat → Prop} {w : World} {va vb : Value} {l m : List V} (h : Sl R w va l.length (l.flatMap V.cells)) (k : Sl R' w vb m.length (m.flatMap V.cells)) (hn : l.length ≤ 1099511627776) (hm : m.length ≤ 1099511627776) :
    Calls Try.prog 66 #[va, vb] w fun e w' => e = .returned (.bool (decide (l = m))) ∧ Fr (fun _ => False) w w' := by
  obtain ⟨a, c, rfl, hc, hx⟩ := h
  obtain ⟨b, d, rfl, hd, hy⟩ := k
  have HX := hid (show Sl R w (.slice a l.length c) l.length (l.flatMap V.cells) from ⟨a, c, rfl, hc, hx⟩)
  have HY := hid (show Sl R' w (.slice b m.length d) m.length (m.flatMap V.cells) from ⟨b, d, rfl, hd, hy⟩)
  have F0 := hid (Fr.refl (fun _ => False) w)
  clear hx hy
  by_cases hlm : l.length = m.length
  · go_enter Try.func66, Try.ntmps66
    have HLM := hid hlm
    have hbn : ((l.length : Int) != (m.length : Int)) = false := by simp [hlm]
    clear hlm
    go_wp2_with (fail)
    go_loopw [5] (fun i wr => ∃ j : Nat, j ≤ l.length ∧ i = .int .i64 j ∧ l.take j = m.take j ∧ Fr (fun _ => False) w wr) (fun i _ => l.length - (intOf i).toNat)
    case atStart => exact ⟨0, by omega, rfl, rfl, F0.out⟩
    case round =>
      obtain ⟨j, hj, rfl, hall, fr⟩ := hrel
      have FR := hid fr
      have HA := hid hall
      clear fr hall
      by_cases hjl : j < l.length
      · have hjm : j < m.length := by have := HLM.out; omega
        obtain ⟨g, o, rfl, hg, q0, q1, q2⟩ := sl_three (f := V.cells) vcells_len (HX.out.fr FR.out (fun _ _ h => h)) hjl
        obtain ⟨g', o', rfl, hg', r0, r1, r2⟩ := sl_three (f := V.cells) vcells_len (HY.out.fr FR.out (fun _ _ h => h)) hjm
        have i1 : (0 : Int) ≤ (j : Int) := by omega
        have i2 : (j : Int) < l.length := by omega
        have i3 : (j : Int) < m.length := by omega
        simp only [V.cells, List.getElem?_cons_zero, List.getElem?_cons_succ] at q0 q1 q2 r0 r1 r2
        obtain ⟨x, hx⟩ : ∃ x, x = l[j] := ⟨_, rfl⟩
        obtain ⟨y, hy⟩ : ∃ y, y = m[j] := ⟨_, rfl⟩
        rw [← hx] at q0 q1 q2
        rw [← hy] at r0 r1 r2
        have HXX := hid hx
        have HYY := hid hy
        clear hx hy
        have RX := hid (range3 q0 q1 q2)
        have RY := hid (range3 r0 r1 r2)
        clear q0 q1 q2 r0 r1 r2
        go_wp2_with (fail)
        refine wp_region_scr (.take 0 (.take 1 (.take 2 (.take 3 (.take 4 (.take 5 (.take 6 (.take 7 (.take 8 .done))))))))) (fun kz w => (kz ≤ 9 → w.rangeAt g (o + j * 3) (V.cells x) ∧ w.rangeAt g' (o' + j * 3) (V.cells y)) ∧ True) (by kernel_rfl) (by kernel_rfl) (by intro c a d v w h; cases d <;> exact h) ?_
        repeat
          first
          | (refine wpT_pure rfl rfl rfl ?_; apply Exists.intro; refine ⟨?_, ?_⟩; intro w; (first | (first | exact run_load_mid _ _ rfl g _ rfl _ _ qa.1 Try.underlying53 rfl size_Value | exact run_load_mid _ _ rfl g' _ rfl _ _ qa.2 Try.underlying53 rfl size_Value | exact step_neq_Value _ _ rfl rfl rfl) | (go_simp <;> rfl)); simp only [Act.put, List.setIfInBounds_toArray, List.set_cons_zero, List.set_cons_succ])
          | (refine wpT_take 9 rfl rfl (by decide +kernel) ⟨fun _ => ⟨RX.out, RY.out⟩, trivial⟩ ?_; apply Exists.intro; refine ⟨?_, ?_⟩; intro w hw; (have qa := hw.1 (Nat.le_refl _); have qb := hw.2); (first | (first | exact run_load_mid _ _ rfl g _ rfl _ _ qa.1 Try.underlying53 rfl size_Value | exact run_load_mid _ _ rfl g' _ rfl _ _ qa.2 Try.underlying53 rfl size_Value | exact step_neq_Value _ _ rfl rfl rfl) | (go_simp <;> rfl)); simp only [Act.put, List.setIfInBounds_toArray, List.set_cons_zero, List.set_cons_succ])
          | (refine wpT_skip rfl rfl ?_; simp only [Act.put, List.setIfInBounds_toArray, List.set_cons_zero, List.set_cons_succ])
        refine wpT_nil ?_
        by_cases hxy : x = y
        · have HE := hid (show l[j] = m[j] by rw [← HXX.out, ← HYY.out, hxy])
          subst hxy
          go_wp2_with (fail)
          go_roundw
          case rel => exact ⟨j + 1, by omega, by go_num, take_eq_step hjl hjm HA.out HE.out, FR.out.drew⟩
          case measure => simp [intOf]; omega
        · rw [show (!decide (x = y)) = true by simp [hxy]]
          have hne : decide (l = m) = false := by
            refine decide_eq_false fun e => hxy ?_
            rw [HXX.out, HYY.out]
            subst e
            rfl
          go_wp2_with (fail)
          go_ret
          exact ⟨by rw [hne]; rfl, FR.out.drew⟩
      · obtain rfl : j = l.length := by omega
        have he : decide (l = m) = true := by
          have h1 := HA.out
          rw [List.take_length, HLM.out, List.take_length] at h1
          exact decide_eq_true h1
        go_wp2_with (fail)
        go_ret
        exact ⟨by rw [he]; rfl, FR.out⟩
  · have hne : decide (l = m) = false := decide_eq_false fun e => hlm (by rw [e])
    have hbn : ((l.length : Int) != (m.length : Int)) = true := by simpa using fun h => hlm (by omega)
    go_enter Try.func66, Try.ntmps66
    go_wp2_with (fail)
    go_ret
    exact ⟨by rw [hne]; rfl, F0.out⟩
theorem bne_dec (a b : Int) : (a != b) = !decide (a = b) := by by_cases h : a = b <;> simp [h]
theorem take_all {α : Type} {l m : List α} (h : l.length = m.length) (ht : l.take l.length = m.take l.length) : l = m := by
  rw [List.take_length, h, List.take_length] at ht
  exact ht
set_option maxRecDepth 20000 in
set_option maxHeartbeats 4000000 in
theorem r4Same_go {P P' : Nat → Prop} {w : World} {r q : R} {vo vn ve vx uo un ue ux : Value} (h : RV P w r vo vn ve vx) (k : RV P' w q uo un ue ux) : Calls Try.prog 28 #[.agg (rv r vo vn ve vx).toArray, .agg (rv q uo un ue ux).toArray] w fun e w' => e = .returned (.bool (decide (r = q))) ∧ Fr (fun _ => False) w w' := by
  have HO := hid (fun w' (f : Fr (fun _ => False) w w') => rfSame_go (h.fre f).o (k.fre f).o h.lo k.lo)
  have HN := hid (fun w' (f : Fr (fun _ => False) w w') => rfSame_go (h.fre f).n (k.fre f).n h.ln k.ln)
  have HEX := hid (fun w' (f : Fr (fun _ => False) w w') => (h.fre f).e)
  have HEY := hid (fun w' (f : Fr (fun _ => False) w w') => (k.fre f).e)
  have HXX := hid (fun w' (f : Fr (fun _ => False) w w') => (h.fre f).x)
  have HXY := hid (fun w' (f : Fr (fun _ => False) w w') => (k.fre f).x)
  have hle := h.le
  have hlx := h.lx
  obtain ⟨a1, c1, a2, c2, a3, c3, a4, c4, rfl, rfl, rfl, rfl⟩ := h.slices
  obtain ⟨b1, d1, b2, d2, b3, d3, b4, d4, rfl, rfl, rfl, rfl⟩ := k.slices
  clear h k
  rw [R_eq]
  have HB := hid (beq_dec r.note q.note)
  obtain ⟨kind, xid, table, old, new, edits, xids, note⟩ := r
  obtain ⟨kind', xid', table', old', new', edits', xids', note'⟩ := q
  unfold rv
  dsimp only at *
  have B1 := hid (Blk.new w [.int .i64 kind, .int .i64 xid, .int .i64 table, .slice a1 old.length c1, .slice a2 new.length c2, .slice a3 edits.length c3, .slice a4 xids.length c4, .string (bs note)] 27)
  have F1 := hid ((Fr.refl (fun _ => False) w).alloc (.cells #[.int .i64 kind, .int .i64 xid, .int .i64 table, .slice a1 old.length c1, .slice a2 new.length c2, .slice a3 edits.length c3, .slice a4 xids.length c4, .string (bs note)] 27))
  have B2 := hid (Blk.new (w.alloc (.cells #[.int .i64 kind, .int .i64 xid, .int .i64 table, .slice a1 old.length c1, .slice a2 new.length c2, .slice a3 edits.length c3, .slice a4 xids.length c4, .string (bs note)] 27)) [.int .i64 kind', .int .i64 xid', .int .i64 table', .slice b1 old'.length d1, .slice b2 new'.length d2, .slice b3 edits'.length d3, .slice b4 xids'.length d4, .string (bs note')] 27)
  have B3 := hid (B1.out.alloc (.cells #[.int .i64 kind', .int .i64 xid', .int .i64 table', .slice b1 old'.length d1, .slice b2 new'.length d2, .slice b3 edits'.length d3, .slice b4 xids'.length d4, .string (bs note')] 27))
  have F2 := hid (F1.out.alloc (.cells #[.int .i64 kind', .int .i64 xid', .int .i64 table', .slice b1 old'.length d1, .slice b2 new'.length d2, .slice b3 edits'.length d3, .slice b4 xids'.length d4, .string (bs note')] 27))
  rw [World.size_alloc] at B2
  clear B1 F1
  have hnote : ((bs note).toList == (bs note').toList) = decide (note = note') := HB.out
  obtain ⟨res, hres⟩ : ∃ res, res = (decide (kind = kind') && decide (xid = xid') && decide (table = table') && decide (old = old') && decide (new = new') && decide (edits = edits') && decide (xids = xids') && decide (note = note')) := ⟨_, rfl⟩
  rw [← hres]
  have HRES := hid hres
  clear hres
  go_enter Try.func28, Try.ntmps28
  go_upto_region 1 with fail
  generalize ((w.alloc (.cells #[.int .i64 kind, .int .i64 xid, .int .i64 table, .slice a1 old.length c1, .slice a2 new.length c2, .slice a3 edits.length c3, .slice a4 xids.length c4, .string (bs note)] 27)).alloc (.cells #[.int .i64 kind', .int .i64 xid', .int .i64 table', .slice b1 old'.length d1, .slice b2 new'.length d2, .slice b3 edits'.length d3, .slice b4 xids'.length d4, .string (bs note')] 27)) = W at *
  generalize w.heap.size = d at *
  have _b1_0 := B3.out.cell 0
  have _b1_1 := B3.out.cell 1
  have _b1_2 := B3.out.cell 2
  have _b1_5 := B3.out.cell 5
  have _b1_6 := B3.out.cell 6
  have _b1_7 := B3.out.cell 7
  have _b2_0 := B2.out.cell 0
  have _b2_1 := B2.out.cell 1
  have _b2_2 := B2.out.cell 2
  have _b2_5 := B2.out.cell 5
  have _b2_6 := B2.out.cell 6
  have _b2_7 := B2.out.cell 7
  have m1 := bne_dec kind kind'
  have m2 := bne_dec xid xid'
  have m3 := bne_dec table table'
  have m4 := bne_dec (edits.length : Int) (edits'.length : Int)
  have m5 := bne_dec (xids.length : Int) (xids'.length : Int)
  obtain ⟨e1, he1⟩ : ∃ e, e = decide (kind = kind') := ⟨_, rfl⟩
  obtain ⟨e2, he2⟩ : ∃ e, e = decide (xid = xid') := ⟨_, rfl⟩
  obtain ⟨e3, he3⟩ : ∃ e, e = decide (table = table') := ⟨_, rfl⟩
  obtain ⟨e4, he4⟩ : ∃ e, e = decide ((edits.length : Int) = (edits'.length : Int)) := ⟨_, rfl⟩
  obtain ⟨e5, he5⟩ : ∃ e, e = decide ((xids.length : Int) = (xids'.length : Int)) := ⟨_, rfl⟩
  obtain ⟨e6, he6⟩ : ∃ e, e = decide (note = note') := ⟨_, rfl⟩
  rw [← he1] at m1
  rw [← he2] at m2
  rw [← he3] at m3
  rw [← he4] at m4
  rw [← he5] at m5
  rw [← he6] at hnote
  have HE1 := hid he1
  have HE2 := hid he2
  have HE3 := hid he3
  have HE4 := hid he4
  have HE5 := hid he5
  have HE6 := hid he6
  clear he1 he2 he3 he4 he5 he6 HB
  go_cut [50] (fun s50 wx => s50 = .bool (!(e1 && e2 && e3 && e4 && e5 && e6)) ∧ wx = W)
  case first =>
    go_wp2_with (fail)
    all_goals (go_meet; exact ⟨by simp_all, rfl⟩)
  case rest =>
  obtain ⟨rfl, rfl⟩ := hcut
  have HGT : Hid ((e1 && e2 && e3 && e4 && e5 && e6) = true → kind = kind' ∧ xid = xid' ∧ table = table' ∧ edits.length = edits'.length ∧ xids.length = xids'.length ∧ note = note') := hid (fun hg => by
    rw [HE1.out, HE2.out, HE3.out, HE4.out, HE5.out, HE6.out] at hg
    simp only [Bool.and_eq_true, decide_eq_true_eq] at hg
    obtain ⟨⟨⟨⟨⟨h1, h2⟩, h3⟩, h4⟩, h5⟩, h6⟩ := hg
    exact ⟨h1, h2, h3, by omega, by omega, h6⟩)
  have HGF : Hid ((e1 && e2 && e3 && e4 && e5 && e6) = false → res = false) := hid (fun hg => by
    cases hr : res with
    | false => rfl
    | true =>
      have h0 := HRES.out
      rw [hr] at h0
      have h0 := h0.symm
      simp only [Bool.and_eq_true, decide_eq_true_eq] at h0
      obtain ⟨⟨⟨⟨⟨⟨⟨h1, h2⟩, h3⟩, h4⟩, h5⟩, h6⟩, h7⟩, h8⟩ := h0
      rw [HE1.out, HE2.out, HE3.out, HE4.out, HE5.out, HE6.out, h1, h2, h3, h6, h7, h8] at hg
      simp at hg)
  clear HE1 HE2 HE3 HE4 HE5 HE6 m1 m2 m3 m4 m5 hnote
  generalize (e1 && e2 && e3 && e4 && e5 && e6) = eg at *
  cases eg with
  | false =>
    have HR0 := hid (HGF.out rfl)
    clear HGF HGT
    go_wp2_with (fail)
    go_ret
    exact ⟨by rw [HR0.out]; rfl, F2.out⟩
  | true =>
    have HG := hid (HGT.out rfl)
    clear HGF HGT
    have hre : res = (decide (old = old') && decide (new = new') && decide (edits = edits') && decide (xids = xids')) := by
      obtain ⟨h1, h2, h3, -, -, h6⟩ := HG.out
      rw [HRES.out, decide_eq_true h1, decide_eq_true h2, decide_eq_true h3, decide_eq_true h6]
      simp
    have HRE := hid hre
    have HL3 := hid HG.out.2.2.2.1
    have HL4 := hid HG.out.2.2.2.2.1
    clear HRES hre HG
    clear _b1_0 _b1_1 _b1_2 _b1_5 _b1_6 _b1_7
    clear _b2_0 _b2_1 _b2_2 _b2_5 _b2_6 _b2_7
    have HB5 := hid (fun wr (f : Fr (fun _ => False) wc wr) => (Blk.fr B3.out f (fun h => h)))
    have HB6 := hid (fun wr (f : Fr (fun _ => False) wc wr) => (Blk.fr B2.out f (fun h => h)))
    clear B2 B3
    go_wp2_with (fail)
    go_loopw [5] (fun i wr => ∃ j : Nat, j ≤ edits.length ∧ i = .int .i64 j ∧ edits.take j = edits'.take j ∧ Fr (fun _ => False) wc wr) (fun i _ => edits.length - (intOf i).toNat)
    case atStart => exact ⟨0, by omega, rfl, rfl, Fr.refl _ _⟩
    case round =>
      obtain ⟨j, hj, rfl, hall, fr⟩ := hrel
      have FR := hid fr
      have HA := hid hall
      have HC5 := hid (HB5.out wr.drew fr.drew)
      have HC6 := hid (HB6.out wr.drew fr.drew)
      have p5 : wr.cell? ⟨d, 5, none⟩ = some (.slice a3 edits.length c3) := (HB5.out wr fr).cell 5
      clear fr hall
      by_cases hjl : j < edits.length
      · have hjm : j < edits'.length := by have := HL3.out; omega
        obtain ⟨g, o, rfl, hg, q0, q1, q2⟩ := sl_three (f := E.cells) ecells_len (HEX.out _ (F2.out.trans FR.out.drew (fun _ h _ => h))) hjl
        obtain ⟨g', o', rfl, hg', r0, r1, r2⟩ := sl_three (f := E.cells) ecells_len (HEY.out _ (F2.out.trans FR.out.drew (fun _ h _ => h))) hjm
        have i1 : (0 : Int) ≤ (j : Int) := by omega
        have i2 : (j : Int) < edits.length := by omega
        have i3 : (j : Int) < edits'.length := by omega
        simp only [E.cells, List.getElem?_cons_zero, List.getElem?_cons_succ] at q0 q1 q2 r0 r1 r2
        obtain ⟨x, hx⟩ : ∃ x, x = edits[j] := ⟨_, rfl⟩
        obtain ⟨y, hy⟩ : ∃ y, y = edits'[j] := ⟨_, rfl⟩
        rw [← hx] at q0 q1 q2
        rw [← hy] at r0 r1 r2
        have HXX := hid hx
        have HYY := hid hy
        clear hx hy
        have RX := hid (range3 q0 q1 q2)
        have RY := hid (range3 r0 r1 r2)
        clear q0 q1 q2 r0 r1 r2
        go_upto_region 6 with fail
        refine wp_region_scr (.take 0 (.take 1 (.take 2 (.take 3 (.take 4 (.take 5 (.take 6 (.take 7 (.take 8 (.take 9 (.take 10 .done))))))))))) (fun kz w => (kz ≤ 11 → (w.rangeAt g (o + j * 3) (E.cells x) ∧ w.rangeAt g' (o' + j * 3) (E.cells y)) ∧ w.cell? ⟨d, 5, none⟩ = some (.slice (some ⟨g, o, none⟩) edits.length c3) ∧ w.cell? ⟨d + 1, 5, none⟩ = some (.slice (some ⟨g', o', none⟩) edits'.length d3)) ∧ True) (by kernel_rfl) (by kernel_rfl) (by intro c a d v w h; cases d <;> exact h) ?_
        repeat
          first
          | (refine wpT_pure rfl rfl rfl ?_; apply Exists.intro; refine ⟨?_, ?_⟩; intro w; (first | (first | exact run_load_mid _ _ rfl g _ rfl _ _ qa.1.1 Try.underlying55 rfl size_Edit | exact run_load_mid _ _ rfl g' _ rfl _ _ qa.1.2 Try.underlying55 rfl size_Edit | exact step_neq_Edit _ _ rfl rfl rfl | (obtain ⟨qa0, qa1, qa2⟩ := qa; go_simp <;> rfl)) | (go_simp <;> rfl)); simp only [Act.put, List.setIfInBounds_toArray, List.set_cons_zero, List.set_cons_succ])
          | (refine wpT_take 11 rfl rfl (by decide +kernel) ⟨fun _ => ⟨⟨RX.out, RY.out⟩, HC5.out.cell 5, HC6.out.cell 5⟩, trivial⟩ ?_; apply Exists.intro; refine ⟨?_, ?_⟩; intro w hw; (have qa := hw.1 (Nat.le_refl _); have qb := hw.2); (first | (first | exact run_load_mid _ _ rfl g _ rfl _ _ qa.1.1 Try.underlying55 rfl size_Edit | exact run_load_mid _ _ rfl g' _ rfl _ _ qa.1.2 Try.underlying55 rfl size_Edit | exact step_neq_Edit _ _ rfl rfl rfl | (obtain ⟨qa0, qa1, qa2⟩ := qa; go_simp <;> rfl)) | (go_simp <;> rfl)); simp only [Act.put, List.setIfInBounds_toArray, List.set_cons_zero, List.set_cons_succ])
          | (refine wpT_skip rfl rfl ?_; simp only [Act.put, List.setIfInBounds_toArray, List.set_cons_zero, List.set_cons_succ])
        refine wpT_nil ?_
        by_cases hxy : x = y
        · have HE := hid (show edits[j] = edits'[j] by rw [← HXX.out, ← HYY.out, hxy])
          subst hxy
          go_wp2_with (fail)
          go_roundw
          case rel => exact ⟨j + 1, by omega, by go_num, take_eq_step hjl hjm HA.out HE.out, FR.out.drew⟩
          case measure => simp [intOf]; omega
        · rw [show (!decide (x = y)) = true by simp [hxy]]
          have hne : decide (edits = edits') = false := by
            refine decide_eq_false fun e => hxy ?_
            rw [HXX.out, HYY.out]
            subst e
            rfl
          have HNE := hid hne
          clear hne hxy
          go_wp2_with (fail)
          go_ret
          exact ⟨by rw [HRE.out, HNE.out]; simp, F2.out.trans FR.out.drew (fun _ h _ => h)⟩
      · obtain rfl : j = edits.length := by omega
        have hee := hid (take_all HL3.out HA.out)
        have hre : res = (decide (old = old') && decide (new = new') && decide (xids = xids')) := by rw [HRE.out, decide_eq_true hee.out]; simp
        have HRF := hid hre
        have FZ := hid FR.out
        clear hre HA HC5 HC6 FR HEX HEY HL3
        go_wp2_with (fail)
        clear p5
        go_loopw [6] (fun i wt => ∃ j : Nat, j ≤ xids.length ∧ i = .int .i64 j ∧ xids.take j = xids'.take j ∧ Fr (fun _ => False) wc wt) (fun i _ => xids.length - (intOf i).toNat)
        case atStart => exact ⟨0, by omega, rfl, rfl, FZ.out⟩
        case round =>
          obtain ⟨j, hj, rfl, hall, fr⟩ := hrel
          have FR := hid fr
          have HA := hid hall
          have HC5 := hid (HB5.out wr.drew fr.drew)
          have HC6 := hid (HB6.out wr.drew fr.drew)
          have p6 : wr.cell? ⟨d, 6, none⟩ = some (.slice a4 xids.length c4) := (HB5.out wr fr).cell 6
          clear fr hall
          by_cases hjl : j < xids.length
          · have hjm : j < xids'.length := by have := HL4.out; omega
            obtain ⟨g, o, rfl, hg, hcx⟩ := sl_cell1 (f := icell) icell_len (HXX.out _ (F2.out.trans FR.out.drew (fun _ h _ => h))) (fun h => by subst h; cases hjl)
            obtain ⟨g', o', rfl, hg', hcy⟩ := sl_cell1 (f := icell) icell_len (HXY.out _ (F2.out.trans FR.out.drew (fun _ h _ => h))) (fun h => by subst h; cases hjm)
            have q0 := hcx j hjl
            have r0 := hcy j hjm
            clear hcx hcy
            have i1 : (0 : Int) ≤ (j : Int) := by omega
            have i2 : (j : Int) < xids.length := by omega
            have i3 : (j : Int) < xids'.length := by omega
            simp only [icell, List.getElem?_cons_zero] at q0 r0
            obtain ⟨x, hx⟩ : ∃ x, x = xids[j] := ⟨_, rfl⟩
            obtain ⟨y, hy⟩ : ∃ y, y = xids'[j] := ⟨_, rfl⟩
            rw [← hx] at q0
            rw [← hy] at r0
            have HX0 := hid hx
            have HY0 := hid hy
            have RX := hid q0
            have RY := hid r0
            clear hx hy q0 r0
            go_upto_region 11 with fail
            refine wp_region_scr (.take 0 (.take 1 (.take 2 (.take 3 (.take 4 (.take 5 (.take 6 (.take 7 (.take 8 (.take 9 (.take 10 .done))))))))))) (fun kz w => (kz ≤ 11 → (w.cell? ⟨g, o + j, none⟩ = some (.int .i64 x) ∧ w.cell? ⟨g', o' + j, none⟩ = some (.int .i64 y)) ∧ w.cell? ⟨d, 6, none⟩ = some (.slice (some ⟨g, o, none⟩) xids.length c4) ∧ w.cell? ⟨d + 1, 6, none⟩ = some (.slice (some ⟨g', o', none⟩) xids'.length d4)) ∧ True) (by kernel_rfl) (by kernel_rfl) (by intro c a d v w h; cases d <;> exact h) ?_
            repeat
              first
              | (refine wpT_pure rfl rfl rfl ?_; apply Exists.intro; refine ⟨?_, ?_⟩; intro w; (first | ((obtain ⟨⟨qa0, qa3⟩, qa1, qa2⟩ := qa; go_simp <;> rfl)) | (go_simp <;> rfl)); simp only [Act.put, List.setIfInBounds_toArray, List.set_cons_zero, List.set_cons_succ])
              | (refine wpT_take 11 rfl rfl (by decide +kernel) ⟨fun _ => ⟨⟨RX.out, RY.out⟩, HC5.out.cell 6, HC6.out.cell 6⟩, trivial⟩ ?_; apply Exists.intro; refine ⟨?_, ?_⟩; intro w hw; (have qa := hw.1 (Nat.le_refl _); have qb := hw.2); (first | ((obtain ⟨⟨qa0, qa3⟩, qa1, qa2⟩ := qa; go_simp <;> rfl)) | (go_simp <;> rfl)); simp only [Act.put, List.setIfInBounds_toArray, List.set_cons_zero, List.set_cons_succ])
              | (refine wpT_skip rfl rfl ?_; simp only [Act.put, List.setIfInBounds_toArray, List.set_cons_zero, List.set_cons_succ])
            refine wpT_nil ?_
            by_cases hxy : x = y
            · have HE := hid (show xids[j] = xids'[j] by rw [← HX0.out, ← HY0.out, hxy])
              subst hxy
              go_wp2_with (fail)
              go_roundw
              case rel => exact ⟨j + 1, by omega, by go_num, take_eq_step hjl hjm HA.out HE.out, FR.out.drew⟩
              case measure => simp [intOf]; omega
            · have hne : decide (xids = xids') = false := by
                refine decide_eq_false fun e => hxy ?_
                rw [HX0.out, HY0.out]
                subst e
                rfl
              have HNE := hid hne
              have hxn : (x != y) = true := by simp [hxy]
              clear hne hxy
              go_wp2_with (fail)
              go_ret
              exact ⟨by rw [HRF.out, HNE.out]; simp, F2.out.trans FR.out.drew (fun _ h _ => h)⟩
          · obtain rfl : j = xids.length := by omega
            have hxx := hid (take_all HL4.out HA.out)
            have hre : res = (decide (old = old') && decide (new = new')) := by rw [HRF.out, decide_eq_true hxx.out]; simp
            have HRG := hid hre
            have q3 := (HB5.out _ FR.out).cell 3
            have q4 := (HB5.out _ FR.out).cell 4
            have r3 := (HB6.out _ FR.out).cell 3
            have r4 := (HB6.out _ FR.out).cell 4
            have FW := hid (F2.out.trans FR.out (fun _ h _ => h))
            clear hre HA HC5 HC6 HXX HXY HL4
            generalize hbo : decide (old = old') = bo at *
            generalize hbn : decide (new = new') = bn at *
            clear hbo hbn
            go_wp2_with (first | (go_at_call 66; with_reducible refine (HO.out _ FW.out).mono ?_; rintro e w1 ⟨rfl, f1⟩; have q4 := (HB5.out _ (FR.out.trans f1 (fun _ h _ => h))).cell 4; have r4 := (HB6.out _ (FR.out.trans f1 (fun _ h _ => h))).cell 4; replace FW := hid (FW.out.trans f1 (fun _ h _ => h)); clear f1) | (go_at_call 66; with_reducible refine (HN.out _ FW.out).mono ?_; rintro e w1 ⟨rfl, f1⟩; replace FW := hid (FW.out.trans f1 (fun _ h _ => h)); clear f1))
            all_goals (go_ret; exact ⟨by rw [HRG.out]; exact ret_bool (by simp_all), FW.out⟩)
end Go.Proofs.Ytfhkmiifndhacaa

/- What was read, written again, is what it was read from (plain Lean). -/
namespace Go.VB.Rec
open Go.VB.Oct Go.Proofs.Ytfhkmiifndhacaa
theorem be8_int8 {l : List UInt8} (h : l.length = 8) : be8 (word (int8 l)) = l := by
  have e : be8 (word (int8 l)) = be 8 (word (int8 l)) := by simp [be]
  have hl := num_lt l
  rw [h] at hl
  have : word (int8 l) = num l := by
    unfold word int8
    rw [IntKind.wrap_i64]
    omega
  rw [e, this, be_num h (by omega)]
theorem readOne_back {s t : List UInt8} {v : V} (h : readOne s = .ok (v, t)) : s = v.bytes ++ t ∧ v.right = true ∧ v.plain = v := by
  unfold readOne at h
  cases s with
  | nil => cases h
  | cons k s =>
    dsimp only at h
    split at h
    · rename_i hk
      cases h
      subst hk
      exact ⟨rfl, rfl, rfl⟩
    · split at h
      · rename_i hk
        subst hk
        split at h
        · cases h
        · rename_i hl
          cases h
          refine ⟨?_, rfl, rfl⟩
          have e : V.bytes ⟨1, int8 (s.take 8), []⟩ = 1 :: be8 (word (int8 (s.take 8))) := rfl
          rw [e, be8_int8 (by rw [List.length_take]; omega), List.cons_append, List.take_append_drop]
      · split at h
        · rename_i hk
          subst hk
          cases s with
          | nil => cases h
          | cons m s =>
            dsimp only at h
            split at h
            · cases h
            · rename_i h40
              split at h
              · cases h
              · rename_i hl
                cases h
                have hlen : (s.take m.toNat).length = m.toNat := by rw [List.length_take]; omega
                have e : V.bytes ⟨2, 0, s.take m.toNat⟩ = 2 :: UInt8.ofNat (s.take m.toNat).length :: s.take m.toNat := rfl
                refine ⟨?_, ?_, rfl⟩
                · rw [e, hlen, UInt8.ofNat_toNat, List.cons_append, List.cons_append, List.take_append_drop]
                · unfold V.right
                  dsimp only
                  rw [hlen]
                  simp
                  omega
        · cases h
theorem readN_back : ∀ (n : Nat) (s t : List UInt8) (l : List V), readN n s = .ok (l, t) → s = l.flatMap V.bytes ++ t ∧ l.length = n ∧ ∀ v ∈ l, v.right = true ∧ v.plain = v
  | 0, s, t, l, h => by
    cases h
    exact ⟨rfl, rfl, by simp⟩
  | n + 1, s, t, l, h => by
    unfold readN at h
    split at h
    · cases h
    · rename_i v u h1
      split at h
      · cases h
      · rename_i l' u' h2
        cases h
        obtain ⟨e1, e2, e3⟩ := readOne_back h1
        obtain ⟨e4, e5, e6⟩ := readN_back n _ _ _ h2
        refine ⟨by rw [e1, e4, List.flatMap_cons, List.append_assoc], by rw [List.length_cons, e5], ?_⟩
        intro x hx
        rcases List.mem_cons.1 hx with rfl | hx
        · exact ⟨e2, e3⟩
        · exact e6 x hx
theorem readV_back {s : List UInt8} {l : List V} (h : readV s = (l, 0)) : rowBytes l = s ∧ row l = true ∧ ∀ v ∈ l, v.plain = v := by
  unfold readV at h
  cases s with
  | nil => cases h
  | cons n s =>
    dsimp only at h
    split at h
    · cases h
    · rename_i h6
      split at h
      · rename_i e he
        have : e = 0 := by simpa using congrArg Prod.snd h
        subst this
        exfalso
        -- an error is never 0
        have hno : ∀ (n : Nat) (s : List UInt8), readN n s ≠ .error 0 := by
          intro n
          induction n with
          | zero => intro s h; cases h
          | succ n ih =>
            intro s h
            unfold readN at h
            split at h
            · rename_i e h1
              have : e = 0 := by simpa using h
              subst this
              unfold readOne at h1
              cases s with
              | nil => cases h1
              | cons k s =>
                dsimp only at h1
                split at h1
                · cases h1
                · split at h1
                  · split at h1 <;> cases h1
                  · split at h1
                    · cases s with
                      | nil => cases h1
                      | cons m s =>
                        dsimp only at h1
                        split at h1
                        · cases h1
                        · split at h1 <;> cases h1
                    · cases h1
            · split at h
              · rename_i e h2
                have : e = 0 := by simpa using h
                subst this
                exact ih _ h2
              · cases h
        exact hno _ _ he
      · rename_i l' he
        have : l' = l := by simpa using congrArg Prod.fst h
        subst this
        obtain ⟨e1, e2, e3⟩ := readN_back _ _ _ _ he
        have hrow : row l' = true := by
          unfold row
          simp only [Bool.and_eq_true, decide_eq_true_eq, List.all_eq_true]
          exact ⟨by omega, fun v hv => (e3 v hv).1⟩
        refine ⟨?_, hrow, fun v hv => (e3 v hv).2⟩
        unfold rowBytes
        rw [if_pos hrow, e2, UInt8.ofNat_toNat, e1, List.append_nil]
      · cases h
theorem rowsM_fits {b : RM} {f : Bool} (h : (rowsM b f).2.1 = true) (hf : b.text.1.failed = false) : f = true ∧ (readV b.text.2).2 = 0 := by
  unfold rowsM at h
  rw [if_neg (by rw [hf]; simp)] at h
  simpa using h
theorem rowsM_reader (b : RM) (f : Bool) : (rowsM b f).1 = b.text.1 := by
  unfold rowsM
  split <;> rfl
theorem rowsM_back {b : RM} {t : List UInt8} {f : Bool} (h : b.Has t) (hf : (rowsM b f).1.failed = false) (hfit : (rowsM b f).2.1 = true) : f = true ∧ ∃ u, t = text (rowBytes (rowsM b f).2.2) ++ u ∧ (rowsM b f).1.Has u := by
  rw [rowsM_reader] at hf
  obtain ⟨h1, h2⟩ := rowsM_fits hfit hf
  obtain ⟨u, e1, e2, e3, e4⟩ := h.text_back hf
  refine ⟨h1, u, ?_, by rw [rowsM_reader]; exact e2⟩
  have : (rowsM b f).2.2 = (readV b.text.2).1 := by unfold rowsM; rw [if_neg (by rw [hf]; simp)]
  rw [this, (readV_back (Prod.ext rfl h2 : readV b.text.2 = ((readV b.text.2).1, 0))).1]
  exact e1
theorem editsAt_ok : ∀ (j : Nat) {b : RM}, (editsAt j b).1.failed = false → b.failed = false
  | 0, _, h => h
  | j + 1, _, h => editsAt_ok j (RM.failed_num (RM.failed_num (RM.failed_text h)))
theorem editsAt_back {b : RM} {t : List UInt8} (h : b.Has t) : ∀ j, (editsAt j b).1.failed = false → ∃ u, t = (editsAt j b).2.flatMap E.bytes ++ u ∧ (editsAt j b).1.Has u
  | 0, _ => ⟨t, rfl, h⟩
  | j + 1, hf => by
    have f3 : ((((editsAt j b).1.num 2).1.num 1).1.text).1.failed = false := hf
    have f2 := RM.failed_text f3
    have f1 := RM.failed_num f2
    have f0 := RM.failed_num f1
    obtain ⟨u0, e0, h0⟩ := editsAt_back h j f0
    obtain ⟨u1, e1, h1, _, _, l1⟩ := h0.num_back 2 (by omega) f1
    obtain ⟨u2, e2, h2, _, _, l2⟩ := h1.num_back 1 (by omega) f2
    obtain ⟨u3, e3, h3, _, l3⟩ := h2.text_back f3
    refine ⟨u3, ?_, h3⟩
    have hd : (editsAt (j + 1) b).2 = (editsAt j b).2 ++ [⟨((editsAt j b).1.num 2).2, (((editsAt j b).1.num 2).1.num 1).2 - 1, (((editsAt j b).1.num 2).1.num 1).1.text.2⟩] := rfl
    rw [hd, List.flatMap_append, e0, e1, e2, e3]
    simp only [List.flatMap_cons, List.flatMap_nil, List.append_nil]
    unfold E.bytes
    dsimp only
    have c1 : ((((((editsAt j b).1.num 2).1.num 1).2 : Nat) : Int) - 1 + 1).toNat = (((editsAt j b).1.num 2).1.num 1).2 := by omega
    rw [c1, Int.toNat_natCast]
    simp only [List.append_assoc]
theorem xidsAt_back {b : RM} {t : List UInt8} (h : b.Has t) : ∀ j, (xidsAt j b).1.failed = false → ∃ u, t = ((xidsAt j b).2.flatMap fun x => be 1 x.toNat) ++ u ∧ (xidsAt j b).1.Has u
  | 0, _ => ⟨t, rfl, h⟩
  | j + 1, hf => by
    have f1 : ((xidsAt j b).1.num 1).1.failed = false := hf
    have f0 := RM.failed_num f1
    obtain ⟨u0, e0, h0⟩ := xidsAt_back h j f0
    obtain ⟨u1, e1, h1, _, _, l1⟩ := h0.num_back 1 (by omega) f1
    refine ⟨u1, ?_, h1⟩
    have hd : (xidsAt (j + 1) b).2 = (xidsAt j b).2 ++ [(((xidsAt j b).1.num 1).2 : Int)] := rfl
    rw [hd, List.flatMap_append, e0, e1]
    simp only [List.flatMap_cons, List.flatMap_nil, List.append_nil, Int.toNat_natCast, List.append_assoc]
theorem xidsAt_ok : ∀ (j : Nat) {b : RM}, (xidsAt j b).1.failed = false → b.failed = false
  | 0, _, h => h
  | j + 1, _, h => xidsAt_ok j (RM.failed_num h)
theorem rowsM_ok {b : RM} {f : Bool} (h : (rowsM b f).1.failed = false) : b.failed = false := by
  rw [rowsM_reader] at h
  exact RM.failed_text h
/-- a record that was read, written again -/
theorem readR_back {s : List UInt8} {r : R} (h : readR s = (r, 0)) : r.bytes = s ∧ r.right = true := by
  unfold readR at h
  split at h
  · cases h
  · rename_i hf
    split at h
    · cases h
    · rename_i hc
      have hr : rdR s = r := by simpa using congrArg Prod.fst h
      have hf : (rdT s).1.failed = false := by simpa using hf
      simp only [Bool.or_eq_true, Bool.not_eq_true', decide_eq_true_eq, not_or, Bool.not_eq_false] at hc
      obtain ⟨⟨c1, c2⟩, c3⟩ := hc
      have fX : (rdX s).1.failed = false := RM.failed_text hf
      have fX0 := xidsAt_ok _ fX
      have fE := RM.failed_num fX0
      have fE0 := editsAt_ok _ fE
      have fN := RM.failed_num fE0
      have fO := rowsM_ok fN
      have f3 := rowsM_ok fO
      have f2 := RM.failed_num f3
      have f1 := RM.failed_num f2
      obtain ⟨u1, e1, h1, _, _, l1⟩ := (RM.Has.new s).num_back 1 (by omega) f1
      obtain ⟨u2, e2, h2, _, _, l2⟩ := h1.num_back 1 (by omega) f2
      obtain ⟨u3, e3, h3, _, _, l3⟩ := h2.num_back 2 (by omega) f3
      obtain ⟨u5, g5⟩ : ∃ u5, ∃ u4, u3 = text (rowBytes (rdO s).2.2) ++ u4 ∧ u4 = text (rowBytes (rdN s).2.2) ++ u5 ∧ (rdN s).1.Has u5 := by
        have hO : (rdO s).2.1 = true := by
          cases ht : (rdO s).2.1 with
          | true => rfl
          | false =>
            exfalso
            have : (rdN s).2.1 = false := by
              unfold rdN rowsM
              rw [ht]
              split <;> simp
            rw [this] at c1
            cases c1
        obtain ⟨-, u4, e4, h4⟩ := rowsM_back (f := true) h3 fO hO
        obtain ⟨-, u5, e5, h5⟩ := rowsM_back h4 fN c1
        exact ⟨u5, u4, e4, e5, h5⟩
      obtain ⟨u4, e4, e5, h5⟩ := g5
      obtain ⟨u6, e6, h6, _, _, l6⟩ := h5.num_back 1 (by omega) fE0
      obtain ⟨u7, e7, h7⟩ := editsAt_back h6 _ fE
      obtain ⟨u8, e8, h8, _, _, l8⟩ := h7.num_back 1 (by omega) fX0
      obtain ⟨u9, e9, h9⟩ := xidsAt_back h8 _ fX
      obtain ⟨u10, e10, h10, _, l10⟩ := h9.text_back hf
      have hu : u10 = [] := by
        have := h10.left
        have hz : (rdX s).1.text.1.left = 0 := by
          have : ¬ 0 < (rdT s).1.left := c2
          unfold rdT at this
          omega
        exact List.eq_nil_of_length_eq_zero (this.symm.trans hz)
      have hright : r.right = true := by rw [← hr]; exact c3
      refine ⟨?_, hright⟩
      unfold R.bytes
      rw [if_pos hright, ← hr]
      have lE : (rdE s).2.length = ((rdN s).1.num 1).2 := editsAt_len _ _
      have lX : (rdX s).2.length = ((rdE s).1.num 1).2 := xidsAt_len _ _
      have raw : R.raw (rdR s) = be 1 ((RM.new s).num 1).2 ++ (be 1 (((RM.new s).num 1).1.num 1).2 ++ (be 2 ((((RM.new s).num 1).1.num 1).1.num 2).2 ++ (text (rowBytes (rdO s).2.2) ++ (text (rowBytes (rdN s).2.2) ++ (be 1 (rdE s).2.length ++ ((rdE s).2.flatMap E.bytes ++ (be 1 (rdX s).2.length ++ (((rdX s).2.flatMap fun x => be 1 x.toNat) ++ text (rdT s).2)))))))) := by
        unfold R.raw rdR
        dsimp only
        simp only [Int.toNat_natCast, List.append_assoc]
      rw [raw, lE, lX]
      conv => rhs; rw [e1, e2, e3, e4, e5, e6, e7, e8, e9, e10, hu, List.append_nil]
      rfl
theorem raw_inj {a b : R} (ha : a.right = true) (hb : b.right = true) (pa : a.plain = a) (pb : b.plain = b) (ao : ∀ v ∈ a.old, v.In) (an : ∀ v ∈ a.new, v.In) (bo : ∀ v ∈ b.old, v.In) (bn : ∀ v ∈ b.new, v.In) (h : a.raw = b.raw) : a = b := by
  have h1 := readR_raw ha ao an
  have h2 := readR_raw hb bo bn
  rw [h, h2] at h1
  have := congrArg Prod.fst h1
  rw [← pa, ← pb]
  exact this.symm
end Go.VB.Rec

/- The reference: reading a row. -/
namespace Go.VB.Rec
open Go.VB.Oct Go.RowKit
def finV : Except Int (List V × List UInt8) → List V × Int
  | .error e => ([], e)
  | .ok (l, []) => (l, 0)
  | .ok (_, _ :: _) => ([], 11)
theorem readV_fin (c : UInt8) (s : List UInt8) (h : ¬ 6 < c.toNat) : readV (c :: s) = finV (more [] (readN c.toNat s)) := by
  rw [more_nil]
  unfold readV
  dsimp only
  rw [if_neg h]
  cases readN c.toNat s with
  | error e => rfl
  | ok p =>
    obtain ⟨l, t⟩ := p
    cases t <;> rfl
theorem u8_of {c : UInt8} {k : Nat} (hk : k < 256) (h : c.toNat = k) : c = UInt8.ofNat k := by
  apply UInt8.toNat_inj.1
  rw [h, UInt8.toNat_ofNat_of_lt' hk]
theorem ro0 {c : UInt8} {t : List UInt8} (h : c.toNat = 0) : readOne (c :: t) = .ok (⟨0, 0, []⟩, t) := by
  obtain rfl := u8_of (by omega) h
  rfl
theorem ro1 {c : UInt8} {t : List UInt8} (h : c.toNat = 1) (hl : 8 ≤ t.length) : readOne (c :: t) = .ok (⟨1, int8 (t.take 8), []⟩, t.drop 8) := by
  obtain rfl := u8_of (by omega) h
  unfold readOne
  dsimp only
  rw [if_neg (by decide), if_pos (by decide), if_neg (by omega)]
theorem ro1s {c : UInt8} {t : List UInt8} (h : c.toNat = 1) (hl : t.length < 8) : readOne (c :: t) = .error 10 := by
  obtain rfl := u8_of (by omega) h
  unfold readOne
  dsimp only
  rw [if_neg (by decide), if_pos (by decide), if_pos hl]
theorem ro2n {c : UInt8} (h : c.toNat = 2) : readOne [c] = .error 10 := by
  obtain rfl := u8_of (by omega) h
  rfl
theorem ro2m {c m : UInt8} {t : List UInt8} (h : c.toNat = 2) (hm : 40 < m.toNat) : readOne (c :: m :: t) = .error 2 := by
  obtain rfl := u8_of (by omega) h
  unfold readOne
  dsimp only
  rw [if_neg (by decide), if_neg (by decide), if_pos (by decide), if_pos hm]
theorem ro2s {c m : UInt8} {t : List UInt8} (h : c.toNat = 2) (hm : ¬ 40 < m.toNat) (hl : t.length < m.toNat) : readOne (c :: m :: t) = .error 10 := by
  obtain rfl := u8_of (by omega) h
  unfold readOne
  dsimp only
  rw [if_neg (by decide), if_neg (by decide), if_pos (by decide), if_neg hm, if_pos hl]
theorem ro2 {c m : UInt8} {t : List UInt8} (h : c.toNat = 2) (hm : ¬ 40 < m.toNat) (hl : ¬ t.length < m.toNat) : readOne (c :: m :: t) = .ok (⟨2, 0, t.take m.toNat⟩, t.drop m.toNat) := by
  obtain rfl := u8_of (by omega) h
  unfold readOne
  dsimp only
  rw [if_neg (by decide), if_neg (by decide), if_pos (by decide), if_neg hm, if_neg hl]
theorem rox {c : UInt8} {t : List UInt8} (h : 2 < c.toNat) : readOne (c :: t) = .error 11 := by
  have h0 : c ≠ 0 := fun e => by subst e; simp at h
  have h1 : c ≠ 1 := fun e => by subst e; simp at h
  have h2 : c ≠ 2 := fun e => by subst e; simp at h
  unfold readOne
  dsimp only
  rw [if_neg h0, if_neg h1, if_neg h2]
theorem wrap64_eq (n : Int) : wrap64 n = IntKind.i64.wrap n := by rw [IntKind.wrap_i64]; unfold wrap64; omega
theorem wrap_step (l : List UInt8) (c : UInt8) : wrap64 (wrap64 (IntKind.i64.wrap (num l) * 256) + (c.toNat : Int)) = IntKind.i64.wrap (num (l ++ [c])) := by
  have h1 : wrap64 (IntKind.i64.wrap (num l) * 256) = wrap64 ((num l : Int) * 256) := by
    rw [IntKind.wrap_i64]
    generalize (num l : Int) = n
    unfold wrap64
    omega
  have h2 : ∀ n k : Int, wrap64 (wrap64 n + k) = wrap64 (n + k) := by
    intro n k
    unfold wrap64
    omega
  rw [h1, h2, wrap64_eq, num_snoc]
  all_goals (congr 1; try omega)
end Go.VB.Rec
namespace Go.Proofs.Ytfhkmiifndhacaa
open Go.RowKit Go.VB Go.VB.Oct Go.VB.Rec
theorem size_Got2 : (Try.prog.info? 116).map (·.size) = some 2 := by kernel_rfl
theorem bs_get (s : List UInt8) {j : Nat} (h : j < s.length) {k : Nat} (hk : s[j].toNat = k) : ((bs s)[j]'(by rw [bs_size]; exact h)).toNat = k := by
  have : (bs s)[j]'(by rw [bs_size]; exact h) = s[j] := by simp [bs]; rfl
  rw [this, hk]
/-- what the reading of a row has made so far -/
structure G2 (w W : World) (l : List V) (v5 : Value) : Prop where
  res : Blk W w.heap.size [.slice none 0 0, .int .i64 0] 116
  row : Row 53 3 (w.heap.size + 1) W v5 l.length (l.flatMap V.cells)
  fr : Fr (fun _ => False) w W
theorem G2.fre {w W W' : World} {l : List V} {v5 : Value} (h : G2 w W l v5) (f : Fr (fun _ => False) W W') : G2 w W' l v5 :=
  ⟨Blk.fr h.res f (fun h => h), h.row.fre f, h.fr.trans f (fun _ h _ => h)⟩
theorem G2.end_ {w W : World} {l : List V} {v5 : Value} (h : G2 w W l v5) (u : Value) (e : Int) :
    Blk (W.setCells w.heap.size 0 [u, .int .i64 e]) w.heap.size [u, .int .i64 e] 116 ∧ Fr (fun _ => False) w (W.setCells w.heap.size 0 [u, .int .i64 e]) ∧ Row 53 3 w.heap.size (W.setCells w.heap.size 0 [u, .int .i64 e]) v5 l.length (l.flatMap V.cells) := by
  have f := (Fr.refl (fun k => k = w.heap.size) W).put w.heap.size 0 [u, .int .i64 e] (fun _ => rfl)
  exact ⟨h.res.put 0 [u, .int .i64 e] (by simp), h.fr.trans f (fun k hk hl => by omega), (h.row.fr f (fun k hk e => by have := h.row.new k hk; omega)).low (by omega)⟩
theorem G2.grow {w wb wg : World} {l : List V} {v5 v' : Value} (h : G2 w wb l v5) {v : V} (hg : App 53 3 (w.heap.size + 1) wb wg v5 v' l.length (l.flatMap V.cells) v.cells) : G2 w wg (l ++ [v]) v' :=
  ⟨h.res.fr hg.fr (fun hk => h.row.ne h.res (by decide) _ hk rfl), hg.row.cast (by simp) (by simp), h.fr.trans hg.fr (fun k hk hl => by have := h.row.new k hk; omega)⟩
theorem G2.size {w W : World} {l : List V} {v5 : Value} (h : G2 w W l v5) : w.heap.size + 1 ≤ W.heap.size := by have := h.res.lt; omega
set_option maxRecDepth 20000 in
set_option maxHeartbeats 20000000 in
theorem r2Read_go (s : List UInt8) (hs : s.length ≤ 1099511627776) (w : World) : Calls Try.prog 86 #[.string (bs s)] w fun e w' => ∃ (a : Option Addr) (c : Nat), e = .returned (.agg #[.slice a (readV s).1.length c, .int .i64 (readV s).2]) ∧ Row 53 3 w.heap.size w' (.slice a (readV s).1.length c) (readV s).1.length ((readV s).1.flatMap V.cells) ∧ Fr (fun _ => False) w w' := by
  have e1 := bs_size s
  have B0 := hid (Blk.new w [.slice none 0 0, .int .i64 0] 116)
  have F0 := hid ((Fr.refl (fun _ => False) w).alloc (.cells #[.slice none 0 0, .int .i64 0] 116))
  have H0 : Hid (G2 w (w.alloc (.cells #[.slice none 0 0, .int .i64 0] 116)) [] (.slice none 0 0)) := hid ⟨B0.out, Row.nil, F0.out⟩
  clear B0 F0
  obtain ⟨res, hres⟩ : ∃ res, res = readV s := ⟨_, rfl⟩
  rw [← hres]
  by_cases hn0 : s.length = 0
  · have hz : s = [] := List.eq_nil_of_length_eq_zero hn0
    have HRS := hid (show res = ([], (10 : Int)) from by rw [hres, hz]; rfl)
    clear hres hz
    have hlt : ((s.length : Int) < 1) := by omega
    go_enter Try.func86, Try.ntmps86
    have th := (H0.out).res.there 0 2 (by simp)
    have HE := hid ((H0.out).end_ (.slice none 0 0) 10)
    have HRR := hid (show res = ([], (10 : Int)) from HRS.out)
    go_wp2_with (refine wpList_store_mid rfl 116 (.tmp 2) (.tmp 13) rfl w.heap.size 0 #[.slice none 0 0, .int .i64 10] rfl rfl th size_Got2 (by simp [Value.oneCell']) ?_)
    refine bodyPost_ret (v := .agg [.slice none 0 0, .int .i64 10].toArray) (results_cell_mid (b := w.heap.size) (o := 0) rfl _ _ rfl (cs := [.slice none 0 0, .int .i64 10]) (Blk.all _ HE.out.1) Try.underlying116 rfl size_Got2) rfl ?_
    rw [HRR.out]
    exact ⟨none, 0, rfl, Row.nil, HE.out.2.1⟩
  · have hs1 : 0 < s.length := by omega
    have hge : ¬ ((s.length : Int) < 1) := by omega
    have hsd : s = s[0] :: s.drop 1 := by
      have := List.drop_eq_getElem_cons hs1
      rwa [List.drop_zero] at this
    have hc0 := bs_get s hs1 rfl
    have hc256 := s[0].toNat_lt
    obtain ⟨n, hn⟩ : ∃ n, n = s[0].toNat := ⟨_, rfl⟩
    rw [← hn] at hc0 hc256
    by_cases h6 : 6 < n
    · have HRS := hid (show res = ([], (2 : Int)) from by
        rw [hres, hsd]
        unfold readV
        dsimp only
        rw [if_pos (by rw [← hn]; exact h6)])
      clear hres hsd hn
      have h6i : ((6 : Int) < (n : Int)) := by omega
      go_enter Try.func86, Try.ntmps86
      have th := (H0.out).res.there 0 2 (by simp)
      have HE := hid ((H0.out).end_ (.slice none 0 0) 2)
      have HRR := hid (show res = ([], (2 : Int)) from HRS.out)
      go_wp2_with (refine wpList_store_mid rfl 116 (.tmp 2) (.tmp 19) rfl w.heap.size 0 #[.slice none 0 0, .int .i64 2] rfl rfl th size_Got2 (by simp [Value.oneCell']) ?_)
      refine bodyPost_ret (v := .agg [.slice none 0 0, .int .i64 2].toArray) (results_cell_mid (b := w.heap.size) (o := 0) rfl _ _ rfl (cs := [.slice none 0 0, .int .i64 2]) (Blk.all _ HE.out.1) Try.underlying116 rfl size_Got2) rfl ?_
      rw [HRR.out]
      exact ⟨none, 0, rfl, Row.nil, HE.out.2.1⟩
    · have HRS := hid (show res = finV (more [] (readN n (s.drop 1))) from by
        rw [hres]
        conv => lhs; rw [hsd]
        rw [readV_fin _ _ (by rw [← hn]; exact h6), ← hn])
      have h6i : ¬ ((6 : Int) < (n : Int)) := by omega
      clear hres hsd hn
      go_enter Try.func86, Try.ntmps86
      go_wp2_with (fail)
      have H1 := hid (show G2 w ((w.alloc (.cells #[.slice none 0 0, .int .i64 0] 116)).alloc (.cells #[] 53)) [] (.slice (some ⟨w.heap.size + 1, 0, none⟩) 0 0) from
        ⟨Blk.fr H0.out.res ((Fr.refl (fun _ => False) _).alloc _) (fun h => h), by
          have := Row.built (e := 53) (n := 0) (size := 3) (B := w.heap.size + 1) (w.alloc (.cells #[.slice none 0 0, .int .i64 0] 116)) (l := []) rfl (by decide) (by rw [World.size_alloc]; omega)
          rwa [World.size_alloc] at this, H0.out.fr.alloc _⟩)
      clear H0
      generalize (w.alloc _).alloc _ = W1 at *
      go_loopw [4, 5, 6] (fun a4 v5 i wr => ∃ (j at_ : Nat) (l : List V), j ≤ n ∧ at_ ≤ s.length ∧ a4 = .int .i64 at_ ∧ i = .int .i64 j ∧ l.length = j ∧ G2 w wr l v5 ∧ res = finV (more l (readN (n - j) (s.drop at_)))) (fun _ _ i _ => n - (intOf i).toNat)
      case atStart => exact ⟨0, 1, [], by omega, by omega, rfl, rfl, rfl, H1.out, HRS.out⟩
      case round =>
        obtain ⟨j, at_, l, hj, hat, rfl, rfl, hlj, hG, hrs⟩ := hrel
        have HG := hid hG
        have HRJ := hid hrs
        have HLJ := hid hlj
        obtain ⟨a5, c5, rfl, _⟩ := hG.row.slice
        clear hG hrs hlj H1 HRS hc0 hge
        have i0 : (0 : Int) ≤ (at_ : Int) := by omega
        by_cases hjn : j < n
        · have hnj : n - j = (n - (j + 1)) + 1 := by omega
          have i1 : (j : Int) < (n : Int) := by omega
          by_cases hend : at_ = s.length
          · subst hend
            have HX := hid (show res = ([], (10 : Int)) from by
              rw [HRJ.out, hnj, more_err (e := 10) (by rw [List.drop_length]; rfl)]
              rfl)
            clear hnj
            have th := (HG.out).res.there 0 2 (by simp)
            have HE := hid ((HG.out).end_ (.slice none 0 0) 10)
            have HRR := hid (show res = ([], (10 : Int)) from HX.out)
            go_wp2_with (refine wpList_store_mid rfl 116 (.tmp 2) (.tmp 30) rfl w.heap.size 0 #[.slice none 0 0, .int .i64 10] rfl rfl th size_Got2 (by simp [Value.oneCell']) ?_)
            refine bodyPost_ret (v := .agg [.slice none 0 0, .int .i64 10].toArray) (results_cell_mid (b := w.heap.size) (o := 0) rfl _ _ rfl (cs := [.slice none 0 0, .int .i64 10]) (Blk.all _ HE.out.1) Try.underlying116 rfl size_Got2) rfl ?_
            rw [HRR.out]
            exact ⟨none, 0, rfl, Row.nil, HE.out.2.1⟩
          · have hlt : at_ < s.length := by omega
            have i2 : (at_ : Int) < (s.length : Int) := by omega
            have hdr : s.drop at_ = s[at_] :: s.drop (at_ + 1) := List.drop_eq_getElem_cons hlt
            have HDR := hid hdr
            have hdl : (s.drop (at_ + 1)).length = s.length - (at_ + 1) := List.length_drop
            have hk256 := s[at_].toNat_lt
            have HNJ := hid hnj
            clear hdr hnj
            have hcase : s[at_].toNat = 0 ∨ s[at_].toNat = 1 ∨ s[at_].toNat = 2 ∨ 2 < s[at_].toNat := by omega
            rcases hcase with hk | hk | hk | hk
            · -- null
              have hkk := bs_get s hlt hk
              have HS := hid (show res = finV (more (l ++ [⟨0, 0, []⟩]) (readN (n - (j + 1)) (s.drop (at_ + 1)))) from by rw [HRJ.out, HNJ.out, HDR.out, more_step (ro0 hk)])
              have HG2 := hid (HG.out.fre ((Fr.refl (fun _ => False) wr).alloc (.cells #[.int .i64 0, .int .i64 0, .string ⟨#[]⟩] 53)))
              clear hk hk256 hdl
              go_wp2_with (first | (at_builtin; refine wpList_app1 rfl (s := .tmp 103) (x := .tmp 105) (t := 23) rfl Try.underlying23 info_val val_cells rfl (by rw [World.size_alloc]; rfl) HG2.out.row HG2.out.size rfl (by simp [Value.oneCell']) (by have := HLJ.out; omega) (by have := HLJ.out; omega) ?_; intro ab ac wg APP; have HZ := hid (HG2.out.grow (v := ⟨0, 0, []⟩) APP); clear APP))
              go_roundw
              case rel => exact ⟨j + 1, at_ + 1, l ++ [⟨0, 0, []⟩], by omega, by omega, by simp, by simp, by have := HLJ.out; simp; omega, HZ.out, HS.out⟩
              case measure => simp [intOf]; omega
            · -- an integer
              have hkk := bs_get s hlt hk
              have HG2 := hid (HG.out.fre ((Fr.refl (fun _ => False) wr).alloc (.cells #[.int .i64 1, .int .i64 0, .string ⟨#[]⟩] 53)))
              by_cases h8 : s.length < at_ + 1 + 8
              · have HX := hid (show res = ([], (10 : Int)) from by
                  rw [HRJ.out, HNJ.out, HDR.out, more_err (ro1s hk (by omega))]
                  rfl)
                have i3 : (s.length : Int) < (at_ : Int) + 1 + 8 := by omega
                clear hk hk256 hdl
                have th := (HG2.out).res.there 0 2 (by simp)
                have HE := hid ((HG2.out).end_ (.slice none 0 0) 10)
                have HRR := hid (show res = ([], (10 : Int)) from HX.out)
                go_wp2_with (refine wpList_store_mid rfl 116 (.tmp 2) (.tmp 50) rfl w.heap.size 0 #[.slice none 0 0, .int .i64 10] rfl rfl th size_Got2 (by simp [Value.oneCell']) ?_)
                refine bodyPost_ret (v := .agg [.slice none 0 0, .int .i64 10].toArray) (results_cell_mid (b := w.heap.size) (o := 0) rfl _ _ rfl (cs := [.slice none 0 0, .int .i64 10]) (Blk.all _ HE.out.1) Try.underlying116 rfl size_Got2) rfl ?_
                rw [HRR.out]
                exact ⟨none, 0, rfl, Row.nil, HE.out.2.1⟩
              · have HS := hid (show res = finV (more (l ++ [⟨1, int8 ((s.drop (at_ + 1)).take 8), []⟩]) (readN (n - (j + 1)) (s.drop (at_ + 1 + 8)))) from by rw [HRJ.out, HNJ.out, HDR.out, more_step (ro1 hk (by omega)), List.drop_drop])
                have i3 : ¬ (s.length : Int) < (at_ : Int) + 1 + 8 := by omega
                have BV := hid (Blk.new wr [.int .i64 1, .int .i64 0, .string ⟨#[]⟩] 53)
                have FV := hid ((Fr.refl (fun _ => False) wr).alloc (.cells #[.int .i64 1, .int .i64 0, .string ⟨#[]⟩] 53))
                have H81 := hid h8
                clear hk hk256 hdl h8 HG2
                go_wp2_with (fail)
                generalize hdv : wr.heap.size = dv at *
                have HDV := hid hdv
                clear hdv
                generalize hw2 : wr.alloc _ = W2 at *
                clear hw2
                go_loopw [8] (fun i8 wt => ∃ (i : Nat), i ≤ 8 ∧ i8 = .int .i64 i ∧ Blk wt dv [.int .i64 1, .int .i64 (IntKind.i64.wrap (num ((s.drop (at_ + 1)).take i))), .string ⟨#[]⟩] 53 ∧ Fr (fun _ => False) wr wt) (fun i8 _ => 8 - (intOf i8).toNat)
                case atStart => exact ⟨0, by omega, rfl, BV.out, FV.out⟩
                case round =>
                  obtain ⟨i, hi, rfl, hb, hf⟩ := hrel
                  have HB := hid hb
                  have HF := hid hf
                  clear hb hf BV FV
                  by_cases hi8 : i < 8
                  · obtain ⟨y, hy⟩ : ∃ y, y = at_ + 1 + i := ⟨_, rfl⟩
                    have hai : y < s.length := by have := H81.out; omega
                    have hti : ((s.drop (at_ + 1)).take (i + 1)) = (s.drop (at_ + 1)).take i ++ [s[y]] := by
                      rw [List.take_succ_eq_append_getElem (by rw [List.length_drop]; omega)]
                      congr 2
                      rw [List.getElem_drop]
                      simp only [hy]
                    have HWS := hid (wrap_step ((s.drop (at_ + 1)).take i) s[y])
                    rw [← hti] at HWS
                    have hkb := bs_get s hai rfl
                    have hkb256 := s[y].toNat_lt
                    obtain ⟨x', hx'⟩ : ∃ x', x' = IntKind.i64.wrap (num ((s.drop (at_ + 1)).take (i + 1))) := ⟨_, rfl⟩
                    rw [← hx'] at HWS
                    have HXX := hid hx'
                    generalize IntKind.i64.wrap (num ((s.drop (at_ + 1)).take i)) = x at *
                    generalize s[y].toNat = kb at *
                    obtain ⟨y1, hy1⟩ : ∃ y, y = wrap64 (x * 256) := ⟨_, rfl⟩
                    rw [← hy1] at HWS
                    have HY1 := hid hy1.symm
                    have HYI := hid (show ((at_ : Int) + 1 + (i : Int)) = (y : Int) from by omega)
                    have HWA := hid (show IntKind.i64.wrap ((at_ : Int) + 1 + (i : Int)) = (y : Int) from by rw [IntKind.wrap_i64]; omega)
                    have HWB := hid (show wrap64 ((at_ : Int) + 1 + (i : Int)) = (y : Int) from by rw [wrap64_eq]; exact HWA.out)
                    clear hti hx' hy1 hy
                    have i4 : (i : Int) < 8 := by omega
                    have i5 : (0 : Int) ≤ (y : Int) := by omega
                    have i6 : (y : Int) < (s.length : Int) := by omega
                    go_upto_region 24 with fail
                    have HB1 := hid HB.out.drew
                    have HZ := hid (HB.out.set 1 (.int .i64 x')).drew
                    have HFZ := hid (HF.out.setCell ⟨dv, 1, none⟩ (.int .i64 x') (fun h => by have := HDV.out; dsimp only at h; omega)).drew
                    refine wp_region_scr (.take 0 (.take 1 (.take 2 (.take 3 (.take 4 (.take 5 (.take 6 (.take 7 (.take 8 (.take 9 (.take 10 (.op 11 .done)))))))))))) (fun kz w => (kz ≤ 11 → w.cell? ⟨dv, 1, none⟩ = some (.int .i64 x)) ∧ True) (by kernel_rfl) (by kernel_rfl) (by intro c a d v w h; cases d <;> exact h) ?_
                    repeat
                      first
                      | (refine wpT_pure rfl rfl rfl ?_; apply Exists.intro; refine ⟨?_, ?_⟩; intro w; (first | (first | (refine Eq.trans (b := Result.ok (Next.value (.int .i64 (y : Int))) w) ?_ rfl; go_simp; first | exact HWA.out | rw [HWA.out]) | (refine Eq.trans (b := Result.ok (Next.value (.int .i64 y1)) w) ?_ rfl; go_simp; first | exact HY1.out | rw [HY1.out]) | (refine Eq.trans (b := Result.ok (Next.value (.int .i64 x')) w) ?_ rfl; go_simp; first | exact HWS.out | rw [HWS.out])) | (go_simp <;> rfl)); simp only [Act.put, List.setIfInBounds_toArray, List.set_cons_zero, List.set_cons_succ])
                      | (refine wpT_take 11 rfl rfl (by decide +kernel) ⟨fun _ => HB1.out.cell 1, trivial⟩ ?_; apply Exists.intro; refine ⟨?_, ?_⟩; intro w hw; (have qa := hw.1 (Nat.le_refl _); have qb := hw.2); (first | (first | (refine Eq.trans (b := Result.ok (Next.value (.int .i64 (y : Int))) w) ?_ rfl; go_simp; first | exact HWA.out | rw [HWA.out]) | (refine Eq.trans (b := Result.ok (Next.value (.int .i64 y1)) w) ?_ rfl; go_simp; first | exact HY1.out | rw [HY1.out]) | (refine Eq.trans (b := Result.ok (Next.value (.int .i64 x')) w) ?_ rfl; go_simp; first | exact HWS.out | rw [HWS.out])) | (go_simp <;> rfl)); simp only [Act.put, List.setIfInBounds_toArray, List.set_cons_zero, List.set_cons_succ])
                      | (refine wpT_skip rfl rfl ?_; simp only [Act.put, List.setIfInBounds_toArray, List.set_cons_zero, List.set_cons_succ])
                    have kb1 : wr.drew.cell? ⟨dv, 1, none⟩ = some (.int .i64 x) := HB1.out.cell 1
                    have kz1 := HB1.out.frozen 1
                    refine wpT_op rfl ?_
                    go_wp2_with (fail)
                    rw [HY1.out, HWS.out]
                    refine ⟨fun kz hk hk2 hh => (by first | exact ⟨fun h => absurd h (by omega), trivial⟩ | exact fun h => absurd h (by omega)), ?_⟩
                    refine wpT_nil ?_
                    clear kb1 kz1
                    go_wp2_with (fail)
                    go_roundw
                    case rel => exact ⟨i + 1, by omega, by simp, by rw [← HXX.out]; exact HZ.out, HFZ.out⟩
                    case measure => simp [intOf]; omega
                  · obtain rfl : i = 8 := by omega
                    obtain ⟨z, hz⟩ : ∃ z, z = int8 ((s.drop (at_ + 1)).take 8) := ⟨_, rfl⟩
                    have HB8 : Hid (Blk wr dv [.int .i64 1, .int .i64 z, .string ⟨#[]⟩] 53) := hid (by rw [hz]; exact HB.out)
                    rw [← hz] at HS
                    clear HB hz
                    have HG3 := hid (HG.out.fre HF.out)
                    have q0 : wr.cell? ⟨dv, 0, none⟩ = some (.int .i64 1) := HB8.out.cell 0
                    have q1 : wr.cell? ⟨dv, 1, none⟩ = some (.int .i64 z) := HB8.out.cell 1
                    have q2 : wr.cell? ⟨dv, 2, none⟩ = some (.string ⟨#[]⟩) := HB8.out.cell 2
                    go_wp2_with (first | (at_builtin; refine wpList_app1 rfl (s := .tmp 103) (x := .tmp 105) (t := 23) rfl Try.underlying23 info_val val_cells rfl rfl HG3.out.row HG3.out.size rfl (by simp [Value.oneCell']) (by have := HLJ.out; omega) (by have := HLJ.out; omega) ?_; intro ab ac wg APP; have HZ := hid (HG3.out.grow (v := ⟨1, z, []⟩) APP); clear APP))
                    go_roundw
                    case rel => exact ⟨j + 1, at_ + 1 + 8, l ++ [⟨1, z, []⟩], by omega, by have := H81.out; omega, by simp, by simp, by have := HLJ.out; simp; omega, HZ.out, HS.out⟩
                    case measure => simp [intOf]; omega
            · -- a text
              have hkk := bs_get s hlt hk
              have HG2 := hid (HG.out.fre ((Fr.refl (fun _ => False) wr).alloc (.cells #[.int .i64 2, .int .i64 0, .string ⟨#[]⟩] 53)))
              by_cases hend2 : at_ + 1 = s.length
              · have HX := hid (show res = ([], (10 : Int)) from by
                  rw [HRJ.out, HNJ.out, HDR.out, hend2, List.drop_length, more_err (ro2n hk)]
                  rfl)
                have i3 : (s.length : Int) ≤ (at_ : Int) + 1 := by omega
                clear hk hk256 hdl
                have th := (HG2.out).res.there 0 2 (by simp)
                have HE := hid ((HG2.out).end_ (.slice none 0 0) 10)
                have HRR := hid (show res = ([], (10 : Int)) from HX.out)
                go_wp2_with (refine wpList_store_mid rfl 116 (.tmp 2) (.tmp 74) rfl w.heap.size 0 #[.slice none 0 0, .int .i64 10] rfl rfl th size_Got2 (by simp [Value.oneCell']) ?_)
                refine bodyPost_ret (v := .agg [.slice none 0 0, .int .i64 10].toArray) (results_cell_mid (b := w.heap.size) (o := 0) rfl _ _ rfl (cs := [.slice none 0 0, .int .i64 10]) (Blk.all _ HE.out.1) Try.underlying116 rfl size_Got2) rfl ?_
                rw [HRR.out]
                exact ⟨none, 0, rfl, Row.nil, HE.out.2.1⟩
              · have hlt2 : at_ + 1 < s.length := by omega
                have hdr2 : s.drop (at_ + 1) = s[at_ + 1] :: s.drop (at_ + 1 + 1) := List.drop_eq_getElem_cons hlt2
                have hdl2 : (s.drop (at_ + 1 + 1)).length = s.length - (at_ + 1 + 1) := List.length_drop
                have hmm := bs_get s hlt2 rfl
                have hm256 := s[at_ + 1].toNat_lt
                have i3 : ¬ (s.length : Int) ≤ (at_ : Int) + 1 := by omega
                have i3b : ((at_ : Int) + 1) < (s.length : Int) := by omega
                obtain ⟨m, hm⟩ : ∃ m, m = s[at_ + 1].toNat := ⟨_, rfl⟩
                by_cases h40 : 40 < m
                · have HX := hid (show res = ([], (2 : Int)) from by
                    rw [HRJ.out, HNJ.out, HDR.out, hdr2, more_err (ro2m hk (by rw [← hm]; exact h40))]
                    rfl)
                  rw [← hm] at hmm hm256
                  have i4 : (40 : Int) < (m : Int) := by omega
                  clear hk hk256 hdl hm hdr2 hdl2
                  have th := (HG2.out).res.there 0 2 (by simp)
                  have HE := hid ((HG2.out).end_ (.slice none 0 0) 2)
                  have HRR := hid (show res = ([], (2 : Int)) from HX.out)
                  go_wp2_with (refine wpList_store_mid rfl 116 (.tmp 2) (.tmp 81) rfl w.heap.size 0 #[.slice none 0 0, .int .i64 2] rfl rfl th size_Got2 (by simp [Value.oneCell']) ?_)
                  refine bodyPost_ret (v := .agg [.slice none 0 0, .int .i64 2].toArray) (results_cell_mid (b := w.heap.size) (o := 0) rfl _ _ rfl (cs := [.slice none 0 0, .int .i64 2]) (Blk.all _ HE.out.1) Try.underlying116 rfl size_Got2) rfl ?_
                  rw [HRR.out]
                  exact ⟨none, 0, rfl, Row.nil, HE.out.2.1⟩
                · by_cases hshort : s.length - (at_ + 1 + 1) < m
                  · have HX := hid (show res = ([], (10 : Int)) from by
                      rw [HRJ.out, HNJ.out, HDR.out, hdr2, more_err (ro2s hk (by rw [← hm]; exact h40) (by rw [hdl2, ← hm]; exact hshort))]
                      rfl)
                    rw [← hm] at hmm hm256
                    have i4 : ¬ (40 : Int) < (m : Int) := by omega
                    have i5 : (s.length : Int) < (at_ : Int) + 1 + 1 + (m : Int) := by omega
                    clear hk hk256 hdl hm hdr2 hdl2
                    have th := (HG2.out).res.there 0 2 (by simp)
                    have HE := hid ((HG2.out).end_ (.slice none 0 0) 10)
                    have HRR := hid (show res = ([], (10 : Int)) from HX.out)
                    go_wp2_with (refine wpList_store_mid rfl 116 (.tmp 2) (.tmp 89) rfl w.heap.size 0 #[.slice none 0 0, .int .i64 10] rfl rfl th size_Got2 (by simp [Value.oneCell']) ?_)
                    refine bodyPost_ret (v := .agg [.slice none 0 0, .int .i64 10].toArray) (results_cell_mid (b := w.heap.size) (o := 0) rfl _ _ rfl (cs := [.slice none 0 0, .int .i64 10]) (Blk.all _ HE.out.1) Try.underlying116 rfl size_Got2) rfl ?_
                    rw [HRR.out]
                    exact ⟨none, 0, rfl, Row.nil, HE.out.2.1⟩
                  · have HS := hid (show res = finV (more (l ++ [⟨2, 0, (s.drop (at_ + 1 + 1)).take m⟩]) (readN (n - (j + 1)) (s.drop (at_ + 1 + 1 + m)))) from by
                      rw [HRJ.out, HNJ.out, HDR.out, hdr2, more_step (ro2 hk (by rw [← hm]; exact h40) (by rw [hdl2, ← hm]; exact hshort)), ← hm, List.drop_drop])
                    rw [← hm] at hmm hm256
                    have i4 : ¬ (40 : Int) < (m : Int) := by omega
                    have i5 : ¬ (s.length : Int) < (at_ : Int) + 1 + 1 + (m : Int) := by omega
                    have i6 : (at_ : Int) + 1 + 1 + (m : Int) ≤ (s.length : Int) := by omega
                    have hex := ex_take s (at_ + 1 + 1) m
                    have H2 := hid (show at_ + 1 + 1 + m ≤ s.length by omega)
                    clear hk hk256 hdl hm hdr2 hdl2 hshort
                    generalize (s.drop (at_ + 1 + 1)).take m = tx at *
                    have HG5 := hid (HG.out.fre ((Fr.refl (fun _ => False) wr).alloc (.cells #[.int .i64 2, .int .i64 0, .string (bs tx)] 53)))
                    clear HG2
                    go_wp2_with (first | (at_builtin; refine wpList_app1 rfl (s := .tmp 103) (x := .tmp 105) (t := 23) rfl Try.underlying23 info_val val_cells rfl (by rw [World.size_alloc]; rfl) HG5.out.row HG5.out.size rfl (by simp [Value.oneCell']) (by have := HLJ.out; omega) (by have := HLJ.out; omega) ?_; intro ab ac wg APP; have HZ := hid (HG5.out.grow (v := ⟨2, 0, tx⟩) APP); clear APP))
                    go_roundw
                    case rel => exact ⟨j + 1, at_ + 1 + 1 + m, l ++ [⟨2, 0, tx⟩], by omega, by have := H2.out; omega, by simp, by simp, by have := HLJ.out; simp; omega, HZ.out, HS.out⟩
                    case measure => simp [intOf]; omega
            · -- any other kind
              have hkk := bs_get s hlt rfl
              obtain ⟨kk, hkv⟩ : ∃ kk, kk = s[at_].toNat := ⟨_, rfl⟩
              have HX := hid (show res = ([], (11 : Int)) from by
                rw [HRJ.out, HNJ.out, HDR.out, more_err (rox hk)]
                rfl)
              rw [← hkv] at hkk hk hk256
              have HG2 := hid (HG.out.fre ((Fr.refl (fun _ => False) wr).alloc (.cells #[.int .i64 kk, .int .i64 0, .string ⟨#[]⟩] 53)))
              have kb0 : ((kk : Int) == 0) = false := by rw [beq_eq_false_iff_ne]; omega
              have kb1 : ((kk : Int) == 1) = false := by rw [beq_eq_false_iff_ne]; omega
              have kb2 : ((kk : Int) == 2) = false := by rw [beq_eq_false_iff_ne]; omega
              clear hdl hkv hk
              have th := (HG2.out).res.there 0 2 (by simp)
              have HE := hid ((HG2.out).end_ (.slice none 0 0) 11)
              have HRR := hid (show res = ([], (11 : Int)) from HX.out)
              go_wp2_with (refine wpList_store_mid rfl 116 (.tmp 2) (.tmp 40) rfl w.heap.size 0 #[.slice none 0 0, .int .i64 11] rfl rfl th size_Got2 (by simp [Value.oneCell']) ?_)
              refine bodyPost_ret (v := .agg [.slice none 0 0, .int .i64 11].toArray) (results_cell_mid (b := w.heap.size) (o := 0) rfl _ _ rfl (cs := [.slice none 0 0, .int .i64 11]) (Blk.all _ HE.out.1) Try.underlying116 rfl size_Got2) rfl ?_
              rw [HRR.out]
              exact ⟨none, 0, rfl, Row.nil, HE.out.2.1⟩
        · obtain rfl : j = n := by omega
          have HS := hid (show res = finV (.ok (l, s.drop at_)) from by
            rw [HRJ.out, Nat.sub_self]
            simp [readN, more])
          by_cases hend : at_ = s.length
          · have hb : ((at_ : Int) != (s.length : Int)) = false := by rw [bne_eq_false_iff_eq]; omega
            have HRR := hid (show res = (l, (0 : Int)) from by rw [HS.out, hend, List.drop_length]; rfl)
            clear hend
            have th := (HG.out).res.there 0 2 (by simp)
            have HE := hid ((HG.out).end_ (.slice a5 l.length c5) 0)
            go_wp2_with (refine wpList_store_mid rfl 116 (.tmp 2) (.tmp 113) rfl w.heap.size 0 #[.slice a5 l.length c5, .int .i64 0] rfl rfl th size_Got2 (by simp [Value.oneCell']) ?_)
            refine bodyPost_ret (v := .agg [.slice a5 l.length c5, .int .i64 0].toArray) (results_cell_mid (b := w.heap.size) (o := 0) rfl _ _ rfl (cs := [.slice a5 l.length c5, .int .i64 0]) (Blk.all _ HE.out.1) Try.underlying116 rfl size_Got2) rfl ?_
            rw [HRR.out]
            exact ⟨a5, c5, rfl, HE.out.2.2, HE.out.2.1⟩
          · have hb : ((at_ : Int) != (s.length : Int)) = true := by rw [bne_iff_ne]; omega
            have HX := hid (show res = ([], (11 : Int)) from by
              rw [HS.out, List.drop_eq_getElem_cons (show at_ < s.length by omega)]
              rfl)
            clear hend
            have th := (HG.out).res.there 0 2 (by simp)
            have HE := hid ((HG.out).end_ (.slice none 0 0) 11)
            have HRR := hid (show res = ([], (11 : Int)) from HX.out)
            go_wp2_with (refine wpList_store_mid rfl 116 (.tmp 2) (.tmp 111) rfl w.heap.size 0 #[.slice none 0 0, .int .i64 11] rfl rfl th size_Got2 (by simp [Value.oneCell']) ?_)
            refine bodyPost_ret (v := .agg [.slice none 0 0, .int .i64 11].toArray) (results_cell_mid (b := w.heap.size) (o := 0) rfl _ _ rfl (cs := [.slice none 0 0, .int .i64 11]) (Blk.all _ HE.out.1) Try.underlying116 rfl size_Got2) rfl ?_
            rw [HRR.out]
            exact ⟨none, 0, rfl, Row.nil, HE.out.2.1⟩
end Go.Proofs.Ytfhkmiifndhacaa

/- The reference's reader: numbers and texts. -/
namespace Go.Proofs.Ytfhkmiifndhacaa
open Go.RowKit Go.VB Go.VB.Oct Go.VB.Rec
/-- the reference's reader at p stands where rm does -/
structure R4 (w : World) (p a : Nat) (rm : RM) : Prop where
  blk : Blk w p [.string (bs rm.s), .int .i64 a, .bool rm.failed] 114
  at_ : rm.failed = false → a = rm.at_
theorem R4.fr {S : Nat → Prop} {w w' : World} {p a : Nat} {rm : RM} (h : R4 w p a rm) (f : Fr S w w') (hS : ¬ S p) : R4 w' p a rm := ⟨h.blk.fr f hS, h.at_⟩
theorem R4.fre {w w' : World} {p a : Nat} {rm : RM} (h : R4 w p a rm) (f : Fr (fun _ => False) w w') : R4 w' p a rm := ⟨Blk.fr h.blk f (fun h => h), h.at_⟩
/-- the reader's three cells -/
structure R4C (w : World) (p : Nat) (s : List UInt8) (a : Nat) (b : Bool) : Prop where
  c0 : w.cell? ⟨p, 0, none⟩ = some (.string (bs s))
  c1 : w.cell? ⟨p, 1, none⟩ = some (.int .i64 a)
  c2 : w.cell? ⟨p, 2, none⟩ = some (.bool b)
theorem num_bad {rm : RM} (hf : rm.failed = false) {k : Nat} (h : rm.left < k) : rm.num k = ({ rm with failed := true }, 0) := by
  unfold RM.num RM.take RM.bad
  rw [if_pos (by rw [hf]; simpa using h)]
  rfl
theorem num_good {rm : RM} (hf : rm.failed = false) {k : Nat} (h : ¬ rm.left < k) : rm.num k = ({ rm with at_ := rm.at_ + k }, num ((rm.s.drop rm.at_).take k)) := by
  unfold RM.num RM.take RM.bad
  rw [if_neg (by rw [hf]; simpa using h)]
set_option maxRecDepth 20000 in
set_option maxHeartbeats 8000000 in
theorem r4num_go {w : World} {p a : Nat} {rm : RM} (h : R4 w p a rm) (ok : rm.Ok) (k : Nat) (hk : k ≤ 4) : Calls Try.prog 84 #[.pointer (some ⟨p, 0, none⟩), .int .i64 k] w fun e w' => e = .returned (.int .i64 (rm.num k).2) ∧ (∃ a', R4 w' p a' (rm.num k).1) ∧ Fr (fun b => b = p) w w' := by
  obtain ⟨s, at_, f⟩ := rm
  obtain ⟨hle, hlen⟩ := ok
  have HB := hid h.blk
  have HAT := hid h.at_
  dsimp only at HB HAT hle hlen
  have e1 := bs_size s
  clear h
  have C0 : Hid (R4C w.drew p s a f) := hid ⟨HB.out.drew.cell 0, HB.out.drew.cell 1, HB.out.drew.cell 2⟩
  cases f with
  | true =>
    rw [RM.num_failed (r := ⟨s, at_, true⟩) rfl]
    have HS := hid (HB.out.set 2 (.bool true)).drew
    have c2 : w.drew.cell? ⟨p, 2, none⟩ = some (.bool true) := C0.out.c2
    have z2 := HB.out.drew.frozen 2
    have FS := hid ((Fr.refl (fun b => b = p) w).setCell ⟨p, 2, none⟩ (.bool true) (fun _ => rfl)).drew
    go_enter Try.func84, Try.ntmps84
    go_wp2_with (fail)
    refine wp_region_scr (.take 0 (.take 1 (.take 2 (.take 3 (.take 4 (.take 5 (.take 6 (.take 7 (.take 8 (.take 9 (.take 10 (.take 11 (.take 12 (.take 13 (.take 14 (.take 15 (.take 16 (.take 17 .done)))))))))))))))))) (fun kz w => (kz ≤ 18 → R4C w p s a true) ∧ True) (by kernel_rfl) (by kernel_rfl) (by intro c a d v w h; cases d <;> exact h) ?_
    repeat
      first
      | (refine wpT_pure rfl rfl rfl ?_; apply Exists.intro; refine ⟨?_, ?_⟩; intro w; (first | (obtain ⟨z0, z1, z2⟩ := qa; go_simp <;> rfl) | (go_simp <;> rfl)); simp only [Act.put, List.setIfInBounds_toArray, List.set_cons_zero, List.set_cons_succ])
      | (refine wpT_take 18 rfl rfl (by decide +kernel) ⟨fun _ => C0.out, trivial⟩ ?_; apply Exists.intro; refine ⟨?_, ?_⟩; intro w hw; (have qa := hw.1 (Nat.le_refl _); have qb := hw.2); (first | (obtain ⟨z0, z1, z2⟩ := qa; go_simp <;> rfl) | (go_simp <;> rfl)); simp only [Act.put, List.setIfInBounds_toArray, List.set_cons_zero, List.set_cons_succ])
      | (refine wpT_skip rfl rfl ?_; simp only [Act.put, List.setIfInBounds_toArray, List.set_cons_zero, List.set_cons_succ])
    refine wpT_nil ?_
    go_wp2_with (fail)
    go_ret
    exact ⟨rfl, ⟨a, HS.out, fun h => by simp at h⟩, FS.out⟩
  | false =>
    obtain rfl : a = at_ := HAT.out rfl
    clear HAT
    have i0 : (0 : Int) ≤ (a : Int) := by omega
    by_cases hsh : s.length - a < k
    · rw [num_bad (rm := ⟨s, a, false⟩) rfl hsh]
      have HS := hid (HB.out.set 2 (.bool true)).drew
      have c2 : w.drew.cell? ⟨p, 2, none⟩ = some (.bool false) := C0.out.c2
      have z2 := HB.out.drew.frozen 2
      have FS := hid ((Fr.refl (fun b => b = p) w).setCell ⟨p, 2, none⟩ (.bool true) (fun _ => rfl)).drew
      have i1 : (s.length : Int) < (a : Int) + (k : Int) := by omega
      have HWA := hid (show wrap64 ((a : Int) + (k : Int)) = ((a + k : Nat) : Int) from by unfold wrap64; omega)
      have HWB := hid (show IntKind.i64.wrap ((a : Int) + (k : Int)) = ((a + k : Nat) : Int) from by rw [← wrap64_eq]; exact HWA.out)
      have hdec : decide ((s.length : Int) < ((a + k : Nat) : Int)) = true := decide_eq_true (by omega)
      have hdec2 : decide (s.length < a + k) = true := decide_eq_true (by omega)
      go_enter Try.func84, Try.ntmps84
      go_wp2_with (fail)
      refine wp_region_scr (.take 0 (.take 1 (.take 2 (.take 3 (.take 4 (.take 5 (.take 6 (.take 7 (.take 8 (.take 9 (.take 10 (.take 11 (.take 12 (.take 13 (.take 14 (.take 15 (.take 16 (.take 17 .done)))))))))))))))))) (fun kz w => (kz ≤ 18 → R4C w p s a false) ∧ True) (by kernel_rfl) (by kernel_rfl) (by intro c a d v w h; cases d <;> exact h) ?_
      repeat
        first
        | (refine wpT_pure rfl rfl rfl ?_; apply Exists.intro; refine ⟨?_, ?_⟩; intro w; (first | (first | (refine Eq.trans (b := Result.ok (Next.value (.int .i64 ((a + k : Nat) : Int))) w) ?_ rfl; go_simp; first | exact HWB.out | rw [HWB.out] | exact HWA.out | rw [HWA.out]) | (obtain ⟨z0, z1, z2⟩ := qa; go_simp <;> rfl)) | (go_simp <;> rfl)); simp only [Act.put, List.setIfInBounds_toArray, List.set_cons_zero, List.set_cons_succ])
        | (refine wpT_take 18 rfl rfl (by decide +kernel) ⟨fun _ => C0.out, trivial⟩ ?_; apply Exists.intro; refine ⟨?_, ?_⟩; intro w hw; (have qa := hw.1 (Nat.le_refl _); have qb := hw.2); (first | (first | (refine Eq.trans (b := Result.ok (Next.value (.int .i64 ((a + k : Nat) : Int))) w) ?_ rfl; go_simp; first | exact HWB.out | rw [HWB.out] | exact HWA.out | rw [HWA.out]) | (obtain ⟨z0, z1, z2⟩ := qa; go_simp <;> rfl)) | (go_simp <;> rfl)); simp only [Act.put, List.setIfInBounds_toArray, List.set_cons_zero, List.set_cons_succ])
        | (refine wpT_skip rfl rfl ?_; simp only [Act.put, List.setIfInBounds_toArray, List.set_cons_zero, List.set_cons_succ])
      refine wpT_nil ?_
      go_wp2_with (fail)
      go_ret
      exact ⟨rfl, ⟨a, HS.out, fun h => by simp at h⟩, FS.out⟩
    · rw [num_good (rm := ⟨s, a, false⟩) rfl hsh]
      have i1 : ¬ (s.length : Int) < (a : Int) + (k : Int) := by omega
      have HWA := hid (show wrap64 ((a : Int) + (k : Int)) = ((a + k : Nat) : Int) from by unfold wrap64; omega)
      have HWB := hid (show IntKind.i64.wrap ((a : Int) + (k : Int)) = ((a + k : Nat) : Int) from by rw [← wrap64_eq]; exact HWA.out)
      have hdec : decide ((s.length : Int) < ((a + k : Nat) : Int)) = false := decide_eq_false (by omega)
      have hdec2 : decide (s.length < a + k) = false := decide_eq_false (by omega)
      have HSH := hid hsh
      clear hsh
      go_enter Try.func84, Try.ntmps84
      go_wp2_with (fail)
      refine wp_region_scr (.take 0 (.take 1 (.take 2 (.take 3 (.take 4 (.take 5 (.take 6 (.take 7 (.take 8 (.take 9 (.take 10 (.take 11 (.take 12 (.take 13 (.take 14 (.take 15 (.take 16 (.take 17 .done)))))))))))))))))) (fun kz w => (kz ≤ 18 → R4C w p s a false) ∧ True) (by kernel_rfl) (by kernel_rfl) (by intro c a d v w h; cases d <;> exact h) ?_
      repeat
        first
        | (refine wpT_pure rfl rfl rfl ?_; apply Exists.intro; refine ⟨?_, ?_⟩; intro w; (first | (first | (refine Eq.trans (b := Result.ok (Next.value (.int .i64 ((a + k : Nat) : Int))) w) ?_ rfl; go_simp; first | exact HWB.out | rw [HWB.out] | exact HWA.out | rw [HWA.out]) | (obtain ⟨z0, z1, z2⟩ := qa; go_simp <;> rfl)) | (go_simp <;> rfl)); simp only [Act.put, List.setIfInBounds_toArray, List.set_cons_zero, List.set_cons_succ])
        | (refine wpT_take 18 rfl rfl (by decide +kernel) ⟨fun _ => C0.out, trivial⟩ ?_; apply Exists.intro; refine ⟨?_, ?_⟩; intro w hw; (have qa := hw.1 (Nat.le_refl _); have qb := hw.2); (first | (first | (refine Eq.trans (b := Result.ok (Next.value (.int .i64 ((a + k : Nat) : Int))) w) ?_ rfl; go_simp; first | exact HWB.out | rw [HWB.out] | exact HWA.out | rw [HWA.out]) | (obtain ⟨z0, z1, z2⟩ := qa; go_simp <;> rfl)) | (go_simp <;> rfl)); simp only [Act.put, List.setIfInBounds_toArray, List.set_cons_zero, List.set_cons_succ])
        | (refine wpT_skip rfl rfl ?_; simp only [Act.put, List.setIfInBounds_toArray, List.set_cons_zero, List.set_cons_succ])
      refine wpT_nil ?_
      go_wp2_with (fail)
      clear hdec hdec2 i1 C0
      go_loopw [5, 6] (fun n5 i wr => ∃ j : Nat, j ≤ k ∧ n5 = .int .i64 (num ((s.drop a).take j) : Int) ∧ i = .int .i64 j ∧ Fr (fun _ => False) w wr) (fun _ i _ => k - (intOf i).toNat)
      case atStart => exact ⟨0, by omega, rfl, rfl, (Fr.refl _ w).drew⟩
      case round =>
        obtain ⟨j, hj, rfl, rfl, fr⟩ := hrel
        have FR := hid fr
        have HBR := hid (Blk.fr HB.out fr (fun h => h))
        clear fr
        by_cases hjk : j < k
        · obtain ⟨y, hy⟩ : ∃ y, y = a + j := ⟨_, rfl⟩
          have hai : y < s.length := by have := HSH.out; omega
          have hti : ((s.drop a).take (j + 1)) = (s.drop a).take j ++ [s[y]] := by
            rw [List.take_succ_eq_append_getElem (by rw [List.length_drop]; omega)]
            congr 2
            rw [List.getElem_drop]
            simp only [hy]
          have hnl := num_lt ((s.drop a).take j)
          have hpl : 256 ^ ((s.drop a).take j).length ≤ 256 ^ 4 := Nat.pow_le_pow_right (by omega) (by rw [List.length_take]; omega)
          have hns : num ((s.drop a).take (j + 1)) = num ((s.drop a).take j) * 256 + s[y].toNat := by rw [hti, num_snoc]
          have HNS := hid hns
          have hkb := bs_get s hai rfl
          have hkb256 := s[y].toNat_lt
          generalize num ((s.drop a).take j) = N at *
          generalize s[y].toNat = kb at *
          have hN : N < 4294967296 := by omega
          have HM1 := hid (show wrap64 ((N : Int) * 256) = ((N * 256 : Nat) : Int) from by unfold wrap64; omega)
          have HM2 := hid (show IntKind.i64.wrap ((N : Int) * 256) = ((N * 256 : Nat) : Int) from by rw [← wrap64_eq]; exact HM1.out)
          have HM3 := hid (show wrap64 (((N * 256 : Nat) : Int) + (kb : Int)) = ((N * 256 + kb : Nat) : Int) from by unfold wrap64; omega)
          have HM4 := hid (show IntKind.i64.wrap (((N * 256 : Nat) : Int) + (kb : Int)) = ((N * 256 + kb : Nat) : Int) from by rw [← wrap64_eq]; exact HM3.out)
          have HY1 := hid (show wrap64 ((a : Int) + (j : Int)) = (y : Int) from by unfold wrap64; omega)
          have HY2 := hid (show IntKind.i64.wrap ((a : Int) + (j : Int)) = (y : Int) from by rw [← wrap64_eq]; exact HY1.out)
          have HK1 := hid (show IntKind.i64.wrap (kb : Int) = (kb : Int) from by rw [IntKind.wrap_i64]; omega)
          clear hti hnl hpl hns hy
          have i4 : (j : Int) < (k : Int) := by omega
          have i5 : (0 : Int) ≤ (y : Int) := by omega
          have i6 : (y : Int) < (s.length : Int) := by omega
          have C1 : Hid (R4C wr.drew p s a false) := hid ⟨HBR.out.drew.cell 0, HBR.out.drew.cell 1, HBR.out.drew.cell 2⟩
          go_upto_region 8 with fail
          generalize hM : N * 256 = M at *
          have HMM := hid hM
          clear hM
          obtain ⟨Z, hZ⟩ : ∃ Z, Z = M + kb := ⟨_, rfl⟩
          rw [← hZ] at HM3 HM4
          have HZZ := hid hZ
          clear hZ hkb256 hN
          refine wp_region_scr (.take 0 (.take 1 (.take 2 (.take 3 (.take 4 (.take 5 (.take 6 (.take 7 (.take 8 (.take 9 (.take 10 (.take 11 (.take 12 (.take 13 (.take 14 (.take 15 .done)))))))))))))))) (fun kz w => (kz ≤ 15 → R4C w p s a false) ∧ True) (by kernel_rfl) (by kernel_rfl) (by intro c a d v w h; cases d <;> exact h) ?_
          repeat
            first
            | (refine wpT_pure rfl rfl rfl ?_; apply Exists.intro; refine ⟨?_, ?_⟩; intro w; (first | (first | (refine Eq.trans (b := Result.ok (Next.value (.int .i64 (y : Int))) w) ?_ rfl; go_simp; first | exact HY2.out | rw [HY2.out] | exact HY1.out | rw [HY1.out]) | (refine Eq.trans (b := Result.ok (Next.value (.int .i64 (kb : Int))) w) ?_ rfl; go_simp; first | exact HK1.out | rw [HK1.out]) | (refine Eq.trans (b := Result.ok (Next.value (.int .i64 (M : Int))) w) ?_ rfl; go_simp; first | exact HM2.out | rw [HM2.out] | exact HM1.out | rw [HM1.out]) | (refine Eq.trans (b := Result.ok (Next.value (.int .i64 (Z : Int))) w) ?_ rfl; go_simp; first | exact HM4.out | rw [HM4.out] | exact HM3.out | rw [HM3.out]) | (obtain ⟨z0, z1, z2⟩ := qa; go_simp <;> rfl)) | (go_simp <;> rfl)); simp only [Act.put, List.setIfInBounds_toArray, List.set_cons_zero, List.set_cons_succ])
            | (refine wpT_take 15 rfl rfl (by decide +kernel) ⟨fun _ => C1.out, trivial⟩ ?_; apply Exists.intro; refine ⟨?_, ?_⟩; intro w hw; (have qa := hw.1 (Nat.le_refl _); have qb := hw.2); (first | (first | (refine Eq.trans (b := Result.ok (Next.value (.int .i64 (y : Int))) w) ?_ rfl; go_simp; first | exact HY2.out | rw [HY2.out] | exact HY1.out | rw [HY1.out]) | (refine Eq.trans (b := Result.ok (Next.value (.int .i64 (kb : Int))) w) ?_ rfl; go_simp; first | exact HK1.out | rw [HK1.out]) | (refine Eq.trans (b := Result.ok (Next.value (.int .i64 (M : Int))) w) ?_ rfl; go_simp; first | exact HM2.out | rw [HM2.out] | exact HM1.out | rw [HM1.out]) | (refine Eq.trans (b := Result.ok (Next.value (.int .i64 (Z : Int))) w) ?_ rfl; go_simp; first | exact HM4.out | rw [HM4.out] | exact HM3.out | rw [HM3.out]) | (obtain ⟨z0, z1, z2⟩ := qa; go_simp <;> rfl)) | (go_simp <;> rfl)); simp only [Act.put, List.setIfInBounds_toArray, List.set_cons_zero, List.set_cons_succ])
            | (refine wpT_skip rfl rfl ?_; simp only [Act.put, List.setIfInBounds_toArray, List.set_cons_zero, List.set_cons_succ])
          refine wpT_nil ?_
          go_wp2_with (fail)
          go_roundw
          case rel => exact ⟨j + 1, by omega, by rw [HNS.out, HZZ.out], by simp, FR.out.drew⟩
          case measure => simp [intOf]; omega
        · obtain rfl : j = k := by omega
          have HS := hid (HBR.out.set 1 (.int .i64 ((a + j : Nat) : Int)))
          have c1 : wr.cell? ⟨p, 1, none⟩ = some (.int .i64 a) := HBR.out.cell 1
          have z1 := HBR.out.frozen 1
          have FS := hid ((FR.out.mono (fun _ h _ => h.elim) : Fr (fun b => b = p) w wr).setCell ⟨p, 1, none⟩ (.int .i64 ((a + j : Nat) : Int)) (fun _ => rfl))
          have hsl := HSH.out
          go_wp2_with (fail)
          go_ret
          exact ⟨rfl, ⟨a + j, HS.out, fun _ => rfl⟩, FS.out⟩
theorem text_bad {rm : RM} (h : ((rm.num 2).1.take (rm.num 2).2).1.failed = true) : rm.text.1.failed = true ∧ rm.text.2 = [] ∧ rm.text.1.s = rm.s := by
  have e : rm.text = ({ ((rm.num 2).1.take (rm.num 2).2).1 with at_ := rm.at_ }, ((rm.num 2).1.take (rm.num 2).2).2) := by
    unfold RM.text
    dsimp only
    rw [if_pos h]
  rw [e]
  refine ⟨h, ?_, ?_⟩
  · have : ∀ (r : RM) (n : Nat), (r.take n).1.failed = true → (r.take n).2 = [] := by
      intro r n hh
      unfold RM.take at hh ⊢
      split
      · rfl
      · rename_i hb
        rw [if_neg hb] at hh
        have : r.failed = true := hh
        unfold RM.bad at hb
        rw [this] at hb
        simp at hb
    exact this _ _ h
  · show ((rm.num 2).1.take (rm.num 2).2).1.s = rm.s
    rw [RM.take_s]
    show (rm.take 2).1.s = rm.s
    rw [RM.take_s]
theorem text_good {rm : RM} {m : RM} {n : Nat} (hm : rm.num 2 = (m, n)) (hf : m.failed = false) (h : ¬ m.left < n) : rm.text = ({ m with at_ := m.at_ + n }, (m.s.drop m.at_).take n) := by
  have e : m.take n = ({ m with at_ := m.at_ + n }, (m.s.drop m.at_).take n) := by
    unfold RM.take RM.bad
    rw [if_neg (by rw [hf]; simpa using h)]
  unfold RM.text
  rw [hm]
  dsimp only
  rw [e]
  dsimp only
  rw [if_neg (by rw [hf]; simp)]
set_option maxRecDepth 20000 in
set_option maxHeartbeats 8000000 in
theorem r4text_go {w : World} {p a : Nat} {rm : RM} (h : R4 w p a rm) (ok : rm.Ok) : Calls Try.prog 85 #[.pointer (some ⟨p, 0, none⟩)] w fun e w' => e = .returned (.string (bs rm.text.2)) ∧ (∃ a', R4 w' p a' rm.text.1) ∧ Fr (fun b => b = p) w w' := by
  obtain ⟨⟨m, n⟩, hm⟩ : ∃ m, rm.num 2 = m := ⟨_, rfl⟩
  have hnum := r4num_go h ok 2 (by omega)
  rw [hm] at hnum
  have HNUM := hid hnum
  have okm : m.Ok := by have := ok.num 2; rwa [hm] at this
  have hn16 : n < 65536 := by have := rm.num_lt 2; rwa [hm] at this
  have hms : m.s = rm.s := by have : (rm.num 2).1.s = rm.s := RM.take_s _ _; rwa [hm] at this
  obtain ⟨rt, hrt⟩ : ∃ rt, rt = rm.text := ⟨_, rfl⟩
  rw [← hrt]
  have HRT := hid hrt
  have HMS := hid hms
  clear hnum h hrt hms
  go_enter Try.func85, Try.ntmps85
  go_upto_region 2 with (go_at_call 84; refine HNUM.out.mono ?_; rintro e w1 ⟨rfl, ⟨a', hr⟩, f⟩; have HR := hid hr; have F1 := hid f; clear hr f)
  clear HNUM
  have HB := hid HR.out.blk
  have hbs := bs_size m.s
  by_cases hbad : (m.take n).1.failed = true
  · obtain ⟨t1, t2, t3⟩ := text_bad (rm := rm) (by rw [hm]; exact hbad)
    have HT := hid (show rt.1.failed = true ∧ rt.2 = [] ∧ rt.1.s = m.s from by rw [HRT.out]; exact ⟨t1, t2, by rw [t3, HMS.out]⟩)
    clear t1 t2 t3
    have FS := hid (F1.out.trans ((Fr.refl (fun b => b = p) w1).setCell ⟨p, 2, none⟩ (.bool true) (fun _ => rfl)).drew (fun k hk _ => hk))
    have HS := hid (HB.out.set 2 (.bool true)).drew
    have HEND : Hid (∃ a', R4 (w1.setCell ⟨p, 2, none⟩ (.bool true)).drew p a' rt.1) := hid ⟨a', by rw [HT.out.2.2, HT.out.1]; exact HS.out, fun h => by rw [HT.out.1] at h; cases h⟩
    obtain ⟨ms, ma, mf⟩ := m
    dsimp only at HB hbs okm
    have C0 : Hid (R4C w1.drew p ms a' mf) := hid ⟨HB.out.drew.cell 0, HB.out.drew.cell 1, HB.out.drew.cell 2⟩
    have z2 := HB.out.drew.frozen 2
    cases mf with
    | true =>
      have c2 : w1.drew.cell? ⟨p, 2, none⟩ = some (.bool true) := C0.out.c2
      clear hbad
      refine wp_region_scr (.take 0 (.take 1 (.take 2 (.take 3 (.take 4 (.take 5 (.take 6 (.take 7 (.take 8 (.take 9 (.take 10 (.take 11 (.take 12 (.take 13 (.take 14 (.take 15 (.take 16 (.take 17 .done)))))))))))))))))) (fun kz w => (kz ≤ 18 → R4C w p ms a' true) ∧ True) (by kernel_rfl) (by kernel_rfl) (by intro c a d v w h; cases d <;> exact h) ?_
      repeat
        first
        | (refine wpT_pure rfl rfl rfl ?_; apply Exists.intro; refine ⟨?_, ?_⟩; intro w; (first | (obtain ⟨z0, z1, z2⟩ := qa; go_simp <;> rfl) | (go_simp <;> rfl)); simp only [Act.put, List.setIfInBounds_toArray, List.set_cons_zero, List.set_cons_succ])
        | (refine wpT_take 18 rfl rfl (by decide +kernel) ⟨fun _ => C0.out, trivial⟩ ?_; apply Exists.intro; refine ⟨?_, ?_⟩; intro w hw; (have qa := hw.1 (Nat.le_refl _); have qb := hw.2); (first | (obtain ⟨z0, z1, z2⟩ := qa; go_simp <;> rfl) | (go_simp <;> rfl)); simp only [Act.put, List.setIfInBounds_toArray, List.set_cons_zero, List.set_cons_succ])
        | (refine wpT_skip rfl rfl ?_; simp only [Act.put, List.setIfInBounds_toArray, List.set_cons_zero, List.set_cons_succ])
      refine wpT_nil ?_
      go_wp2_with (fail)
      go_ret
      exact ⟨by rw [HT.out.2.1]; rfl, HEND.out, FS.out⟩
    | false =>
      have c2 : w1.drew.cell? ⟨p, 2, none⟩ = some (.bool false) := C0.out.c2
      have hat : a' = ma := HR.out.at_ rfl
      have hlt : ms.length - ma < n := by
        unfold RM.take RM.bad at hbad
        by_cases hl : (RM.mk ms ma false).left < n
        · exact hl
        · rw [if_neg (by simpa using hl)] at hbad
          cases hbad
      have hle : ma ≤ ms.length := okm.le
      have hlen : ms.length ≤ 1099511627776 := okm.len
      subst hat
      have i0 : (0 : Int) ≤ (a' : Int) := by omega
      have i1 : (ms.length : Int) < (a' : Int) + (n : Int) := by omega
      have HWA := hid (show wrap64 ((a' : Int) + (n : Int)) = ((a' + n : Nat) : Int) from by unfold wrap64; omega)
      have HWB := hid (show IntKind.i64.wrap ((a' : Int) + (n : Int)) = ((a' + n : Nat) : Int) from by rw [← wrap64_eq]; exact HWA.out)
      have hdec : decide ((ms.length : Int) < ((a' + n : Nat) : Int)) = true := decide_eq_true (by omega)
      have hdec2 : decide (ms.length < a' + n) = true := decide_eq_true (by omega)
      clear hbad okm
      refine wp_region_scr (.take 0 (.take 1 (.take 2 (.take 3 (.take 4 (.take 5 (.take 6 (.take 7 (.take 8 (.take 9 (.take 10 (.take 11 (.take 12 (.take 13 (.take 14 (.take 15 (.take 16 (.take 17 .done)))))))))))))))))) (fun kz w => (kz ≤ 18 → R4C w p ms a' false) ∧ True) (by kernel_rfl) (by kernel_rfl) (by intro c a d v w h; cases d <;> exact h) ?_
      repeat
        first
        | (refine wpT_pure rfl rfl rfl ?_; apply Exists.intro; refine ⟨?_, ?_⟩; intro w; (first | (first | (refine Eq.trans (b := Result.ok (Next.value (.int .i64 ((a' + n : Nat) : Int))) w) ?_ rfl; go_simp; first | exact HWB.out | rw [HWB.out] | exact HWA.out | rw [HWA.out]) | (obtain ⟨z0, z1, z2⟩ := qa; go_simp <;> rfl)) | (go_simp <;> rfl)); simp only [Act.put, List.setIfInBounds_toArray, List.set_cons_zero, List.set_cons_succ])
        | (refine wpT_take 18 rfl rfl (by decide +kernel) ⟨fun _ => C0.out, trivial⟩ ?_; apply Exists.intro; refine ⟨?_, ?_⟩; intro w hw; (have qa := hw.1 (Nat.le_refl _); have qb := hw.2); (first | (first | (refine Eq.trans (b := Result.ok (Next.value (.int .i64 ((a' + n : Nat) : Int))) w) ?_ rfl; go_simp; first | exact HWB.out | rw [HWB.out] | exact HWA.out | rw [HWA.out]) | (obtain ⟨z0, z1, z2⟩ := qa; go_simp <;> rfl)) | (go_simp <;> rfl)); simp only [Act.put, List.setIfInBounds_toArray, List.set_cons_zero, List.set_cons_succ])
        | (refine wpT_skip rfl rfl ?_; simp only [Act.put, List.setIfInBounds_toArray, List.set_cons_zero, List.set_cons_succ])
      refine wpT_nil ?_
      go_wp2_with (fail)
      go_ret
      exact ⟨by rw [HT.out.2.1]; rfl, HEND.out, FS.out⟩
  · have hmf : m.failed = false := by
      cases hh : m.failed with
      | false => rfl
      | true => exact absurd (by rw [RM.take_failed hh]; exact hh) hbad
    have hnl : ¬ m.left < n := fun hl => hbad (by unfold RM.take RM.bad; rw [if_pos (by rw [hmf]; simpa using hl)])
    have HGD := hid (HRT.out.trans (text_good hm hmf hnl))
    have hat := HR.out.at_ hmf
    obtain ⟨ms, ma, mf⟩ := m
    dsimp only at HB hbs okm hmf hat
    subst hmf hat
    have hle : a' ≤ ms.length := okm.le
    have hlen : ms.length ≤ 1099511627776 := okm.len
    have hnl2 : ¬ ms.length - a' < n := hnl
    have C0 : Hid (R4C w1.drew p ms a' false) := hid ⟨HB.out.drew.cell 0, HB.out.drew.cell 1, HB.out.drew.cell 2⟩
    have i0 : (0 : Int) ≤ (a' : Int) := by omega
    have i1 : ¬ (ms.length : Int) < (a' : Int) + (n : Int) := by omega
    have HWA := hid (show wrap64 ((a' : Int) + (n : Int)) = ((a' + n : Nat) : Int) from by unfold wrap64; omega)
    have HWB := hid (show IntKind.i64.wrap ((a' : Int) + (n : Int)) = ((a' + n : Nat) : Int) from by rw [← wrap64_eq]; exact HWA.out)
    have hdec : decide ((ms.length : Int) < ((a' + n : Nat) : Int)) = false := decide_eq_false (by omega)
    have hdec2 : decide (ms.length < a' + n) = false := decide_eq_false (by omega)
    refine wp_region_scr (.take 0 (.take 1 (.take 2 (.take 3 (.take 4 (.take 5 (.take 6 (.take 7 (.take 8 (.take 9 (.take 10 (.take 11 (.take 12 (.take 13 (.take 14 (.take 15 (.take 16 (.take 17 .done)))))))))))))))))) (fun kz w => (kz ≤ 18 → R4C w p ms a' false) ∧ True) (by kernel_rfl) (by kernel_rfl) (by intro c a d v w h; cases d <;> exact h) ?_
    repeat
      first
      | (refine wpT_pure rfl rfl rfl ?_; apply Exists.intro; refine ⟨?_, ?_⟩; intro w; (first | (first | (refine Eq.trans (b := Result.ok (Next.value (.int .i64 ((a' + n : Nat) : Int))) w) ?_ rfl; go_simp; first | exact HWB.out | rw [HWB.out] | exact HWA.out | rw [HWA.out]) | (obtain ⟨z0, z1, z2⟩ := qa; go_simp <;> rfl)) | (go_simp <;> rfl)); simp only [Act.put, List.setIfInBounds_toArray, List.set_cons_zero, List.set_cons_succ])
      | (refine wpT_take 18 rfl rfl (by decide +kernel) ⟨fun _ => C0.out, trivial⟩ ?_; apply Exists.intro; refine ⟨?_, ?_⟩; intro w hw; (have qa := hw.1 (Nat.le_refl _); have qb := hw.2); (first | (first | (refine Eq.trans (b := Result.ok (Next.value (.int .i64 ((a' + n : Nat) : Int))) w) ?_ rfl; go_simp; first | exact HWB.out | rw [HWB.out] | exact HWA.out | rw [HWA.out]) | (obtain ⟨z0, z1, z2⟩ := qa; go_simp <;> rfl)) | (go_simp <;> rfl)); simp only [Act.put, List.setIfInBounds_toArray, List.set_cons_zero, List.set_cons_succ])
      | (refine wpT_skip rfl rfl ?_; simp only [Act.put, List.setIfInBounds_toArray, List.set_cons_zero, List.set_cons_succ])
    refine wpT_nil ?_
    have c1 : w1.drew.cell? ⟨p, 1, none⟩ = some (.int .i64 a') := C0.out.c1
    have z1 := HB.out.drew.frozen 1
    obtain ⟨e, he⟩ : ∃ e, e = a' + n := ⟨_, rfl⟩
    have HEE := hid he
    have hae : (a' : Int) + (n : Int) = (e : Int) := by omega
    have HS := hid (HB.out.set 1 (.int .i64 (e : Int))).drew
    have FS := hid (F1.out.trans ((Fr.refl (fun b => b = p) w1).setCell ⟨p, 1, none⟩ (.int .i64 (e : Int)) (fun _ => rfl)).drew (fun k hk _ => hk))
    have HSB := hid (show wrap64 ((e : Int) - (n : Int)) = (a' : Int) from by unfold wrap64; omega)
    have HSC := hid (show IntKind.i64.wrap ((e : Int) - (n : Int)) = (a' : Int) from by rw [← wrap64_eq]; exact HSB.out)
    have hex : (bs ms).extract a' e = bs ((ms.drop a').take n) := by rw [he]; exact ex_take ms a' n
    have i2 : (a' : Int) ≤ (e : Int) := by omega
    have i3 : (e : Int) ≤ (ms.length : Int) := by omega
    clear he
    go_upto_region 6 with fail
    have C2 : Hid (R4C (w1.setCell ⟨p, 1, none⟩ (.int .i64 (e : Int))).drew.drew p ms e false) := hid ⟨HS.out.drew.cell 0, HS.out.drew.cell 1, HS.out.drew.cell 2⟩
    clear hdec hdec2 i1 c1 z1 hnl hnl2 hae
    refine wp_region_scr (.take 0 (.take 1 (.take 2 (.take 3 (.take 4 (.take 5 (.take 6 (.take 7 (.take 8 (.take 9 (.take 10 (.take 11 (.take 12 (.take 13 (.take 14 (.take 15 .done)))))))))))))))) (fun kz w => (kz ≤ 15 → R4C w p ms e false) ∧ True) (by kernel_rfl) (by kernel_rfl) (by intro c a d v w h; cases d <;> exact h) ?_
    repeat
      first
      | (refine wpT_pure rfl rfl rfl ?_; apply Exists.intro; refine ⟨?_, ?_⟩; intro w; (first | (first | (refine Eq.trans (b := Result.ok (Next.value (.int .i64 (a' : Int))) w) ?_ rfl; go_simp; first | exact HSC.out | rw [HSC.out] | exact HSB.out | rw [HSB.out]) | (obtain ⟨z0, z1, z2⟩ := qa; go_simp <;> rfl)) | (go_simp <;> rfl)); simp only [Act.put, List.setIfInBounds_toArray, List.set_cons_zero, List.set_cons_succ])
      | (refine wpT_take 15 rfl rfl (by decide +kernel) ⟨fun _ => C2.out, trivial⟩ ?_; apply Exists.intro; refine ⟨?_, ?_⟩; intro w hw; (have qa := hw.1 (Nat.le_refl _); have qb := hw.2); (first | (first | (refine Eq.trans (b := Result.ok (Next.value (.int .i64 (a' : Int))) w) ?_ rfl; go_simp; first | exact HSC.out | rw [HSC.out] | exact HSB.out | rw [HSB.out]) | (obtain ⟨z0, z1, z2⟩ := qa; go_simp <;> rfl)) | (go_simp <;> rfl)); simp only [Act.put, List.setIfInBounds_toArray, List.set_cons_zero, List.set_cons_succ])
      | (refine wpT_skip rfl rfl ?_; simp only [Act.put, List.setIfInBounds_toArray, List.set_cons_zero, List.set_cons_succ])
    refine wpT_nil ?_
    go_wp2_with (fail)
    go_ret
    exact ⟨by rw [HGD.out]; rfl, ⟨e, by rw [HGD.out]; exact HS.out.drew, fun _ => by rw [HGD.out]; exact HEE.out⟩, FS.out.drew⟩
end Go.Proofs.Ytfhkmiifndhacaa

/- The reference: reading a record. -/
namespace Go.VB.Rec
open Go.VB.Oct Go.Proofs.Ytfhkmiifndhacaa
theorem rdO_reader (s : List UInt8) : (rdO s).1 = (rd3 s).text.1 := rowsM_reader _ _
theorem rdN_reader (s : List UInt8) : (rdN s).1 = (rd3 s).text.1.text.1 := by unfold rdN; rw [rowsM_reader, rdO_reader]
/-- the reference's loops stop at the first failure: what that says of the whole reading -/
theorem run_ends {s : List UInt8} {j1 j2 : Nat} {bE : RM × List E} {c : RM × Nat} {bX : RM × List Int} {t : RM × List UInt8}
    (hE : editsAt j1 ((rdN s).1.num 1).1 = bE) (e1 : j1 = ((rdN s).1.num 1).2 ∨ bE.1.failed = true) (l1 : j1 ≤ ((rdN s).1.num 1).2) (hc : bE.1.num 1 = c)
    (hX : xidsAt j2 c.1 = bX) (e2 : j2 = c.2 ∨ bX.1.failed = true) (l2 : j2 ≤ c.2) (ht : bX.1.text = t) :
    t.1.failed = (rdT s).1.failed ∧ (t.1.failed = false → bE = rdE s ∧ bX = rdX s ∧ t = rdT s) := by
  have sE : ∀ (i j : Nat) (b : RM), (editsAt j b).1.failed = true → (editsAt (j + i) b).1.failed = true := by
    intro i
    induction i with
    | zero => intro j b h; exact h
    | succ i ih =>
      intro j b h
      have := ih j b h
      cases hh : (editsAt (j + (i + 1)) b).1.failed with
      | true => rfl
      | false =>
        exfalso
        have f3 : ((((editsAt (j + i) b).1.num 2).1.num 1).1.text).1.failed = false := hh
        have f0 := RM.failed_num (RM.failed_num (RM.failed_text f3))
        rw [this] at f0
        cases f0
  have sX : ∀ (i j : Nat) (b : RM), (xidsAt j b).1.failed = true → (xidsAt (j + i) b).1.failed = true := by
    intro i
    induction i with
    | zero => intro j b h; exact h
    | succ i ih =>
      intro j b h
      have := ih j b h
      cases hh : (xidsAt (j + (i + 1)) b).1.failed with
      | true => rfl
      | false =>
        exfalso
        have f3 : (((xidsAt (j + i) b).1.num 1).1).failed = false := hh
        have f0 := RM.failed_num f3
        rw [this] at f0
        cases f0
  -- where nothing has failed, all is as in the whole reading
  have key1 : bE.1.failed = false → bE = rdE s := by
    intro h
    rcases e1 with e | e
    · rw [← hE, e]; rfl
    · rw [h] at e; cases e
  have key1' : (rdE s).1.failed = false → bE.1.failed = false := by
    intro h
    cases hb : bE.1.failed with
    | false => rfl
    | true =>
      exfalso
      rw [← hE] at hb
      have := sE (((rdN s).1.num 1).2 - j1) j1 _ hb
      rw [Nat.add_sub_cancel' l1] at this
      have e : (editsAt ((rdN s).1.num 1).2 ((rdN s).1.num 1).1).1.failed = (rdE s).1.failed := rfl
      rw [e, h] at this
      cases this
  have key2 : t.1.failed = false → bE = rdE s ∧ bX = rdX s ∧ t = rdT s := by
    intro h
    have hx : bX.1.failed = false := RM.failed_text (by rw [ht]; exact h)
    have hc1 : c.1.failed = false := xidsAt_ok j2 (by rw [hX]; exact hx)
    have hb : bE.1.failed = false := RM.failed_num (k := 1) (by rw [hc]; exact hc1)
    have k1 := key1 hb
    have k2 : bX = rdX s := by
      rcases e2 with e | e
      · rw [← hX, e, ← hc, k1]; rfl
      · rw [hx] at e; cases e
    exact ⟨k1, k2, by rw [← ht, k2]; rfl⟩
  refine ⟨?_, key2⟩
  cases hb : t.1.failed with
  | false => rw [← (key2 hb).2.2, hb]
  | true =>
    cases hr : (rdT s).1.failed with
    | true => rfl
    | false =>
      exfalso
      have fX : (rdX s).1.failed = false := RM.failed_text hr
      have fX0 : ((rdE s).1.num 1).1.failed = false := xidsAt_ok _ fX
      have fE : (rdE s).1.failed = false := RM.failed_num fX0
      have k1 := key1 (key1' fE)
      have hcc : c = (rdE s).1.num 1 := by rw [← hc, k1]
      have hx : bX.1.failed = false := by
        cases hq : bX.1.failed with
        | false => rfl
        | true =>
          exfalso
          rw [← hX] at hq
          have := sX (c.2 - j2) j2 _ hq
          rw [Nat.add_sub_cancel' l2, hcc] at this
          have e : (xidsAt ((rdE s).1.num 1).2 ((rdE s).1.num 1).1).1.failed = (rdX s).1.failed := rfl
          rw [e, fX] at this
          cases this
      have k2 : bX = rdX s := by
        rcases e2 with e | e
        · rw [← hX, e, hcc]; rfl
        · rw [hx] at e; cases e
      have : t = rdT s := by rw [← ht, k2]; rfl
      rw [this, hr] at hb
      cases hb
theorem num_s (b : RM) (k : Nat) : (b.num k).1.s = b.s := RM.take_s _ _
theorem text_s (b : RM) : b.text.1.s = b.s := by
  have : ((b.num 2).1.take (b.num 2).2).1.s = b.s := by rw [RM.take_s, num_s]
  unfold RM.text
  dsimp only
  split
  · exact this
  · exact this
theorem editsAt_s (b : RM) : ∀ j, (editsAt j b).1.s = b.s
  | 0 => rfl
  | j + 1 => by
    show (((editsAt j b).1.num 2).1.num 1).1.text.1.s = b.s
    rw [text_s, num_s, num_s, editsAt_s b j]
theorem xidsAt_s (b : RM) : ∀ j, (xidsAt j b).1.s = b.s
  | 0 => rfl
  | j + 1 => by
    show ((xidsAt j b).1.num 1).1.s = b.s
    rw [num_s, xidsAt_s b j]
theorem rdT_s (s : List UInt8) : (rdT s).1.s = s := by
  unfold rdT rdX rdE
  rw [text_s, xidsAt_s, num_s, editsAt_s, num_s, rdN_reader, text_s, text_s]
  unfold rd3
  rw [num_s, num_s, num_s]
  rfl
theorem readR_short {s : List UInt8} (h : (rdT s).1.failed = true) : readR s = (R.zero, 10) := by
  unfold readR
  rw [if_pos h]
theorem readR_run {s : List UInt8} (hf : (rdT s).1.failed = false) :
    readR s = if (!decide ((readV (rd3 s).text.2).2 = 0) || !decide ((readV (rd3 s).text.1.text.2).2 = 0) || decide (0 < (rdT s).1.left) || !(R.mk (((RM.new s).num 1).2 : Int) ((((RM.new s).num 1).1.num 1).2 : Int) (((((RM.new s).num 1).1.num 1).1.num 2).2 : Int) (readV (rd3 s).text.2).1 (readV (rd3 s).text.1.text.2).1 (rdE s).2 (rdX s).2 (rdT s).2).right) then (R.zero, 11)
      else (R.mk (((RM.new s).num 1).2 : Int) ((((RM.new s).num 1).1.num 1).2 : Int) (((((RM.new s).num 1).1.num 1).1.num 2).2 : Int) (readV (rd3 s).text.2).1 (readV (rd3 s).text.1.text.2).1 (rdE s).2 (rdX s).2 (rdT s).2, 0) := by
  have fX : (rdX s).1.failed = false := RM.failed_text hf
  have fE : (rdE s).1.failed = false := RM.failed_num (xidsAt_ok _ fX)
  have fN : (rdN s).1.failed = false := RM.failed_num (editsAt_ok _ fE)
  have fN' := fN
  rw [rdN_reader] at fN'
  have fO := RM.failed_text fN'
  have hO : rdO s = ((rd3 s).text.1, decide ((readV (rd3 s).text.2).2 = 0), (readV (rd3 s).text.2).1) := by
    unfold rdO rowsM
    rw [if_neg (by rw [fO]; simp)]
    simp
  have hN : rdN s = ((rd3 s).text.1.text.1, decide ((readV (rd3 s).text.2).2 = 0) && decide ((readV (rd3 s).text.1.text.2).2 = 0), (readV (rd3 s).text.1.text.2).1) := by
    unfold rdN rowsM
    rw [hO]
    dsimp only
    rw [if_neg (by rw [fN']; simp)]
  have hR : rdR s = R.mk (((RM.new s).num 1).2 : Int) ((((RM.new s).num 1).1.num 1).2 : Int) (((((RM.new s).num 1).1.num 1).1.num 2).2 : Int) (readV (rd3 s).text.2).1 (readV (rd3 s).text.1.text.2).1 (rdE s).2 (rdX s).2 (rdT s).2 := by
    unfold rdR
    rw [hO, hN]
  unfold readR
  rw [if_neg (by rw [hf]; simp), hR, hN]
  dsimp only
  rw [Bool.not_and]
end Go.VB.Rec
namespace Go.Proofs.Ytfhkmiifndhacaa
open Go.RowKit Go.VB Go.VB.Oct Go.VB.Rec
theorem size_Got4 : (Try.prog.info? 76).map (·.size) = some 9 := by kernel_rfl
def got4 (r : R) (vo vn ve vx : Value) (e : Int) : List Value := rv r vo vn ve vx ++ [.int .i64 e]
/-- the reference's reading under way -/
structure RdQ (w0 W : World) (a : Nat) (rm : RM) (r : R) (ve vx : Value) : Prop where
  res : Blk W w0.heap.size (got4 R.zero nilM nilM nilM nilM 0) 76
  rd : R4 W (w0.heap.size + 1) a rm
  ok : rm.Ok
  rc : Blk W (w0.heap.size + 1 + 1) (rv r nilM nilM ve vx) 27
  e : Row 55 3 (w0.heap.size + 3) W ve r.edits.length (r.edits.flatMap E.cells)
  x : Row 3 1 (w0.heap.size + 3) W vx r.xids.length (r.xids.flatMap icell)
  fr : Fr (fun _ => False) w0 W
namespace RdQ
variable {w0 W W' wg : World} {a : Nat} {rm : RM} {r : R} {ve vx v' : Value}
theorem size (h : RdQ w0 W a rm r ve vx) : w0.heap.size + 3 ≤ W.heap.size := by have := h.rc.lt; omega
theorem fre (h : RdQ w0 W a rm r ve vx) (f : Fr (fun _ => False) W W') : RdQ w0 W' a rm r ve vx :=
  ⟨Blk.fr h.res f (fun h => h), h.rd.fre f, h.ok, Blk.fr h.rc f (fun h => h), h.e.fre f, h.x.fre f, h.fr.trans f (fun _ h _ => h)⟩
theorem move {a' : Nat} {rm' : RM} (h : RdQ w0 W a rm r ve vx) (hr : R4 W' (w0.heap.size + 1) a' rm') (ok : rm'.Ok) (f : Fr (fun b => b = w0.heap.size + 1) W W') : RdQ w0 W' a' rm' r ve vx :=
  ⟨h.res.fr f (fun e => by omega), hr, ok, h.rc.fr f (fun e => by omega), h.e.fr f (fun k hk => h.e.ne h.rd.blk (by decide) k hk), h.x.fr f (fun k hk => h.x.ne h.rd.blk (by decide) k hk), h.fr.trans f (fun k hk hl => by omega)⟩
theorem num (h : RdQ w0 W a rm r ve vx) (k : Nat) (hk : k ≤ 4) {m : RM × Nat} (hm : rm.num k = m) : Calls Try.prog 84 #[.pointer (some ⟨w0.heap.size + 1, 0, none⟩), .int .i64 k] W fun e W' => e = .returned (.int .i64 m.2) ∧ (∃ a', RdQ w0 W' a' m.1 r ve vx) ∧ Fr (fun b => b = w0.heap.size + 1) W W' := by
  subst hm
  refine (r4num_go h.rd h.ok k hk).mono ?_
  rintro e W' ⟨rfl, ⟨a', hr⟩, f⟩
  exact ⟨rfl, ⟨a', h.move hr (h.ok.num k) f⟩, f⟩
theorem text (h : RdQ w0 W a rm r ve vx) {m : RM × List UInt8} (hm : rm.text = m) : Calls Try.prog 85 #[.pointer (some ⟨w0.heap.size + 1, 0, none⟩)] W fun e W' => e = .returned (.string (bs m.2)) ∧ (∃ a', RdQ w0 W' a' m.1 r ve vx) ∧ Fr (fun b => b = w0.heap.size + 1) W W' := by
  subst hm
  refine (r4text_go h.rd h.ok).mono ?_
  rintro e W' ⟨rfl, ⟨a', hr⟩, f⟩
  exact ⟨rfl, ⟨a', h.move hr h.ok.text f⟩, f⟩
theorem put (h : RdQ w0 W a rm r ve vx) (i : Nat) (u : Value) (r' : R) (hs : (rv r nilM nilM ve vx).set i u = rv r' nilM nilM ve vx) (he : r'.edits = r.edits) (hx : r'.xids = r.xids) : RdQ w0 (W.setCell ⟨w0.heap.size + 1 + 1, i, none⟩ u) a rm r' ve vx := by
  have f := (Fr.refl (fun k => k = w0.heap.size + 1 + 1) W).setCell ⟨w0.heap.size + 1 + 1, i, none⟩ u (fun _ => rfl)
  have hq := h.rc.set i u
  rw [hs] at hq
  exact ⟨h.res.fr f (fun e => by omega), h.rd.fr f (by omega), h.ok, hq, by rw [he]; exact h.e.fr f (fun k hk => h.e.ne h.rc (by decide) k hk), by rw [hx]; exact h.x.fr f (fun k hk => h.x.ne h.rc (by decide) k hk), h.fr.trans f (fun k hk hl => by omega)⟩
theorem far {de : Nat} {l : List Value} (h : RdQ w0 W a rm r ve vx) (b : Blk W de l 55) (hge : w0.heap.size + 3 ≤ de) (hv : ∀ k, ve.ownBlock = some k → k < de) (f : Fr (fun k => k = de) W W') : RdQ w0 W' a rm r ve vx :=
  ⟨h.res.fr f (fun e => by omega), h.rd.fr f (by omega), h.ok, h.rc.fr f (fun e => by omega), h.e.fr f (fun k hk e => by have := hv k hk; omega), h.x.fr f (fun k hk => h.x.ne b (by decide) k hk), h.fr.trans f (fun k hk hl => by have := h.fr.size; omega)⟩
theorem atE (h : RdQ w0 W a rm r ve vx) {n : Nat} {xs news : List Value} (hg : App 55 3 (w0.heap.size + 3) W wg ve v' n xs news) : Blk wg (w0.heap.size + 1 + 1) (rv r nilM nilM ve vx) 27 := h.rc.fr hg.fr (fun hk => h.e.ne h.rc (by decide) _ hk rfl)
theorem atX (h : RdQ w0 W a rm r ve vx) {n : Nat} {xs news : List Value} (hg : App 3 1 (w0.heap.size + 3) W wg vx v' n xs news) : Blk wg (w0.heap.size + 1 + 1) (rv r nilM nilM ve vx) 27 := h.rc.fr hg.fr (fun hk => h.x.ne h.rc (by decide) _ hk rfl)
theorem growE (h : RdQ w0 W a rm r ve vx) {x : E} (hg : App 55 3 (w0.heap.size + 3) W wg ve v' r.edits.length (r.edits.flatMap E.cells) x.cells) :
    RdQ w0 (wg.setCell ⟨w0.heap.size + 1 + 1, 5, none⟩ v') a rm { r with edits := r.edits ++ [x] } v' vx := by
  have hne : ∀ {d l t}, Blk W d l t → t ≠ 55 → ¬ (ve.ownBlock = some d) := fun b ht hk => h.e.ne b ht _ hk rfl
  have rc' := h.rc.fr hg.fr (hne h.rc (by decide))
  have fs := (Fr.refl (fun k => k = w0.heap.size + 1 + 1) wg).setCell ⟨w0.heap.size + 1 + 1, 5, none⟩ v' (fun _ => rfl)
  have x' := h.x.fr hg.fr (fun k hk => row_apart h.x h.e (by decide) k hk)
  have e' : Row 55 3 (w0.heap.size + 3) wg v' (r.edits ++ [x]).length ((r.edits ++ [x]).flatMap E.cells) := hg.row.cast (by simp) (by simp)
  exact ⟨(h.res.fr hg.fr (hne h.res (by decide))).fr fs (fun e => by omega), (h.rd.fr hg.fr (hne h.rd.blk (by decide))).fr fs (by omega), h.ok, rc'.set 5 v', e'.fr fs (fun k hk => e'.ne rc' (by decide) k hk), x'.fr fs (fun k hk => x'.ne rc' (by decide) k hk), (h.fr.trans hg.fr (fun k hk hl => by have := h.e.new k hk; omega)).trans fs (fun k hk hl => by omega)⟩
theorem growX (h : RdQ w0 W a rm r ve vx) {x : Int} (hg : App 3 1 (w0.heap.size + 3) W wg vx v' r.xids.length (r.xids.flatMap icell) (icell x)) :
    RdQ w0 (wg.setCell ⟨w0.heap.size + 1 + 1, 6, none⟩ v') a rm { r with xids := r.xids ++ [x] } ve v' := by
  have hne : ∀ {d l t}, Blk W d l t → t ≠ 3 → ¬ (vx.ownBlock = some d) := fun b ht hk => h.x.ne b ht _ hk rfl
  have rc' := h.rc.fr hg.fr (hne h.rc (by decide))
  have fs := (Fr.refl (fun k => k = w0.heap.size + 1 + 1) wg).setCell ⟨w0.heap.size + 1 + 1, 6, none⟩ v' (fun _ => rfl)
  have e' := h.e.fr hg.fr (fun k hk => row_apart h.e h.x (by decide) k hk)
  have x' : Row 3 1 (w0.heap.size + 3) wg v' (r.xids ++ [x]).length ((r.xids ++ [x]).flatMap icell) := hg.row.cast (by simp) (by simp)
  exact ⟨(h.res.fr hg.fr (hne h.res (by decide))).fr fs (fun e => by omega), (h.rd.fr hg.fr (hne h.rd.blk (by decide))).fr fs (by omega), h.ok, rc'.set 6 v', e'.fr fs (fun k hk => e'.ne rc' (by decide) k hk), x'.fr fs (fun k hk => x'.ne rc' (by decide) k hk), (h.fr.trans hg.fr (fun k hk hl => by have := h.x.new k hk; omega)).trans fs (fun k hk hl => by omega)⟩
end RdQ
theorem HVF {w W W' W'' : World} {r : R} {vo vn ve vx : Value} (h : RV (fun k => w.heap.size + 3 ≤ k ∧ k < W.heap.size) W' r vo vn ve vx) (f : Fr (fun k => k = w.heap.size) W' W'') (hs : W.heap.size ≤ W'.heap.size) : RV (fun k => w.heap.size ≤ k ∧ k < W''.heap.size) W'' r vo vn ve vx := by
  have h2 := h.fr f (fun k hk e => by omega)
  have hsz := f.size
  have hm : ∀ k, (w.heap.size + 3 ≤ k ∧ k < W.heap.size) → (w.heap.size ≤ k ∧ k < W''.heap.size) := fun k hk => ⟨by omega, by omega⟩
  exact ⟨h2.o.mono hm, h2.n.mono hm, h2.e.mono hm, h2.x.mono hm, h2.lo, h2.ln, h2.le, h2.lx, fun k hk => hk.2⟩
set_option maxRecDepth 20000 in
set_option maxHeartbeats 20000000 in
theorem r4Read_go (s : List UInt8) (hs : s.length ≤ 1099511627776) (w : World) : Calls Try.prog 51 #[.string (bs s)] w fun e w' => ∃ (vo vn ve vx : Value), e = .returned (.agg (got4 (readR s).1 vo vn ve vx (readR s).2).toArray) ∧ RV (fun k => w.heap.size ≤ k ∧ k < w'.heap.size) w' (readR s).1 vo vn ve vx ∧ Fr (fun _ => False) w w' := by
  have e1 := bs_size s
  obtain ⟨res, hres⟩ : ∃ res, res = readR s := ⟨_, rfl⟩
  rw [← hres]
  have HRES := hid hres
  clear hres
  have H0 : Hid (RdQ w (((w.alloc (.cells #[.int .i64 0, .int .i64 0, .int .i64 0, .slice none 0 0, .slice none 0 0, .slice none 0 0, .slice none 0 0, .string ⟨#[]⟩, .int .i64 0] 76)).alloc (.cells #[.string (bs s), .int .i64 0, .bool false] 114)).alloc (.cells #[.int .i64 0, .int .i64 0, .int .i64 0, .slice none 0 0, .slice none 0 0, .slice none 0 0, .slice none 0 0, .string ⟨#[]⟩] 27)) 0 (RM.new s) R.zero nilM nilM) := by
    have b0 := Blk.new w (got4 R.zero nilM nilM nilM nilM 0) 76
    have b1 := Blk.new (w.alloc (.cells (got4 R.zero nilM nilM nilM nilM 0).toArray 76)) [.string (bs s), .int .i64 ((0 : Nat) : Int), .bool false] 114
    have b2 := Blk.new ((w.alloc (.cells (got4 R.zero nilM nilM nilM nilM 0).toArray 76)).alloc (.cells #[.string (bs s), .int .i64 ((0 : Nat) : Int), .bool false] 114)) (rv R.zero nilM nilM nilM nilM) 27
    simp only [World.size_alloc] at b1 b2
    exact hid ⟨(b0.alloc _).alloc _, ⟨b1.alloc _, fun _ => rfl⟩, ⟨Nat.zero_le _, hs⟩, b2, Row.nil, Row.nil, (((Fr.refl (fun _ => False) w).alloc _).alloc _).alloc _⟩
  obtain ⟨m1, hm1⟩ : ∃ m, (RM.new s).num 1 = m := ⟨_, rfl⟩
  obtain ⟨m2, hm2⟩ : ∃ m, m1.1.num 1 = m := ⟨_, rfl⟩
  obtain ⟨m3, hm3⟩ : ∃ m, m2.1.num 2 = m := ⟨_, rfl⟩
  obtain ⟨t1, ht1⟩ : ∃ m, m3.1.text = m := ⟨_, rfl⟩
  obtain ⟨t2, ht2⟩ : ∃ m, t1.1.text = m := ⟨_, rfl⟩
  obtain ⟨m4, hm4⟩ : ∃ m, t2.1.num 1 = m := ⟨_, rfl⟩
  have HD3 := hid (show rd3 s = m3.1 from by unfold rd3; rw [hm1, hm2, hm3])
  have HRN := hid (show (rdN s).1 = t2.1 from by rw [rdN_reader, HD3.out, ht1, ht2])
  have HM1 := hid hm1
  have HM2 := hid hm2
  have HM3 := hid hm3
  have HT1 := hid ht1
  have HT2 := hid ht2
  have HM4 := hid hm4
  clear hm1 hm2 hm3 ht1 ht2 hm4
  go_enter Try.func51, Try.ntmps51
  go_upto_region 3 with fail
  generalize ((w.alloc _).alloc _).alloc _ = W0 at *
  go_upto_region 4 with (go_at_call 84; refine (H0.out.num 1 (by omega) HM1.out).mono ?_; rintro e u1 ⟨rfl, ⟨a1, hq⟩, f⟩; have HC1 := hid hq; have kc : u1.cell? ⟨w.heap.size + 1 + 1, 0, none⟩ = some (.int .i64 0) := HC1.out.rc.cell 0; have kz := HC1.out.rc.frozen 0; clear hq f)
  have HH1 := hid (HC1.out.put 0 (.int .i64 (m1.2 : Int)) ⟨(m1.2 : Int), 0, 0, [], [], [], [], []⟩ rfl rfl rfl)
  clear kc kz HC1 H0
  generalize u1.setCell _ _ = W1 at *
  go_upto_region 5 with (go_at_call 84; refine (HH1.out.num 1 (by omega) HM2.out).mono ?_; rintro e u2 ⟨rfl, ⟨a2, hq⟩, f⟩; have HC2 := hid hq; have kc : u2.cell? ⟨w.heap.size + 1 + 1, 1, none⟩ = some (.int .i64 0) := HC2.out.rc.cell 1; have kz := HC2.out.rc.frozen 1; clear hq f)
  have HH2 := hid (HC2.out.put 1 (.int .i64 (m2.2 : Int)) ⟨(m1.2 : Int), (m2.2 : Int), 0, [], [], [], [], []⟩ rfl rfl rfl)
  clear kc kz HC2 HH1
  generalize u2.setCell _ _ = W2 at *
  go_upto_region 6 with (go_at_call 84; refine (HH2.out.num 2 (by omega) HM3.out).mono ?_; rintro e u3 ⟨rfl, ⟨a3, hq⟩, f⟩; have HC3 := hid hq; have kc : u3.cell? ⟨w.heap.size + 1 + 1, 2, none⟩ = some (.int .i64 0) := HC3.out.rc.cell 2; have kz := HC3.out.rc.frozen 2; clear hq f)
  have HH3 := hid (HC3.out.put 2 (.int .i64 (m3.2 : Int)) ⟨(m1.2 : Int), (m2.2 : Int), (m3.2 : Int), [], [], [], [], []⟩ rfl rfl rfl)
  clear kc kz HC3 HH2
  generalize u3.setCell _ _ = W3 at *
  have HL1 : Hid (t1.2.length ≤ 1099511627776) := hid (by have := OText_len HH3.out.ok; rwa [HT1.out] at this)
  have HL2 : Hid (t2.2.length ≤ 1099511627776) := hid (by have h := HH3.out.ok.text; rw [HT1.out] at h; have := OText_len h; rwa [HT2.out] at this)
  go_upto_block 0 with (first
    | (go_at_call 85; refine (HH3.out.text HT1.out).mono ?_; rintro e u4 ⟨rfl, ⟨a4, hq⟩, f⟩; have HH4 := hid hq; clear hq f HH3)
    | (go_at_call 85; refine (HH4.out.text HT2.out).mono ?_; rintro e u5 ⟨rfl, ⟨a5, hq⟩, f⟩; have HH5 := hid hq; clear hq f HH4)
    | (go_at_call 84; refine (HH5.out.num 1 (by omega) HM4.out).mono ?_; rintro e u6 ⟨rfl, ⟨a6, hq⟩, f⟩; have HH6 := hid hq; clear hq f HH5))
  have hm4 : m4.2 < 256 := by have := (t2.1).num_lt 1; rw [HM4.out] at this; simpa using this
  go_cut [] (fun wx => ∃ (j a : Nat) (ae : Option Addr) (ce : Nat), j ≤ m4.2 ∧ (j = m4.2 ∨ (editsAt j m4.1).1.failed = true) ∧ RdQ w wx a (editsAt j m4.1).1 ⟨(m1.2 : Int), (m2.2 : Int), (m3.2 : Int), [], [], (editsAt j m4.1).2, [], []⟩ (.slice ae (editsAt j m4.1).2.length ce) nilM)
  case first =>
    go_wp2_with (fail)
    go_loopw [8] (fun i wr => ∃ (j a : Nat) (ae : Option Addr) (ce : Nat), j ≤ m4.2 ∧ i = .int .i64 j ∧ RdQ w wr a (editsAt j m4.1).1 ⟨(m1.2 : Int), (m2.2 : Int), (m3.2 : Int), [], [], (editsAt j m4.1).2, [], []⟩ (.slice ae (editsAt j m4.1).2.length ce) nilM) (fun i _ => m4.2 - (intOf i).toNat)
    case atStart => exact ⟨0, a6, none, 0, by omega, rfl, HH6.out⟩
    case round =>
      obtain ⟨j, aj, ae, ce, hj, rfl, hq⟩ := hrel
      obtain ⟨bj, hbj⟩ : ∃ b, editsAt j m4.1 = b := ⟨_, rfl⟩
      rw [hbj] at hq
      have HQ := hid hq
      have HBJ := hid hbj
      have hlj : bj.2.length = j := by rw [← hbj]; exact editsAt_len _ _
      have HLJ := hid hlj
      clear hq hbj hlj
      have i0 : (0 : Int) ≤ (j : Int) := by omega
      by_cases hgo : j < m4.2 ∧ bj.1.failed = false
      · obtain ⟨hjl, hnf⟩ := hgo
        have i1 : (j : Int) < (m4.2 : Int) := by omega
        have kc2 : wr.cell? ⟨w.heap.size + 1, 2, none⟩ = some (.bool false) := by have := HQ.out.rd.blk.cell 2; rw [hnf] at this; exact this
        obtain ⟨n1, hn1⟩ : ∃ m, bj.1.num 2 = m := ⟨_, rfl⟩
        obtain ⟨n2, hn2⟩ : ∃ m, n1.1.num 1 = m := ⟨_, rfl⟩
        obtain ⟨n3, hn3⟩ : ∃ m, n2.1.text = m := ⟨_, rfl⟩
        have HNX := hid (show editsAt (j + 1) m4.1 = (n3.1, bj.2 ++ [⟨(n1.2 : Int), (n2.2 : Int) - 1, n3.2⟩]) from by
          show ((((editsAt j m4.1).1.num 2).1.num 1).1.text.1, (editsAt j m4.1).2 ++ [_]) = _
          rw [HBJ.out, hn1, hn2, hn3])
        have HN1 := hid hn1
        have HN2 := hid hn2
        have HN3 := hid hn3
        have hn2b : n2.2 < 256 := by have := (n1.1).num_lt 1; rw [hn2] at this; simpa using this
        clear hn1 hn2 hn3
        go_upto_region 13 with fail
        have BE0 := hid (Blk.new wr [.int .i64 0, .int .i64 0, .string ⟨#[]⟩] 55)
        have HQ0 := hid (HQ.out.fre ((Fr.refl (fun _ => False) wr).alloc (.cells #[.int .i64 0, .int .i64 0, .string ⟨#[]⟩] 55)))
        have hgd := HQ.out.size
        have HFAR := hid (show ∀ k, (Value.slice ae bj.2.length ce).ownBlock = some k → k < wr.heap.size from fun k hk => HQ.out.e.lt hk)
        clear HQ kc2
        generalize hde : wr.heap.size = de at *
        clear hde
        generalize wr.alloc _ = V0 at *
        go_upto_region 14 with (go_at_call 84; refine (HQ0.out.num 2 (by omega) HN1.out).mono ?_; rintro e x1 ⟨rfl, ⟨b1, hq⟩, f⟩; have HX1 := hid hq; have BX1 := hid (BE0.out.fr f (fun e => by omega)); have kc : x1.cell? ⟨de, 0, none⟩ = some (.int .i64 0) := BX1.out.cell 0; have kz := BX1.out.frozen 0; clear hq f)
        have HQ1 := hid (HX1.out.far BX1.out hgd HFAR.out ((Fr.refl (fun k => k = de) x1).setCell ⟨de, 0, none⟩ (.int .i64 (n1.2 : Int)) (fun _ => rfl)))
        have BE1 : Hid (Blk (x1.setCell ⟨de, 0, none⟩ (.int .i64 (n1.2 : Int))) de [.int .i64 (n1.2 : Int), .int .i64 0, .string ⟨#[]⟩] 55) := hid (BX1.out.set 0 (.int .i64 (n1.2 : Int)))
        clear kc kz HX1 BX1 HQ0 BE0
        generalize x1.setCell _ _ = V1 at *
        go_upto_region 15 with (go_at_call 84; refine (HQ1.out.num 1 (by omega) HN2.out).mono ?_; rintro e x2 ⟨rfl, ⟨b2, hq⟩, f⟩; have HX2 := hid hq; have BX2 := hid (BE1.out.fr f (fun e => by omega)); have kc : x2.cell? ⟨de, 1, none⟩ = some (.int .i64 0) := BX2.out.cell 1; have kz := BX2.out.frozen 1; clear hq f)
        have HQ2 := hid (HX2.out.far BX2.out hgd HFAR.out ((Fr.refl (fun k => k = de) x2).setCell ⟨de, 1, none⟩ (.int .i64 ((n2.2 : Int) - 1)) (fun _ => rfl)))
        have BE2 : Hid (Blk (x2.setCell ⟨de, 1, none⟩ (.int .i64 ((n2.2 : Int) - 1))) de [.int .i64 (n1.2 : Int), .int .i64 ((n2.2 : Int) - 1), .string ⟨#[]⟩] 55) := hid (BX2.out.set 1 (.int .i64 ((n2.2 : Int) - 1)))
        clear kc kz HX2 BX2 HQ1 BE1
        generalize x2.setCell _ _ = V2 at *
        go_upto_region 16 with (go_at_call 85; refine (HQ2.out.text HN3.out).mono ?_; rintro e x3 ⟨rfl, ⟨b3, hq⟩, f⟩; have HX3 := hid hq; have BX3 := hid (BE2.out.fr f (fun e => by omega)); have kc : x3.cell? ⟨de, 2, none⟩ = some (.string ⟨#[]⟩) := BX3.out.cell 2; have kz := BX3.out.frozen 2; clear hq f)
        have HQ3 := hid (HX3.out.far BX3.out hgd HFAR.out ((Fr.refl (fun k => k = de) x3).setCell ⟨de, 2, none⟩ (.string (bs n3.2)) (fun _ => rfl)))
        have BE3 : Hid (Blk (x3.setCell ⟨de, 2, none⟩ (.string (bs n3.2))) de [.int .i64 (n1.2 : Int), .int .i64 ((n2.2 : Int) - 1), .string (bs n3.2)] 55) := hid (BX3.out.set 2 (.string (bs n3.2)))
        clear kc kz HX3 BX3 HQ2 BE2
        generalize x3.setCell _ _ = V3 at *
        have kc5 : V3.cell? ⟨w.heap.size + 1 + 1, 5, none⟩ = some (.slice ae bj.2.length ce) := HQ3.out.rc.cell 5
        have k0 : V3.cell? ⟨de, 0, none⟩ = some (.int .i64 (n1.2 : Int)) := BE3.out.cell 0
        have k1 : V3.cell? ⟨de, 1, none⟩ = some (.int .i64 ((n2.2 : Int) - 1)) := BE3.out.cell 1
        have k2 : V3.cell? ⟨de, 2, none⟩ = some (.string (bs n3.2)) := BE3.out.cell 2
        have HCE := hid (show E.cells ⟨(n1.2 : Int), (n2.2 : Int) - 1, n3.2⟩ = [.int .i64 (n1.2 : Int), .int .i64 ((n2.2 : Int) - 1), .string (bs n3.2)] from rfl)
        go_wp2_with (first | (at_builtin; refine wpList_app1 rfl (s := .tmp 57) (x := .tmp 59) (t := 24) rfl Try.underlying24 info_edit edit_zcells rfl rfl HQ3.out.e HQ3.out.size rfl (by simp [Value.oneCell']) (by have := HLJ.out; dsimp only; omega) (by have := HLJ.out; dsimp only; omega) ?_; intro ab ac wg APP; have HG := hid (HQ3.out.growE (x := ⟨(n1.2 : Int), (n2.2 : Int) - 1, n3.2⟩) (HCE.out ▸ APP)); have hre := HQ3.out.atE APP; have c5 : wg.cell? ⟨w.heap.size + 1 + 1, 5, none⟩ = some (.slice ae bj.2.length ce) := hre.cell 5; have y5 := hre.frozen 5; clear hre APP))
        go_roundw
        case rel =>
          refine ⟨j + 1, b3, ab, ac, by omega, by simp, ?_⟩
          rw [HNX.out]
          simpa using HG.out
        case measure => simp [intOf]; omega
      · have HEND := hid (show ∃ (j a : Nat) (ae : Option Addr) (ce : Nat), j ≤ m4.2 ∧ (j = m4.2 ∨ (editsAt j m4.1).1.failed = true) ∧ RdQ w wr a (editsAt j m4.1).1 ⟨(m1.2 : Int), (m2.2 : Int), (m3.2 : Int), [], [], (editsAt j m4.1).2, [], []⟩ (.slice ae (editsAt j m4.1).2.length ce) nilM from by
          refine ⟨j, aj, ae, ce, hj, ?_, by rw [HBJ.out]; exact HQ.out⟩
          rw [HBJ.out]
          by_cases hjj : j = m4.2
          · exact .inl hjj
          · right
            cases hf : bj.1.failed with
            | true => rfl
            | false => exact absurd ⟨by omega, hf⟩ hgo)
        by_cases hjl : j < m4.2
        · have hf : bj.1.failed = true := by
            cases hf : bj.1.failed with
            | true => rfl
            | false => exact absurd ⟨hjl, hf⟩ hgo
          have i1 : (j : Int) < (m4.2 : Int) := by omega
          have kc2 : wr.cell? ⟨w.heap.size + 1, 2, none⟩ = some (.bool true) := by have := HQ.out.rd.blk.cell 2; rw [hf] at this; exact this
          clear hgo hf HQ
          go_wp2_with (fail)
          go_meet
          exact HEND.out
        · have i1 : ¬ (j : Int) < (m4.2 : Int) := by omega
          clear hgo HQ
          go_wp2_with (fail)
          go_meet
          exact HEND.out
  case rest =>
  obtain ⟨j1, aE, ae, ce, hj1, hend1, hq⟩ := hcut
  obtain ⟨bE, hbE⟩ : ∃ b, editsAt j1 m4.1 = b := ⟨_, rfl⟩
  rw [hbE] at hq hend1
  have HQE := hid hq
  have HBE := hid hbE
  have HE1 := hid hend1
  have HJ1 := hid hj1
  have HLE := hid (show bE.2.length ≤ 256 from by rw [← hbE, editsAt_len]; omega)
  obtain ⟨c, hc⟩ : ∃ m, bE.1.num 1 = m := ⟨_, rfl⟩
  have HC := hid hc
  have hc256 : c.2 < 256 := by have := (bE.1).num_lt 1; rw [hc] at this; simpa using this
  clear hq hbE hend1 hj1 hc HH6
  go_upto_block 2 with (go_at_call 84; refine (HQE.out.num 1 (by omega) HC.out).mono ?_; rintro e u7 ⟨rfl, ⟨a7, hq⟩, f⟩; have HH7 := hid hq; clear hq f HQE)
  go_cut [] (fun wx => ∃ (j a : Nat) (ax : Option Addr) (cx : Nat), j ≤ c.2 ∧ (j = c.2 ∨ (xidsAt j c.1).1.failed = true) ∧ RdQ w wx a (xidsAt j c.1).1 ⟨(m1.2 : Int), (m2.2 : Int), (m3.2 : Int), [], [], bE.2, (xidsAt j c.1).2, []⟩ (.slice ae bE.2.length ce) (.slice ax (xidsAt j c.1).2.length cx))
  case first =>
    go_wp2_with (fail)
    go_loopw [10] (fun i wr => ∃ (j a : Nat) (ax : Option Addr) (cx : Nat), j ≤ c.2 ∧ i = .int .i64 j ∧ RdQ w wr a (xidsAt j c.1).1 ⟨(m1.2 : Int), (m2.2 : Int), (m3.2 : Int), [], [], bE.2, (xidsAt j c.1).2, []⟩ (.slice ae bE.2.length ce) (.slice ax (xidsAt j c.1).2.length cx)) (fun i _ => c.2 - (intOf i).toNat)
    case atStart => exact ⟨0, a7, none, 0, by omega, rfl, HH7.out⟩
    case round =>
      obtain ⟨j, aj, ax, cx, hj, rfl, hq⟩ := hrel
      obtain ⟨bj, hbj⟩ : ∃ b, xidsAt j c.1 = b := ⟨_, rfl⟩
      rw [hbj] at hq
      have HQ := hid hq
      have HBJ := hid hbj
      have hlj : bj.2.length = j := by rw [← hbj]; exact xidsAt_len _ _
      have HLJ := hid hlj
      clear hq hbj hlj HH7
      have i0 : (0 : Int) ≤ (j : Int) := by omega
      by_cases hgo : j < c.2 ∧ bj.1.failed = false
      · obtain ⟨hjl, hnf⟩ := hgo
        have i1 : (j : Int) < (c.2 : Int) := by omega
        have kc2 : wr.cell? ⟨w.heap.size + 1, 2, none⟩ = some (.bool false) := by have := HQ.out.rd.blk.cell 2; rw [hnf] at this; exact this
        obtain ⟨n1, hn1⟩ : ∃ m, bj.1.num 1 = m := ⟨_, rfl⟩
        have HNX := hid (show xidsAt (j + 1) c.1 = (n1.1, bj.2 ++ [(n1.2 : Int)]) from by
          show (((xidsAt j c.1).1.num 1).1, (xidsAt j c.1).2 ++ [_]) = _
          rw [HBJ.out, hn1])
        have HN1 := hid hn1
        clear hn1 hnf
        go_upto_region 22 with (go_at_call 84; refine (HQ.out.num 1 (by omega) HN1.out).mono ?_; rintro e x1 ⟨rfl, ⟨b1, hq⟩, f⟩; have HX1 := hid hq; clear hq f)
        have kc6 : x1.cell? ⟨w.heap.size + 1 + 1, 6, none⟩ = some (.slice ax bj.2.length cx) := HX1.out.rc.cell 6
        clear HQ kc2
        go_wp2_with (first | (at_builtin; refine wpList_app1 rfl (s := .tmp 79) (x := .tmp 81) (t := 25) rfl Try.underlying25 info_int rfl rfl rfl HX1.out.x HX1.out.size rfl (by simp [Value.oneCell']) (by have := HLJ.out; dsimp only; omega) (by have := HLJ.out; dsimp only; omega) ?_; intro ab ac wg APP; have HG := hid (HX1.out.growX (x := (n1.2 : Int)) APP); have hre := HX1.out.atX APP; have c6 : wg.cell? ⟨w.heap.size + 1 + 1, 6, none⟩ = some (.slice ax bj.2.length cx) := hre.cell 6; have y6 := hre.frozen 6; clear hre APP))
        go_roundw
        case rel =>
          refine ⟨j + 1, b1, ab, ac, by omega, by simp, ?_⟩
          rw [HNX.out]
          simpa using HG.out
        case measure => simp [intOf]; omega
      · have HEND := hid (show ∃ (j a : Nat) (ax : Option Addr) (cx : Nat), j ≤ c.2 ∧ (j = c.2 ∨ (xidsAt j c.1).1.failed = true) ∧ RdQ w wr a (xidsAt j c.1).1 ⟨(m1.2 : Int), (m2.2 : Int), (m3.2 : Int), [], [], bE.2, (xidsAt j c.1).2, []⟩ (.slice ae bE.2.length ce) (.slice ax (xidsAt j c.1).2.length cx) from by
          refine ⟨j, aj, ax, cx, hj, ?_, by rw [HBJ.out]; exact HQ.out⟩
          rw [HBJ.out]
          by_cases hjj : j = c.2
          · exact .inl hjj
          · right
            cases hf : bj.1.failed with
            | true => rfl
            | false => exact absurd ⟨by omega, hf⟩ hgo)
        by_cases hjl : j < c.2
        · have hf : bj.1.failed = true := by
            cases hf : bj.1.failed with
            | true => rfl
            | false => exact absurd ⟨hjl, hf⟩ hgo
          have i1 : (j : Int) < (c.2 : Int) := by omega
          have kc2 : wr.cell? ⟨w.heap.size + 1, 2, none⟩ = some (.bool true) := by have := HQ.out.rd.blk.cell 2; rw [hf] at this; exact this
          clear hgo hf HQ
          go_wp2_with (fail)
          go_meet
          exact HEND.out
        · have i1 : ¬ (j : Int) < (c.2 : Int) := by omega
          clear hgo HQ
          go_wp2_with (fail)
          go_meet
          exact HEND.out
  case rest =>
  obtain ⟨j2, aX, ax, cx, hj2, hend2, hq⟩ := hcut
  obtain ⟨bX, hbX⟩ : ∃ b, xidsAt j2 c.1 = b := ⟨_, rfl⟩
  rw [hbX] at hq hend2
  have HQX := hid hq
  have hlx : bX.2.length ≤ 256 := by rw [← hbX, xidsAt_len]; omega
  have HLX := hid hlx
  obtain ⟨t, ht⟩ : ∃ m, bX.1.text = m := ⟨_, rfl⟩
  have HT := hid ht
  have HRUN := hid (run_ends (s := s) (j1 := j1) (j2 := j2) (bE := bE) (c := c) (bX := bX) (t := t) (by rw [HRN.out, HM4.out]; exact HBE.out) (by rw [HRN.out, HM4.out]; exact HE1.out) (by rw [HRN.out, HM4.out]; exact HJ1.out) HC.out hbX hend2 hj2 ht)
  clear hq hbX hend2 hj2 ht hlx HE1 HJ1 HH7
  go_upto_region 24 with (go_at_call 85; refine (HQX.out.text HT.out).mono ?_; rintro e u8 ⟨rfl, ⟨a8, hq⟩, f⟩; have HC8 := hid hq; have kc : u8.cell? ⟨w.heap.size + 1 + 1, 7, none⟩ = some (.string (bs [])) := HC8.out.rc.cell 7; have kz := HC8.out.rc.frozen 7; clear hq f)
  have HH8 := hid (HC8.out.put 7 (.string (bs t.2)) ⟨(m1.2 : Int), (m2.2 : Int), (m3.2 : Int), [], [], bE.2, bX.2, t.2⟩ rfl rfl rfl)
  clear kc kz HC8 HQX
  generalize u8.setCell _ _ = W8 at *
  obtain ⟨tf, htf⟩ : ∃ b, b = t.1.failed := ⟨_, rfl⟩
  have kf : W8.cell? ⟨w.heap.size + 1, 2, none⟩ = some (.bool tf) := by rw [htf]; exact HH8.out.rd.blk.cell 2
  cases tf with
  | true =>
    have hrs : res = (R.zero, (10 : Int)) := by rw [HRES.out]; exact readR_short (by rw [← HRUN.out.1, ← htf])
    have HRS := hid hrs
    have th := HH8.out.res.there 0 9 (by simp [got4, rv])
    have f := (Fr.refl (fun k => k = w.heap.size) W8).put w.heap.size 0 (got4 R.zero nilM nilM nilM nilM 10) (fun _ => rfl)
    have HBZ := hid (HH8.out.res.put 0 (got4 R.zero nilM nilM nilM nilM 10) (by simp [got4, rv]))
    have FZ := hid (HH8.out.fr.trans f (fun k hk hl => by omega))
    clear hrs htf f
    go_wp2_with (refine wpList_store_mid rfl 76 (.tmp 2) (.tmp 91) rfl w.heap.size 0 #[.int .i64 0, .int .i64 0, .int .i64 0, .slice none 0 0, .slice none 0 0, .slice none 0 0, .slice none 0 0, .string ⟨#[]⟩, .int .i64 10] rfl rfl th size_Got4 (by simp [Value.oneCell']) ?_)
    refine bodyPost_ret (v := .agg (got4 R.zero nilM nilM nilM nilM 10).toArray) (results_cell_mid (b := w.heap.size) (o := 0) rfl _ _ rfl (cs := got4 R.zero nilM nilM nilM nilM 10) (Blk.all _ HBZ.out) Try.underlying76 rfl size_Got4) rfl ?_
    rw [HRS.out]
    exact ⟨nilM, nilM, nilM, nilM, rfl, RV_zero _ _ (fun k hk => hk.2), FZ.out⟩
  | false =>
    obtain ⟨hbE, hbX, hbT⟩ := HRUN.out.2 htf.symm
    have hat := HH8.out.rd.at_ htf.symm
    have hok := HH8.out.ok
    have hts : t.1.s = s := by rw [hbT]; exact rdT_s s
    obtain ⟨⟨ov, oe⟩, hov⟩ : ∃ x, readV t1.2 = x := ⟨_, rfl⟩
    obtain ⟨⟨nv, ne⟩, hnv⟩ : ∃ x, readV t2.2 = x := ⟨_, rfl⟩
    have hrr : res = if (!decide (oe = 0) || !decide (ne = 0) || decide (0 < t.1.left) || !(R.mk (m1.2 : Int) (m2.2 : Int) (m3.2 : Int) ov nv bE.2 bX.2 t.2).right) then (R.zero, 11) else (R.mk (m1.2 : Int) (m2.2 : Int) (m3.2 : Int) ov nv bE.2 bX.2 t.2, 0) := by
      rw [HRES.out, readR_run (by rw [← hbT]; exact htf.symm), HD3.out, HM1.out, HM2.out, HM3.out, HT1.out, HT2.out, hov, hnv, hbE, hbX, hbT]
    have hleft : decide (0 < t.1.left) = decide ((a8 : Int) < (s.length : Int)) := by
      have hle := hok.le
      rw [hts] at hle
      unfold RM.left
      rw [hts, ← hat]
      rw [← hat] at hle
      by_cases hh : a8 < s.length
      · rw [decide_eq_true (by omega), decide_eq_true (by omega)]
      · rw [decide_eq_false (by omega), decide_eq_false (by omega)]
    rw [hleft] at hrr
    have HRR := hid hrr
    have HROV := hid (fun w => hov ▸ r2Read_go t1.2 HL1.out w)
    have HRNV := hid (fun w => hnv ▸ r2Read_go t2.2 HL2.out w)
    have HVL := hid (show ov.length ≤ 6 ∧ nv.length ≤ 6 from by
      have h1 := readV_len t1.2
      have h2 := readV_len t2.2
      rw [hov] at h1
      rw [hnv] at h2
      exact ⟨h1, h2⟩)
    clear hrr hleft hov hnv hts hok hat hbE hbX hbT HRUN HRES htf
    go_upto_region 27 with (go_at_call 86; refine (HROV.out _).mono ?_; rintro e u9 ⟨ao, co, rfl, hrow, f⟩; have HRO := hid hrow; have HH9 := hid (HH8.out.fre f); have hsz9 := HH8.out.size; have hfs9 := f.size; clear hrow f)
    have fa9 := (Fr.refl (fun _ => False) u9).alloc (.cells #[.slice ao ov.length co, .int .i64 oe] 116)
    have B12 := hid (Blk.new u9 [.slice ao ov.length co, .int .i64 oe] 116)
    have HH10 := hid (HH9.out.fre fa9)
    have HRO2 := hid ((HRO.out.low hsz9).fre fa9)
    clear fa9 HH9 HRO HROV HH8
    generalize hd12 : u9.heap.size = d12 at *
    have HD12 := hid (show w.heap.size + 3 ≤ d12 from by rw [← hd12]; omega)
    clear hd12 hfs9 hsz9
    generalize u9.alloc _ = W9 at *
    go_upto_region 28 with (go_at_call 86; refine (HRNV.out _).mono ?_; rintro e u10 ⟨an, cn, rfl, hrow, f⟩; have HRN := hid hrow; have HH11 := hid (HH10.out.fre f); have HRO3 := hid (HRO2.out.fre f); have B13 := hid (B12.out.fr f (fun h => h)); have hsz10 := HH10.out.size; have hfs10 := f.size; clear hrow f)
    have fa10 := (Fr.refl (fun _ => False) u10).alloc (.cells #[.slice an nv.length cn, .int .i64 ne] 116)
    have B14 := hid (Blk.new u10 [.slice an nv.length cn, .int .i64 ne] 116)
    have HH12 := hid (HH11.out.fre fa10)
    have HRO4 := hid (HRO3.out.fre fa10)
    have HRN2 := hid ((HRN.out.low hsz10).fre fa10)
    have B15 := hid (B13.out.fr fa10 (fun h => h))
    clear fa10 HH11 HRN HRNV HH10 HRO2 HRO3 B12 B13
    generalize hd13 : u10.heap.size = d13 at *
    have HD13 := hid (show w.heap.size + 3 ≤ d13 from by rw [← hd13]; omega)
    clear hd13 hfs10 hsz10
    generalize u10.alloc _ = W10 at *
    have k0 : W10.cell? ⟨d12, 0, none⟩ = some (.slice ao ov.length co) := B15.out.cell 0
    have k3 : W10.cell? ⟨w.heap.size + 1 + 1, 3, none⟩ = some nilM := HH12.out.rc.cell 3
    have z3 := HH12.out.rc.frozen 3
    have f1 := (Fr.refl (fun k => k = w.heap.size + 1 + 1) W10).setCell ⟨w.heap.size + 1 + 1, 3, none⟩ (.slice ao ov.length co) (fun _ => rfl)
    have RC1 : Hid (Blk (W10.setCell ⟨w.heap.size + 1 + 1, 3, none⟩ (.slice ao ov.length co)) (w.heap.size + 1 + 1) (rv ⟨(m1.2 : Int), (m2.2 : Int), (m3.2 : Int), ov, [], bE.2, bX.2, t.2⟩ (.slice ao ov.length co) nilM (.slice ae bE.2.length ce) (.slice ax bX.2.length cx)) 27) := hid (HH12.out.rc.set 3 (.slice ao ov.length co))
    have B16 := hid (B14.out.fr f1 (fun e => by have := HD13.out; omega))
    have k4 : (W10.setCell ⟨w.heap.size + 1 + 1, 3, none⟩ (.slice ao ov.length co)).cell? ⟨d13, 0, none⟩ = some (.slice an nv.length cn) := B16.out.cell 0
    have k5 : (W10.setCell ⟨w.heap.size + 1 + 1, 3, none⟩ (.slice ao ov.length co)).cell? ⟨w.heap.size + 1 + 1, 4, none⟩ = some nilM := RC1.out.cell 4
    have z5 := RC1.out.frozen 4
    have f2 := f1.setCell ⟨w.heap.size + 1 + 1, 4, none⟩ (.slice an nv.length cn) (fun _ => rfl)
    have RC2 : Hid (Blk ((W10.setCell ⟨w.heap.size + 1 + 1, 3, none⟩ (.slice ao ov.length co)).setCell ⟨w.heap.size + 1 + 1, 4, none⟩ (.slice an nv.length cn)) (w.heap.size + 1 + 1) (rv ⟨(m1.2 : Int), (m2.2 : Int), (m3.2 : Int), ov, nv, bE.2, bX.2, t.2⟩ (.slice ao ov.length co) (.slice an nv.length cn) (.slice ae bE.2.length ce) (.slice ax bX.2.length cx)) 27) := hid (RC1.out.set 4 (.slice an nv.length cn))
    have B17 := hid (B14.out.fr f2 (fun e => by have := HD13.out; omega))
    have B18 := hid (B15.out.fr f2 (fun e => by have := HD12.out; omega))
    have RES := hid (HH12.out.res.fr f2 (fun e => by omega))
    have RRD := hid (HH12.out.rd.fr f2 (by omega))
    have ROO := hid (HRO4.out.fr f2 (fun k hk => HRO4.out.ne HH12.out.rc (by decide) k hk))
    have RNN := hid (HRN2.out.fr f2 (fun k hk => HRN2.out.ne HH12.out.rc (by decide) k hk))
    have REE := hid (HH12.out.e.fr f2 (fun k hk => HH12.out.e.ne HH12.out.rc (by decide) k hk))
    have RXX := hid (HH12.out.x.fr f2 (fun k hk => HH12.out.x.ne HH12.out.rc (by decide) k hk))
    have FF := hid (HH12.out.fr.trans f2 (fun k hk hl => by omega))
    clear f1 f2
    go_upto_region 30 with fail
    clear k0 k3 z3 k4 k5 z5 RC1 B14 B15 B16 HH12 HRO4 HRN2
    generalize (W10.setCell _ _).setCell _ _ = W12 at *
    have hro0 := ROO.out
    have HV : Hid (RV (fun k => w.heap.size + 3 ≤ k ∧ k < W12.heap.size) W12 ⟨(m1.2 : Int), (m2.2 : Int), (m3.2 : Int), ov, nv, bE.2, bX.2, t.2⟩ (.slice ao ov.length co) (.slice an nv.length cn) (.slice ae bE.2.length ce) (.slice ax bX.2.length cx)) :=
      hid ⟨own_sl ROO.out.own (fun k hk => ⟨by have := ROO.out.new k hk; omega, ROO.out.lt hk⟩), own_sl RNN.out.own (fun k hk => ⟨by have := RNN.out.new k hk; omega, RNN.out.lt hk⟩), own_sl REE.out.own (fun k hk => ⟨by have := REE.out.new k hk; omega, REE.out.lt hk⟩), own_sl RXX.out.own (fun k hk => ⟨by have := RXX.out.new k hk; omega, RXX.out.lt hk⟩), by have := HVL.out; dsimp only; omega, by have := HVL.out; dsimp only; omega, by have := HLE.out; dsimp only; omega, by have := HLX.out; dsimp only; omega, fun k hk => hk.2⟩
    clear hro0
    have HRG := hid (r4Right_go HV.out)
    generalize hrt : R.right ⟨(m1.2 : Int), (m2.2 : Int), (m3.2 : Int), ov, nv, bE.2, bX.2, t.2⟩ = rt at *
    clear hrt
    have y1 : W12.cell? ⟨d12, 1, none⟩ = some (.int .i64 oe) := B18.out.cell 1
    have y2 : W12.cell? ⟨d13, 1, none⟩ = some (.int .i64 ne) := B17.out.cell 1
    have y3 : W12.cell? ⟨w.heap.size + 1, 1, none⟩ = some (.int .i64 a8) := RRD.out.blk.cell 1
    obtain ⟨p0, p1, p2, p3, p4, p5, p6, p7⟩ := rec_cells RC2.out
    obtain ⟨g1, hg1⟩ : ∃ g, g = !decide (oe = 0) := ⟨_, rfl⟩
    obtain ⟨g2, hg2⟩ : ∃ g, g = !decide (ne = 0) := ⟨_, rfl⟩
    obtain ⟨g3, hg3⟩ : ∃ g, g = decide ((a8 : Int) < (s.length : Int)) := ⟨_, rfl⟩
    rw [← hg1, ← hg2, ← hg3] at HRR
    have x1 : (oe != 0) = g1 := by rw [hg1]; exact bne_dec oe 0
    have x2 : (ne != 0) = g2 := by rw [hg2]; exact bne_dec ne 0
    have x3 : decide ((a8 : Int) < (s.length : Int)) = g3 := hg3.symm
    have x4 : decide (a8 < s.length) = g3 := by rw [hg3]; by_cases hh : a8 < s.length <;> simp [hh]
    clear hg1 hg2 hg3
    go_cut [123] (fun s123 wx => s123 = .bool (g1 || g2 || g3 || !rt) ∧ Fr (fun _ => False) W12 wx)
    case first =>
      go_wp2_with (go_at_call 16; refine HRG.out.mono ?_; rintro e x9 ⟨rfl, f⟩; have FX := hid f; clear f)
      all_goals
        go_meet
        first
        | exact ⟨by simp_all, FX.out⟩
        | exact ⟨by simp_all, Fr.refl _ _⟩
    case rest =>
    obtain ⟨rfl, fw⟩ := hcut
    have RESW := hid (Blk.fr RES.out fw (fun h => h))
    have RCW := hid (Blk.fr RC2.out fw (fun h => h))
    have HVW := hid (HV.out.fre fw)
    have FW := hid (FF.out.trans fw (fun _ h _ => h))
    have hfs := fw.size
    clear fw x1 x2 x3 x4 y1 y2 y3 p0 p1 p2 p3 p4 p5 p6 p7 HRG RES RC2 FF B17 B18 RRD ROO RNN REE RXX
    obtain ⟨g, hg⟩ : ∃ g, g = (g1 || g2 || g3 || !rt) := ⟨_, rfl⟩
    rw [← hg] at HRR ⊢
    clear hg
    have th := RESW.out.there 0 9 (by simp [got4, rv])
    cases g with
    | true =>
      have HRS := hid (show res = (R.zero, (11 : Int)) from by rw [HRR.out]; rfl)
      have f := (Fr.refl (fun k => k = w.heap.size) wc).put w.heap.size 0 (got4 R.zero nilM nilM nilM nilM 11) (fun _ => rfl)
      have HBZ := hid (RESW.out.put 0 (got4 R.zero nilM nilM nilM nilM 11) (by simp [got4, rv]))
      have FZ := hid (FW.out.trans f (fun k hk hl => by omega))
      clear f HRR
      go_wp2_with (refine wpList_store_mid rfl 76 (.tmp 2) (.tmp 124) rfl w.heap.size 0 #[.int .i64 0, .int .i64 0, .int .i64 0, .slice none 0 0, .slice none 0 0, .slice none 0 0, .slice none 0 0, .string ⟨#[]⟩, .int .i64 11] rfl rfl th size_Got4 (by simp [Value.oneCell']) ?_)
      refine bodyPost_ret (v := .agg (got4 R.zero nilM nilM nilM nilM 11).toArray) (results_cell_mid (b := w.heap.size) (o := 0) rfl _ _ rfl (cs := got4 R.zero nilM nilM nilM nilM 11) (Blk.all _ HBZ.out) Try.underlying76 rfl size_Got4) rfl ?_
      rw [HRS.out]
      exact ⟨nilM, nilM, nilM, nilM, rfl, RV_zero _ _ (fun k hk => hk.2), FZ.out⟩
    | false =>
      have HRS := hid (show res = (⟨(m1.2 : Int), (m2.2 : Int), (m3.2 : Int), ov, nv, bE.2, bX.2, t.2⟩, (0 : Int)) from by rw [HRR.out]; rfl)
      have f := (Fr.refl (fun k => k = w.heap.size) wc).put w.heap.size 0 (got4 ⟨(m1.2 : Int), (m2.2 : Int), (m3.2 : Int), ov, nv, bE.2, bX.2, t.2⟩ (.slice ao ov.length co) (.slice an nv.length cn) (.slice ae bE.2.length ce) (.slice ax bX.2.length cx) 0) (fun _ => rfl)
      have HBZ := hid (RESW.out.put 0 (got4 ⟨(m1.2 : Int), (m2.2 : Int), (m3.2 : Int), ov, nv, bE.2, bX.2, t.2⟩ (.slice ao ov.length co) (.slice an nv.length cn) (.slice ae bE.2.length ce) (.slice ax bX.2.length cx) 0) (by simp [got4, rv]))
      have FZ := hid (FW.out.trans f (fun k hk hl => by omega))
      have HVZ := hid (HVF HVW.out f hfs)
      obtain ⟨p0, p1, p2, p3, p4, p5, p6, p7⟩ := rec_cells RCW.out
      clear f HRR
      go_wp2_with (refine wpList_store_mid rfl 76 (.tmp 2) (.tmp 126) rfl w.heap.size 0 #[.int .i64 (m1.2 : Int), .int .i64 (m2.2 : Int), .int .i64 (m3.2 : Int), .slice ao ov.length co, .slice an nv.length cn, .slice ae bE.2.length ce, .slice ax bX.2.length cx, .string (bs t.2), .int .i64 0] rfl rfl th size_Got4 (by simp [Value.oneCell']) ?_)
      refine bodyPost_ret (v := .agg (got4 ⟨(m1.2 : Int), (m2.2 : Int), (m3.2 : Int), ov, nv, bE.2, bX.2, t.2⟩ (.slice ao ov.length co) (.slice an nv.length cn) (.slice ae bE.2.length ce) (.slice ax bX.2.length cx) 0).toArray) (results_cell_mid (b := w.heap.size) (o := 0) rfl _ _ rfl (cs := got4 ⟨(m1.2 : Int), (m2.2 : Int), (m3.2 : Int), ov, nv, bE.2, bX.2, t.2⟩ (.slice ao ov.length co) (.slice an nv.length cn) (.slice ae bE.2.length ce) (.slice ax bX.2.length cx) 0) (Blk.all _ HBZ.out) Try.underlying76 rfl size_Got4) rfl ?_
      rw [HRS.out]
      exact ⟨_, _, _, _, rfl, HVZ.out, FZ.out⟩
end Go.Proofs.Ytfhkmiifndhacaa
