/- Proved: the reference's Scan of a byte string of at most 2^40 bytes returns the records and ends of the plain function scan, in two lists of its own. Conditions: the string's length. -/
import Derived.Test.YtfhkmiifndhacaaRsN
set_option linter.unusedVariables false
namespace Go.Proofs.Ytfhkmiifndhacaa
open Go.RowKit Go.VB Go.VB.Oct Go.VB.Rec
theorem size_Log : (Try.prog.info? 90).map (·.size) = some 2 := by kernel_rfl
/-- two lists of the call's own: records and ends -/
structure ScE (w0 W : World) (vl va : Value) (qs : List Q) (ats : List Int) : Prop where
  l : Row 27 8 w0.heap.size W vl qs.length (qs.flatMap Q.cells)
  a : Row 3 1 w0.heap.size W va ats.length (ats.flatMap icell)
  q : ∀ q ∈ qs, q.RV (PS (w0.heap.size + 1) W vl va) W
  fr : Fr (fun _ => False) w0 W
theorem ScR.done {w0 W W' : World} {vl va : Value} {qs : List Q} {ats : List Int} (h : ScR w0 W vl va qs ats) (f : Fr (fun k => k = w0.heap.size) W W') : ScE w0 W' vl va qs ats :=
  ⟨h.l.fr f (fun k hk e => h.l.ne h.res (by decide) k hk e), h.a.fr f (fun k hk e => h.a.ne h.res (by decide) k hk e),
    fun q hq => ((h.q q hq).fr f (fun k hk e => by have := hk.1; omega)).mono (fun k hk => ⟨hk.1, Nat.lt_of_lt_of_le hk.2.1 f.size, hk.2.2⟩) (fun k hk => hk.2.1), h.fr.trans f (fun k hk hl => by omega)⟩
theorem ScR.start (w : World) : ScR w ((w.alloc (.cells #[.slice none 0 0, .slice none 0 0] 90)).alloc (.cells #[.slice none 0 0, .slice none 0 0] 90)) (.slice none 0 0) (.slice none 0 0) [] [] := by
  have b0 := Blk.new w [.slice none 0 0, .slice none 0 0] 90
  have b1 := Blk.new (w.alloc (.cells #[.slice none 0 0, .slice none 0 0] 90)) [.slice none 0 0, .slice none 0 0] 90
  simp only [World.size_alloc] at b1
  exact ⟨b0.alloc _, b1, Row.nil, Row.nil, fun q hq => absurd hq (by simp), ((Fr.refl (fun _ => False) w).alloc _).alloc _⟩
theorem r4Read_at {s : List UInt8} {r : R} {x : Int} (h : readR s = (r, x)) (hs : s.length ≤ 1099511627776) (w : World) : Calls Try.prog 51 #[.string (bs s)] w fun z w' => ∃ (b1 b2 b3 b4 : Option Addr) (c1 c2 c3 c4 : Nat), z = .returned (.agg #[.int .i64 r.kind, .int .i64 r.xid, .int .i64 r.table, .slice b1 r.old.length c1, .slice b2 r.new.length c2, .slice b3 r.edits.length c3, .slice b4 r.xids.length c4, .string (bs r.note), .int .i64 x]) ∧
    RV (fun k => w.heap.size ≤ k ∧ k < w'.heap.size) w' r (.slice b1 r.old.length c1) (.slice b2 r.new.length c2) (.slice b3 r.edits.length c3) (.slice b4 r.xids.length c4) ∧ Fr (fun _ => False) w w' := by
  refine (r4Read_go s hs w).mono ?_
  rw [h]
  rintro z w' ⟨vo, vn, ve, vx, rfl, hv, f⟩
  obtain ⟨b1, e1, b2, e2, b3, e3, b4, e4, rfl, rfl, rfl, rfl⟩ := hv.slices
  exact ⟨b1, b2, b3, b4, e1, e2, e3, e4, rfl, hv, f⟩
/-- what was read, laid into the variable g -/
def GotAt (wr W : World) (g : Nat) (r : R) (x : Int) (b1 b2 b3 b4 : Option Addr) (c1 c2 c3 c4 : Nat) : Prop :=
  Blk W g [.int .i64 r.kind, .int .i64 r.xid, .int .i64 r.table, .slice b1 r.old.length c1, .slice b2 r.new.length c2, .slice b3 r.edits.length c3, .slice b4 r.xids.length c4, .string (bs r.note), .int .i64 x] 76 ∧ Fr (fun _ => False) wr W ∧ RV (fun k => wr.heap.size ≤ k ∧ k < W.heap.size) W r (.slice b1 r.old.length c1) (.slice b2 r.new.length c2) (.slice b3 r.edits.length c3) (.slice b4 r.xids.length c4)
theorem got_put {wr W : World} {g : Nat} {zs : List Value} {P : Nat → Prop} {r : R} {x : Int} {b1 b2 b3 b4 : Option Addr} {c1 c2 c3 c4 : Nat} (hz : Blk W g zs 76) (hzl : zs.length = 9) (hF : Fr (fun _ => False) wr W) (hg : wr.heap.size ≤ g)
    (hv : RV P W r (.slice b1 r.old.length c1) (.slice b2 r.new.length c2) (.slice b3 r.edits.length c3) (.slice b4 r.xids.length c4)) (hP : ∀ k, P k → k ≠ g ∧ wr.heap.size ≤ k ∧ k < W.heap.size) : GotAt wr (W.setCells g 0 [.int .i64 r.kind, .int .i64 r.xid, .int .i64 r.table, .slice b1 r.old.length c1, .slice b2 r.new.length c2, .slice b3 r.edits.length c3, .slice b4 r.xids.length c4, .string (bs r.note), .int .i64 x]) g r x b1 b2 b3 b4 c1 c2 c3 c4 := by
  have f := (Fr.refl (fun k => k = g) W).put g 0 [.int .i64 r.kind, .int .i64 r.xid, .int .i64 r.table, .slice b1 r.old.length c1, .slice b2 r.new.length c2, .slice b3 r.edits.length c3, .slice b4 r.xids.length c4, .string (bs r.note), .int .i64 x] (fun _ => rfl)
  have h1 := hz.put 0 [.int .i64 r.kind, .int .i64 r.xid, .int .i64 r.table, .slice b1 r.old.length c1, .slice b2 r.new.length c2, .slice b3 r.edits.length c3, .slice b4 r.xids.length c4, .string (bs r.note), .int .i64 x] (by rw [hzl]; simp)
  refine ⟨?_, hF.trans f (fun k hk hl => by omega), (hv.fr f (fun k hk e => (hP k hk).1 e)).mono (fun k hk => ⟨(hP k hk).2.1, Nat.lt_of_lt_of_le (hP k hk).2.2 f.size⟩) (fun k hk => hk.2)⟩
  rw [List.drop_of_length_le (by rw [hzl]; simp)] at h1
  simpa using h1
set_option maxRecDepth 20000 in
set_option maxHeartbeats 8000000 in
theorem r4Scan_go (s : List UInt8) (hs : s.length ≤ 1099511627776) (w : World) : Calls Try.prog 63 #[.string (bs s)] w fun e w' => ∃ vl va qs, e = .returned (.agg #[vl, va]) ∧ qs.map Q.r = (scan s).1 ∧ ScE w w' vl va qs (scan s).2 := by
  obtain ⟨sc, hsc⟩ : ∃ sc, scan s = sc := ⟨_, rfl⟩
  rw [hsc]
  have HSC := hid hsc
  have e1 := bs_size s
  clear hsc
  have H0 := hid (ScR.start w)
  go_enter Try.func63, Try.ntmps63
  go_wp2_with (fail)
  generalize ((w.alloc _).alloc _) = W0 at *
  go_loopw [4] (fun v4 wr => ∃ (f a : Nat) (qs : List Q) (ats : List Int) (vl va : Value), v4 = .int .i64 a ∧ ScR w wr vl va qs ats ∧ sc.1 = qs.map Q.r ++ (scanF f s a).1 ∧ sc.2 = ats ++ (scanF f s a).2 ∧ s.length - a < f ∧ ats.length = qs.length ∧ ats.length * 8 ≤ a ∧ a ≤ s.length) (fun v4 _ => s.length - (intOf v4).toNat)
  case atStart => exact ⟨s.length + 1, 0, [], [], _, _, rfl, H0.out, by rw [← HSC.out]; rfl, by rw [← HSC.out]; rfl, by omega, rfl, by simp, by omega⟩
  case round =>
    obtain ⟨f, a, qs, ats, vl, va, rfl, h, e2, e3, hf, hl, ha, hle⟩ := hrel
    obtain ⟨f, rfl⟩ : ∃ g, f = g + 1 := ⟨f - 1, by omega⟩
    obtain ⟨m1, h1⟩ : ∃ m, (RM.mk s a false).num 4 = m := ⟨_, rfl⟩
    obtain ⟨m2, h2⟩ : ∃ m, m1.1.num 4 = m := ⟨_, rfl⟩
    have hb1 : m1.2 < 4294967296 := by rw [← h1]; exact RM.num_lt _ 4
    have hb2 : m2.2 < 4294967296 := by rw [← h2]; exact RM.num_lt _ 4
    have hok : (RM.mk s a false).Ok := ⟨hle, hs⟩
    have hok1 : m1.1.Ok := by rw [← h1]; exact hok.num 4
    have HOK := hid hok
    have HOK1 := hid hok1
    obtain ⟨al, cl, rfl, _⟩ := h.l.slice
    obtain ⟨aa, ca, rfl, _⟩ := h.a.slice
    have HREL := hid (show sc.1 = qs.map Q.r ++ (scanF (f + 1) s a).1 ∧ sc.2 = ats ++ (scanF (f + 1) s a).2 ∧ s.length - a < f + 1 ∧ ats.length = qs.length ∧ ats.length * 8 ≤ a from ⟨e2, e3, hf, hl, ha⟩)
    have M1 := hid h1
    have M2 := hid h2
    have H := hid h
    have R0 : Hid (R4 (wr.alloc (.cells #[.string (bs s), .int .i64 a, .bool false] 114)) wr.heap.size a ⟨s, a, false⟩) := hid ⟨Blk.new wr [.string (bs s), .int .i64 a, .bool false] 114, fun _ => rfl⟩
    have F0 := hid ((Fr.refl (fun _ => False) wr).alloc (.cells #[.string (bs s), .int .i64 a, .bool false] 114))
    clear h e2 e3 hf hl ha h1 h2 hok hok1 H0
    go_upto_region 6 with (first
      | (go_at_call 84; refine (r4num_go R0.out HOK.out 4 (by omega)).mono ?_; rw [M1.out]; rintro e w2 ⟨rfl, ⟨a1, hr⟩, fz⟩; have R1 := hid hr; have F1 := hid (F0.out.trans fz (fun k hk hl => by omega)); clear hr fz R0)
      | (go_at_call 84; refine (r4num_go R1.out HOK1.out 4 (by omega)).mono ?_; rw [M2.out]; rintro e w3 ⟨rfl, ⟨a2, hr⟩, fz⟩; have R2 := hid hr; have F2 := hid (F1.out.trans fz (fun k hk hl => by omega)); clear hr fz R1))
    generalize wr.heap.size = p at *
    clear F0 F1
    have HB := hid R2.out.blk.drew
    cases hfl : m2.1.failed with
    | true =>
      have hn := scan1_shortR M1.out M2.out hfl
      have HN := hid hn
      rw [hfl] at HB
      clear hn hfl
      refine wp_region_scr (.take 0 (.take 1 (.take 2 (.take 3 (.take 4 (.take 5 (.take 6 (.take 7 (.take 8 (.take 9 (.take 10 (.take 11 (.take 12 (.take 13 (.take 14 (.take 15 (.take 16 (.take 17 (.take 18 (.take 19 (.take 20 (.take 21 (.take 22 (.take 23 (.take 24 (.take 25 (.take 26 (.take 27 (.take 28 (.take 29 (.take 30 (.take 31 (.take 32 .done))))))))))))))))))))))))))))))))) (fun kz w => (kz ≤ 33 → w.cell? ⟨p, 2, none⟩ = some (.bool true)) ∧ True) (by kernel_rfl) (by kernel_rfl) (by intro c a d v w h; cases d <;> exact h) ?_
      repeat
        first
        | (refine wpT_pure rfl rfl rfl ?_; apply Exists.intro; refine ⟨?_, ?_⟩; intro w; (first | (first | (obtain ⟨qa1, qa2⟩ := qa; go_simp <;> rfl)) | (go_simp <;> rfl)); simp only [Act.put, List.setIfInBounds_toArray, List.set_cons_zero, List.set_cons_succ])
        | (refine wpT_take 33 rfl rfl (by decide +kernel) ⟨fun _ => HB.out.cell 2, trivial⟩ ?_; apply Exists.intro; refine ⟨?_, ?_⟩; intro w hw; (have qa := hw.1 (Nat.le_refl _); have qb := hw.2); (first | (first | (obtain ⟨qa1, qa2⟩ := qa; go_simp <;> rfl)) | (go_simp <;> rfl)); simp only [Act.put, List.setIfInBounds_toArray, List.set_cons_zero, List.set_cons_succ])
        | (refine wpT_skip rfl rfl ?_; simp only [Act.put, List.setIfInBounds_toArray, List.set_cons_zero, List.set_cons_succ])
      refine wpT_nil ?_
      have HE := hid (H.out.fre (F2.out.trans ((Fr.refl (fun _ => False) w3).drew) (fun _ h _ => h)))
      obtain ⟨k0, k1⟩ : w3.drew.cell? ⟨w.heap.size + 1, 0, none⟩ = some _ ∧ w3.drew.cell? ⟨w.heap.size + 1, 1, none⟩ = some _ := ⟨HE.out.out.cell 0, HE.out.out.cell 1⟩
      have th := HE.out.res.there 0 2 (by simp)
      have ff := (Fr.refl (fun k => k = w.heap.size) w3.drew).put w.heap.size 0 [.slice al qs.length cl, .slice aa ats.length ca] (fun _ => rfl)
      have HBZ := hid (HE.out.res.put 0 [.slice al qs.length cl, .slice aa ats.length ca] (by simp))
      have HD := hid (HE.out.done ff)
      clear ff
      go_wp2_with (refine wpList_store_mid rfl 90 (.tmp 2) (.tmp 51) rfl w.heap.size 0 #[.slice al qs.length cl, .slice aa ats.length ca] rfl rfl th size_Log (by simp [Value.oneCell']) ?_)
      refine bodyPost_ret (v := .agg [.slice al qs.length cl, .slice aa ats.length ca].toArray) (results_cell_mid (b := w.heap.size) (o := 0) rfl _ _ rfl (cs := [.slice al qs.length cl, .slice aa ats.length ca]) (Blk.all _ HBZ.out) Try.underlying90 rfl size_Log) rfl ?_
      have hr := HREL.out
      rw [scanF_none HN.out] at hr
      exact ⟨_, _, qs, rfl, by rw [hr.1, List.append_nil], by rw [hr.2.1, List.append_nil]; exact HD.out⟩
    | false =>
      obtain ⟨e0, hle8⟩ := scan1_at M1.out M2.out hfl
      have ha2 : a2 = a + 8 := by rw [R2.out.at_ hfl, e0]
      have HFL := hid hfl
      rw [hfl] at HB
      have ha2s : a2 ≤ s.length := by omega
      have HA2 := hid ha2
      obtain ⟨N, hN⟩ : ∃ N : Nat, N = s.length - a2 := ⟨_, rfl⟩
      have HNN := hid hN
      have HW1 := hid (show IntKind.i64.wrap ((s.length : Int) - (a2 : Int)) = (N : Int) from by rw [IntKind.wrap_i64]; omega)
      clear hfl e0 ha2 hN hle8 hle
      by_cases hnl : N < m1.2
      · have HN := hid (scan1_left M1.out M2.out (by rw [(scan1_at M1.out M2.out HFL.out).1]; unfold RM.left; dsimp only; have := HNN.out; have := HA2.out; omega))
        have hd1 : decide ((N : Int) < (m1.2 : Int)) = true := decide_eq_true (by omega)
        have hd2 : decide ((m1.2 : Int) > (N : Int)) = true := decide_eq_true (by omega)
        have hd3 : (N : Int) < (m1.2 : Int) := by omega
        clear hnl
        refine wp_region_scr (.take 0 (.take 1 (.take 2 (.take 3 (.take 4 (.take 5 (.take 6 (.take 7 (.take 8 (.take 9 (.take 10 (.take 11 (.take 12 (.take 13 (.take 14 (.take 15 (.take 16 (.take 17 (.take 18 (.take 19 (.take 20 (.take 21 (.take 22 (.take 23 (.take 24 (.take 25 (.take 26 (.take 27 (.take 28 (.take 29 (.take 30 (.take 31 (.take 32 .done))))))))))))))))))))))))))))))))) (fun kz w => (kz ≤ 33 → w.cell? ⟨p, 2, none⟩ = some (.bool false) ∧ w.cell? ⟨p, 1, none⟩ = some (.int .i64 a2)) ∧ True) (by kernel_rfl) (by kernel_rfl) (by intro c a d v w h; cases d <;> exact h) ?_
        repeat
          first
          | (refine wpT_pure rfl rfl rfl ?_; apply Exists.intro; refine ⟨?_, ?_⟩; intro w; (first | (first | (refine Eq.trans (b := Result.ok (Next.value (.int .i64 (N : Int))) w) ?_ rfl; go_simp; first | exact HW1.out | rw [HW1.out]) | (obtain ⟨qa1, qa2⟩ := qa; go_simp <;> rfl)) | (go_simp <;> rfl)); simp only [Act.put, List.setIfInBounds_toArray, List.set_cons_zero, List.set_cons_succ])
          | (refine wpT_take 33 rfl rfl (by decide +kernel) ⟨fun _ => ⟨HB.out.cell 2, HB.out.cell 1⟩, trivial⟩ ?_; apply Exists.intro; refine ⟨?_, ?_⟩; intro w hw; (have qa := hw.1 (Nat.le_refl _); have qb := hw.2); (first | (first | (refine Eq.trans (b := Result.ok (Next.value (.int .i64 (N : Int))) w) ?_ rfl; go_simp; first | exact HW1.out | rw [HW1.out]) | (obtain ⟨qa1, qa2⟩ := qa; go_simp <;> rfl)) | (go_simp <;> rfl)); simp only [Act.put, List.setIfInBounds_toArray, List.set_cons_zero, List.set_cons_succ])
          | (refine wpT_skip rfl rfl ?_; simp only [Act.put, List.setIfInBounds_toArray, List.set_cons_zero, List.set_cons_succ])
        refine wpT_nil ?_
        have HE := hid (H.out.fre (F2.out.trans ((Fr.refl (fun _ => False) w3).drew) (fun _ h _ => h)))
        obtain ⟨k0, k1⟩ : w3.drew.cell? ⟨w.heap.size + 1, 0, none⟩ = some _ ∧ w3.drew.cell? ⟨w.heap.size + 1, 1, none⟩ = some _ := ⟨HE.out.out.cell 0, HE.out.out.cell 1⟩
        have th := HE.out.res.there 0 2 (by simp)
        have ff := (Fr.refl (fun k => k = w.heap.size) w3.drew).put w.heap.size 0 [.slice al qs.length cl, .slice aa ats.length ca] (fun _ => rfl)
        have HBZ := hid (HE.out.res.put 0 [.slice al qs.length cl, .slice aa ats.length ca] (by simp))
        have HD := hid (HE.out.done ff)
        clear ff
        go_wp2_with (refine wpList_store_mid rfl 90 (.tmp 2) (.tmp 51) rfl w.heap.size 0 #[.slice al qs.length cl, .slice aa ats.length ca] rfl rfl th size_Log (by simp [Value.oneCell']) ?_)
        refine bodyPost_ret (v := .agg [.slice al qs.length cl, .slice aa ats.length ca].toArray) (results_cell_mid (b := w.heap.size) (o := 0) rfl _ _ rfl (cs := [.slice al qs.length cl, .slice aa ats.length ca]) (Blk.all _ HBZ.out) Try.underlying90 rfl size_Log) rfl ?_
        have hr := HREL.out
        rw [scanF_none HN.out] at hr
        exact ⟨_, _, qs, rfl, by rw [hr.1, List.append_nil], by rw [hr.2.1, List.append_nil]; exact HD.out⟩
      · have hst := scan1_rest M1.out M2.out HFL.out (by have := HNN.out; have := HA2.out; omega)
        rw [← HA2.out] at hst
        generalize m1.2 = n at *
        obtain ⟨Z, hZ⟩ : ∃ Z : Nat, Z = a2 + n := ⟨_, rfl⟩
        have hzl : Z ≤ s.length := by have := HNN.out; omega
        have haz : a2 ≤ Z := by omega
        have haz0 : (0 : Int) ≤ (a2 : Int) := by omega
        have haz1 : (a2 : Int) ≤ (Z : Int) := by omega
        have hzl1 : (Z : Int) ≤ (s.length : Int) := by omega
        have HWZ := hid (show IntKind.i64.wrap ((a2 : Int) + (n : Int)) = (Z : Int) from by rw [IntKind.wrap_i64]; omega)
        have hex : (bs s).extract a2 Z = bs ((s.drop a2).take n) := by rw [hZ]; apply ByteArray.ext; simp [bs]
        have HTL := hid (show ((s.drop a2).take n).length ≤ 1099511627776 from by rw [List.length_take, List.length_drop]; omega)
        rw [← hZ] at hst
        have hd2 : decide ((n : Int) > (N : Int)) = false := decide_eq_false (by omega)
        have hd3 : ¬ (N : Int) < (n : Int) := by omega
        have HZ := hid hZ
        have HNL := hid hnl
        clear hZ hnl
        generalize (s.drop a2).take n = td at *
        have hsl := sum_lt td
        have HSU := hid (fun w => rSum_go td HTL.out w)
        obtain ⟨sm, hsm⟩ : ∃ sm, sum td = sm := ⟨_, rfl⟩
        rw [hsm] at hsl hst HSU
        clear hsm
        have HWS := hid (show IntKind.i64.wrap (sm : Int) = (sm : Int) from by rw [IntKind.wrap_i64]; omega)
        by_cases hne : sm ≠ m2.2
        · have hnb : ((sm : Int) != (m2.2 : Int)) = true := by simp; omega
          have hni : ¬ (sm : Int) = (m2.2 : Int) := by omega
          have HN := hid (show scan1 s a = none by rw [hst, if_pos hne])
          clear hst hne
          refine wp_region_scr (.take 0 (.take 1 (.take 2 (.take 3 (.take 4 (.take 5 (.take 6 (.take 7 (.take 8 (.take 9 (.take 10 (.take 11 (.take 12 (.take 13 (.take 14 (.take 15 (.take 16 (.take 17 (.take 18 (.take 19 (.take 20 (.take 21 (.take 22 (.take 23 (.take 24 (.take 25 (.take 26 (.take 27 (.take 30 (.op 28 (.take 29 (.take 31 (.take 32 .done))))))))))))))))))))))))))))))))) (fun kz w => (kz ≤ 33 → w.cell? ⟨p, 2, none⟩ = some (.bool false) ∧ w.cell? ⟨p, 1, none⟩ = some (.int .i64 a2)) ∧ True) (by kernel_rfl) (by kernel_rfl) (by intro c a d v w h; cases d <;> exact h) ?_
          repeat
            first
            | (refine wpT_pure rfl rfl rfl ?_; apply Exists.intro; refine ⟨?_, ?_⟩; intro w; (first | (first | (refine Eq.trans (b := Result.ok (Next.value (.int .i64 (N : Int))) w) ?_ rfl; go_simp; first | exact HW1.out | rw [HW1.out]) | (refine Eq.trans (b := Result.ok (Next.value (.int .i64 (Z : Int))) w) ?_ rfl; go_simp; first | exact HWZ.out | rw [HWZ.out]) | (refine Eq.trans (b := Result.ok (Next.value (.string (bs td))) w) ?_ rfl; go_simp; first | done | rw [if_pos ⟨haz0, haz1, hzl1⟩, hex] | rw [hex]) | (refine Eq.trans (b := Result.ok (Next.value (.int .i64 (sm : Int))) w) ?_ rfl; go_simp; first | done | exact HWS.out | rw [HWS.out]) | (obtain ⟨qa1, qa2⟩ := qa; go_simp <;> rfl)) | (go_simp <;> rfl)); simp only [Act.put, List.setIfInBounds_toArray, List.set_cons_zero, List.set_cons_succ])
            | (refine wpT_take 33 rfl rfl (by decide +kernel) ⟨fun _ => ⟨HB.out.cell 2, HB.out.cell 1⟩, trivial⟩ ?_; apply Exists.intro; refine ⟨?_, ?_⟩; intro w hw; (have qa := hw.1 (Nat.le_refl _); have qb := hw.2); (first | (first | (refine Eq.trans (b := Result.ok (Next.value (.int .i64 (N : Int))) w) ?_ rfl; go_simp; first | exact HW1.out | rw [HW1.out]) | (refine Eq.trans (b := Result.ok (Next.value (.int .i64 (Z : Int))) w) ?_ rfl; go_simp; first | exact HWZ.out | rw [HWZ.out]) | (refine Eq.trans (b := Result.ok (Next.value (.string (bs td))) w) ?_ rfl; go_simp; first | done | rw [if_pos ⟨haz0, haz1, hzl1⟩, hex] | rw [hex]) | (refine Eq.trans (b := Result.ok (Next.value (.int .i64 (sm : Int))) w) ?_ rfl; go_simp; first | done | exact HWS.out | rw [HWS.out]) | (obtain ⟨qa1, qa2⟩ := qa; go_simp <;> rfl)) | (go_simp <;> rfl)); simp only [Act.put, List.setIfInBounds_toArray, List.set_cons_zero, List.set_cons_succ])
            | (refine wpT_skip rfl rfl ?_; simp only [Act.put, List.setIfInBounds_toArray, List.set_cons_zero, List.set_cons_succ])
          refine wpT_op rfl ?_
          go_wp2_with ((go_at_call 50; refine (HSU.out _).mono ?_; rintro e w8 ⟨rfl, fq⟩; have F8 := hid (F2.out.trans ((((Fr.refl (fun _ => False) w3).drew).trans fq (fun _ h _ => h))) (fun _ h _ => h)); have HB8 := hid (Blk.fr HB.out fq (fun h => h)); clear fq))
          (refine ⟨?_, ?_⟩; focus (intro kz hk hk2 hh; first | (exfalso; simp at hk2; omega) | exact hh | exact (fun h => absurd h (by omega)) | obtain ⟨qa, qb⟩ := hh; first | exact ⟨qa, qb⟩ | (refine ⟨fun h => absurd h (by omega), ?_⟩; first | exact qb | (first | exact ⟨HB8.out.cell 2, HB8.out.cell 1⟩ | exact trivial)) | (refine ⟨fun h => ?_, ?_⟩; (have qa := qa h); all_goals (first | exact qa | exact qb | (first | exact ⟨HB8.out.cell 2, HB8.out.cell 1⟩ | exact trivial)))))
          repeat
            first
            | (refine wpT_pure rfl rfl rfl ?_; apply Exists.intro; refine ⟨?_, ?_⟩; intro w; (first | (first | (refine Eq.trans (b := Result.ok (Next.value (.int .i64 (N : Int))) w) ?_ rfl; go_simp; first | exact HW1.out | rw [HW1.out]) | (refine Eq.trans (b := Result.ok (Next.value (.int .i64 (Z : Int))) w) ?_ rfl; go_simp; first | exact HWZ.out | rw [HWZ.out]) | (refine Eq.trans (b := Result.ok (Next.value (.string (bs td))) w) ?_ rfl; go_simp; first | done | rw [if_pos ⟨haz0, haz1, hzl1⟩, hex] | rw [hex]) | (refine Eq.trans (b := Result.ok (Next.value (.int .i64 (sm : Int))) w) ?_ rfl; go_simp; first | done | exact HWS.out | rw [HWS.out]) | (obtain ⟨qa1, qa2⟩ := qa; go_simp <;> rfl)) | (go_simp <;> rfl)); simp only [Act.put, List.setIfInBounds_toArray, List.set_cons_zero, List.set_cons_succ])
            | (refine wpT_take 33 rfl rfl (by decide +kernel) ⟨fun _ => ⟨HB8.out.cell 2, HB8.out.cell 1⟩, trivial⟩ ?_; apply Exists.intro; refine ⟨?_, ?_⟩; intro w hw; (have qa := hw.1 (Nat.le_refl _); have qb := hw.2); (first | (first | (refine Eq.trans (b := Result.ok (Next.value (.int .i64 (N : Int))) w) ?_ rfl; go_simp; first | exact HW1.out | rw [HW1.out]) | (refine Eq.trans (b := Result.ok (Next.value (.int .i64 (Z : Int))) w) ?_ rfl; go_simp; first | exact HWZ.out | rw [HWZ.out]) | (refine Eq.trans (b := Result.ok (Next.value (.string (bs td))) w) ?_ rfl; go_simp; first | done | rw [if_pos ⟨haz0, haz1, hzl1⟩, hex] | rw [hex]) | (refine Eq.trans (b := Result.ok (Next.value (.int .i64 (sm : Int))) w) ?_ rfl; go_simp; first | done | exact HWS.out | rw [HWS.out]) | (obtain ⟨qa1, qa2⟩ := qa; go_simp <;> rfl)) | (go_simp <;> rfl)); simp only [Act.put, List.setIfInBounds_toArray, List.set_cons_zero, List.set_cons_succ])
            | (refine wpT_skip rfl rfl ?_; simp only [Act.put, List.setIfInBounds_toArray, List.set_cons_zero, List.set_cons_succ])
          refine wpT_nil ?_
          have HE := hid (H.out.fre F8.out)
          obtain ⟨k0, k1⟩ : w8.cell? ⟨w.heap.size + 1, 0, none⟩ = some _ ∧ w8.cell? ⟨w.heap.size + 1, 1, none⟩ = some _ := ⟨HE.out.out.cell 0, HE.out.out.cell 1⟩
          have th := HE.out.res.there 0 2 (by simp)
          have ff := (Fr.refl (fun k => k = w.heap.size) w8).put w.heap.size 0 [.slice al qs.length cl, .slice aa ats.length ca] (fun _ => rfl)
          have HBZ := hid (HE.out.res.put 0 [.slice al qs.length cl, .slice aa ats.length ca] (by simp))
          have HD := hid (HE.out.done ff)
          clear ff
          go_wp2_with (refine wpList_store_mid rfl 90 (.tmp 2) (.tmp 51) rfl w.heap.size 0 #[.slice al qs.length cl, .slice aa ats.length ca] rfl rfl th size_Log (by simp [Value.oneCell']) ?_)
          refine bodyPost_ret (v := .agg [.slice al qs.length cl, .slice aa ats.length ca].toArray) (results_cell_mid (b := w.heap.size) (o := 0) rfl _ _ rfl (cs := [.slice al qs.length cl, .slice aa ats.length ca]) (Blk.all _ HBZ.out) Try.underlying90 rfl size_Log) rfl ?_
          have hr := HREL.out
          rw [scanF_none HN.out] at hr
          exact ⟨_, _, qs, rfl, by rw [hr.1, List.append_nil], by rw [hr.2.1, List.append_nil]; exact HD.out⟩
        · have HSQ : Hid (sm = m2.2) := hid (by omega)
          have hnb : ((sm : Int) != (m2.2 : Int)) = false := by have := HSQ.out; simp; omega
          rw [if_neg hne] at hst
          obtain ⟨⟨r, x⟩, hrd⟩ : ∃ z, readR td = z := ⟨_, rfl⟩
          rw [hrd] at hst
          have HRA := hid (fun w => r4Read_at hrd HTL.out w)
          have HST := hid hst
          clear hst hne hrd
          refine wp_region_scr (.take 0 (.take 1 (.take 2 (.take 3 (.take 4 (.take 5 (.take 6 (.take 7 (.take 8 (.take 9 (.take 10 (.take 11 (.take 12 (.take 13 (.take 14 (.take 15 (.take 16 (.take 17 (.take 18 (.take 19 (.take 20 (.take 21 (.take 22 (.take 23 (.take 24 (.take 25 (.take 26 (.take 27 (.take 30 (.op 28 (.take 29 (.take 31 (.take 32 .done))))))))))))))))))))))))))))))))) (fun kz w => (kz ≤ 33 → w.cell? ⟨p, 2, none⟩ = some (.bool false) ∧ w.cell? ⟨p, 1, none⟩ = some (.int .i64 a2)) ∧ True) (by kernel_rfl) (by kernel_rfl) (by intro c a d v w h; cases d <;> exact h) ?_
          repeat
            first
            | (refine wpT_pure rfl rfl rfl ?_; apply Exists.intro; refine ⟨?_, ?_⟩; intro w; (first | (first | (refine Eq.trans (b := Result.ok (Next.value (.int .i64 (N : Int))) w) ?_ rfl; go_simp; first | exact HW1.out | rw [HW1.out]) | (refine Eq.trans (b := Result.ok (Next.value (.int .i64 (Z : Int))) w) ?_ rfl; go_simp; first | exact HWZ.out | rw [HWZ.out]) | (refine Eq.trans (b := Result.ok (Next.value (.string (bs td))) w) ?_ rfl; go_simp; first | done | rw [if_pos ⟨haz0, haz1, hzl1⟩, hex] | rw [hex]) | (refine Eq.trans (b := Result.ok (Next.value (.int .i64 (sm : Int))) w) ?_ rfl; go_simp; first | done | exact HWS.out | rw [HWS.out]) | (obtain ⟨qa1, qa2⟩ := qa; go_simp <;> rfl)) | (go_simp <;> rfl)); simp only [Act.put, List.setIfInBounds_toArray, List.set_cons_zero, List.set_cons_succ])
            | (refine wpT_take 33 rfl rfl (by decide +kernel) ⟨fun _ => ⟨HB.out.cell 2, HB.out.cell 1⟩, trivial⟩ ?_; apply Exists.intro; refine ⟨?_, ?_⟩; intro w hw; (have qa := hw.1 (Nat.le_refl _); have qb := hw.2); (first | (first | (refine Eq.trans (b := Result.ok (Next.value (.int .i64 (N : Int))) w) ?_ rfl; go_simp; first | exact HW1.out | rw [HW1.out]) | (refine Eq.trans (b := Result.ok (Next.value (.int .i64 (Z : Int))) w) ?_ rfl; go_simp; first | exact HWZ.out | rw [HWZ.out]) | (refine Eq.trans (b := Result.ok (Next.value (.string (bs td))) w) ?_ rfl; go_simp; first | done | rw [if_pos ⟨haz0, haz1, hzl1⟩, hex] | rw [hex]) | (refine Eq.trans (b := Result.ok (Next.value (.int .i64 (sm : Int))) w) ?_ rfl; go_simp; first | done | exact HWS.out | rw [HWS.out]) | (obtain ⟨qa1, qa2⟩ := qa; go_simp <;> rfl)) | (go_simp <;> rfl)); simp only [Act.put, List.setIfInBounds_toArray, List.set_cons_zero, List.set_cons_succ])
            | (refine wpT_skip rfl rfl ?_; simp only [Act.put, List.setIfInBounds_toArray, List.set_cons_zero, List.set_cons_succ])
          refine wpT_op rfl ?_
          go_wp2_with ((go_at_call 50; refine (HSU.out _).mono ?_; rintro e w8 ⟨rfl, fq⟩; have F8 := hid (F2.out.trans ((((Fr.refl (fun _ => False) w3).drew).trans fq (fun _ h _ => h))) (fun _ h _ => h)); have HB8 := hid (Blk.fr HB.out fq (fun h => h)); clear fq))
          (refine ⟨?_, ?_⟩; focus (intro kz hk hk2 hh; first | (exfalso; simp at hk2; omega) | exact hh | exact (fun h => absurd h (by omega)) | obtain ⟨qa, qb⟩ := hh; first | exact ⟨qa, qb⟩ | (refine ⟨fun h => absurd h (by omega), ?_⟩; first | exact qb | (first | exact ⟨HB8.out.cell 2, HB8.out.cell 1⟩ | exact trivial)) | (refine ⟨fun h => ?_, ?_⟩; (have qa := qa h); all_goals (first | exact qa | exact qb | (first | exact ⟨HB8.out.cell 2, HB8.out.cell 1⟩ | exact trivial)))))
          repeat
            first
            | (refine wpT_pure rfl rfl rfl ?_; apply Exists.intro; refine ⟨?_, ?_⟩; intro w; (first | (first | (refine Eq.trans (b := Result.ok (Next.value (.int .i64 (N : Int))) w) ?_ rfl; go_simp; first | exact HW1.out | rw [HW1.out]) | (refine Eq.trans (b := Result.ok (Next.value (.int .i64 (Z : Int))) w) ?_ rfl; go_simp; first | exact HWZ.out | rw [HWZ.out]) | (refine Eq.trans (b := Result.ok (Next.value (.string (bs td))) w) ?_ rfl; go_simp; first | done | rw [if_pos ⟨haz0, haz1, hzl1⟩, hex] | rw [hex]) | (refine Eq.trans (b := Result.ok (Next.value (.int .i64 (sm : Int))) w) ?_ rfl; go_simp; first | done | exact HWS.out | rw [HWS.out]) | (obtain ⟨qa1, qa2⟩ := qa; go_simp <;> rfl)) | (go_simp <;> rfl)); simp only [Act.put, List.setIfInBounds_toArray, List.set_cons_zero, List.set_cons_succ])
            | (refine wpT_take 33 rfl rfl (by decide +kernel) ⟨fun _ => ⟨HB8.out.cell 2, HB8.out.cell 1⟩, trivial⟩ ?_; apply Exists.intro; refine ⟨?_, ?_⟩; intro w hw; (have qa := hw.1 (Nat.le_refl _); have qb := hw.2); (first | (first | (refine Eq.trans (b := Result.ok (Next.value (.int .i64 (N : Int))) w) ?_ rfl; go_simp; first | exact HW1.out | rw [HW1.out]) | (refine Eq.trans (b := Result.ok (Next.value (.int .i64 (Z : Int))) w) ?_ rfl; go_simp; first | exact HWZ.out | rw [HWZ.out]) | (refine Eq.trans (b := Result.ok (Next.value (.string (bs td))) w) ?_ rfl; go_simp; first | done | rw [if_pos ⟨haz0, haz1, hzl1⟩, hex] | rw [hex]) | (refine Eq.trans (b := Result.ok (Next.value (.int .i64 (sm : Int))) w) ?_ rfl; go_simp; first | done | exact HWS.out | rw [HWS.out]) | (obtain ⟨qa1, qa2⟩ := qa; go_simp <;> rfl)) | (go_simp <;> rfl)); simp only [Act.put, List.setIfInBounds_toArray, List.set_cons_zero, List.set_cons_succ])
            | (refine wpT_skip rfl rfl ?_; simp only [Act.put, List.setIfInBounds_toArray, List.set_cons_zero, List.set_cons_succ])
          refine wpT_nil ?_
          have HB9 := hid HB8.out.drew
          go_upto_region 8 with fail
          clear hd2 hd3 hnb
          go_cut [8] (fun v8 wx => ∃ (g : Nat) (b1 b2 b3 b4 : Option Addr) (c1 c2 c3 c4 : Nat), v8 = .pointer (some ⟨g, 0, none⟩) ∧ GotAt wr wx g r x b1 b2 b3 b4 c1 c2 c3 c4 ∧ wx.cell? ⟨p, 1, none⟩ = some (.int .i64 a2))
          case first =>
            refine wp_region_scr (.take 0 (.take 1 (.take 2 (.take 3 (.take 4 (.take 5 (.take 6 (.take 7 (.take 8 (.take 9 (.take 10 (.take 11 (.two 12 13 (.op 13 (.op 14 .done)) (.op 12 (.op 14 .done))))))))))))))) (fun kz w => (kz ≤ 14 → w.cell? ⟨p, 1, none⟩ = some (.int .i64 a2)) ∧ True) (by kernel_rfl) (by kernel_rfl) (by intro c a d v w h; cases d <;> exact h) ?_
            repeat
              first
              | (refine wpT_pure rfl rfl rfl ?_; apply Exists.intro; refine ⟨?_, ?_⟩; intro w; (first | (first | (refine Eq.trans (b := Result.ok (Next.value (.int .i64 (Z : Int))) w) ?_ rfl; go_simp; first | exact HWZ.out | rw [HWZ.out]) | (refine Eq.trans (b := Result.ok (Next.value (.string (bs td))) w) ?_ rfl; go_simp; first | done | rw [if_pos ⟨haz0, haz1, hzl1⟩, hex] | rw [hex]) | (go_simp <;> rfl)) | (go_simp <;> rfl)); simp only [Act.put, List.setIfInBounds_toArray, List.set_cons_zero, List.set_cons_succ])
              | (refine wpT_take 14 rfl rfl (by decide +kernel) ⟨fun _ => HB9.out.cell 1, trivial⟩ ?_; apply Exists.intro; refine ⟨?_, ?_⟩; intro w hw; (have qa := hw.1 (Nat.le_refl _); have qb := hw.2); (first | (first | (refine Eq.trans (b := Result.ok (Next.value (.int .i64 (Z : Int))) w) ?_ rfl; go_simp; first | exact HWZ.out | rw [HWZ.out]) | (refine Eq.trans (b := Result.ok (Next.value (.string (bs td))) w) ?_ rfl; go_simp; first | done | rw [if_pos ⟨haz0, haz1, hzl1⟩, hex] | rw [hex]) | (go_simp <;> rfl)) | (go_simp <;> rfl)); simp only [Act.put, List.setIfInBounds_toArray, List.set_cons_zero, List.set_cons_succ])
              | (refine wpT_skip rfl rfl ?_; simp only [Act.put, List.setIfInBounds_toArray, List.set_cons_zero, List.set_cons_succ])
            refine wpT_two ?_ ?_
            focus
              refine wpT_op rfl ?_
              go_wp2_with ((go_at_call 51; refine (HRA.out _).mono ?_; rintro e w9 ⟨b1, b2, b3, b4, c1, c2, c3, c4, rfl, hv, f9⟩; have HV := hid hv; have F9 := hid f9; have HC9 := hid (Blk.fr HB9.out f9 (fun h => h)); clear hv f9))
              (refine ⟨?_, ?_⟩; focus (intro kz hk hk2 hh; first | (exfalso; simp at hk2; omega) | exact hh | exact (fun h => absurd h (by omega)) | obtain ⟨qa, qb⟩ := hh; first | exact ⟨qa, qb⟩ | (refine ⟨fun h => absurd h (by omega), ?_⟩; first | exact qb | (exact HC9.out.cell 1)) | (refine ⟨fun h => ?_, ?_⟩; (have qa := qa h); all_goals (first | exact qa | exact qb | (exact HC9.out.cell 1)))))
              have FA := hid ((F8.out.trans (((Fr.refl (fun _ => False) w8).drew).trans F9.out (fun _ h _ => h)) (fun _ h _ => h)).alloc (.cells #[.int .i64 0, .int .i64 0, .int .i64 0, .slice none 0 0, .slice none 0 0, .slice none 0 0, .slice none 0 0, .string ⟨#[]⟩, .int .i64 0] 76))
              have HCA := hid (HC9.out.alloc (.cells #[.int .i64 0, .int .i64 0, .int .i64 0, .slice none 0 0, .slice none 0 0, .slice none 0 0, .slice none 0 0, .string ⟨#[]⟩, .int .i64 0] 76))
              refine wpT_op rfl ?_
              go_wp2_with (fail)
              refine ⟨fun kz hk hk2 hh => (by first | exact ⟨fun _ => HCA.out.cell 1, trivial⟩ | exact fun _ => HCA.out.cell 1), ?_⟩
              have hth : (w9.alloc (.cells #[.int .i64 0, .int .i64 0, .int .i64 0, .slice none 0 0, .slice none 0 0, .slice none 0 0, .slice none 0 0, .string ⟨#[]⟩, .int .i64 0] 76)).there w9.heap.size 0 9 := (Blk.new w9 [.int .i64 0, .int .i64 0, .int .i64 0, .slice none 0 0, .slice none 0 0, .slice none 0 0, .slice none 0 0, .string ⟨#[]⟩, .int .i64 0] 76).there 0 9 (by simp)
              have HG := hid (got_put (x := x) (Blk.new w9 [.int .i64 0, .int .i64 0, .int .i64 0, .slice none 0 0, .slice none 0 0, .slice none 0 0, .slice none 0 0, .string ⟨#[]⟩, .int .i64 0] 76) rfl FA.out (Nat.le_trans F8.out.size F9.out.size) (HV.out.fr ((Fr.refl (fun _ => False) w9).alloc (.cells #[.int .i64 0, .int .i64 0, .int .i64 0, .slice none 0 0, .slice none 0 0, .slice none 0 0, .slice none 0 0, .string ⟨#[]⟩, .int .i64 0] 76)) (fun _ _ h => h)) (fun k hk => ⟨by have := hk.2; omega, Nat.le_trans F8.out.size hk.1, by rw [World.size_alloc]; have := hk.2; omega⟩))
              have HPC := hid ((HCA.out.put_ne w9.heap.size 0 [.int .i64 r.kind, .int .i64 r.xid, .int .i64 r.table, .slice b1 r.old.length c1, .slice b2 r.new.length c2, .slice b3 r.edits.length c3, .slice b4 r.xids.length c4, .string (bs r.note), .int .i64 x] (by have := HC9.out.lt; omega)).cell 1)
              refine wpT_op rfl ?_
              refine wpList_store_mid rfl 76 (.tmp 8) (.tmp 64) rfl _ 0 #[.int .i64 r.kind, .int .i64 r.xid, .int .i64 r.table, .slice b1 r.old.length c1, .slice b2 r.new.length c2, .slice b3 r.edits.length c3, .slice b4 r.xids.length c4, .string (bs r.note), .int .i64 x] rfl rfl hth size_Got4 (by simp [Value.oneCell']) ?_
              rw [List.toList_toArray]
              go_wp2_with (fail)
              refine ⟨fun kz hk hk2 hh => (by first | exact ⟨fun h => absurd h (by omega), trivial⟩ | exact fun h => absurd h (by omega)), ?_⟩
              clear hth
              refine wpT_nil ?_
              go_wp2_with (fail)
              go_meet
              exact ⟨_, _, _, _, _, _, _, _, _, rfl, HG.out, HPC.out⟩
            focus
              have FA := hid ((F8.out.trans ((Fr.refl (fun _ => False) w8).drew) (fun _ h _ => h)).alloc (.cells #[.int .i64 0, .int .i64 0, .int .i64 0, .slice none 0 0, .slice none 0 0, .slice none 0 0, .slice none 0 0, .string ⟨#[]⟩, .int .i64 0] 76))
              have HCA := hid (HB9.out.alloc (.cells #[.int .i64 0, .int .i64 0, .int .i64 0, .slice none 0 0, .slice none 0 0, .slice none 0 0, .slice none 0 0, .string ⟨#[]⟩, .int .i64 0] 76))
              refine wpT_op rfl ?_
              go_wp2_with (fail)
              refine ⟨fun kz hk hk2 hh => (by first | exact ⟨fun _ => HCA.out.cell 1, trivial⟩ | exact fun _ => HCA.out.cell 1), ?_⟩
              refine wpT_op rfl ?_
              go_wp2_with ((go_at_call 51; refine (HRA.out _).mono ?_; rintro e w9 ⟨b1, b2, b3, b4, c1, c2, c3, c4, rfl, hv, f9⟩; have HV := hid hv; have F9 := hid f9; have HC9 := hid (Blk.fr HCA.out f9 (fun h => h)); clear hv f9))
              (refine ⟨?_, ?_⟩; focus (intro kz hk hk2 hh; first | (exfalso; simp at hk2; omega) | exact hh | exact (fun h => absurd h (by omega)) | obtain ⟨qa, qb⟩ := hh; first | exact ⟨qa, qb⟩ | (refine ⟨fun h => absurd h (by omega), ?_⟩; first | exact qb | (exact HC9.out.cell 1)) | (refine ⟨fun h => ?_, ?_⟩; (have qa := qa h); all_goals (first | exact qa | exact qb | (exact HC9.out.cell 1)))))
              have HZ9 := hid ((Blk.new w8.drew [.int .i64 0, .int .i64 0, .int .i64 0, .slice none 0 0, .slice none 0 0, .slice none 0 0, .slice none 0 0, .string ⟨#[]⟩, .int .i64 0] 76).fr F9.out (fun h => h))
              have hth : w9.there w8.heap.size 0 9 := HZ9.out.there 0 9 (by simp)
              have HG := hid (got_put (x := x) HZ9.out rfl (FA.out.trans F9.out (fun _ h _ => h)) F8.out.size HV.out (fun k hk => ⟨by have h1 := hk.1; simp at h1; intro e; have e2 : k = w8.heap.size := e; omega, by have h1 := hk.1; simp at h1; have := F8.out.size; omega, hk.2⟩))
              have HPC := hid ((HC9.out.put_ne w8.heap.size 0 [.int .i64 r.kind, .int .i64 r.xid, .int .i64 r.table, .slice b1 r.old.length c1, .slice b2 r.new.length c2, .slice b3 r.edits.length c3, .slice b4 r.xids.length c4, .string (bs r.note), .int .i64 x] (by have := HB9.out.lt; have : w8.drew.heap.size = w8.heap.size := rfl; omega)).cell 1)
              refine wpT_op rfl ?_
              refine wpList_store_mid rfl 76 (.tmp 8) (.tmp 64) rfl _ 0 #[.int .i64 r.kind, .int .i64 r.xid, .int .i64 r.table, .slice b1 r.old.length c1, .slice b2 r.new.length c2, .slice b3 r.edits.length c3, .slice b4 r.xids.length c4, .string (bs r.note), .int .i64 x] rfl rfl hth size_Got4 (by simp [Value.oneCell']) ?_
              rw [List.toList_toArray]
              go_wp2_with (fail)
              refine ⟨fun kz hk hk2 hh => (by first | exact ⟨fun h => absurd h (by omega), trivial⟩ | exact fun h => absurd h (by omega)), ?_⟩
              clear hth
              refine wpT_nil ?_
              go_wp2_with (fail)
              go_meet
              exact ⟨_, _, _, _, _, _, _, _, _, rfl, HG.out, HPC.out⟩
          case rest =>
            obtain ⟨g, b1, b2, b3, b4, c1, c2, c3, c4, rfl, ⟨hgb, hgf, hgv⟩, hpc⟩ := hcut
            have HGB := hid hgb
            have HGF := hid hgf
            have HGV := hid hgv
            have HPC := hid hpc
            clear hgb hgf hgv hpc HB8 HB9 HSU HRA HB F2 F8 R2
            have hg8 : wc.cell? ⟨g, 8, none⟩ = some (.int .i64 x) := HGB.out.cell 8
            have HE := hid (H.out.fre HGF.out)
            by_cases hx : x = 0
            · subst hx
              have hs1 : scan1 s a = some (r, Z) := by rw [HST.out]; rfl
              have hle4 := scan1_le hs1
              have HS1 := hid hs1
              have HLE := hid hle4
              have HRV : Hid (Q.RV (PS (w.heap.size + 1) wc (.slice al qs.length cl) (.slice aa ats.length ca)) wc ⟨r, .slice b1 r.old.length c1, .slice b2 r.new.length c2, .slice b3 r.edits.length c3, .slice b4 r.xids.length c4⟩) := hid (HGV.out.mono (fun k hk => ⟨by have := H.out.out.lt; have := hk.1; omega, hk.2, fun e => by have := H.out.l.lt e; have := hk.1; omega, fun e => by have := H.out.a.lt e; have := hk.1; omega⟩) (fun k hk => hk.2.1))
              have HQN := hid (show qs.length ≤ 137438953472 ∧ ats.length ≤ 137438953472 from by have := HREL.out; omega)
              clear hs1 hle4
              have hpc : wc.cell? ⟨p, 1, none⟩ = some (.int .i64 a2) := HPC.out
              obtain ⟨k0, k1⟩ : wc.cell? ⟨w.heap.size + 1, 0, none⟩ = some _ ∧ wc.cell? ⟨w.heap.size + 1, 1, none⟩ = some _ := ⟨HE.out.out.cell 0, HE.out.out.cell 1⟩
              have HRG : Hid (wc.rangeAt g 0 [.int .i64 r.kind, .int .i64 r.xid, .int .i64 r.table, .slice b1 r.old.length c1, .slice b2 r.new.length c2, .slice b3 r.edits.length c3, .slice b4 r.xids.length c4, .string (bs r.note)]) := hid (by have := HGB.out.range [] [.int .i64 r.kind, .int .i64 r.xid, .int .i64 r.table, .slice b1 r.old.length c1, .slice b2 r.new.length c2, .slice b3 r.edits.length c3, .slice b4 r.xids.length c4, .string (bs r.note)] [.int .i64 0] rfl; simpa using this)
              go_upto_region 12 with fail
              clear hpc hg8 k1
              go_upto_region 13 with (first
                | (refine wpList_load_mid rfl 27 (.tmp 77) rfl g 0 rfl [.int .i64 r.kind, .int .i64 r.xid, .int .i64 r.table, .slice b1 r.old.length c1, .slice b2 r.new.length c2, .slice b3 r.edits.length c3, .slice b4 r.xids.length c4, .string (bs r.note)] _ HRG.out Try.underlying27 rfl size_Rec ?_)
                | (at_builtin; refine wpList_app1 rfl (s := .tmp 76) (x := .tmp 79) (t := 45) rfl Try.underlying45 info_rec rec_zcells rfl rfl HE.out.l HE.out.fr.size rfl (by simp [Value.oneCell']) (by have := HQN.out; omega) (by have := HQN.out; omega) ?_; intro ab ac wg APP; have H8 := hid (HE.out.growL (x := ⟨r, .slice b1 r.old.length c1, .slice b2 r.new.length c2, .slice b3 r.edits.length c3, .slice b4 r.xids.length c4⟩) HRV.out APP); have HO8 := hid (HE.out.out.fr APP.fr (fun hk => HE.out.l.ne HE.out.out (by decide) _ hk rfl)); have c8 : wg.cell? ⟨w.heap.size + 1, 0, none⟩ = some (.slice al qs.length cl) := HO8.out.cell 0; have z8 := HO8.out.frozen 0; clear APP k0))
              clear c8 z8
              have k1 : (wg.setCell ⟨w.heap.size + 1, 0, none⟩ (.slice ab (qs.length + 1) ac)).cell? ⟨w.heap.size + 1, 1, none⟩ = some (.slice aa ats.length ca) := H8.out.out.cell 1
              generalize wg.setCell _ _ = wg1 at *
              go_wp2_with (at_builtin; refine wpList_app1 rfl (s := .tmp 83) (x := .tmp 85) (t := 25) rfl Try.underlying25 info_int rfl rfl rfl H8.out.a H8.out.fr.size rfl (by simp [Value.oneCell']) (by have := HQN.out; omega) (by have := HQN.out; omega) ?_; intro bb bc wh APP; have H9 := hid (H8.out.growA (x := (a2 : Int) + (n : Int)) APP); have HO9 := hid (H8.out.out.fr APP.fr (fun hk => H8.out.a.ne H8.out.out (by decide) _ hk rfl)); have c9 : wh.cell? ⟨w.heap.size + 1, 1, none⟩ = some (.slice aa ats.length ca) := HO9.out.cell 1; have z9 := HO9.out.frozen 1; clear APP k1)
              go_roundw
              case rel =>
                obtain ⟨r1, r2, r3, r4', r5⟩ := HREL.out
                rw [scanF_some HS1.out] at r1 r2
                have := HLE.out
                have hz : (a2 : Int) + (n : Int) = (Z : Int) := by have := HZ.out; omega
                have h9 := H9.out
                rw [hz] at h9 ⊢
                exact ⟨f, Z, _, _, _, _, rfl, h9, by rw [r1]; simp, by rw [r2]; simp, by omega, by simp [r4'], by simp; omega, by omega⟩
              case measure =>
                have := HREL.out
                have := HLE.out
                have := HZ.out
                simp [intOf]
                omega
            · have hxb : (x != 0) = true := by simpa using hx
              have HN := hid (show scan1 s a = none by rw [HST.out, if_pos hx])
              obtain ⟨k0, k1⟩ : wc.cell? ⟨w.heap.size + 1, 0, none⟩ = some _ ∧ wc.cell? ⟨w.heap.size + 1, 1, none⟩ = some _ := ⟨HE.out.out.cell 0, HE.out.out.cell 1⟩
              have th := HE.out.res.there 0 2 (by simp)
              have ff := (Fr.refl (fun k => k = w.heap.size) wc).put w.heap.size 0 [.slice al qs.length cl, .slice aa ats.length ca] (fun _ => rfl)
              have HBZ := hid (HE.out.res.put 0 [.slice al qs.length cl, .slice aa ats.length ca] (by simp))
              have HD := hid (HE.out.done ff)
              clear ff
              go_wp2_with (refine wpList_store_mid rfl 90 (.tmp 2) (.tmp 68) rfl w.heap.size 0 #[.slice al qs.length cl, .slice aa ats.length ca] rfl rfl th size_Log (by simp [Value.oneCell']) ?_)
              refine bodyPost_ret (v := .agg [.slice al qs.length cl, .slice aa ats.length ca].toArray) (results_cell_mid (b := w.heap.size) (o := 0) rfl _ _ rfl (cs := [.slice al qs.length cl, .slice aa ats.length ca]) (Blk.all _ HBZ.out) Try.underlying90 rfl size_Log) rfl ?_
              have hr := HREL.out
              rw [scanF_none HN.out] at hr
              exact ⟨_, _, qs, rfl, by rw [hr.1, List.append_nil], by rw [hr.2.1, List.append_nil]; exact HD.out⟩
end Go.Proofs.Ytfhkmiifndhacaa
