/- Proved: for every list of lists of integers and every two integers the law RecordTorn of chapter 04 returns true, and its arguments read afterwards as before. Conditions: none beyond the given statement. -/
import Derived.Test.YtfhkmiifndhacaaSan
import Derived.Test.YtfhkmiifndhacaaFin
import Derived.Test.YtfhkmiifndhacaaLog
import Derived.Test.YtfhkmiifndhacaaLaw
set_option linter.unusedVariables false
namespace Go.Proofs.Ytfhkmiifndhacaa
open Go.RowKit Go.VB Go.VB.Oct Go.VB.Rec
theorem raw_pos (r : R) : 1 ≤ r.raw.length := by
  unfold R.raw
  simp only [List.length_append, be_length _ _ (show 1 ≤ 8 by omega)]
  omega
theorem flat8 : ∀ (L : List Q) (j : Nat) (h : j < L.length) (i : Nat), i < 8 → (L.flatMap Q.cells)[j * 8 + i]? = (Q.cells L[j])[i]?
  | q :: L, 0, _, i, hi => by simp [List.getElem?_append, qcells_len, hi]
  | q :: L, j + 1, h, i, hi => by
    rw [List.flatMap_cons, List.getElem?_append_right (by rw [qcells_len]; omega), qcells_len, show (j + 1) * 8 + i - 8 = j * 8 + i by omega, flat8 L j (by simpa using h) i hi]
    rfl
/-- the eight cells of record j -/
theorem row_rec {B n : Nat} {W : World} {a : Option Addr} {c : Nat} {qs : List Q} (h : Row 27 8 B W (.slice a n c) qs.length (qs.flatMap Q.cells)) (hn : qs.length = n) (hq : qs ≠ []) :
    ∃ g, a = some ⟨g, 0, none⟩ ∧ ∀ j (hj : j < qs.length), W.rangeAt g (j * 8) (Q.cells qs[j]) := by
  subst hn
  obtain ⟨g, h1, h2, h3⟩ := row_cells h (fun e => by
    cases qs with
    | nil => exact hq rfl
    | cons q L => have := congrArg List.length e; simp [qcells_len] at this)
  refine ⟨g, h1, fun j hj i u hu => ?_⟩
  have hi : i < 8 := (List.getElem?_eq_some_iff.1 hu).1
  exact h3 _ u (by rw [flat8 qs j hj i hi, hu])
theorem q_cells {W : World} {g o : Nat} {q : Q} (h : W.rangeAt g o q.cells) : W.cell? ⟨g, o, none⟩ = some (.int .i64 q.r.kind) ∧ W.cell? ⟨g, o + 1, none⟩ = some (.int .i64 q.r.xid) ∧ W.cell? ⟨g, o + 2, none⟩ = some (.int .i64 q.r.table) ∧ W.cell? ⟨g, o + 3, none⟩ = some q.o ∧ W.cell? ⟨g, o + 4, none⟩ = some q.n ∧ W.cell? ⟨g, o + 5, none⟩ = some q.e ∧ W.cell? ⟨g, o + 6, none⟩ = some q.x ∧ W.cell? ⟨g, o + 7, none⟩ = some (.string (bs q.r.note)) :=
  ⟨h 0 _ rfl, h 1 _ rfl, h 2 _ rfl, h 3 _ rfl, h 4 _ rfl, h 5 _ rfl, h 6 _ rfl, h 7 _ rfl⟩
theorem modl (x n : Nat) (hn : 0 < n) : ∃ k : Nat, (x : Int).tmod (n : Int) = k ∧ (x : Int) % (n : Int) = k ∧ k < n := ⟨x % n, by rw [Int.tmod_eq_emod_of_nonneg (by omega), Int.natCast_emod], (Int.natCast_emod _ _).symm, Nat.mod_lt _ hn⟩
section
variable {H : Type} {enc : TypeId × Value → H}
set_option maxRecDepth 100000 in
/-- slices of slices of integers as an argument -/
theorem open_ints2 {w w0 : World} {r : Reach} {b0 base : Nat} {sp : Nat → Bool} {held : Bool} {v : Value} {d : DataW H} {ps : List MemPlace} (hval : Value.okWide Try.prog w0 r b0 44 v) (h : DataW.Trod enc Try.prog w base sp held 44 v d ps) :
    ∃ L : List Arg, Sl (fun k => k < w.heap.size) w v L.length (L.flatMap acells) ∧ (∀ p ∈ L, Sl (fun k => k < w.heap.size) w p.1 p.2.length (p.2.flatMap icell) ∧ p.2.length ≤ 9223372036854775807) ∧ L.length ≤ maxLen := by
  refine open_sl Try.underlying44 (k := 1) (by kernel_rfl) (by omega) hval h acells (fun p => Sl (fun k => k < w.heap.size) w p.1 p.2.length (p.2.flatMap icell) ∧ p.2.length ≤ 9223372036854775807) (fun _ => rfl) ?_
  intro fuel cs r' hcs ht
  obtain ⟨v', L, rfl, h1, -, h3⟩ := open_cs Try.underlying25 (k := 1) (by kernel_rfl) (by omega) ht icell (fun _ => True) (fun _ => rfl) (fun fuel cs r hc h => by
    obtain ⟨x, hx, -⟩ := elem_int Try.underlying3 fuel cs r h
    exact ⟨x, hx, trivial⟩)
  exact ⟨(v', L), rfl, h1, by unfold maxLen at h3; omega⟩
end
set_option maxRecDepth 20000 in
set_option maxHeartbeats 20000000 in
theorem Torn_walk {P : Nat → Prop} {w : World} {va : Value} {L : List Arg} (h : Sl P w va L.length (L.flatMap acells)) (hi : ∀ p ∈ L, Sl P w p.1 p.2.length (p.2.flatMap icell) ∧ p.2.length ≤ 9223372036854775807) (n1 n2 : Int) :
    Calls Try.prog 9 #[va, .int .i64 n1, .int .i64 n2] w fun e w' => e = .returned (.bool true) ∧ Fr (fun _ => False) w w' := by
  obtain ⟨x1, hx1, hy1, -⟩ := and_16 n1
  obtain ⟨x2, hx2, hy2, -⟩ := and_16 n2
  have HSA := hid (fun w => sanity_go w)
  have HLG := hid (fun w' (f : Fr (fun _ => False) w w') => log_go (h.fr f (fun _ _ h => h)) (fun p hp => ⟨(hi p hp).1.fr f (fun _ _ h => h), (hi p hp).2⟩))
  obtain ⟨a, c, rfl, -⟩ := h
  clear hi
  go_enter Try.func9, Try.ntmps9
  go_upto_region 3 with (first
    | (go_at_call 12; refine (HSA.out _).mono ?_; rintro e w1 ⟨rfl, f1⟩; have F1 := hid f1; clear f1)
    | (go_at_call 25; refine (HLG.out _ F1.out).mono ?_; rintro e w2 ⟨vl, qs, rfl, hq12, hL⟩; have HL := hid hL; obtain ⟨al, cl, rfl, _⟩ := hL.l.slice; clear hL))
  have F2 := hid (F1.out.trans HL.out.fr (fun _ h _ => h))
  clear F1 HSA HLG
  by_cases hq0 : qs.length = 0
  · have hz : ((qs.length : Int) == 0) = true := by simp [hq0]
    have hz2 : (qs.length : Int) = 0 := by omega
    clear hq0
    go_wp2_with (fail)
    go_ret
    exact ⟨rfl, F2.out⟩
  · have hz : ((qs.length : Int) == 0) = false := by rw [beq_eq_false_iff_ne]; omega
    have hz2 : ¬ (qs.length : Int) = 0 := by omega
    obtain ⟨k, hk, hk2, hk3⟩ := modl x1 qs.length (by omega)
    have hz3 : (0 : Int) < (qs.length : Int) := by omega
    obtain ⟨g, rfl, hrow⟩ := row_rec HL.out.l rfl (fun e => hq0 (by rw [e]; rfl))
    have HROW := hid hrow
    clear hrow
    have HQ12 := hid hq12
    clear hq12 hz2 hq0
    obtain ⟨rs, hrs⟩ : ∃ rs, qs.map Q.r = rs := ⟨_, rfl⟩
    have HRS := hid (show rs.length = qs.length ∧ (∀ r ∈ rs, GoodR r) ∧ ∀ j (hj : j < qs.length), rs[j]? = some qs[j].r from by
      subst hrs
      refine ⟨by simp, fun x hx => ?_, fun j hj => by simp [hj]⟩
      obtain ⟨q, hq, rfl⟩ := List.mem_map.1 hx
      exact HL.out.g q hq)
    rw [hrs]
    clear hrs
    go_upto_region 6 with fail
    clear hk hk2 hz3 hz
    have hk12 : k ≤ 12 := by have := HQ12.out; omega
    go_wp2_with (fail)
    go_loopw [10, 11] (fun s10 i wr => ∃ j : Nat, j ≤ k ∧ i = .int .i64 j ∧ s10 = .string (bs (frames (rs.take j))) ∧ Fr (fun _ => False) w2 wr) (fun _ i _ => k - (intOf i).toNat)
    case atStart => exact ⟨0, by omega, rfl, rfl, Fr.refl _ _⟩
    case round =>
      obtain ⟨j, hj, rfl, rfl, fr⟩ := hrel
      have FR := hid fr
      clear fr
      by_cases hjk : j < k
      · have hjl : j < qs.length := by omega
        have HQJ := hid ((HL.out.q qs[j] (List.getElem_mem hjl)).fre FR.out)
        have HGJ := hid (HL.out.g qs[j] (List.getElem_mem hjl))
        obtain ⟨k0, k1, k2, k3, k4, k5, k6, k7⟩ := q_cells (fun i u hu => cell_fr (HROW.out j hjl i u hu) FR.out (fun h => h) : wr.rangeAt g (j * 8) (Q.cells qs[j]))
        have i1 : (0 : Int) ≤ (j : Int) := by omega
        have i2 : (j : Int) < qs.length := by omega
        have hst : frames (rs.take (j + 1)) = frames (rs.take j) ++ frame qs[j].r := by rw [List.take_add_one, HRS.out.2.2 j hjl]; simp [frames]
        have HST := hid hst
        have hle := frames_le (l := rs.take j) (fun x hx => HRS.out.2.1 x (List.mem_of_mem_take hx)) (by have := HQ12.out; simp; omega)
        have hfl := good_len HGJ.out
        have hrl := raw_le HGJ.out.right
        have hadd := fun w => run_add_bs (P := Try.prog) w (frames (rs.take j)) (frame qs[j].r) (by omega)
        clear hst hle hfl hrl
        generalize qs[j] = qj at *
        obtain ⟨rj, oj, nj, ej, xj⟩ := qj
        obtain ⟨b1, d1, b2, d2, b3, d3, b4, d4, h5, h6, h7, h8⟩ := HQJ.out.slices
        dsimp only at h5 h6 h7 h8 k0 k1 k2 k3 k4 k5 k6 k7
        subst h5 h6 h7 h8
        go_wp2_with (go_at_call 19; refine (RFrame_go HQJ.out).mono ?_; rintro e w5 ⟨rfl, f⟩; have F5 := hid (FR.out.trans f (fun _ h _ => h)); clear f k0 k1 k2 k3 k4 k5 k6 k7)
        go_roundw
        case rel => exact ⟨j + 1, by omega, by simp, by rw [HST.out], F5.out⟩
        case measure => simp [intOf]; omega
      · obtain rfl : j = k := by omega
        have hjl : j < qs.length := hk3
        have HQJ := hid ((HL.out.q qs[j] (List.getElem_mem hjl)).fre FR.out)
        have HGJ := hid (HL.out.g qs[j] (List.getElem_mem hjl))
        obtain ⟨k0, k1, k2, k3, k4, k5, k6, k7⟩ := q_cells (fun i u hu => cell_fr (HROW.out j hjl i u hu) FR.out (fun h => h) : wr.rangeAt g (j * 8) (Q.cells qs[j]))
        have i1 : (0 : Int) ≤ (j : Int) := by omega
        have i2 : (j : Int) < qs.length := by omega
        have hfl := good_len HGJ.out
        have hrl := raw_le HGJ.out.right
        have hrp := raw_pos qs[j].r
        have hfle := frames_le (l := rs.take j) (fun x hx => HRS.out.2.1 x (List.mem_of_mem_take hx)) (by have := HQ12.out; simp; omega)
        have HRT := hid (show (rs.take j).length = j ∧ ∀ i (hi : i < j) (h : i < qs.length), (rs.take j)[i]? = some qs[i].r from ⟨by rw [List.length_take, HRS.out.1]; omega, fun i hi h => by rw [List.getElem?_take_of_lt hi]; exact HRS.out.2.2 i h⟩)
        have HSS := hid (fun c (hc : c < (frame qs[j].r).length) => scan_frames (l := rs.take j) (fun x hx => HRS.out.2.1 x (List.mem_of_mem_take hx)) ((frame qs[j].r).take c) (scan1_short HGJ.out _ c hc))
        generalize qs[j] = qj at *
        obtain ⟨rj, oj, nj, ej, xj⟩ := qj
        obtain ⟨b1, d1, b2, d2, b3, d3, b4, d4, h5, h6, h7, h8⟩ := HQJ.out.slices
        dsimp only at h5 h6 h7 h8 k0 k1 k2 k3 k4 k5 k6 k7 hfl hrl hrp HSS
        subst h5 h6 h7 h8
        have HFR := hid (RFrame_go HQJ.out)
        dsimp only at HFR
        have hf9 : 9 ≤ (frame rj).length := by omega
        have hf2 : (frame rj).length ≤ 100008 := by omega
        clear hfl hrl hrp
        generalize frame rj = fm at *
        generalize rs.take j = rt at *
        have hsz : ((bs fm).size : Int) = (fm.length : Int) := by rw [bs_size]
        have h9 : (9 : Int) ≤ (fm.length : Int) := by omega
        go_upto_region 14 with (go_at_call 19; refine HFR.out.mono ?_; rintro e w5 ⟨rfl, f⟩; have F5 := hid (FR.out.trans f (fun _ h _ => h)); clear f k0 k1 k2 k3 k4 k5 k6 k7)
        obtain ⟨m, hm, hm2, hm3⟩ := modl x2 fm.length (by omega)
        obtain ⟨c0, hc0, hc1, hc2⟩ : ∃ c0 : Nat, (fm.length : Int) - (1 + (m : Int)) = (c0 : Int) ∧ c0 < fm.length ∧ (c0 : Int) ≤ (fm.length : Int) := ⟨fm.length - (1 + m), by omega, by omega, by omega⟩
        have hex : (bs fm).extract 0 c0 = bs (fm.take c0) := by apply ByteArray.ext; simp [bs]
        have i3 : (0 : Int) ≤ (c0 : Int) := by omega
        have HS1 := hid (HSS.out c0 hc1)
        have hadd := fun w => run_add_bs (P := Try.prog) w (frames rt) (fm.take c0) (by rw [List.length_take]; omega)
        have HTL := hid (show (frames rt ++ fm.take c0).length ≤ 1099511627776 from by rw [List.length_append, List.length_take]; omega)
        clear HSS
        generalize fm.take c0 = fu at *
        generalize frames rt = fr0 at *
        go_upto_region 16 with (go_at_call 27; refine (Scan_go _ HTL.out _).mono ?_; rw [HS1.out]; rintro e w6 ⟨p6, rm6, vs, vt, q2, rfl, hq2, hS2⟩; have HQ2 := hid hq2; have HS2 := hid hS2; clear hq2 hS2)
        have hl2 : q2.length = j := by have := congrArg List.length HQ2.out; rw [List.length_map, HRT.out.1] at this; exact this
        have ht2 : (ends 0 rt).length = j := by rw [ends_len, HRT.out.1]
        obtain ⟨a2, c2, hvs, _⟩ := HS2.out.l.slice
        obtain ⟨at2, ct2, hvt, _⟩ := HS2.out.a.slice
        rw [hl2] at hvs
        rw [ht2] at hvt
        subst hvs hvt
        have HL2 := hid hl2
        clear hl2 ht2 hm hm2 hc0 hex hadd hsz h9
        have F6 := hid (F5.out.trans HS2.out.fr (fun _ h _ => h))
        go_wp2_with (fail)
        go_loopw [16] (fun i wr => ∃ t : Nat, t ≤ j ∧ i = .int .i64 t ∧ Fr (fun _ => False) w6 wr) (fun i _ => j - (intOf i).toNat)
        case atStart => exact ⟨0, by omega, rfl, Fr.refl _ _⟩
        case round =>
          obtain ⟨t, ht, rfl, fr⟩ := hrel
          have FZ := hid fr
          clear fr
          by_cases htj : t < j
          · have ht2 : t < q2.length := by have := HL2.out; omega
            have htq : t < qs.length := by omega
            obtain ⟨g2, rfl, hrow2⟩ := row_rec HS2.out.l HL2.out (fun e => by rw [e] at ht2; simp at ht2)
            have r1 := fun i u hu => cell_fr (cell_fr (hrow2 t ht2 i u hu) FZ.out (fun h => h)) ((Fr.refl (fun _ => False) wr).drew) (fun h => h)
            have r2 := fun i u hu => cell_fr (cell_fr (HROW.out t htq i u hu) ((F5.out.trans HS2.out.fr (fun _ h _ => h)).trans FZ.out (fun _ h _ => h)) (fun h => h)) ((Fr.refl (fun _ => False) wr).drew) (fun h => h)
            have HR1 := hid (r1 : wr.drew.rangeAt g2 (t * 8) (Q.cells q2[t]))
            have HR2 := hid (r2 : wr.drew.rangeAt g (t * 8) (Q.cells qs[t]))
            have HQ1 := hid (((HS2.out.q q2[t] (List.getElem_mem ht2)).fre FZ.out).fre ((Fr.refl (fun _ => False) wr).drew))
            have HQW := hid ((((HL.out.q qs[t] (List.getElem_mem htq)).fre (F5.out.trans HS2.out.fr (fun _ h _ => h))).fre FZ.out).fre ((Fr.refl (fun _ => False) wr).drew))
            have heq : q2[t].r = qs[t].r := by
              have e1 := HRT.out.2 t htj htq
              rw [← HQ2.out] at e1
              simpa [ht2] using e1
            have hdec : decide (q2[t].r = qs[t].r) = true := decide_eq_true heq
            have HSM := hid (RSame_go HQ1.out HQW.out)
            rw [hdec] at HSM
            clear r1 r2 heq hdec hrow2
            generalize q2[t] = qa1 at *
            generalize qs[t] = qa2 at *
            have i4 : (0 : Int) ≤ (t : Int) := by omega
            have i5 : (t : Int) < (j : Int) := by omega
            have i6 : (t : Int) < (qs.length : Int) := by omega
            go_upto_region 21 with fail
            refine wp_region_scr (.take 0 (.take 1 (.take 2 (.take 3 (.take 4 (.take 5 (.take 6 (.take 7 (.op 8 (.take 9 .done)))))))))) (fun kz w => (kz ≤ 10 → w.rangeAt g2 (t * 8) (Q.cells qa1)) ∧ w.rangeAt g (t * 8) (Q.cells qa2)) (by kernel_rfl) (by kernel_rfl) (by intro c a d v w h; cases d <;> exact h) ?_
            repeat
              first
              | (refine wpT_pure rfl rfl rfl ?_; apply Exists.intro; refine ⟨?_, ?_⟩; intro w; (first | (first | exact run_load_mid _ _ rfl g2 _ rfl _ _ qa Try.underlying27 rfl size_Rec | exact run_load_mid _ _ rfl g _ rfl _ _ qb Try.underlying27 rfl size_Rec | (go_simp; rw [if_pos ⟨i4, i5⟩]; done) | (go_simp; rw [if_pos ⟨i4, i6⟩]; done)) | (go_simp <;> rfl)); simp only [Act.put, List.setIfInBounds_toArray, List.set_cons_zero, List.set_cons_succ])
              | (refine wpT_take 10 rfl rfl (by decide +kernel) ⟨fun _ => HR1.out, HR2.out⟩ ?_; apply Exists.intro; refine ⟨?_, ?_⟩; intro w hw; (have qa := hw.1 (Nat.le_refl _); have qb := hw.2); (first | (first | exact run_load_mid _ _ rfl g2 _ rfl _ _ qa Try.underlying27 rfl size_Rec | exact run_load_mid _ _ rfl g _ rfl _ _ qb Try.underlying27 rfl size_Rec | (go_simp; rw [if_pos ⟨i4, i5⟩]; done) | (go_simp; rw [if_pos ⟨i4, i6⟩]; done)) | (go_simp <;> rfl)); simp only [Act.put, List.setIfInBounds_toArray, List.set_cons_zero, List.set_cons_succ])
              | (refine wpT_skip rfl rfl ?_; simp only [Act.put, List.setIfInBounds_toArray, List.set_cons_zero, List.set_cons_succ])
            refine wpT_op rfl ?_
            go_wp2_with ((go_at_call 23; refine HSM.out.mono ?_; rintro e w8 ⟨rfl, f⟩; have FY := hid ((FZ.out.drew).trans f (fun _ h _ => h)); have HR3 := hid (fun i u hu => cell_fr (HR1.out i u hu) f (fun h => h) : w8.rangeAt g2 (t * 8) (Q.cells qa1)); have HR4 := hid (fun i u hu => cell_fr (HR2.out i u hu) f (fun h => h) : w8.rangeAt g (t * 8) (Q.cells qa2)); clear f))
            (refine ⟨?_, ?_⟩; focus (intro kz hk hk2 hh; first | (exfalso; simp at hk2; omega) | exact hh | exact (fun h => absurd h (by omega)) | obtain ⟨qa, qb⟩ := hh; first | exact ⟨qa, qb⟩ | (refine ⟨fun h => absurd h (by omega), ?_⟩; first | exact qb | (first | exact HR3.out | exact HR4.out)) | (refine ⟨fun h => ?_, ?_⟩; (have qa := qa h); all_goals (first | exact qa | exact qb | (first | exact HR3.out | exact HR4.out)))))
            repeat
              first
              | (refine wpT_pure rfl rfl rfl ?_; apply Exists.intro; refine ⟨?_, ?_⟩; intro w; ((go_simp <;> rfl)); simp only [Act.put, List.setIfInBounds_toArray, List.set_cons_zero, List.set_cons_succ])
              | (refine wpT_take 10 rfl rfl (by decide +kernel) ⟨fun _ => HR3.out, HR4.out⟩ ?_; apply Exists.intro; refine ⟨?_, ?_⟩; intro w hw; (have qa := hw.1 (Nat.le_refl _); have qb := hw.2); ((go_simp <;> rfl)); simp only [Act.put, List.setIfInBounds_toArray, List.set_cons_zero, List.set_cons_succ])
              | (refine wpT_skip rfl rfl ?_; simp only [Act.put, List.setIfInBounds_toArray, List.set_cons_zero, List.set_cons_succ])
            refine wpT_nil ?_
            go_wp2_with (fail)
            go_roundw
            case rel => exact ⟨t + 1, by omega, by simp, FY.out⟩
            case measure => simp [intOf]; omega
          · obtain rfl : t = j := by omega
            go_wp2_with (fail)
            go_ret
            exact ⟨rfl, (F2.out.trans F6.out (fun _ h _ => h)).trans FZ.out (fun _ h _ => h)⟩
end Go.Proofs.Ytfhkmiifndhacaa
namespace Go.Proofs.Ytfhkmiifndhacaa.recordTorn
open Go.ChangeShapes Go.WideShapes Go.ChangeAt Go.RowKit Go.VB Go.VB.Rec
set_option maxHeartbeats 400000 in
set_option maxRecDepth 100000 in
theorem lifted (os : Os) (started : os.Started) (H : Type) (enc : TypeId × Value → H) :
    ReturnsInHanded {} Try.checked os 9 .any (Rows.recordTornSpec.pre6 enc Try.prog Try.f9 Rows.recordTornRow.domain false) (Rows.recordTornSpec.post enc Try.prog Try.f9 false true false false) := by
  refine returnsInHanded_of_change (C := Try.checked) own started (by kernel_rfl) Try.func9
    (ChangeSpec.witness6 (enc := enc) (C := Try.checked) false ⟨#[], #[.slice none 0 0, .int .i64 0, .int .i64 0], []⟩ 8 (by kernel_rfl) (by kernel_rfl) (by kernel_rfl) (by kernel_rfl)) ?_
  intro W base args ds gs before hval0 hW hcnd _
  have hval : ∀ (j : Nat) t v, Try.f9.params[j]? = some t → args[j]? = some v → Value.okWide Try.prog W .any base t v := hval0
  have hW' := hW
  obtain ⟨p, q, hA0, hV, rfl, hfz, hnd⟩ := hW
  have hA : DataW.TrodAll enc Try.prog W 0 (fun _ => true) true Try.f9.params.toList args.toList ds p := hA0
  rw [Try.params9] at hA hval
  obtain ⟨v0, vs0, d0, ds0, p0, q0, hargs, rfl, rfl, h0, r0⟩ := trodAll_cons hA
  obtain ⟨v1, vs1, d1, ds1, p1, q1, rfl, rfl, rfl, h1, r1⟩ := trodAll_cons r0
  obtain ⟨v2, vs2, d2, ds2, p2, q2, rfl, rfl, rfl, h2, r2⟩ := trodAll_cons r1
  obtain ⟨rfl, rfl, rfl⟩ := trodAll_nil r2
  obtain rfl : args = #[v0, v1, v2] := by cases args; simp_all
  obtain ⟨rfl, rfl⟩ := trodVars_none hV
  clear hA0 hval0
  refine Calls.mono (R := fun e w' => e = .returned (.bool true) ∧ Fr (fun _ => False) W w') ?_ fun e W' ⟨he, hf⟩ => ⟨_, he, post_law sound (by decide +kernel) rfl rfl (ht := Try.underlying4) (by rfl) hW' hf⟩
  obtain ⟨L, sL, gL, -⟩ := open_ints2 (hval 0 44 v0 rfl rfl) h0
  obtain ⟨a1, rfl, -, -, w1⟩ := open_int Try.underlying3 (hval 1 3 v1 rfl rfl) h1
  obtain ⟨a2, rfl, -, -, w2⟩ := open_int Try.underlying3 (hval 2 3 v2 rfl rfl) h2
  exact Torn_walk sL gL a1 a2
theorem proved : Rows.RecordTornSaid :=
  OpenClaim.holds_of_wide 9 Try.f9 rfl rfl rfl rfl rfl rfl rfl ⟨rfl, rfl, rfl, rfl, rfl⟩ rfl rfl rfl rfl rfl (by kernel_rfl) Try.func9 (by kernel_rfl)
    (of_decide_eq_true (by kernel_rfl)) (by unfold Func.isWrapper; first | (rw [if_pos (by decide +kernel)]; kernel_rfl) | (rw [if_neg (by decide +kernel)]; exact ⟨rfl, rfl⟩))
    (fun os started H enc _ => lifted os started H enc)
end Go.Proofs.Ytfhkmiifndhacaa.recordTorn
