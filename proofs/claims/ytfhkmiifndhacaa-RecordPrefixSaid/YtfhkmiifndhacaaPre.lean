/- Proved: for every list of lists of integers and every integer the law RecordPrefix of chapter 04 returns true, and its arguments read afterwards as before. Conditions: none beyond the given statement. -/
import Derived.Test.YtfhkmiifndhacaaRecs
import Derived.Test.YtfhkmiifndhacaaPreM
set_option linter.unusedVariables false
namespace Go.Proofs.Ytfhkmiifndhacaa
open Go.RowKit Go.VB Go.VB.Oct Go.VB.Rec
theorem row_int {B n : Nat} {W : World} {a : Option Addr} {c : Nat} {l : List Int} (h : Row 3 1 B W (.slice a n c) l.length (l.flatMap icell)) (hn : l.length = n) (hq : l ≠ []) :
    ∃ g, a = some ⟨g, 0, none⟩ ∧ ∀ j (x : Int), l[j]? = some x → W.cell? ⟨g, j, none⟩ = some (.int .i64 x) := by
  subst hn
  obtain ⟨g, h1, h2, h3⟩ := row_cells h (fun e => hq (by
    cases l with
    | nil => rfl
    | cons x L => simp [icell] at e))
  refine ⟨g, h1, fun j x hj => h3 j _ ?_⟩
  have hjl := (List.getElem?_eq_some_iff.1 hj).1
  have e := (List.getElem?_eq_some_iff.1 hj).2
  rw [flat1 icell (fun _ => rfl) l j hjl]
  simp [icell, e]
set_option maxRecDepth 20000 in
set_option maxHeartbeats 20000000 in
theorem Prefix_walk {P : Nat → Prop} {w : World} {va : Value} {L : List Arg} (h : Sl P w va L.length (L.flatMap acells)) (hi : ∀ p ∈ L, Sl P w p.1 p.2.length (p.2.flatMap icell) ∧ p.2.length ≤ 9223372036854775807) (n1 : Int) :
    Calls Try.prog 7 #[va, .int .i64 n1] w fun e w' => e = .returned (.bool true) ∧ Fr (fun _ => False) w w' := by
  obtain ⟨x1, hx1, hy1⟩ := and_24 n1
  have HSA := hid (fun w => sanity_go w)
  have HLG := hid (fun w' (f : Fr (fun _ => False) w w') => log_go (h.fr f (fun _ _ h => h)) (fun p hp => ⟨(hi p hp).1.fr f (fun _ _ h => h), (hi p hp).2⟩))
  obtain ⟨a, c, rfl, -⟩ := h
  clear hi
  go_enter Try.func7, Try.ntmps7
  go_upto_region 3 with (first
    | (go_at_call 12; refine (HSA.out _).mono ?_; rintro e w1 ⟨rfl, f1⟩; have F1 := hid f1; clear f1)
    | (go_at_call 25; refine (HLG.out _ F1.out).mono ?_; rintro e w2 ⟨vl, qs, rfl, hq12, hL⟩; have HL := hid hL; obtain ⟨al, cl, rfl, _⟩ := hL.l.slice; clear hL))
  have F2 := hid (F1.out.trans HL.out.fr (fun _ h _ => h))
  clear F1 HSA HLG
  have HQ12 := hid hq12
  obtain ⟨rs, hrs⟩ : ∃ rs, qs.map Q.r = rs := ⟨_, rfl⟩
  have HRS := hid (show rs.length = qs.length ∧ (∀ r ∈ rs, GoodR r) ∧ ∀ j (hj : j < qs.length), rs[j]? = some qs[j].r from by
    subst hrs
    refine ⟨by simp, fun x hx => ?_, fun j hj => by simp [hj]⟩
    obtain ⟨q, hq, rfl⟩ := List.mem_map.1 hx
    exact HL.out.g q hq)
  rw [hrs]
  clear hrs hq12
  have hfle := frames_le (l := rs) HRS.out.2.1 (by have := HRS.out.1; have := HQ12.out; omega)
  have hsz : ((bs (frames rs)).size : Int) = ((frames rs).length : Int) := by rw [bs_size]
  by_cases hr0 : (frames rs).length = 0
  · have hz : (((bs (frames rs)).size : Int) == 0) = true := by simp [hsz, hr0]
    have hz2 : ((frames rs).length : Int) = 0 := by omega
    go_wp2_with (fail)
    go_ret
    exact ⟨rfl, F2.out⟩
  · have hz2 : ¬ ((frames rs).length : Int) = 0 := by omega
    have hz3 : (((frames rs).length : Int) == 0) = false := by rw [beq_eq_false_iff_ne]; exact hz2
    have hqn : qs ≠ [] := fun e => hr0 (by have := HRS.out.1; rw [e] at this; have : rs = [] := List.eq_nil_of_length_eq_zero (by simpa using this); rw [this]; rfl)
    have HSL := hid (scan_log HRS.out.2.1)
    have HFL := hid hfle
    clear hr0
    go_upto_region 6 with (go_at_call 27; refine (Scan_go (frames rs) (Nat.le_trans HFL.out (by decide)) _).mono ?_; rw [HSL.out]; rintro e w3 ⟨p3, rm3, vs, vt, q3, rfl, hq3, hS3⟩; have HQ3 := hid hq3; have HS3 := hid hS3; clear hq3 hS3)
    have hl3 : q3.length = qs.length := by have := congrArg List.length HQ3.out; rw [List.length_map, HRS.out.1] at this; exact this
    have ht3 : (ends 0 rs).length = qs.length := by rw [ends_len, HRS.out.1]
    obtain ⟨a3, c3, hvs, _⟩ := HS3.out.l.slice
    obtain ⟨at3, ct3, hvt, _⟩ := HS3.out.a.slice
    rw [hl3] at hvs
    rw [ht3] at hvt
    subst hvs hvt
    obtain ⟨g, rfl, hrow⟩ := row_rec HL.out.l rfl hqn
    obtain ⟨g3, rfl, hrow3⟩ := row_rec HS3.out.l hl3 (fun e => hqn (List.eq_nil_of_length_eq_zero (by rw [← hl3, e]; rfl)))
    obtain ⟨ga, rfl, hat⟩ := row_int HS3.out.a ht3 (fun e => hqn (List.eq_nil_of_length_eq_zero (by rw [← ht3, e]; rfl)))
    have HL3 := hid hl3
    have HEQ := hid (show ∀ t (h1 : t < q3.length) (h2 : t < qs.length), q3[t].r = qs[t].r from fun t h1 h2 => by
      have e1 := HRS.out.2.2 t h2
      rw [← HQ3.out] at e1
      simpa [h1] using e1)
    have HROW := hid (fun j (hj : j < qs.length) i u hu => cell_fr (hrow j hj i u hu) HS3.out.fr (fun h => h) : ∀ j (hj : j < qs.length), w3.rangeAt g (j * 8) (Q.cells qs[j]))
    have HROW3 := hid hrow3
    have HAT := hid (show ∀ t, t < qs.length → w3.cell? ⟨ga, t, none⟩ = some (.int .i64 (upto rs (t + 1) : Int)) from fun t ht => hat t _ (by rw [ends_at rs 0 t (by rw [HRS.out.1]; exact ht), Nat.zero_add]))
    have HQA := hid (fun j (hj : j < qs.length) => ((HL.out.q qs[j] (List.getElem_mem hj)).fre HS3.out.fr))
    have HQB := hid (fun j (hj : j < q3.length) => (HS3.out.q q3[j] (List.getElem_mem hj)))
    have F3 := hid (F2.out.trans HS3.out.fr (fun _ h _ => h))
    clear hrow hrow3 hat hl3 ht3 hqn F2
    have hn12 : qs.length ≤ 12 := HQ12.out
    go_wp2_with (fail)
    go_loopw [10, 11] (fun s10 i wr => ∃ t : Nat, t ≤ qs.length ∧ i = .int .i64 t ∧ s10 = .int .i64 (upto rs t : Int) ∧ Fr (fun _ => False) w3 wr) (fun _ i _ => qs.length - (intOf i).toNat)
    case atStart => exact ⟨0, by omega, rfl, rfl, Fr.refl _ _⟩
    case round =>
      obtain ⟨t, ht, rfl, rfl, fr⟩ := hrel
      have FZ := hid fr
      clear fr
      by_cases htj : t < qs.length
      · have ht2 : t < q3.length := by have := HL3.out; omega
        have htr : t < rs.length := by have := HRS.out.1; omega
        have r1 := fun i u hu => cell_fr (cell_fr (HROW3.out t ht2 i u hu) FZ.out (fun h => h)) ((Fr.refl (fun _ => False) wr).drew) (fun h => h)
        have r2 := fun i u hu => cell_fr (cell_fr (HROW.out t htj i u hu) FZ.out (fun h => h)) ((Fr.refl (fun _ => False) wr).drew) (fun h => h)
        have HR1 := hid (r1 : wr.drew.rangeAt g3 (t * 8) (Q.cells q3[t]))
        have HR2 := hid (r2 : wr.drew.rangeAt g (t * 8) (Q.cells qs[t]))
        have HC1 := hid (cell_fr (cell_fr (HAT.out t htj) FZ.out (fun h => h)) ((Fr.refl (fun _ => False) wr).drew) (fun h => h))
        have HQ1 := hid (((HQB.out t ht2).fre FZ.out).fre ((Fr.refl (fun _ => False) wr).drew))
        have HQW := hid (((HQA.out t htj).fre FZ.out).fre ((Fr.refl (fun _ => False) wr).drew))
        have hdec : decide (q3[t].r = qs[t].r) = true := decide_eq_true (HEQ.out t ht2 htj)
        have HSM := hid (RSame_go HQ1.out HQW.out)
        rw [hdec] at HSM
        have hur : rs[t] = qs[t].r := by have := HRS.out.2.2 t htj; rw [List.getElem?_eq_getElem htr] at this; exact Option.some.inj this
        have hus := upto_succ htr
        rw [hur] at hus
        have hgl := raw_le (HL.out.g qs[t] (List.getElem_mem htj)).right
        have hgf := good_len (HL.out.g qs[t] (List.getElem_mem htj))
        have hub : upto rs t ≤ 3000000 := by
          have := upto_mono (l := rs) (Nat.le_of_lt htr)
          have e : upto rs rs.length = (frames rs).length := by unfold upto; rw [List.take_length]
          omega
        have HUS := hid hus
        have HFR := hid (fun w' (f : Fr (fun _ => False) wr.drew w') => RFrame_go (HQW.out.fre f))
        clear r1 r2 hdec hur hus
        generalize q3[t] = qa1 at *
        generalize qs[t] = qa2 at *
        have hfm2 : (frame qa2.r).length ≤ 100008 := by omega
        clear hgl hgf
        generalize hU0 : upto rs t = U0 at *
        generalize hU1 : upto rs (t + 1) = U1 at *
        have HU1 := hid hU1
        clear hU0 hU1
        have hsz2 : ((bs (frame qa2.r)).size : Int) = ((frame qa2.r).length : Int) := by rw [bs_size]
        have HSZ2 := hid hsz2
        obtain ⟨fm, hfm⟩ : ∃ fm, frame qa2.r = fm := ⟨_, rfl⟩
        rw [hfm] at HUS HFR HSZ2 hfm2
        clear hsz2 hfm
        have i4 : (0 : Int) ≤ (t : Int) := by omega
        have i5 : (t : Int) < (qs.length : Int) := by omega
        go_upto_region 12 with fail
        refine wp_region_scr (.take 0 (.take 1 (.take 2 (.take 3 (.take 4 (.take 5 (.take 6 (.take 7 (.op 8 (.take 9 (.take 10 (.take 11 (.take 12 (.take 13 (.take 14 (.take 15 (.take 16 (.take 17 (.take 18 (.take 19 (.op 20 (.take 21 (.take 22 (.take 23 (.take 24 .done))))))))))))))))))))))))) (fun kz w => (kz ≤ 25 → w.rangeAt g3 (t * 8) (Q.cells qa1)) ∧ (w.rangeAt g (t * 8) (Q.cells qa2) ∧ w.cell? ⟨ga, t, none⟩ = some (.int .i64 (U1 : Int)))) (by kernel_rfl) (by kernel_rfl) (by intro c a d v w h; cases d <;> exact h) ?_
        repeat
          first
          | (refine wpT_pure rfl rfl rfl ?_; apply Exists.intro; refine ⟨?_, ?_⟩; intro w; (first | (first | exact run_load_mid _ _ rfl g3 _ rfl _ _ qa Try.underlying27 rfl size_Rec | exact run_load_mid _ _ rfl g _ rfl _ _ qb.1 Try.underlying27 rfl size_Rec | (obtain ⟨qb1, qb2⟩ := qb; go_simp <;> rfl) | (go_simp; rw [if_pos ⟨i4, i5⟩]; done)) | (go_simp <;> rfl)); simp only [Act.put, List.setIfInBounds_toArray, List.set_cons_zero, List.set_cons_succ])
          | (refine wpT_take 25 rfl rfl (by decide +kernel) ⟨fun _ => HR1.out, HR2.out, HC1.out⟩ ?_; apply Exists.intro; refine ⟨?_, ?_⟩; intro w hw; (have qa := hw.1 (Nat.le_refl _); have qb := hw.2); (first | (first | exact run_load_mid _ _ rfl g3 _ rfl _ _ qa Try.underlying27 rfl size_Rec | exact run_load_mid _ _ rfl g _ rfl _ _ qb.1 Try.underlying27 rfl size_Rec | (obtain ⟨qb1, qb2⟩ := qb; go_simp <;> rfl) | (go_simp; rw [if_pos ⟨i4, i5⟩]; done)) | (go_simp <;> rfl)); simp only [Act.put, List.setIfInBounds_toArray, List.set_cons_zero, List.set_cons_succ])
          | (refine wpT_skip rfl rfl ?_; simp only [Act.put, List.setIfInBounds_toArray, List.set_cons_zero, List.set_cons_succ])
        refine wpT_op rfl ?_
        go_wp2_with ((go_at_call 23; refine HSM.out.mono ?_; rintro e w8 ⟨rfl, f⟩; have F8 := hid f; have HR3 := hid (fun i u hu => cell_fr (HR1.out i u hu) f (fun h => h) : w8.rangeAt g3 (t * 8) (Q.cells qa1)); have HR4 := hid (fun i u hu => cell_fr (HR2.out i u hu) f (fun h => h) : w8.rangeAt g (t * 8) (Q.cells qa2)); have HC2 := hid (cell_fr HC1.out f (fun h => h)); clear f))
        (refine ⟨?_, ?_⟩; focus (intro kz hk hk2 hh; first | (exfalso; simp at hk2; omega) | exact hh | exact (fun h => absurd h (by omega)) | obtain ⟨qa, qb⟩ := hh; first | exact ⟨qa, qb⟩ | (refine ⟨fun h => absurd h (by omega), ?_⟩; first | exact qb | (first | exact HR3.out | exact ⟨HR4.out, HC2.out⟩)) | (refine ⟨fun h => ?_, ?_⟩; (have qa := qa h); all_goals (first | exact qa | exact qb | (first | exact HR3.out | exact ⟨HR4.out, HC2.out⟩)))))
        repeat
          first
          | (refine wpT_pure rfl rfl rfl ?_; apply Exists.intro; refine ⟨?_, ?_⟩; intro w; (first | (first | exact run_load_mid _ _ rfl g _ rfl _ _ qb.1 Try.underlying27 rfl size_Rec | (obtain ⟨qb1, qb2⟩ := qb; go_simp <;> rfl) | (go_simp; rw [if_pos ⟨i4, i5⟩]; done)) | (go_simp <;> rfl)); simp only [Act.put, List.setIfInBounds_toArray, List.set_cons_zero, List.set_cons_succ])
          | (refine wpT_take 25 rfl rfl (by decide +kernel) ⟨fun _ => HR3.out, HR4.out, HC2.out⟩ ?_; apply Exists.intro; refine ⟨?_, ?_⟩; intro w hw; (have qa := hw.1 (Nat.le_refl _); have qb := hw.2); (first | (first | exact run_load_mid _ _ rfl g _ rfl _ _ qb.1 Try.underlying27 rfl size_Rec | (obtain ⟨qb1, qb2⟩ := qb; go_simp <;> rfl) | (go_simp; rw [if_pos ⟨i4, i5⟩]; done)) | (go_simp <;> rfl)); simp only [Act.put, List.setIfInBounds_toArray, List.set_cons_zero, List.set_cons_succ])
          | (refine wpT_skip rfl rfl ?_; simp only [Act.put, List.setIfInBounds_toArray, List.set_cons_zero, List.set_cons_succ])
        have HW := hid (show IntKind.i64.wrap ((U0 : Int) + (fm.length : Int)) = (U1 : Int) from by rw [IntKind.wrap_i64]; have := HUS.out; omega)
        have HW2 := hid (show IntKind.i64.wrap ((U0 : Int) + ((bs fm).size : Int)) = (U1 : Int) from by rw [HSZ2.out]; exact HW.out)
        refine wpT_op rfl ?_
        go_wp2_with ((go_at_call 19; refine (HFR.out _ F8.out).mono ?_; rintro e w9 ⟨rfl, f⟩; have F9 := hid ((FZ.out.drew.trans F8.out (fun _ h _ => h)).trans f (fun _ h _ => h)); have HR5 := hid (fun i u hu => cell_fr (HR3.out i u hu) f (fun h => h) : w9.rangeAt g3 (t * 8) (Q.cells qa1)); have HR6 := hid (fun i u hu => cell_fr (HR4.out i u hu) f (fun h => h) : w9.rangeAt g (t * 8) (Q.cells qa2)); have HC3 := hid (cell_fr HC2.out f (fun h => h)); clear f))
        (refine ⟨?_, ?_⟩; focus (intro kz hk hk2 hh; first | (exfalso; simp at hk2; omega) | exact hh | exact (fun h => absurd h (by omega)) | obtain ⟨qa, qb⟩ := hh; first | exact ⟨qa, qb⟩ | (refine ⟨fun h => absurd h (by omega), ?_⟩; first | exact qb | (first | exact HR5.out | exact ⟨HR6.out, HC3.out⟩)) | (refine ⟨fun h => ?_, ?_⟩; (have qa := qa h); all_goals (first | exact qa | exact qb | (first | exact HR5.out | exact ⟨HR6.out, HC3.out⟩)))))
        repeat
          first
          | (refine wpT_pure rfl rfl rfl ?_; apply Exists.intro; refine ⟨?_, ?_⟩; intro w; (first | (first | (go_simp; rw [HW.out]; done) | (go_simp; rw [HW2.out]; done)) | (go_simp <;> rfl)); simp only [Act.put, List.setIfInBounds_toArray, List.set_cons_zero, List.set_cons_succ])
          | (refine wpT_take 25 rfl rfl (by decide +kernel) ⟨fun _ => HR5.out, HR6.out, HC3.out⟩ ?_; apply Exists.intro; refine ⟨?_, ?_⟩; intro w hw; (have qa := hw.1 (Nat.le_refl _); have qb := hw.2); (first | (first | (go_simp; rw [HW.out]; done) | (go_simp; rw [HW2.out]; done)) | (go_simp <;> rfl)); simp only [Act.put, List.setIfInBounds_toArray, List.set_cons_zero, List.set_cons_succ])
          | (refine wpT_skip rfl rfl ?_; simp only [Act.put, List.setIfInBounds_toArray, List.set_cons_zero, List.set_cons_succ])
        refine wpT_nil ?_
        have hc3 := HC3.out
        have hneq : ((U1 : Int) != IntKind.i64.wrap ((U0 : Int) + ((bs fm).size : Int))) = false := by rw [HW2.out]; simp
        go_wp2_with (fail)
        go_roundw
        case rel => exact ⟨t + 1, by omega, by simp, by rw [HU1.out], F9.out⟩
        case measure => simp [intOf]; omega
      · obtain rfl : t = qs.length := by omega
        have hlast : upto rs qs.length = (frames rs).length := by unfold upto; rw [← HRS.out.1, List.take_length]
        rw [hlast]
        clear hlast
        obtain ⟨n, hn, hn2, hn3⟩ : ∃ n : Nat, (x1 : Int).tmod (((frames rs).length : Int) + 1) = n ∧ (x1 : Int) % (((frames rs).length : Int) + 1) = n ∧ n ≤ (frames rs).length := by
          obtain ⟨n, h1, h2, h3⟩ := modl x1 ((frames rs).length + 1) (by omega)
          have e : (((frames rs).length + 1 : Nat) : Int) = ((frames rs).length : Int) + 1 := by omega
          rw [e] at h1 h2
          exact ⟨n, h1, h2, by omega⟩
        obtain ⟨K, hK, hscan, hin, hout⟩ := cut_log HRS.out.2.1 hn3
        have HSC := hid hscan
        have HIN := hid hin
        have HOUT := hid hout
        have hKq : K ≤ qs.length := by have := HRS.out.1; omega
        have HTL := hid (show ((frames rs).take n).length ≤ 1099511627776 from by rw [List.length_take]; omega)
        have hex : (bs (frames rs)).extract 0 n = bs ((frames rs).take n) := by apply ByteArray.ext; simp [bs]
        have hni : (n : Int) ≤ ((frames rs).length : Int) := by omega
        have hni0 : (0 : Int) ≤ (n : Int) := by omega
        have hlp : (0 : Int) < ((frames rs).length : Int) + 1 := by omega
        clear hscan hin hout hK
        generalize (frames rs).take n = fu at *
        go_upto_region 17 with (go_at_call 27; refine (Scan_go fu HTL.out _).mono ?_; rw [HSC.out]; rintro e w5 ⟨p5, rm5, vs, vt, q5, rfl, hq5, hS5⟩; have HQ5 := hid hq5; have HS5 := hid hS5; clear hq5 hS5)
        have F5 := hid (FZ.out.trans HS5.out.fr (fun _ h _ => h))
        clear hex hn hn2
        have hl5 : q5.length = K := by have := congrArg List.length HQ5.out; rw [List.length_map, List.length_take, HRS.out.1] at this; omega
        have ht5 : (ends 0 (rs.take K)).length = K := by rw [ends_len, List.length_take, HRS.out.1]; omega
        obtain ⟨a5, c5, hvs, _⟩ := HS5.out.l.slice
        obtain ⟨at5, ct5, hvt, _⟩ := HS5.out.a.slice
        rw [hl5] at hvs
        rw [ht5] at hvt
        subst hvs hvt
        have HL5 := hid hl5
        have HT5 := hid ht5
        clear hl5 ht5
        go_wp2_with (fail)
        go_loopw [14] (fun i wr => ∃ t : Nat, t ≤ K ∧ i = .int .i64 t ∧ Fr (fun _ => False) w5 wr) (fun i _ => K - (intOf i).toNat)
        case atStart => exact ⟨0, by omega, rfl, Fr.refl _ _⟩
        case round =>
          obtain ⟨t, ht, rfl, fr⟩ := hrel
          have FY := hid fr
          clear fr
          have i4 : (0 : Int) ≤ (t : Int) := by omega
          by_cases htk : t < K
          · have htq : t < qs.length := by omega
            have i5 : (t : Int) < (qs.length : Int) := by omega
            have hc := cell_fr (cell_fr (HAT.out t htq) F5.out (fun h => h)) FY.out (fun h => h)
            have hle := HIN.out t htk
            have i6 : (upto rs (t + 1) : Int) ≤ (n : Int) := by omega
            clear hle
            generalize upto rs (t + 1) = U at *
            go_wp2_with (fail)
            go_roundw
            case rel => exact ⟨t + 1, by omega, by simp, FY.out⟩
            case measure => simp [intOf]; omega
          · obtain rfl : t = K := by omega
            clear htk ht
            rcases (by omega : t < qs.length ∨ t = qs.length) with htq | htq
            focus
              have i5 : (t : Int) < (qs.length : Int) := by omega
              have hc := cell_fr (cell_fr (HAT.out t htq) F5.out (fun h => h)) FY.out (fun h => h)
              have hle := HOUT.out (by have := HRS.out.1; omega)
              have i6 : (n : Int) < (upto rs (t + 1) : Int) := by omega
              clear hle
              generalize hUU : upto rs (t + 1) = U at *
              clear hUU
              have i7 : decide (U ≤ n) = false := decide_eq_false (by omega)
              have i8 : decide ((U : Int) ≤ (n : Int)) = false := decide_eq_false (by omega)
              go_wp2_with (fail)
              go_loopw [15] (fun i wr => ∃ s : Nat, s ≤ t ∧ i = .int .i64 s ∧ Fr (fun _ => False) w5 wr) (fun i _ => t - (intOf i).toNat)
              case atStart => exact ⟨0, by omega, rfl, FY.out⟩
              case round =>
                obtain ⟨s, hs, rfl, fr⟩ := hrel
                have FZ2 := hid fr
                clear fr
                by_cases hst : s < t
                · have hs5 : s < q5.length := by have := HL5.out; omega
                  have hsq : s < qs.length := by omega
                  obtain ⟨g5, rfl, hrow5⟩ := row_rec HS5.out.l HL5.out (fun e => by rw [e] at hs5; simp at hs5)
                  obtain ⟨ga5, rfl, hat5⟩ := row_int HS5.out.a HT5.out (fun e => by have := HT5.out; rw [e] at this; simp at this; omega)
                  have huu : upto (rs.take t) (s + 1) = upto rs (s + 1) := by unfold upto; rw [List.take_take, Nat.min_eq_left (by omega)]
                  have hc5 : w5.cell? ⟨ga5, s, none⟩ = some (.int .i64 (upto rs (s + 1) : Int)) := hat5 s _ (by rw [ends_at (rs.take t) 0 s (by rw [List.length_take, HRS.out.1]; omega), Nat.zero_add, huu])
                  have r1 := fun i u hu => cell_fr (cell_fr (hrow5 s hs5 i u hu) FZ2.out (fun h => h)) ((Fr.refl (fun _ => False) wr).drew) (fun h => h)
                  have r2 := fun i u hu => cell_fr (cell_fr (cell_fr (HROW.out s hsq i u hu) F5.out (fun h => h)) FZ2.out (fun h => h)) ((Fr.refl (fun _ => False) wr).drew) (fun h => h)
                  have HR1 := hid (r1 : wr.drew.rangeAt g5 (s * 8) (Q.cells q5[s]))
                  have HR2 := hid (r2 : wr.drew.rangeAt g (s * 8) (Q.cells qs[s]))
                  have HC1 := hid (cell_fr (cell_fr hc5 FZ2.out (fun h => h)) ((Fr.refl (fun _ => False) wr).drew) (fun h => h))
                  have HC2 := hid (cell_fr (cell_fr (cell_fr (HAT.out s hsq) F5.out (fun h => h)) FZ2.out (fun h => h)) ((Fr.refl (fun _ => False) wr).drew) (fun h => h))
                  have HQ1 := hid (((HS5.out.q q5[s] (List.getElem_mem hs5)).fre FZ2.out).fre ((Fr.refl (fun _ => False) wr).drew))
                  have HQW := hid ((((HQA.out s hsq).fre F5.out).fre FZ2.out).fre ((Fr.refl (fun _ => False) wr).drew))
                  have heq : q5[s].r = qs[s].r := by
                    have e1 := HRS.out.2.2 s hsq
                    have e2 : (q5.map Q.r)[s]? = some qs[s].r := by rw [HQ5.out, List.getElem?_take_of_lt hst]; exact e1
                    simpa [hs5] using e2
                  have hdec : decide (q5[s].r = qs[s].r) = true := decide_eq_true heq
                  have HSM := hid (RSame_go HQ1.out HQW.out)
                  rw [hdec] at HSM
                  clear r1 r2 hdec heq hrow5 hat5 huu hc5
                  generalize q5[s] = qa1 at *
                  generalize qs[s] = qa2 at *
                  generalize upto rs (s + 1) = U1 at *
                  have j4 : (0 : Int) ≤ (s : Int) := by omega
                  have j5 : (s : Int) < (qs.length : Int) := by omega
                  have j6 : (s : Int) < (t : Int) := by omega
                  go_upto_region 25 with fail
                  refine wp_region_scr (.take 0 (.take 1 (.take 2 (.take 3 (.take 4 (.take 5 (.take 6 (.take 7 (.op 8 (.take 9 (.take 10 (.take 11 (.take 12 (.take 13 (.take 14 (.take 15 (.take 16 (.take 17 (.take 18 (.take 19 (.take 20 .done))))))))))))))))))))) (fun kz w => (kz ≤ 21 → w.rangeAt g5 (s * 8) (Q.cells qa1)) ∧ (w.rangeAt g (s * 8) (Q.cells qa2) ∧ w.cell? ⟨ga5, s, none⟩ = some (.int .i64 (U1 : Int)) ∧ w.cell? ⟨ga, s, none⟩ = some (.int .i64 (U1 : Int)))) (by kernel_rfl) (by kernel_rfl) (by intro c a d v w h; cases d <;> exact h) ?_
                  repeat
                    first
                    | (refine wpT_pure rfl rfl rfl ?_; apply Exists.intro; refine ⟨?_, ?_⟩; intro w; (first | (first | exact run_load_mid _ _ rfl g5 _ rfl _ _ qa Try.underlying27 rfl size_Rec | exact run_load_mid _ _ rfl g _ rfl _ _ qb.1 Try.underlying27 rfl size_Rec | (obtain ⟨qb1, qb2, qb3⟩ := qb; go_simp <;> rfl) | (go_simp; rw [if_pos ⟨j4, j5⟩]; done) | (go_simp; rw [if_pos ⟨j4, j6⟩]; done)) | (go_simp <;> rfl)); simp only [Act.put, List.setIfInBounds_toArray, List.set_cons_zero, List.set_cons_succ])
                    | (refine wpT_take 21 rfl rfl (by decide +kernel) ⟨fun _ => HR1.out, HR2.out, HC1.out, HC2.out⟩ ?_; apply Exists.intro; refine ⟨?_, ?_⟩; intro w hw; (have qa := hw.1 (Nat.le_refl _); have qb := hw.2); (first | (first | exact run_load_mid _ _ rfl g5 _ rfl _ _ qa Try.underlying27 rfl size_Rec | exact run_load_mid _ _ rfl g _ rfl _ _ qb.1 Try.underlying27 rfl size_Rec | (obtain ⟨qb1, qb2, qb3⟩ := qb; go_simp <;> rfl) | (go_simp; rw [if_pos ⟨j4, j5⟩]; done) | (go_simp; rw [if_pos ⟨j4, j6⟩]; done)) | (go_simp <;> rfl)); simp only [Act.put, List.setIfInBounds_toArray, List.set_cons_zero, List.set_cons_succ])
                    | (refine wpT_skip rfl rfl ?_; simp only [Act.put, List.setIfInBounds_toArray, List.set_cons_zero, List.set_cons_succ])
                  refine wpT_op rfl ?_
                  go_wp2_with ((go_at_call 23; refine HSM.out.mono ?_; rintro e w8 ⟨rfl, f⟩; have F8 := hid ((FZ2.out.drew).trans f (fun _ h _ => h)); have HR3 := hid (fun i u hu => cell_fr (HR1.out i u hu) f (fun h => h) : w8.rangeAt g5 (s * 8) (Q.cells qa1)); have HR4 := hid (fun i u hu => cell_fr (HR2.out i u hu) f (fun h => h) : w8.rangeAt g (s * 8) (Q.cells qa2)); have HC3 := hid (cell_fr HC1.out f (fun h => h)); have HC4 := hid (cell_fr HC2.out f (fun h => h)); clear f))
                  (refine ⟨?_, ?_⟩; focus (intro kz hk hk2 hh; first | (exfalso; simp at hk2; omega) | exact hh | exact (fun h => absurd h (by omega)) | obtain ⟨qa, qb⟩ := hh; first | exact ⟨qa, qb⟩ | (refine ⟨fun h => absurd h (by omega), ?_⟩; first | exact qb | (first | exact HR3.out | exact ⟨HR4.out, HC3.out, HC4.out⟩)) | (refine ⟨fun h => ?_, ?_⟩; (have qa := qa h); all_goals (first | exact qa | exact qb | (first | exact HR3.out | exact ⟨HR4.out, HC3.out, HC4.out⟩)))))
                  repeat
                    first
                    | (refine wpT_pure rfl rfl rfl ?_; apply Exists.intro; refine ⟨?_, ?_⟩; intro w; (first | (first | (obtain ⟨qb1, qb2, qb3⟩ := qb; go_simp <;> rfl) | (go_simp; rw [if_pos ⟨j4, j5⟩]; done) | (go_simp; rw [if_pos ⟨j4, j6⟩]; done)) | (go_simp <;> rfl)); simp only [Act.put, List.setIfInBounds_toArray, List.set_cons_zero, List.set_cons_succ])
                    | (refine wpT_take 21 rfl rfl (by decide +kernel) ⟨fun _ => HR3.out, HR4.out, HC3.out, HC4.out⟩ ?_; apply Exists.intro; refine ⟨?_, ?_⟩; intro w hw; (have qa := hw.1 (Nat.le_refl _); have qb := hw.2); (first | (first | (obtain ⟨qb1, qb2, qb3⟩ := qb; go_simp <;> rfl) | (go_simp; rw [if_pos ⟨j4, j5⟩]; done) | (go_simp; rw [if_pos ⟨j4, j6⟩]; done)) | (go_simp <;> rfl)); simp only [Act.put, List.setIfInBounds_toArray, List.set_cons_zero, List.set_cons_succ])
                    | (refine wpT_skip rfl rfl ?_; simp only [Act.put, List.setIfInBounds_toArray, List.set_cons_zero, List.set_cons_succ])
                  refine wpT_nil ?_
                  go_wp2_with (fail)
                  go_roundw
                  case rel => exact ⟨s + 1, by omega, by simp, F8.out⟩
                  case measure => simp [intOf]; omega
                · obtain rfl : s = t := by omega
                  go_wp2_with (fail)
                  go_ret
                  exact ⟨ret_bool (by simp), F3.out.trans (F5.out.trans FZ2.out (fun _ h _ => h)) (fun _ h _ => h)⟩
            focus
              have i5 : ¬ (t : Int) < (qs.length : Int) := by omega
              clear htq
              go_wp2_with (fail)
              go_loopw [15] (fun i wr => ∃ s : Nat, s ≤ t ∧ i = .int .i64 s ∧ Fr (fun _ => False) w5 wr) (fun i _ => t - (intOf i).toNat)
              case atStart => exact ⟨0, by omega, rfl, FY.out⟩
              case round =>
                obtain ⟨s, hs, rfl, fr⟩ := hrel
                have FZ2 := hid fr
                clear fr
                by_cases hst : s < t
                · have hs5 : s < q5.length := by have := HL5.out; omega
                  have hsq : s < qs.length := by omega
                  obtain ⟨g5, rfl, hrow5⟩ := row_rec HS5.out.l HL5.out (fun e => by rw [e] at hs5; simp at hs5)
                  obtain ⟨ga5, rfl, hat5⟩ := row_int HS5.out.a HT5.out (fun e => by have := HT5.out; rw [e] at this; simp at this; omega)
                  have huu : upto (rs.take t) (s + 1) = upto rs (s + 1) := by unfold upto; rw [List.take_take, Nat.min_eq_left (by omega)]
                  have hc5 : w5.cell? ⟨ga5, s, none⟩ = some (.int .i64 (upto rs (s + 1) : Int)) := hat5 s _ (by rw [ends_at (rs.take t) 0 s (by rw [List.length_take, HRS.out.1]; omega), Nat.zero_add, huu])
                  have r1 := fun i u hu => cell_fr (cell_fr (hrow5 s hs5 i u hu) FZ2.out (fun h => h)) ((Fr.refl (fun _ => False) wr).drew) (fun h => h)
                  have r2 := fun i u hu => cell_fr (cell_fr (cell_fr (HROW.out s hsq i u hu) F5.out (fun h => h)) FZ2.out (fun h => h)) ((Fr.refl (fun _ => False) wr).drew) (fun h => h)
                  have HR1 := hid (r1 : wr.drew.rangeAt g5 (s * 8) (Q.cells q5[s]))
                  have HR2 := hid (r2 : wr.drew.rangeAt g (s * 8) (Q.cells qs[s]))
                  have HC1 := hid (cell_fr (cell_fr hc5 FZ2.out (fun h => h)) ((Fr.refl (fun _ => False) wr).drew) (fun h => h))
                  have HC2 := hid (cell_fr (cell_fr (cell_fr (HAT.out s hsq) F5.out (fun h => h)) FZ2.out (fun h => h)) ((Fr.refl (fun _ => False) wr).drew) (fun h => h))
                  have HQ1 := hid (((HS5.out.q q5[s] (List.getElem_mem hs5)).fre FZ2.out).fre ((Fr.refl (fun _ => False) wr).drew))
                  have HQW := hid ((((HQA.out s hsq).fre F5.out).fre FZ2.out).fre ((Fr.refl (fun _ => False) wr).drew))
                  have heq : q5[s].r = qs[s].r := by
                    have e1 := HRS.out.2.2 s hsq
                    have e2 : (q5.map Q.r)[s]? = some qs[s].r := by rw [HQ5.out, List.getElem?_take_of_lt hst]; exact e1
                    simpa [hs5] using e2
                  have hdec : decide (q5[s].r = qs[s].r) = true := decide_eq_true heq
                  have HSM := hid (RSame_go HQ1.out HQW.out)
                  rw [hdec] at HSM
                  clear r1 r2 hdec heq hrow5 hat5 huu hc5
                  generalize q5[s] = qa1 at *
                  generalize qs[s] = qa2 at *
                  generalize upto rs (s + 1) = U1 at *
                  have j4 : (0 : Int) ≤ (s : Int) := by omega
                  have j5 : (s : Int) < (qs.length : Int) := by omega
                  have j6 : (s : Int) < (t : Int) := by omega
                  go_upto_region 25 with fail
                  refine wp_region_scr (.take 0 (.take 1 (.take 2 (.take 3 (.take 4 (.take 5 (.take 6 (.take 7 (.op 8 (.take 9 (.take 10 (.take 11 (.take 12 (.take 13 (.take 14 (.take 15 (.take 16 (.take 17 (.take 18 (.take 19 (.take 20 .done))))))))))))))))))))) (fun kz w => (kz ≤ 21 → w.rangeAt g5 (s * 8) (Q.cells qa1)) ∧ (w.rangeAt g (s * 8) (Q.cells qa2) ∧ w.cell? ⟨ga5, s, none⟩ = some (.int .i64 (U1 : Int)) ∧ w.cell? ⟨ga, s, none⟩ = some (.int .i64 (U1 : Int)))) (by kernel_rfl) (by kernel_rfl) (by intro c a d v w h; cases d <;> exact h) ?_
                  repeat
                    first
                    | (refine wpT_pure rfl rfl rfl ?_; apply Exists.intro; refine ⟨?_, ?_⟩; intro w; (first | (first | exact run_load_mid _ _ rfl g5 _ rfl _ _ qa Try.underlying27 rfl size_Rec | exact run_load_mid _ _ rfl g _ rfl _ _ qb.1 Try.underlying27 rfl size_Rec | (obtain ⟨qb1, qb2, qb3⟩ := qb; go_simp <;> rfl) | (go_simp; rw [if_pos ⟨j4, j5⟩]; done) | (go_simp; rw [if_pos ⟨j4, j6⟩]; done)) | (go_simp <;> rfl)); simp only [Act.put, List.setIfInBounds_toArray, List.set_cons_zero, List.set_cons_succ])
                    | (refine wpT_take 21 rfl rfl (by decide +kernel) ⟨fun _ => HR1.out, HR2.out, HC1.out, HC2.out⟩ ?_; apply Exists.intro; refine ⟨?_, ?_⟩; intro w hw; (have qa := hw.1 (Nat.le_refl _); have qb := hw.2); (first | (first | exact run_load_mid _ _ rfl g5 _ rfl _ _ qa Try.underlying27 rfl size_Rec | exact run_load_mid _ _ rfl g _ rfl _ _ qb.1 Try.underlying27 rfl size_Rec | (obtain ⟨qb1, qb2, qb3⟩ := qb; go_simp <;> rfl) | (go_simp; rw [if_pos ⟨j4, j5⟩]; done) | (go_simp; rw [if_pos ⟨j4, j6⟩]; done)) | (go_simp <;> rfl)); simp only [Act.put, List.setIfInBounds_toArray, List.set_cons_zero, List.set_cons_succ])
                    | (refine wpT_skip rfl rfl ?_; simp only [Act.put, List.setIfInBounds_toArray, List.set_cons_zero, List.set_cons_succ])
                  refine wpT_op rfl ?_
                  go_wp2_with ((go_at_call 23; refine HSM.out.mono ?_; rintro e w8 ⟨rfl, f⟩; have F8 := hid ((FZ2.out.drew).trans f (fun _ h _ => h)); have HR3 := hid (fun i u hu => cell_fr (HR1.out i u hu) f (fun h => h) : w8.rangeAt g5 (s * 8) (Q.cells qa1)); have HR4 := hid (fun i u hu => cell_fr (HR2.out i u hu) f (fun h => h) : w8.rangeAt g (s * 8) (Q.cells qa2)); have HC3 := hid (cell_fr HC1.out f (fun h => h)); have HC4 := hid (cell_fr HC2.out f (fun h => h)); clear f))
                  (refine ⟨?_, ?_⟩; focus (intro kz hk hk2 hh; first | (exfalso; simp at hk2; omega) | exact hh | exact (fun h => absurd h (by omega)) | obtain ⟨qa, qb⟩ := hh; first | exact ⟨qa, qb⟩ | (refine ⟨fun h => absurd h (by omega), ?_⟩; first | exact qb | (first | exact HR3.out | exact ⟨HR4.out, HC3.out, HC4.out⟩)) | (refine ⟨fun h => ?_, ?_⟩; (have qa := qa h); all_goals (first | exact qa | exact qb | (first | exact HR3.out | exact ⟨HR4.out, HC3.out, HC4.out⟩)))))
                  repeat
                    first
                    | (refine wpT_pure rfl rfl rfl ?_; apply Exists.intro; refine ⟨?_, ?_⟩; intro w; (first | (first | (obtain ⟨qb1, qb2, qb3⟩ := qb; go_simp <;> rfl) | (go_simp; rw [if_pos ⟨j4, j5⟩]; done) | (go_simp; rw [if_pos ⟨j4, j6⟩]; done)) | (go_simp <;> rfl)); simp only [Act.put, List.setIfInBounds_toArray, List.set_cons_zero, List.set_cons_succ])
                    | (refine wpT_take 21 rfl rfl (by decide +kernel) ⟨fun _ => HR3.out, HR4.out, HC3.out, HC4.out⟩ ?_; apply Exists.intro; refine ⟨?_, ?_⟩; intro w hw; (have qa := hw.1 (Nat.le_refl _); have qb := hw.2); (first | (first | (obtain ⟨qb1, qb2, qb3⟩ := qb; go_simp <;> rfl) | (go_simp; rw [if_pos ⟨j4, j5⟩]; done) | (go_simp; rw [if_pos ⟨j4, j6⟩]; done)) | (go_simp <;> rfl)); simp only [Act.put, List.setIfInBounds_toArray, List.set_cons_zero, List.set_cons_succ])
                    | (refine wpT_skip rfl rfl ?_; simp only [Act.put, List.setIfInBounds_toArray, List.set_cons_zero, List.set_cons_succ])
                  refine wpT_nil ?_
                  go_wp2_with (fail)
                  go_roundw
                  case rel => exact ⟨s + 1, by omega, by simp, F8.out⟩
                  case measure => simp [intOf]; omega
                · obtain rfl : s = t := by omega
                  go_wp2_with (fail)
                  go_ret
                  exact ⟨ret_bool (by simp), F3.out.trans (F5.out.trans FZ2.out (fun _ h _ => h)) (fun _ h _ => h)⟩
end Go.Proofs.Ytfhkmiifndhacaa
namespace Go.Proofs.Ytfhkmiifndhacaa.recordPrefix
open Go.ChangeShapes Go.WideShapes Go.ChangeAt Go.RowKit Go.VB Go.VB.Rec
set_option maxHeartbeats 400000 in
set_option maxRecDepth 100000 in
theorem lifted (os : Os) (started : os.Started) (H : Type) (enc : TypeId × Value → H) :
    ReturnsInHanded {} Try.checked os 7 .any (Rows.recordPrefixSpec.pre6 enc Try.prog Try.f7 Rows.recordPrefixRow.domain false) (Rows.recordPrefixSpec.post enc Try.prog Try.f7 false true false false) := by
  refine returnsInHanded_of_change (C := Try.checked) own started (by kernel_rfl) Try.func7
    (ChangeSpec.witness6 (enc := enc) (C := Try.checked) false ⟨#[], #[.slice none 0 0, .int .i64 0], []⟩ 8 (by kernel_rfl) (by kernel_rfl) (by kernel_rfl) (by kernel_rfl)) ?_
  intro W base args ds gs before hval0 hW hcnd _
  have hval : ∀ (j : Nat) t v, Try.f7.params[j]? = some t → args[j]? = some v → Value.okWide Try.prog W .any base t v := hval0
  have hW' := hW
  obtain ⟨p, q, hA0, hV, rfl, hfz, hnd⟩ := hW
  have hA : DataW.TrodAll enc Try.prog W 0 (fun _ => true) true Try.f7.params.toList args.toList ds p := hA0
  rw [Try.params7] at hA hval
  obtain ⟨v0, vs0, d0, ds0, p0, q0, hargs, rfl, rfl, h0, r0⟩ := trodAll_cons hA
  obtain ⟨v1, vs1, d1, ds1, p1, q1, rfl, rfl, rfl, h1, r1⟩ := trodAll_cons r0
  obtain ⟨rfl, rfl, rfl⟩ := trodAll_nil r1
  obtain rfl : args = #[v0, v1] := by cases args; simp_all
  obtain ⟨rfl, rfl⟩ := trodVars_none hV
  clear hA0 hval0
  refine Calls.mono (R := fun e w' => e = .returned (.bool true) ∧ Fr (fun _ => False) W w') ?_ fun e W' ⟨he, hf⟩ => ⟨_, he, post_law sound (by decide +kernel) rfl rfl (ht := Try.underlying4) (by rfl) hW' hf⟩
  obtain ⟨L, sL, gL, -⟩ := open_ints2 (hval 0 44 v0 rfl rfl) h0
  obtain ⟨a1, rfl, -, -, w1⟩ := open_int Try.underlying3 (hval 1 3 v1 rfl rfl) h1
  exact Prefix_walk sL gL a1
theorem proved : Rows.RecordPrefixSaid :=
  OpenClaim.holds_of_wide 7 Try.f7 rfl rfl rfl rfl rfl rfl rfl ⟨rfl, rfl, rfl, rfl, rfl⟩ rfl rfl rfl rfl rfl (by kernel_rfl) Try.func7 (by kernel_rfl)
    (of_decide_eq_true (by kernel_rfl)) (by unfold Func.isWrapper; first | (rw [if_pos (by decide +kernel)]; kernel_rfl) | (rw [if_neg (by decide +kernel)]; exact ⟨rfl, rfl⟩))
    (fun os started H enc _ => lifted os started H enc)
end Go.Proofs.Ytfhkmiifndhacaa.recordPrefix
