/- Proved: for every two lists of lists of integers and every three integers the law RecordFlips of chapter 04 returns true, and its arguments read afterwards as before. Conditions: none beyond the given statement. -/
import Derived.Test.YtfhkmiifndhacaaRecs
import Derived.Test.YtfhkmiifndhacaaFlipM
import Derived.Laws.BitsAllLaws
set_option linter.unusedVariables false
namespace Go.Proofs.Ytfhkmiifndhacaa
open Go.RowKit Go.VB Go.VB.Oct Go.VB.Rec
/-- what a list of records that law.log made says of its records -/
theorem lg_facts {w0 w1 : World} {vl : Value} {qs : List Q} (h : LgS w0 w1 vl qs) : (qs.map Q.r).length = qs.length ∧ (∀ r ∈ qs.map Q.r, GoodR r) ∧ ∀ j (hj : j < qs.length), (qs.map Q.r)[j]? = some qs[j].r :=
  ⟨by simp, fun x hx => by obtain ⟨q, hq, rfl⟩ := List.mem_map.1 hx; exact h.g q hq, fun j hj => by simp [hj]⟩
theorem row_int {B n : Nat} {W : World} {a : Option Addr} {c : Nat} {l : List Int} (h : Row 3 1 B W (.slice a n c) l.length (l.flatMap icell)) (hn : l.length = n) (hq : l ≠ []) :
    ∃ g, a = some ⟨g, 0, none⟩ ∧ ∀ j (x : Int), l[j]? = some x → W.cell? ⟨g, j, none⟩ = some (.int .i64 x) := by
  subst hn
  obtain ⟨g, h1, h2, h3⟩ := row_cells h (fun e => hq (by
    cases l with
    | nil => rfl
    | cons x L => simp [icell] at e))
  refine ⟨g, h1, fun j x hj => h3 j _ ?_⟩
  have hjl := (List.getElem?_eq_some_iff.1 hj).1
  have e := (List.getElem?_eq_some_iff.1 hj).2
  rw [flat1 icell (fun _ => rfl) l j hjl]
  simp [icell, e]
theorem upto_past {l m : List R} (h : ∀ r ∈ m, GoodR r) {t : Nat} (ht : t < m.length) : (frames l).length < upto (l ++ m) (l.length + t + 1) := by
  unfold upto
  rw [Nat.add_assoc, List.take_length_add_append, frames_app, List.length_append, List.take_succ_eq_append_getElem ht, frames_app, List.length_append]
  have := good_len (h _ (List.getElem_mem ht))
  have e : frames [m[t]] = frame m[t] := by simp [frames]
  rw [e]
  omega
theorem list3 {α : Type} {L : List α} (h : L.length = 3) : ∃ a b c, L = [a, b, c] := by
  match L, h with
  | [a, b, c], _ => exact ⟨a, b, c, rfl⟩
theorem xor_byte (b : UInt8) (z : Nat) (hz : z < 256) (h0 : ¬ z = 0) : ∃ x : UInt8, bits .xor .u8 (b.toNat : Int) (z : Int) = (x.toNat : Int) ∧ x ≠ b := by
  refine ⟨b ^^^ UInt8.ofNat z, ?_, ?_⟩
  · rw [u8_xor_nat _ _ b.toNat_lt hz]
    congr 1
    rw [UInt8.toNat_xor, UInt8.toNat_ofNat_of_lt' hz]
  · intro h
    have h1 : b ^^^ (b ^^^ UInt8.ofNat z) = b ^^^ b := by rw [h]
    rw [← UInt8.xor_assoc, UInt8.xor_self, UInt8.zero_xor] at h1
    have h2 := congrArg UInt8.toNat h1
    rw [UInt8.toNat_ofNat_of_lt' hz] at h2
    exact h0 h2
set_option maxRecDepth 20000 in
set_option maxHeartbeats 20000000 in
theorem Flips_walk {P P' : Nat → Prop} {w : World} {va vb : Value} {L M : List Arg} (h : Sl P w va L.length (L.flatMap acells)) (hi : ∀ p ∈ L, Sl P w p.1 p.2.length (p.2.flatMap icell) ∧ p.2.length ≤ 9223372036854775807)
    (h' : Sl P' w vb M.length (M.flatMap acells)) (hi' : ∀ p ∈ M, Sl P' w p.1 p.2.length (p.2.flatMap icell) ∧ p.2.length ≤ 9223372036854775807) (n0 n1 n2 : Int) :
    Calls Try.prog 11 #[va, vb, .agg #[.int .i64 n0, .int .i64 n1, .int .i64 n2]] w fun e w' => e = .returned (.bool true) ∧ Fr (fun _ => False) w w' := by
  obtain ⟨x0, hx0, hy0, -⟩ := and_16 n0
  obtain ⟨x1, hx1, hy1, -⟩ := and_16 n1
  have HSA := hid (fun w => sanity_go w)
  have HLG := hid (fun w' (f : Fr (fun _ => False) w w') => log_go (h.fr f (fun _ _ h => h)) (fun p hp => ⟨(hi p hp).1.fr f (fun _ _ h => h), (hi p hp).2⟩))
  have HLH := hid (fun w' (f : Fr (fun _ => False) w w') => log_go (h'.fr f (fun _ _ h => h)) (fun p hp => ⟨(hi' p hp).1.fr f (fun _ _ h => h), (hi' p hp).2⟩))
  obtain ⟨a, c, rfl, -⟩ := h
  obtain ⟨b, d, rfl, -⟩ := h'
  clear hi hi'
  have X0 := hid (Blk.new w [.int .i64 n0, .int .i64 n1, .int .i64 n2] 34)
  have F0 := hid ((Fr.refl (fun _ => False) w).alloc (.cells #[.int .i64 n0, .int .i64 n1, .int .i64 n2] 34))
  go_enter Try.func11, Try.ntmps11
  go_upto_region 4 with (first
    | (go_at_call 12; refine (HSA.out _).mono ?_; rintro e w1 ⟨rfl, f1⟩; have F1 := hid (F0.out.trans f1 (fun _ h _ => h)); have X1 := hid (Blk.fr X0.out f1 (fun h => h)); clear f1)
    | (go_at_call 25; refine (HLH.out _ F2.out).mono ?_; rintro e w3 ⟨vm, ms, rfl, hm12, hM⟩; have HM := hid hM; obtain ⟨am, cm, rfl, _⟩ := hM.l.slice; clear hM)
    | (go_at_call 25; refine (HLG.out _ F1.out).mono ?_; rintro e w2 ⟨vl, qs, rfl, hq12, hL⟩; have HL := hid hL; have F2 := hid (F1.out.trans hL.fr (fun _ h _ => h)); obtain ⟨al, cl, rfl, _⟩ := hL.l.slice; clear hL))
  have HQ := hid hq12
  have HMM := hid hm12
  have HRQ := hid (lg_facts HL.out)
  have HRM := hid (lg_facts HM.out)
  clear hq12 hm12 X0 F0 HSA HLG HLH
  generalize qs.map Q.r = rs at *
  generalize ms.map Q.r = rm at *
  have hl1 := frames_le (l := rs) HRQ.out.2.1 (by have := HRQ.out.1; have := HQ.out; omega)
  have hl2 := frames_le (l := rm) HRM.out.2.1 (by have := HRM.out.1; have := HMM.out; omega)
  have hadd : ∀ w, (Op.stringOp .add (bs (frames rs)) (bs (frames rm))).run Try.prog w = .ok (.string (bs (frames (rs ++ rm)))) w := fun w => by rw [frames_app]; exact run_add_bs w (frames rs) (frames rm) (by omega)
  have HGA := hid (show ∀ r ∈ rs ++ rm, GoodR r from fun r hr => (List.mem_append.1 hr).elim (HRQ.out.2.1 r) (HRM.out.2.1 r))
  have HSL := hid (scan_log HGA.out)
  have HTL := hid (show (frames (rs ++ rm)).length ≤ 1099511627776 from by rw [frames_app, List.length_append]; omega)
  have HFL := hid (show (frames rs).length ≤ 3000000 ∧ (frames rm).length ≤ 3000000 from ⟨hl1, hl2⟩)
  clear hl1 hl2
  obtain ⟨N, hN⟩ : ∃ N : Nat, N = qs.length + ms.length := ⟨_, rfl⟩
  have hne : ((N : Int) != (qs.length : Int) + (ms.length : Int)) = false := by simp; omega
  have hn12 : qs.length ≤ 12 := HQ.out
  have hm12 : ms.length ≤ 12 := HMM.out
  go_upto_region 5 with (go_at_call 27; refine (Scan_go _ HTL.out _).mono ?_; rw [HSL.out]; rintro e w4 ⟨p4, rm4, vs, vt, q4, rfl, hq4, hS4⟩; have HQ4 := hid hq4; have HS4 := hid hS4; clear hq4 hS4)
  have hlr : (rs ++ rm).length = N := by rw [List.length_append, HRQ.out.1, HRM.out.1, hN]
  have hl4 : q4.length = N := by have := congrArg List.length HQ4.out; rw [List.length_map, hlr] at this; exact this
  have ht4 : (ends 0 (rs ++ rm)).length = N := by rw [ends_len, hlr]
  obtain ⟨a4, c4, hvs, _⟩ := HS4.out.l.slice
  obtain ⟨at4, ct4, hvt, _⟩ := HS4.out.a.slice
  rw [hl4] at hvs
  rw [ht4] at hvt
  subst hvs hvt
  have HL4 := hid hl4
  have HT4 := hid ht4
  have F4 := hid (F2.out.trans (HM.out.fr.trans HS4.out.fr (fun _ h _ => h)) (fun _ h _ => h))
  have HN := hid hN
  clear hlr hl4 ht4 hadd hN
  have HEQ := hid (show ∀ t (h1 : qs.length + t < q4.length) (h2 : t < ms.length), q4[qs.length + t].r = ms[t].r from fun t h1 h2 => by
    have e1 := HRM.out.2.2 t h2
    have e2 : (q4.map Q.r)[qs.length + t]? = some ms[t].r := by rw [HQ4.out, ← HRQ.out.1, List.getElem?_append_right (by omega), Nat.add_sub_cancel_left]; exact e1
    simpa [h1] using e2)
  go_upto_region 7 with fail
  go_wp2_with (fail)
  go_loopw [14] (fun i wr => ∃ t : Nat, t ≤ ms.length ∧ i = .int .i64 t ∧ Fr (fun _ => False) w4 wr) (fun i _ => ms.length - (intOf i).toNat)
  case atStart => exact ⟨0, by omega, rfl, Fr.refl _ _⟩
  case round =>
    obtain ⟨t, ht, rfl, fr⟩ := hrel
    have FZ := hid fr
    clear fr
    by_cases htm : t < ms.length
    · have hy4 : qs.length + t < q4.length := by have := HL4.out; have := HN.out; omega
      obtain ⟨g4, rfl, hrow4⟩ := row_rec HS4.out.l HL4.out (fun e => by rw [e] at hy4; simp at hy4)
      obtain ⟨ga, rfl, hat⟩ := row_int HS4.out.a HT4.out (fun e => by have := HT4.out; rw [e] at this; simp at this; have := HN.out; omega)
      obtain ⟨gm, rfl, hrowm⟩ := row_rec HM.out.l rfl (fun e => by rw [e] at htm; simp at htm)
      have hup := upto_past (l := rs) (m := rm) HRM.out.2.1 (t := t) (by have := HRM.out.1; omega)
      rw [HRQ.out.1] at hup
      have r1 := fun i u hu => cell_fr (cell_fr (hrow4 (qs.length + t) hy4 i u hu) FZ.out (fun h => h)) ((Fr.refl (fun _ => False) wr).drew) (fun h => h)
      have r2 := fun i u hu => cell_fr (cell_fr (cell_fr (hrowm t htm i u hu) HS4.out.fr (fun h => h)) FZ.out (fun h => h)) ((Fr.refl (fun _ => False) wr).drew) (fun h => h)
      have hc := hat (qs.length + t) _ (ends_at (rs ++ rm) 0 (qs.length + t) (by rw [List.length_append, HRQ.out.1, HRM.out.1]; omega))
      rw [Nat.zero_add] at hc
      have HR1 := hid (r1 : wr.drew.rangeAt g4 ((qs.length + t) * 8) (Q.cells q4[qs.length + t]))
      have HR2 := hid (r2 : wr.drew.rangeAt gm (t * 8) (Q.cells ms[t]))
      have HC1 := hid (cell_fr (cell_fr hc FZ.out (fun h => h)) ((Fr.refl (fun _ => False) wr).drew) (fun h => h))
      have HQ1 := hid (((HS4.out.q q4[qs.length + t] (List.getElem_mem hy4)).fre FZ.out).fre ((Fr.refl (fun _ => False) wr).drew))
      have HQW := hid ((((HM.out.q ms[t] (List.getElem_mem htm)).fre HS4.out.fr).fre FZ.out).fre ((Fr.refl (fun _ => False) wr).drew))
      have hdec : decide (q4[qs.length + t].r = ms[t].r) = true := decide_eq_true (HEQ.out t hy4 htm)
      have HSM := hid (RSame_go HQ1.out HQW.out)
      rw [hdec] at HSM
      clear r1 r2 hc hdec hrow4 hat hrowm
      generalize q4[qs.length + t] = qa1 at *
      generalize ms[t] = qa2 at *
      generalize upto (rs ++ rm) (qs.length + t + 1) = U1 at *
      have HUP := hid hup
      clear hup
      obtain ⟨y, hyy⟩ : ∃ y, y = qs.length + t := ⟨_, rfl⟩
      have HWY := hid (show IntKind.i64.wrap ((qs.length : Int) + (t : Int)) = (y : Int) from by rw [IntKind.wrap_i64]; omega)
      have hyN : (y : Int) < (N : Int) := by have := HN.out; omega
      rw [← hyy] at HR1 HC1
      clear hyy
      have j4 : (0 : Int) ≤ (t : Int) := by omega
      have j5 : (t : Int) < (ms.length : Int) := by omega
      have j6 : (0 : Int) ≤ (y : Int) := by omega
      go_upto_region 10 with fail
      refine wp_region_scr (.take 0 (.take 1 (.take 2 (.take 3 (.take 4 (.take 5 (.take 6 (.take 7 (.take 8 (.take 9 (.take 10 (.op 11 (.take 12 (.take 13 (.take 14 (.take 15 (.take 16 (.take 17 (.take 18 (.take 19 (.take 20 (.take 21 (.take 22 (.take 23 (.take 24 .done))))))))))))))))))))))))) (fun kz w => (kz ≤ 25 → w.rangeAt g4 (y * 8) (Q.cells qa1)) ∧ (w.rangeAt gm (t * 8) (Q.cells qa2) ∧ w.cell? ⟨ga, y, none⟩ = some (.int .i64 (U1 : Int)))) (by kernel_rfl) (by kernel_rfl) (by intro c a d v w h; cases d <;> exact h) ?_
      repeat
        first
        | (refine wpT_pure rfl rfl rfl ?_; apply Exists.intro; refine ⟨?_, ?_⟩; intro w; (first | (first | exact run_load_mid _ _ rfl g4 _ rfl _ _ qa Try.underlying27 rfl size_Rec | exact run_load_mid _ _ rfl gm _ rfl _ _ qb.1 Try.underlying27 rfl size_Rec | (go_simp; rw [HWY.out, Int.toNat_natCast, if_pos ⟨j6, hyN⟩]) | (go_simp; rw [if_pos ⟨j4, j5⟩]) | (obtain ⟨qb1, qb2⟩ := qb; go_simp <;> rfl)) | (go_simp <;> rfl)); simp only [Act.put, List.setIfInBounds_toArray, List.set_cons_zero, List.set_cons_succ])
        | (refine wpT_take 25 rfl rfl (by decide +kernel) ⟨fun _ => HR1.out, HR2.out, HC1.out⟩ ?_; apply Exists.intro; refine ⟨?_, ?_⟩; intro w hw; (have qa := hw.1 (Nat.le_refl _); have qb := hw.2); (first | (first | exact run_load_mid _ _ rfl g4 _ rfl _ _ qa Try.underlying27 rfl size_Rec | exact run_load_mid _ _ rfl gm _ rfl _ _ qb.1 Try.underlying27 rfl size_Rec | (go_simp; rw [HWY.out, Int.toNat_natCast, if_pos ⟨j6, hyN⟩]) | (go_simp; rw [if_pos ⟨j4, j5⟩]) | (obtain ⟨qb1, qb2⟩ := qb; go_simp <;> rfl)) | (go_simp <;> rfl)); simp only [Act.put, List.setIfInBounds_toArray, List.set_cons_zero, List.set_cons_succ])
        | (refine wpT_skip rfl rfl ?_; simp only [Act.put, List.setIfInBounds_toArray, List.set_cons_zero, List.set_cons_succ])
      refine wpT_op rfl ?_
      go_wp2_with ((go_at_call 23; refine HSM.out.mono ?_; rintro e w8 ⟨rfl, f⟩; have F8 := hid ((FZ.out.drew).trans f (fun _ h _ => h)); have HR3 := hid (fun i u hu => cell_fr (HR1.out i u hu) f (fun h => h) : w8.rangeAt g4 (y * 8) (Q.cells qa1)); have HR4 := hid (fun i u hu => cell_fr (HR2.out i u hu) f (fun h => h) : w8.rangeAt gm (t * 8) (Q.cells qa2)); have HC2 := hid (cell_fr HC1.out f (fun h => h)); clear f))
      (refine ⟨?_, ?_⟩; focus (intro kz hk hk2 hh; first | (exfalso; simp at hk2; omega) | exact hh | exact (fun h => absurd h (by omega)) | obtain ⟨qa, qb⟩ := hh; first | exact ⟨qa, qb⟩ | (refine ⟨fun h => absurd h (by omega), ?_⟩; first | exact qb | (first | exact HR3.out | exact ⟨HR4.out, HC2.out⟩)) | (refine ⟨fun h => ?_, ?_⟩; (have qa := qa h); all_goals (first | exact qa | exact qb | (first | exact HR3.out | exact ⟨HR4.out, HC2.out⟩)))))
      repeat
        first
        | (refine wpT_pure rfl rfl rfl ?_; apply Exists.intro; refine ⟨?_, ?_⟩; intro w; (first | (first | (go_simp; rw [HWY.out, Int.toNat_natCast, if_pos ⟨j6, hyN⟩]) | (obtain ⟨qb1, qb2⟩ := qb; go_simp <;> rfl)) | (go_simp <;> rfl)); simp only [Act.put, List.setIfInBounds_toArray, List.set_cons_zero, List.set_cons_succ])
        | (refine wpT_take 25 rfl rfl (by decide +kernel) ⟨fun _ => HR3.out, HR4.out, HC2.out⟩ ?_; apply Exists.intro; refine ⟨?_, ?_⟩; intro w hw; (have qa := hw.1 (Nat.le_refl _); have qb := hw.2); (first | (first | (go_simp; rw [HWY.out, Int.toNat_natCast, if_pos ⟨j6, hyN⟩]) | (obtain ⟨qb1, qb2⟩ := qb; go_simp <;> rfl)) | (go_simp <;> rfl)); simp only [Act.put, List.setIfInBounds_toArray, List.set_cons_zero, List.set_cons_succ])
        | (refine wpT_skip rfl rfl ?_; simp only [Act.put, List.setIfInBounds_toArray, List.set_cons_zero, List.set_cons_succ])
      refine wpT_nil ?_
      have hq1 : decide ((U1 : Int) ≤ ((bs (frames rs)).size : Int)) = false := decide_eq_false (by rw [bs_size]; have := HUP.out; omega)
      have hq2 : decide (U1 ≤ (bs (frames rs)).size) = false := decide_eq_false (by rw [bs_size]; have := HUP.out; omega)
      have hq3 : decide (U1 ≤ (frames rs).length) = false := decide_eq_false (by have := HUP.out; omega)
      have hq4 : ¬ (U1 ≤ (frames rs).length) := by have := HUP.out; omega
      go_wp2_with (fail)
      go_roundw
      case rel => exact ⟨t + 1, by omega, by simp, F8.out⟩
      case measure => simp [intOf]; omega
    · obtain rfl : t = ms.length := by omega
      have HX := hid (Blk.fr X1.out (((HL.out.fr.trans HM.out.fr (fun _ h _ => h)).trans HS4.out.fr (fun _ h _ => h)).trans FZ.out (fun _ h _ => h)) (fun h => h))
      have FW := hid (F4.out.trans FZ.out (fun _ h _ => h))
      by_cases hq0 : qs.length = 0
      · have hz : ((qs.length : Int) == 0) = true := by simp [hq0]
        have hz2 : (qs.length : Int) = 0 := by omega
        clear hq0
        go_wp2_with (fail)
        go_ret
        exact ⟨rfl, FW.out⟩
      · have hz : ((qs.length : Int) == 0) = false := by rw [beq_eq_false_iff_ne]; omega
        have hz2 : ¬ (qs.length : Int) = 0 := by omega
        obtain ⟨k, hk, hk2, hk3⟩ := modl x0 qs.length (by omega)
        have hz3 : (0 : Int) < (qs.length : Int) := by omega
        have hc0 : wr.cell? ⟨w.heap.size, 0, none⟩ = some (.int .i64 n0) := HX.out.cell 0
        have hc1 : wr.cell? ⟨w.heap.size, 1, none⟩ = some (.int .i64 n1) := HX.out.cell 1
        have hc2 : wr.cell? ⟨w.heap.size, 2, none⟩ = some (.int .i64 n2) := HX.out.cell 2
        go_upto_region 16 with fail
        obtain ⟨ga, rfl, hat⟩ := row_int HS4.out.a HT4.out (fun e => by have := HT4.out; rw [e] at this; simp at this; have := HN.out; omega)
        have hup : ∀ j, j ≤ qs.length → upto (rs ++ rm) j = upto rs j := fun j hj => by unfold upto; rw [List.take_append_of_le_length (by rw [HRQ.out.1]; exact hj)]
        have HAT := hid (show ∀ j, j < qs.length → wr.cell? ⟨ga, j, none⟩ = some (.int .i64 (upto rs (j + 1) : Int)) from fun j hj => by
          have h1 := hat j _ (ends_at (rs ++ rm) 0 j (by rw [List.length_append, HRQ.out.1]; omega))
          rw [Nat.zero_add, hup (j + 1) (by omega)] at h1
          exact cell_fr h1 FZ.out (fun h => h))
        have hkN : (k : Int) < (N : Int) := by have := HN.out; omega
        have i0 : (0 : Int) ≤ (k : Int) := by omega
        clear hat hup
        go_upto_if 97 with fail
        go_cut [16] (fun v16 wx => v16 = .int .i64 (upto rs k : Int) ∧ wx = wr)
        case first =>
          by_cases hk0 : k = 0
          · subst hk0
            go_wp2_with (fail)
            go_meet
            exact ⟨rfl, rfl⟩
          · obtain ⟨k', rfl⟩ : ∃ k', k = k' + 1 := ⟨k - 1, by omega⟩
            have hc := HAT.out k' (by omega)
            have i9 : (0 : Int) < ((k' + 1 : Nat) : Int) := by omega
            have hsub : (((k' + 1 : Nat) : Int)) - 1 = (k' : Int) := by omega
            have i7 : (0 : Int) ≤ (k' : Int) := by omega
            have i8 : (k' : Int) < (N : Int) := by omega
            go_wp2_with (fail)
            go_meet
            exact ⟨rfl, rfl⟩
        case rest =>
          obtain ⟨rfl, rfl⟩ := hcut
          have hkr : k < rs.length := by have := HRQ.out.1; omega
          have hgk := HRQ.out.2.1 rs[k] (List.getElem_mem hkr)
          have HGK := hid hgk
          have hus := upto_succ hkr
          rw [good_len hgk] at hus
          have hrl := raw_le hgk.right
          have hub : upto rs k ≤ 3000000 := by
            have := upto_mono (l := rs) (Nat.le_of_lt hkr)
            have e : upto rs rs.length = (frames rs).length := by unfold upto; rw [List.take_length]
            have := HFL.out.1
            omega
          have hck := HAT.out k hk3
          obtain ⟨nn, hnn⟩ : ∃ nn : Nat, nn = rs[k].raw.length + 4 := ⟨_, rfl⟩
          have HNN := hid hnn
          have hdif : ((upto rs (k + 1) : Int) - (upto rs k : Int) - 4) = (nn : Int) := by omega
          have hnn1 : (1 : Int) ≤ (nn : Int) := by omega
          have HUS := hid hus
          have hub2 : upto rs (k + 1) ≤ 3200000 := by omega
          clear hus hrl hgk hnn
          generalize hU0 : upto rs k = U0 at *
          generalize hU1 : upto rs (k + 1) = U1 at *
          have HU0 := hid hU0
          have HU1 := hid hU1
          clear hU0 hU1
          obtain ⟨z, hz8, hz9⟩ : ∃ z : Nat, IntKind.u8.wrap n2 = (z : Int) ∧ z < 256 := ⟨(n2 % 256).toNat, by rw [IntKind.wrap_u8]; omega, by omega⟩
          by_cases hz0 : z = 0
          · subst hz0
            go_wp2_with (fail)
            go_ret
            exact ⟨rfl, FW.out⟩
          · have hzb : ((z : Int) == 0) = false := by rw [beq_eq_false_iff_ne]; omega
            have hzn : ¬ (z : Int) = 0 := by omega
            have hlt1 : ¬ (nn : Int) < 1 := by omega
            obtain ⟨m, hm, hm2, hm3⟩ := modl x1 nn (by omega)
            have hnn0 : (0 : Int) < (nn : Int) := by omega
            go_upto_region 23 with (first | (refine wpList_str_bytes rfl rfl Try.underlying9 Try.underlying35 Try.underlying5 rfl ?_; intro cb w9 sb; have SB := hid sb; clear sb))
            have HX9 := hid (Blk.fr HX.out SB.out.fr (fun h => h))
            clear hc0 hc1 hc2 hck
            have hylt : U0 + 4 + m < (frames rs).length := by
              have h1 := upto_mono (l := rs) (show k + 1 ≤ rs.length from hkr)
              have e : upto rs rs.length = (frames rs).length := by unfold upto; rw [List.take_length]
              have := HU1.out
              have := HUS.out
              have := HNN.out
              omega
            have HB0 := hid (SB.out.at 5 hylt)
            have HFREE := hid (SB.out.free hylt)
            have HX10 := hid (HX9.out.drew)
            have HWA := hid (show IntKind.i64.wrap (IntKind.i64.wrap ((U0 : Int) + 4) + (m : Int)) = ((U0 + 4 + m : Nat) : Int) from by rw [IntWalk.i64_in ((U0 : Int) + 4) (by omega), IntWalk.i64_in ((U0 : Int) + 4 + m) (by omega)]; omega)
            have hnz : ¬ (nn : Int) = 0 := by omega
            have hnz0 : ¬ nn = 0 := by omega
            have hy0 : (0 : Int) ≤ ((U0 + 4 + m : Nat) : Int) := by omega
            have hy1 : ((U0 + 4 + m : Nat) : Int) < ((frames rs).length : Int) := by omega
            obtain ⟨y, hyy⟩ : ∃ y, y = U0 + 4 + m := ⟨_, rfl⟩
            rw [← hyy] at hy0 hy1 HWA
            have HYY := hid hyy
            obtain ⟨b0, hb0⟩ : ∃ b0 : UInt8, b0 = (frames rs)[U0 + 4 + m] := ⟨_, rfl⟩
            have HB1 : Hid (w9.drew.cell? ⟨wc.heap.size, y, none⟩ = some (.int .u8 (b0.toNat : Int))) := hid (by rw [hyy, hb0]; exact HB0.out)
            have HBQ := hid hb0
            have HF1 : Hid (w9.drew.frozen? ⟨wc.heap.size, y, none⟩ = false) := hid (by rw [hyy]; exact HFREE.out)
            clear hyy hb0 HB0 HFREE
            generalize hbx : w.heap.size = bx at *
            generalize hbb : wc.heap.size = bb at *
            have HBB := hid hbb
            have HBX := hid hbx
            clear hbb hbx
            obtain ⟨x', hx', hxne⟩ : ∃ x' : UInt8, bits .xor .u8 (b0.toNat : Int) (z : Int) = (x'.toNat : Int) ∧ x' ≠ b0 := xor_byte b0 z hz9 hz0
            have HXOR := hid hx'
            have HXNE := hid hxne
            clear hx' hxne
            refine wp_region_scr (.take 0 (.take 1 (.take 2 (.take 3 (.take 4 (.take 5 (.take 6 (.take 7 (.take 8 (.take 9 (.take 10 (.take 11 (.take 12 (.take 13 (.take 14 (.take 15 (.take 16 (.take 17 (.take 18 (.take 19 (.take 20 (.take 21 (.take 22 (.op 23 .done)))))))))))))))))))))))) (fun kz w => (kz ≤ 23 → w.cell? ⟨bx, 1, none⟩ = some (.int .i64 n1) ∧ w.cell? ⟨bb, y, none⟩ = some (.int .u8 (b0.toNat : Int))) ∧ True) (by kernel_rfl) (by kernel_rfl) (by intro c a d v w h; cases d <;> exact h) ?_
            repeat
              first
              | (refine wpT_pure rfl rfl rfl ?_; apply Exists.intro; refine ⟨?_, ?_⟩; intro w; (first | (first | (go_simp; rw [if_neg hnz0]) | (go_simp; rw [HWA.out, Int.toNat_natCast, if_pos ⟨hy0, hy1⟩]) | (obtain ⟨qa1, qa2⟩ := qa; go_simp <;> rfl)) | (go_simp <;> rfl)); simp only [Act.put, List.setIfInBounds_toArray, List.set_cons_zero, List.set_cons_succ])
              | (refine wpT_take 23 rfl rfl (by decide +kernel) ⟨fun _ => ⟨HX10.out.cell 1, HB1.out⟩, trivial⟩ ?_; apply Exists.intro; refine ⟨?_, ?_⟩; intro w hw; (have qa := hw.1 (Nat.le_refl _); have qb := hw.2); (first | (first | (go_simp; rw [if_neg hnz0]) | (go_simp; rw [HWA.out, Int.toNat_natCast, if_pos ⟨hy0, hy1⟩]) | (obtain ⟨qa1, qa2⟩ := qa; go_simp <;> rfl)) | (go_simp <;> rfl)); simp only [Act.put, List.setIfInBounds_toArray, List.set_cons_zero, List.set_cons_succ])
              | (refine wpT_skip rfl rfl ?_; simp only [Act.put, List.setIfInBounds_toArray, List.set_cons_zero, List.set_cons_succ])
            have cb2 := HB1.out
            have zb2 := HF1.out
            refine wpT_op rfl ?_
            go_wp2_with (fail)
            refine ⟨fun kz hk hk2 hh => (by first | exact ⟨fun h => absurd h (by omega), trivial⟩ | exact fun h => absurd h (by omega)), ?_⟩
            refine wpT_nil ?_
            clear cb2 zb2
            rw [HXOR.out]
            have hyl : y < (frames rs).length := by have := HYY.out; omega
            have HSB := hid (SB.out.set hyl x').drew
            have HFS := hid (FW.out.trans (SB.out.fr.setCell ⟨bb, y, none⟩ (.int .u8 (x'.toNat : Int)) (fun h => by have := SB.out.at_; dsimp only at h; omega)).drew (fun _ h _ => h))
            have HSC := hid (show scan ((frames rs).set y x' ++ frames rm) = (rs.take k, ends 0 (rs.take k)) from by
              have h1 := flip_log HRQ.out.2.1 hkr (m := m) (by have := HNN.out; omega) (y := x') (by have := HU0.out; omega) (by
                intro e
                apply HXNE.out
                rw [e, HBQ.out]
                simp only [HU0.out]) (frames rm)
              rw [HU0.out, ← HYY.out] at h1
              exact h1)
            have hcl : ((frames rs).set y x').length = (frames rs).length := List.length_set
            have hcv := run_bytes_string (P := Try.prog) (w := (w9.setCell ⟨bb, y, none⟩ (.int .u8 (x'.toNat : Int))).drew) (l := (frames rs).set y x') (HSB.out.head _ _ rfl) (src := 35) (dst := 9) Try.underlying35 Try.underlying5 Try.underlying9 (frames rs).length cb hcl.symm
            have hadd := fun w => run_add_bs (P := Try.prog) w ((frames rs).set y x') (frames rm) (by rw [hcl]; have := HFL.out; omega)
            have HTK := hid (show (rs.take k).length = k from by rw [List.length_take]; omega)
            have HTL2 := hid (show ((frames rs).set y x' ++ frames rm).length ≤ 1099511627776 from by rw [List.length_append, hcl]; have := HFL.out; omega)
            clear hcl SB HX9 HX10 HB1 HF1 hyl HBQ hylt
            generalize (frames rs).set y x' = sx at *
            generalize (w9.setCell ⟨bb, y, none⟩ (.int .u8 (x'.toNat : Int))).drew = wx at *
            generalize frames rs = fs at *
            generalize frames rm = fm at *
            go_wp2_with (go_at_call 27; refine (Scan_go _ HTL2.out _).mono ?_; rw [HSC.out]; rintro e w10 ⟨p5, rm5, us, ut, q5, rfl, hq5, hS5⟩; have HQ5 := hid (show q5.length = k from by have := congrArg List.length hq5; rw [List.length_map, HTK.out] at this; exact this); obtain ⟨a5, c5, hus5, _⟩ := hS5.l.slice; rw [HQ5.out] at hus5; subst hus5; have HFZ := hid (HFS.out.trans hS5.fr (fun _ h _ => h)); clear hq5 hS5)
            go_ret
            exact ⟨rfl, HFZ.out⟩
end Go.Proofs.Ytfhkmiifndhacaa
namespace Go.Proofs.Ytfhkmiifndhacaa.recordFlips
open Go.ChangeShapes Go.WideShapes Go.ChangeAt Go.RowKit Go.VB Go.VB.Rec
set_option maxHeartbeats 400000 in
set_option maxRecDepth 100000 in
theorem lifted (os : Os) (started : os.Started) (H : Type) (enc : TypeId × Value → H) :
    ReturnsInHanded {} Try.checked os 11 .any (Rows.recordFlipsSpec.pre6 enc Try.prog Try.f11 Rows.recordFlipsRow.domain false) (Rows.recordFlipsSpec.post enc Try.prog Try.f11 false true false false) := by
  refine returnsInHanded_of_change (C := Try.checked) own started (by kernel_rfl) Try.func11
    (ChangeSpec.witness6 (enc := enc) (C := Try.checked) false ⟨#[], #[.slice none 0 0, .slice none 0 0, .agg #[.int .i64 0, .int .i64 0, .int .i64 0]], []⟩ 8 (by kernel_rfl) (by kernel_rfl) (by kernel_rfl) (by kernel_rfl)) ?_
  intro W base args ds gs before hval0 hW hcnd _
  have hval : ∀ (j : Nat) t v, Try.f11.params[j]? = some t → args[j]? = some v → Value.okWide Try.prog W .any base t v := hval0
  have hW' := hW
  obtain ⟨p, q, hA0, hV, rfl, hfz, hnd⟩ := hW
  have hA : DataW.TrodAll enc Try.prog W 0 (fun _ => true) true Try.f11.params.toList args.toList ds p := hA0
  rw [Try.params11] at hA hval
  obtain ⟨v0, vs0, d0, ds0, p0, q0, hargs, rfl, rfl, h0, r0⟩ := trodAll_cons hA
  obtain ⟨v1, vs1, d1, ds1, p1, q1, rfl, rfl, rfl, h1, r1⟩ := trodAll_cons r0
  obtain ⟨v2, vs2, d2, ds2, p2, q2, rfl, rfl, rfl, h2, r2⟩ := trodAll_cons r1
  obtain ⟨rfl, rfl, rfl⟩ := trodAll_nil r2
  obtain rfl : args = #[v0, v1, v2] := by cases args; simp_all
  obtain ⟨rfl, rfl⟩ := trodVars_none hV
  clear hA0 hval0
  refine Calls.mono (R := fun e w' => e = .returned (.bool true) ∧ Fr (fun _ => False) W w') ?_ fun e W' ⟨he, hf⟩ => ⟨_, he, post_law sound (by decide +kernel) rfl rfl (ht := Try.underlying4) (by rfl) hW' hf⟩
  obtain ⟨L, sL, gL, -⟩ := open_ints2 (hval 0 44 v0 rfl rfl) h0
  obtain ⟨M, sM, gM, -⟩ := open_ints2 (hval 1 44 v1 rfl rfl) h1
  obtain ⟨A, rfl, hal, -⟩ := open_ar Try.underlying34 (k := 1) (by kernel_rfl) (by kernel_rfl) (hval 2 34 v2 rfl rfl) h2 (fun x => [Value.int .i64 x]) (fun x => (Lit.int .i64 x).wf = true) (fun fuel cs r h => elem_int Try.underlying3 fuel cs r h)
  obtain ⟨n0, n1, n2, rfl⟩ := list3 hal
  exact Flips_walk sL gL sM gM n0 n1 n2
theorem proved : Rows.RecordFlipsSaid :=
  OpenClaim.holds_of_wide 11 Try.f11 rfl rfl rfl rfl rfl rfl rfl ⟨rfl, rfl, rfl, rfl, rfl⟩ rfl rfl rfl rfl rfl (by kernel_rfl) Try.func11 (by kernel_rfl)
    (of_decide_eq_true (by kernel_rfl)) (by unfold Func.isWrapper; first | (rw [if_pos (by decide +kernel)]; kernel_rfl) | (rw [if_neg (by decide +kernel)]; exact ⟨rfl, rfl⟩))
    (fun os started H enc _ => lifted os started H enc)
end Go.Proofs.Ytfhkmiifndhacaa.recordFlips
