/- Proved: for every list of lists of integers, every three integers and every string the law RecordScans of chapter 04 returns true, and its arguments read afterwards as before. Conditions: none beyond the given statement. -/
import Derived.Test.YtfhkmiifndhacaaRecs
import Derived.Test.YtfhkmiifndhacaaRsO
import Derived.Laws.BitsAllLaws
set_option linter.unusedVariables false
namespace Go.Proofs.Ytfhkmiifndhacaa
open Go.RowKit Go.VB Go.VB.Oct Go.VB.Rec
theorem scanF_len : ∀ (f : Nat) (s : List UInt8) (a : Nat), (scanF f s a).2.length = (scanF f s a).1.length
  | 0, _, _ => rfl
  | f + 1, s, a => by
    unfold scanF
    cases scan1 s a with
    | none => rfl
    | some p =>
      obtain ⟨r, b⟩ := p
      simp [scanF_len f s b]
theorem scanF_le : ∀ (f : Nat) (s : List UInt8) (a : Nat), (scanF f s a).2.length ≤ f
  | 0, _, _ => Nat.le_refl _
  | f + 1, s, a => by
    unfold scanF
    cases scan1 s a with
    | none => simp
    | some p =>
      obtain ⟨r, b⟩ := p
      simpa using scanF_le f s b
theorem row_int {B n : Nat} {W : World} {a : Option Addr} {c : Nat} {l : List Int} (h : Row 3 1 B W (.slice a n c) l.length (l.flatMap icell)) (hn : l.length = n) (hq : l ≠ []) :
    ∃ g, a = some ⟨g, 0, none⟩ ∧ ∀ j (x : Int), l[j]? = some x → W.cell? ⟨g, j, none⟩ = some (.int .i64 x) := by
  subst hn
  obtain ⟨g, h1, h2, h3⟩ := row_cells h (fun e => hq (by
    cases l with
    | nil => rfl
    | cons x L => simp [icell] at e))
  refine ⟨g, h1, fun j x hj => h3 j _ ?_⟩
  have hjl := (List.getElem?_eq_some_iff.1 hj).1
  have e := (List.getElem?_eq_some_iff.1 hj).2
  rw [flat1 icell (fun _ => rfl) l j hjl]
  simp [icell, e]
theorem cut_str (t : List UInt8) (c : Nat) : ∃ q : Nat, (∀ z : Int, z = c → min (t.length : Int) z = (q : Int) ∧ (if z < (t.length : Int) then z else (t.length : Int)) = (q : Int)) ∧ (bs t).extract 0 q = bs (t.take c) ∧ (q : Int) ≤ t.length := by
  refine ⟨min c t.length, fun z hz => by subst hz; exact ⟨by omega, by split <;> omega⟩, ?_, by omega⟩
  apply ByteArray.ext
  simp [bs]
theorem r4Scan_is {s : List UInt8} {sc : List R × List Int} (hsc : scan s = sc) (hs : s.length ≤ 1099511627776) {n : Nat} (hn : sc.1.length = n ∧ sc.2.length = n) (w : World) : Calls Try.prog 63 #[.string (bs s)] w fun e w' => ∃ b1 e1 b2 e2 qs, e = .returned (.agg #[.slice b1 n e1, .slice b2 n e2]) ∧ qs.length = n ∧ qs.map Q.r = sc.1 ∧ ScE w w' (.slice b1 n e1) (.slice b2 n e2) qs sc.2 := by
  refine (r4Scan_go s hs w).mono ?_
  rw [hsc]
  rintro e w' ⟨vl, va, qs, rfl, hq, h⟩
  have hl : qs.length = n := by have := congrArg List.length hq; rw [List.length_map, hn.1] at this; exact this
  obtain ⟨b1, e1, h1, _⟩ := h.l.slice
  obtain ⟨b2, e2, h2, _⟩ := h.a.slice
  rw [hl] at h1
  rw [hn.2] at h2
  subst h1 h2
  exact ⟨b1, e1, b2, e2, qs, rfl, hl, hq, h⟩
set_option maxRecDepth 20000 in
set_option maxHeartbeats 8000000 in
theorem scans_go (s : List UInt8) (hs : s.length ≤ 1099511627776) (w : World) : Calls Try.prog 26 #[.string (bs s)] w fun e w' => e = .returned (.bool true) ∧ Fr (fun _ => False) w w' := by
  have hln : (scan s).2.length = (scan s).1.length := scanF_len _ _ _
  have hlm : (scan s).2.length ≤ s.length + 1 := scanF_le _ _ _
  have HS1 := hid (fun w => Scan_go s hs w)
  have HS2 := hid (fun sc (h : scan s = sc) n (hn : sc.1.length = n ∧ sc.2.length = n) w => r4Scan_is h hs hn w)
  obtain ⟨sc, hsc⟩ : ∃ sc, scan s = sc := ⟨_, rfl⟩
  rw [hsc] at hln hlm HS1
  obtain ⟨n, hn⟩ : ∃ n, sc.2.length = n := ⟨_, rfl⟩
  have HN := hid (show sc.1.length = n ∧ sc.2.length = n from ⟨by omega, hn⟩)
  replace HS2 := hid (HS2.out sc hsc n HN.out)
  have hnb : n ≤ 2199023255552 := by omega
  clear hln hlm hn hsc
  go_enter Try.func26, Try.ntmps26
  go_upto_region 2 with (go_at_call 27; refine (HS1.out _).mono ?_; rintro e w1 ⟨p1, rm1, vl, va, qs, rfl, hq, h⟩; have HQ := hid hq; have HA := hid h; clear hq h)
  have hl1 : qs.length = n := by have := congrArg List.length HQ.out; rw [List.length_map] at this; rw [this]; exact HN.out.1
  obtain ⟨a1, c1, hvl, _⟩ := HA.out.l.slice
  obtain ⟨a2, c2, hva, _⟩ := HA.out.a.slice
  rw [hl1] at hvl
  rw [HN.out.2] at hva
  subst hvl hva
  have HL1 := hid hl1
  clear hl1 HS1
  go_upto_region 3 with (go_at_call 63; refine (HS2.out _).mono ?_; rintro e w2 ⟨b1, e1, b2, e2, qs2, rfl, hl, hq, h⟩; have HL2 := hid hl; have HQ2 := hid hq; have HB := hid h; clear hl hq h)
  clear HS2
  have fb := (Fr.refl (fun _ => False) w2).alloc (.cells #[.slice b1 n e1, .slice b2 n e2] 90)
  have HBX := hid (Blk.new w2 [.slice b1 n e1, .slice b2 n e2] 90)
  have F12 := hid (HB.out.fr.trans fb (fun _ h _ => h))
  have F2 := hid fb
  have F0 := hid (HA.out.fr.trans F12.out (fun _ h _ => h))
  clear fb
  generalize w2.heap.size = d2 at *
  generalize w2.alloc _ = W2 at *
  have k0 : W2.cell? ⟨d2, 0, none⟩ = some (.slice b1 n e1) := HBX.out.cell 0
  have k1 : W2.cell? ⟨d2, 1, none⟩ = some (.slice b2 n e2) := HBX.out.cell 1
  go_wp2_with (fail)
  clear k0 k1
  go_loopw [6] (fun i wr => ∃ t : Nat, t ≤ n ∧ i = .int .i64 t ∧ Fr (fun _ => False) W2 wr) (fun i _ => n - (intOf i).toNat)
  case atStart => exact ⟨0, by omega, rfl, Fr.refl _ _⟩
  case round =>
    obtain ⟨t, ht, rfl, fr⟩ := hrel
    have FZ := hid fr
    clear fr
    by_cases htn : t < n
    · have ht1 : t < qs.length := by rw [HL1.out]; exact htn
      have ht2 : t < qs2.length := by rw [HL2.out]; exact htn
      have ht3 : t < sc.2.length := by rw [HN.out.2]; exact htn
      obtain ⟨g1, rfl, hrow1⟩ := row_rec HA.out.l HL1.out (fun e => by rw [e] at ht1; simp at ht1)
      obtain ⟨g2, rfl, hat1⟩ := row_int HA.out.a HN.out.2 (fun e => by rw [e] at ht3; simp at ht3)
      obtain ⟨g3, rfl, hrow2⟩ := row_rec HB.out.l HL2.out (fun e => by rw [e] at ht2; simp at ht2)
      obtain ⟨g4, rfl, hat2⟩ := row_int HB.out.a HN.out.2 (fun e => by rw [e] at ht3; simp at ht3)
      have FD := hid (FZ.out.trans ((Fr.refl (fun _ => False) wr).drew) (fun _ h _ => h))
      have FA := hid (F12.out.trans FD.out (fun _ h _ => h))
      have FB := hid (F2.out.trans FD.out (fun _ h _ => h))
      have HR1 := hid (fun i u hu => cell_fr (hrow1 t ht1 i u hu) FA.out (fun h => h) : wr.drew.rangeAt g1 (t * 8) (Q.cells qs[t]))
      have HR2 := hid (fun i u hu => cell_fr (hrow2 t ht2 i u hu) FB.out (fun h => h) : wr.drew.rangeAt g3 (t * 8) (Q.cells qs2[t]))
      have HC1 := hid (cell_fr (hat1 t sc.2[t] (List.getElem?_eq_getElem ht3)) FA.out (fun h => h))
      have HC2 := hid (cell_fr (hat2 t sc.2[t] (List.getElem?_eq_getElem ht3)) FB.out (fun h => h))
      have HX := hid ((HBX.out.fr FZ.out (fun h => h)).drew)
      have HV1 := hid ((HA.out.q qs[t] (List.getElem_mem ht1)).fre FA.out)
      have HV2 := hid ((HB.out.q qs2[t] (List.getElem_mem ht2)).fre FB.out)
      have heq : qs[t].r = qs2[t].r := by
        have e1 : (qs.map Q.r)[t]? = (qs2.map Q.r)[t]? := by rw [HQ.out, HQ2.out]
        simpa [ht1, ht2] using e1
      have HSM := hid (r4Same_go HV1.out HV2.out)
      rw [decide_eq_true heq] at HSM
      clear hrow1 hrow2 hat1 hat2 heq HV1 HV2
      generalize qs[t] = q1 at *
      generalize qs2[t] = q2 at *
      generalize sc.2[t] = at_ at *
      have i4 : (0 : Int) ≤ (t : Int) := by omega
      have i5 : (t : Int) < (n : Int) := by omega
      go_upto_region 8 with fail
      refine wp_region_scr (.take 0 (.take 1 (.take 2 (.take 3 (.take 4 (.take 5 (.take 6 (.take 7 (.take 8 (.op 9 (.take 10 (.take 11 (.take 12 (.take 13 (.take 14 (.take 15 (.take 16 (.take 17 (.take 18 (.take 19 (.take 20 (.take 21 (.take 22 .done))))))))))))))))))))))) (fun kz w => (kz ≤ 23 → w.rangeAt g1 (t * 8) (Q.cells q1)) ∧ (w.rangeAt g3 (t * 8) (Q.cells q2) ∧ w.cell? ⟨d2, 0, none⟩ = some (.slice (some ⟨g3, 0, none⟩) n e1) ∧ w.cell? ⟨d2, 1, none⟩ = some (.slice (some ⟨g4, 0, none⟩) n e2) ∧ w.cell? ⟨g2, t, none⟩ = some (.int .i64 at_) ∧ w.cell? ⟨g4, t, none⟩ = some (.int .i64 at_))) (by kernel_rfl) (by kernel_rfl) (by intro c a d v w h; cases d <;> exact h) ?_
      repeat
        first
        | (refine wpT_pure rfl rfl rfl ?_; apply Exists.intro; refine ⟨?_, ?_⟩; intro w; (first | (first | exact run_load_mid _ _ rfl g1 _ rfl _ _ qa Try.underlying27 rfl size_Rec | exact run_load_mid _ _ rfl g3 _ rfl _ _ qb.1 Try.underlying27 rfl size_Rec | (obtain ⟨qb1, qb2, qb3, qb4, qb5⟩ := qb; go_simp <;> rfl) | (go_simp; rw [if_pos ⟨i4, i5⟩]; done)) | (go_simp <;> rfl)); simp only [Act.put, List.setIfInBounds_toArray, List.set_cons_zero, List.set_cons_succ])
        | (refine wpT_take 23 rfl rfl (by decide +kernel) ⟨fun _ => HR1.out, HR2.out, HX.out.cell 0, HX.out.cell 1, HC1.out, HC2.out⟩ ?_; apply Exists.intro; refine ⟨?_, ?_⟩; intro w hw; (have qa := hw.1 (Nat.le_refl _); have qb := hw.2); (first | (first | exact run_load_mid _ _ rfl g1 _ rfl _ _ qa Try.underlying27 rfl size_Rec | exact run_load_mid _ _ rfl g3 _ rfl _ _ qb.1 Try.underlying27 rfl size_Rec | (obtain ⟨qb1, qb2, qb3, qb4, qb5⟩ := qb; go_simp <;> rfl) | (go_simp; rw [if_pos ⟨i4, i5⟩]; done)) | (go_simp <;> rfl)); simp only [Act.put, List.setIfInBounds_toArray, List.set_cons_zero, List.set_cons_succ])
        | (refine wpT_skip rfl rfl ?_; simp only [Act.put, List.setIfInBounds_toArray, List.set_cons_zero, List.set_cons_succ])
      refine wpT_op rfl ?_
      go_wp2_with ((go_at_call 28; refine HSM.out.mono ?_; rintro e w8 ⟨rfl, f⟩; have F8 := hid f; have HR3 := hid (fun i u hu => cell_fr (HR1.out i u hu) f (fun h => h) : w8.rangeAt g1 (t * 8) (Q.cells q1)); have HR4 := hid (fun i u hu => cell_fr (HR2.out i u hu) f (fun h => h) : w8.rangeAt g3 (t * 8) (Q.cells q2)); have HX8 := hid (HX.out.fr f (fun h => h)); have HC3 := hid (cell_fr HC1.out f (fun h => h)); have HC4 := hid (cell_fr HC2.out f (fun h => h)); clear f))
      (refine ⟨?_, ?_⟩; focus (intro kz hk hk2 hh; first | (exfalso; simp at hk2; omega) | exact hh | exact (fun h => absurd h (by omega)) | obtain ⟨qa, qb⟩ := hh; first | exact ⟨qa, qb⟩ | (refine ⟨fun h => absurd h (by omega), ?_⟩; first | exact qb | (first | exact HR3.out | exact ⟨HR4.out, HX8.out.cell 0, HX8.out.cell 1, HC3.out, HC4.out⟩)) | (refine ⟨fun h => ?_, ?_⟩; (have qa := qa h); all_goals (first | exact qa | exact qb | (first | exact HR3.out | exact ⟨HR4.out, HX8.out.cell 0, HX8.out.cell 1, HC3.out, HC4.out⟩)))))
      have hbb : (at_ != at_) = false := bne_self_eq_false _
      repeat
        first
        | (refine wpT_pure rfl rfl rfl ?_; apply Exists.intro; refine ⟨?_, ?_⟩; intro w; (first | (first | (obtain ⟨qb1, qb2, qb3, qb4, qb5⟩ := qb; go_simp <;> rfl) | (go_simp; rw [if_pos ⟨i4, i5⟩]; done)) | (go_simp <;> rfl)); simp only [Act.put, List.setIfInBounds_toArray, List.set_cons_zero, List.set_cons_succ])
        | (refine wpT_take 23 rfl rfl (by decide +kernel) ⟨fun _ => HR3.out, HR4.out, HX8.out.cell 0, HX8.out.cell 1, HC3.out, HC4.out⟩ ?_; apply Exists.intro; refine ⟨?_, ?_⟩; intro w hw; (have qa := hw.1 (Nat.le_refl _); have qb := hw.2); (first | (first | (obtain ⟨qb1, qb2, qb3, qb4, qb5⟩ := qb; go_simp <;> rfl) | (go_simp; rw [if_pos ⟨i4, i5⟩]; done)) | (go_simp <;> rfl)); simp only [Act.put, List.setIfInBounds_toArray, List.set_cons_zero, List.set_cons_succ])
        | (refine wpT_skip rfl rfl ?_; simp only [Act.put, List.setIfInBounds_toArray, List.set_cons_zero, List.set_cons_succ])
      refine wpT_nil ?_
      go_wp2_with (fail)
      go_roundw
      case rel => exact ⟨t + 1, by omega, by simp, FD.out.trans F8.out (fun _ h _ => h)⟩
      case measure => simp [intOf]; omega
    · obtain rfl : t = n := by omega
      go_wp2_with (fail)
      go_ret
      exact ⟨rfl, F0.out.trans FZ.out (fun _ h _ => h)⟩
theorem xor_any (b : UInt8) (z : Nat) (hz : z < 256) : ∃ x : UInt8, bits .xor .u8 (b.toNat : Int) (z : Int) = (x.toNat : Int) := by
  refine ⟨b ^^^ UInt8.ofNat z, ?_⟩
  rw [u8_xor_nat _ _ b.toNat_lt hz]
  congr 1
  rw [UInt8.toNat_xor, UInt8.toNat_ofNat_of_lt' hz]
theorem list3 {α : Type} {L : List α} (h : L.length = 3) : ∃ a b c, L = [a, b, c] := by
  match L, h with
  | [a, b, c], _ => exact ⟨a, b, c, rfl⟩
set_option maxRecDepth 20000 in
set_option maxHeartbeats 20000000 in
theorem Scans_walk {P : Nat → Prop} {w : World} {va : Value} {L : List Arg} (h : Sl P w va L.length (L.flatMap acells)) (hi : ∀ p ∈ L, Sl P w p.1 p.2.length (p.2.flatMap icell) ∧ p.2.length ≤ 9223372036854775807) (n0 n1 n2 : Int) (s : List UInt8) :
    Calls Try.prog 6 #[va, .agg #[.int .i64 n0, .int .i64 n1, .int .i64 n2], .string (bs s)] w fun e w' => e = .returned (.bool true) ∧ Fr (fun _ => False) w w' := by
  obtain ⟨x0, hx0, hy0⟩ := and_24 n0
  obtain ⟨x2, hx2, hy2⟩ := and_24 n2
  have HSA := hid (fun w => sanity_go w)
  have HLG := hid (fun w' (f : Fr (fun _ => False) w w') => log_go (h.fr f (fun _ _ h => h)) (fun p hp => ⟨(hi p hp).1.fr f (fun _ _ h => h), (hi p hp).2⟩))
  obtain ⟨a, c, rfl, -⟩ := h
  clear hi
  have e1 := bs_size s
  obtain ⟨qs0, hms, es, hqs⟩ := cut_str s 200
  obtain ⟨hms1, hms2⟩ := hms 200 rfl
  have hqs0 : (0 : Int) ≤ (qs0 : Int) := by omega
  have hsl := hid (show (s.take 200).length ≤ 200 by rw [List.length_take]; omega)
  generalize s.take 200 = sc at *
  clear hms
  have X0 := hid (Blk.new w [.int .i64 n0, .int .i64 n1, .int .i64 n2] 34)
  have F0 := hid ((Fr.refl (fun _ => False) w).alloc (.cells #[.int .i64 n0, .int .i64 n1, .int .i64 n2] 34))
  go_enter Try.func6, Try.ntmps6
  go_upto_region 3 with (first
    | (go_at_call 12; refine (HSA.out _).mono ?_; rintro e w1 ⟨rfl, f⟩; have X1 := hid (Blk.fr X0.out f (fun h => h)); have F1 := hid (F0.out.trans f (fun _ h _ => h)); clear f)
    | (go_at_call 25; refine (HLG.out _ F1.out).mono ?_; rintro e w2 ⟨vl, qs, rfl, hq12, hL⟩; have HL := hid hL; have X2 := hid (Blk.fr X1.out hL.fr (fun h => h)); have F2 := hid (F1.out.trans hL.fr (fun _ h _ => h)); clear hL))
  have hfle := frames_le (l := qs.map Q.r) (fun x hx => by obtain ⟨q, hq, rfl⟩ := List.mem_map.1 hx; exact HL.out.g q hq) (by rw [List.length_map]; exact Nat.le_trans hq12 (by decide))
  have hlr : (frames (qs.map Q.r)).length ≤ 3000000 := by omega
  clear hfle hq12
  clear HSA HLG X0 X1 F0 F1
  generalize frames (qs.map Q.r) = l at *
  generalize hbx : w.heap.size = bx at *
  clear hbx HL
  go_upto_region 4 with (first
    | (refine wpList_str_bytes rfl rfl Try.underlying9 Try.underlying35 Try.underlying5 rfl ?_; intro cb w9 sb; have SB := hid sb; clear sb))
  have HX := hid (Blk.fr X2.out SB.out.fr (fun h => h))
  have HNE0 := hid (show bx < w2.heap.size from X2.out.lt)
  have FW := hid F2.out
  have HNE := hid (show bx ≠ w2.heap.size from by have := HNE0.out; omega)
  clear X2 F2 HNE0
  generalize hbb : w2.heap.size = bb at *
  go_upto_if 22 with fail
  go_cut [] (fun wx => ∃ sx : List UInt8, sx.length = l.length ∧ SBlk wx bb (bv sx ++ List.replicate (cb - l.length) (.int .u8 0)) 5 ∧ Blk wx bx [.int .i64 n0, .int .i64 n1, .int .i64 n2] 34 ∧ Fr (fun _ => False) w wx)
  case first =>
    by_cases hl0 : l.length = 0
    · have hz : ¬ (0 : Int) < (l.length : Int) := by omega
      clear hl0
      go_wp2_with (fail)
      go_meet
      exact ⟨l, rfl, SB.out.blk, HX.out, FW.out.trans SB.out.fr (fun _ h _ => h)⟩
    · have hlp : (0 : Int) < (l.length : Int) := by omega
      have hnz2 : ¬ (l.length : Int) = 0 := by omega
      obtain ⟨y, hm, hm2, hm3⟩ := modl x0 l.length (by omega)
      obtain ⟨z, hz8, hz9⟩ : ∃ z : Nat, IntKind.u8.wrap n1 = (z : Int) ∧ z < 256 := ⟨(n1 % 256).toNat, by rw [IntKind.wrap_u8]; omega, by omega⟩
      go_upto_region 5 with fail
      have HB0 := hid (SB.out.at 5 hm3)
      obtain ⟨b0, hb0⟩ : ∃ b0 : UInt8, b0 = l[y] := ⟨_, rfl⟩
      rw [← hb0] at HB0
      obtain ⟨x', hx'⟩ := xor_any b0 z hz9
      have HXOR := hid hx'
      have HB1 : Hid (w9.drew.cell? ⟨bb, y, none⟩ = some (.int .u8 (b0.toNat : Int))) := hid HB0.out
      have HF1 : Hid (w9.drew.frozen? ⟨bb, y, none⟩ = false) := hid (SB.out.free hm3)
      have HXD := hid HX.out.drew
      have hya : (0 : Int) ≤ (y : Int) := by omega
      have hyb : (y : Int) < (l.length : Int) := by omega
      have HZ8 := hid hz8
      clear hb0 HB0 hx'
      refine wp_region_scr (.take 0 (.take 1 (.take 2 (.take 3 (.take 4 (.take 5 (.take 6 (.take 7 (.take 8 (.take 9 (.take 10 (.take 11 (.take 12 (.take 13 (.take 14 (.take 15 (.take 16 (.take 17 (.take 18 (.take 19 (.take 20 (.op 21 .done)))))))))))))))))))))) (fun kz w => (kz ≤ 21 → w.cell? ⟨bx, 0, none⟩ = some (.int .i64 n0) ∧ w.cell? ⟨bx, 1, none⟩ = some (.int .i64 n1) ∧ w.cell? ⟨bb, y, none⟩ = some (.int .u8 (b0.toNat : Int))) ∧ True) (by kernel_rfl) (by kernel_rfl) (by intro c a d v w h; cases d <;> exact h) ?_
      repeat
        first
        | (refine wpT_pure rfl rfl rfl ?_; apply Exists.intro; refine ⟨?_, ?_⟩; intro w; (first | (first | (go_simp; rw [if_neg hl0]) | (go_simp; rw [if_pos ⟨hya, hyb⟩]) | (refine Eq.trans (b := Result.ok (Next.value (.int .u8 (x'.toNat : Int))) w) ?_ rfl; go_simp; first | exact HXOR.out | rw [HXOR.out]) | (obtain ⟨qa1, qa2, qa3⟩ := qa; go_simp <;> rfl)) | (go_simp <;> rfl)); simp only [Act.put, List.setIfInBounds_toArray, List.set_cons_zero, List.set_cons_succ])
        | (refine wpT_take 21 rfl rfl (by decide +kernel) ⟨fun _ => ⟨HXD.out.cell 0, HXD.out.cell 1, HB1.out⟩, trivial⟩ ?_; apply Exists.intro; refine ⟨?_, ?_⟩; intro w hw; (have qa := hw.1 (Nat.le_refl _); have qb := hw.2); (first | (first | (go_simp; rw [if_neg hl0]) | (go_simp; rw [if_pos ⟨hya, hyb⟩]) | (refine Eq.trans (b := Result.ok (Next.value (.int .u8 (x'.toNat : Int))) w) ?_ rfl; go_simp; first | exact HXOR.out | rw [HXOR.out]) | (obtain ⟨qa1, qa2, qa3⟩ := qa; go_simp <;> rfl)) | (go_simp <;> rfl)); simp only [Act.put, List.setIfInBounds_toArray, List.set_cons_zero, List.set_cons_succ])
        | (refine wpT_skip rfl rfl ?_; simp only [Act.put, List.setIfInBounds_toArray, List.set_cons_zero, List.set_cons_succ])
      have cb2 := HB1.out
      have zb2 := HF1.out
      refine wpT_op rfl ?_
      go_wp2_with (fail)
      refine ⟨fun kz hk hk2 hh => (by first | exact ⟨fun h => absurd h (by omega), trivial⟩ | exact fun h => absurd h (by omega)), ?_⟩
      refine wpT_nil ?_
      clear cb2 zb2
      have HSB := hid (SB.out.set hm3 x').drew
      have HXS := hid ((HX.out.fr ((Fr.refl (fun k => k = bb) w9).setCell ⟨bb, y, none⟩ (.int .u8 (x'.toNat : Int)) (fun _ => rfl)) (fun h => HNE.out h)).drew)
      have HFS := hid (FW.out.trans (SB.out.fr.setCell ⟨bb, y, none⟩ (.int .u8 (x'.toNat : Int)) (fun h => by have := SB.out.at_; dsimp only at h; omega)).drew (fun _ h _ => h))
      go_wp2_with (fail)
      go_meet
      exact ⟨l.set y x', List.length_set, HSB.out, HXS.out, HFS.out⟩
  case rest =>
    obtain ⟨sx, hsx, hsb, hbxx, hfr⟩ := hcut
    have HXS := hid hbxx
    have HFS := hid hfr
    have hcv := run_bytes_string (P := Try.prog) (w := wc) (l := sx) (hsb.head _ _ rfl) (src := 35) (dst := 9) Try.underlying35 Try.underlying5 Try.underlying9 l.length cb hsx.symm
    have HSX := hid hsx
    clear hsx hsb hbxx hfr SB HX FW HNE
    have hadd := fun w => run_add_bs (P := Try.prog) w sx sc (by have := HSX.out; have := hsl.out; omega)
    have hadd2 := fun w => run_add_bs (P := Try.prog) w l sc (by have := hsl.out; omega)
    have HV := hid (show (sx ++ sc).length ≤ 3000200 from by rw [List.length_append]; have := HSX.out; have := hsl.out; omega)
    generalize hv : sx ++ sc = v at *
    have hvl : v.length ≤ 3000200 := HV.out
    have e2 := bs_size v
    obtain ⟨k, hk, hk2, hk3⟩ : ∃ k : Nat, (x2 : Int).tmod ((v.length : Int) + 1) = (k : Int) ∧ (x2 : Int) % ((v.length : Int) + 1) = (k : Int) ∧ k < v.length + 1 := by
      obtain ⟨k, h1, h2, h3⟩ := modl x2 (v.length + 1) (by omega)
      have e : ((v.length + 1 : Nat) : Int) = (v.length : Int) + 1 := by omega
      rw [e] at h1 h2
      exact ⟨k, h1, h2, h3⟩
    have hex : (bs v).extract 0 k = bs (v.take k) := by apply ByteArray.ext; simp [bs]
    have HL1 := hid (show sc.length ≤ 1099511627776 by have := hsl.out; omega)
    have HL2 := hid (show v.length ≤ 1099511627776 by omega)
    have HL3 := hid (show (v.take k).length ≤ 1099511627776 by rw [List.length_take]; omega)
    have HL4 := hid (show (l ++ sc).length ≤ 1099511627776 by rw [List.length_append]; have := hsl.out; omega)
    have hki : (k : Int) ≤ (v.length : Int) := by omega
    have hki0 : (0 : Int) ≤ (k : Int) := by omega
    have hlp2 : (0 : Int) < (v.length : Int) + 1 := by omega
    have hln2 : ¬ (v.length : Int) + 1 = 0 := by omega
    clear hk3 hv
    go_wp2_with (fail)
    refine (scans_go _ HL2.out _).mono ?_
    rintro e w11 ⟨rfl, f⟩
    have G1 := hid (HFS.out.trans f (fun _ h _ => h))
    have Y1 := hid (Blk.fr HXS.out f (fun h => h))
    clear f HFS HXS
    have hc2 : w11.cell? ⟨bx, 2, none⟩ = some (.int .i64 n2) := Y1.out.cell 2
    go_wp2_with (fail)
    refine (scans_go _ HL3.out _).mono ?_
    rintro e w12 ⟨rfl, f⟩
    have G2 := hid (G1.out.trans f (fun _ h _ => h))
    clear f G1 Y1 hc2
    go_wp2_with (fail)
    refine (scans_go _ HL4.out _).mono ?_
    rintro e w13 ⟨rfl, f⟩
    have G3 := hid (G2.out.trans f (fun _ h _ => h))
    clear f G2
    go_wp2_with (fail)
    refine (scans_go _ HL1.out _).mono ?_
    rintro e w14 ⟨rfl, f⟩
    have G4 := hid (G3.out.trans f (fun _ h _ => h))
    clear f G3
    go_wp2_with (fail)
    go_ret
    exact ⟨rfl, G4.out⟩
end Go.Proofs.Ytfhkmiifndhacaa
namespace Go.Proofs.Ytfhkmiifndhacaa.recordScans
open Go.ChangeShapes Go.WideShapes Go.ChangeAt Go.ChangeMaps Go.RowKit Go.VB Go.VB.Rec
set_option maxHeartbeats 400000 in
set_option maxRecDepth 100000 in
theorem lifted (os : Os) (started : os.Started) (H : Type) (enc : TypeId × Value → H) :
    ReturnsInHanded {} Try.checked os 6 .any (Rows.recordScansSpec.pre6 enc Try.prog Try.f6 Rows.recordScansRow.domain false) (Rows.recordScansSpec.post enc Try.prog Try.f6 false true false false) := by
  refine returnsInHanded_of_change (C := Try.checked) own started (by kernel_rfl) Try.func6
    (ChangeSpec.witness6 (enc := enc) (C := Try.checked) false ⟨#[], #[.slice none 0 0, .agg #[.int .i64 0, .int .i64 0, .int .i64 0], .string ⟨#[]⟩], []⟩ 8 (by kernel_rfl) (by kernel_rfl) (by kernel_rfl) (by kernel_rfl)) ?_
  intro W base args ds gs before hval0 hW hcnd _
  have hval : ∀ (j : Nat) t v, Try.f6.params[j]? = some t → args[j]? = some v → Value.okWide Try.prog W .any base t v := hval0
  have hW' := hW
  obtain ⟨p, q, hA0, hV, rfl, hfz, hnd⟩ := hW
  have hA : DataW.TrodAll enc Try.prog W 0 (fun _ => true) true Try.f6.params.toList args.toList ds p := hA0
  rw [Try.params6] at hA hval
  obtain ⟨v0, vs0, d0, ds0, p0, q0, hargs, rfl, rfl, h0, r0⟩ := trodAll_cons hA
  obtain ⟨v1, vs1, d1, ds1, p1, q1, rfl, rfl, rfl, h1, r1⟩ := trodAll_cons r0
  obtain ⟨v2, vs2, d2, ds2, p2, q2, rfl, rfl, rfl, h2, r2⟩ := trodAll_cons r1
  obtain ⟨rfl, rfl, rfl⟩ := trodAll_nil r2
  obtain rfl : args = #[v0, v1, v2] := by cases args; simp_all
  obtain ⟨rfl, rfl⟩ := trodVars_none hV
  clear hA0 hval0
  refine Calls.mono (R := fun e w' => e = .returned (.bool true) ∧ Fr (fun _ => False) W w') ?_ fun e W' ⟨he, hf⟩ => ⟨_, he, post_law sound (by decide +kernel) rfl rfl (ht := Try.underlying4) (by rfl) hW' hf⟩
  obtain ⟨L, sL, gL, -⟩ := open_ints2 (hval 0 44 v0 rfl rfl) h0
  obtain ⟨A, rfl, hal, -⟩ := open_ar Try.underlying34 (k := 1) (by kernel_rfl) (by kernel_rfl) (hval 1 34 v1 rfl rfl) h1 (fun x => [Value.int .i64 x]) (fun x => (Lit.int .i64 x).wf = true) (fun fuel cs r h => elem_int Try.underlying3 fuel cs r h)
  obtain ⟨n0, n1, n2, rfl⟩ := list3 hal
  obtain ⟨s, rfl, -, -, -⟩ := open_string Try.underlying9 (hval 2 9 v2 rfl rfl) h2
  rw [← bs_toList s]
  exact Scans_walk sL gL n0 n1 n2 s.data.toList
theorem proved : Rows.RecordScansSaid :=
  OpenClaim.holds_of_wide 6 Try.f6 rfl rfl rfl rfl rfl rfl rfl ⟨rfl, rfl, rfl, rfl, rfl⟩ rfl rfl rfl rfl rfl (by kernel_rfl) Try.func6 (by kernel_rfl)
    (of_decide_eq_true (by kernel_rfl)) (by unfold Func.isWrapper; first | (rw [if_pos (by decide +kernel)]; kernel_rfl) | (rw [if_neg (by decide +kernel)]; exact ⟨rfl, rfl⟩))
    (fun os started H enc _ => lifted os started H enc)
end Go.Proofs.Ytfhkmiifndhacaa.recordScans
