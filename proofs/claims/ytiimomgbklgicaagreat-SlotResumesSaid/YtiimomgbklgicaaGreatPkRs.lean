/- Proved: for every list of numbers of a log, every stop and every confirmation the law SlotResumes of chapter 16 returns true, and its arguments read afterwards as before. Conditions: none beyond the given statement. -/
import Derived.Deep.CutBlock
import Derived.Test.YtiimomgbklgicaaGreatPkRsZA
set_option linter.unusedVariables false
namespace Go.Proofs.YtiimomgbklgicaaGreat
open Go.RowKit Go.VB Go.VB.Oct Go.VB.Cat Go.VB.Rec Go.VB.Slt
set_option maxRecDepth 20000 in
set_option maxHeartbeats 8000000 in
theorem SlotResumes_walk (L : List Int) (vL : Value) (stop taken : Int) (w : World) (hL : Sl (fun k => k < w.heap.size) w vL L.length (L.flatMap icell)) (hI : ∀ x ∈ L, -9223372036854775808 ≤ x ∧ x ≤ 9223372036854775807) (hl : L.length ≤ 9223372036854775807) :
    Calls Tryz.prog 5 #[vL, .int .i64 stop, .int .i64 taken] w fun e w' => e = .returned (.bool true) ∧ Fr (fun _ => False) w w' := by
  have HL := hid hL
  have HI := hid hI
  have HLL := hid hl
  obtain ⟨aL, cL, rfl, -, -⟩ := hL
  clear hI hl
  have HS := hid (sanity_go w)
  have eb : bs [115] = ⟨#[115]⟩ := rfl
  go_enter Tryz.func5, Tryz.ntmps5
  go_upto_region 2 with (go_at_call 8; refine HS.out.mono ?_; rintro e w1 ⟨rfl, f⟩; have F1 := hid f; clear f)
  have HLG := hid (Log_go (HL.out.fr F1.out (fun _ _ h => h)) HI.out HLL.out)
  go_upto_region 3 with (go_at_call 9; refine HLG.out.mono ?_; rintro e w2 ⟨u, rs, rfl, hn, hr, hc, f⟩; obtain ⟨al, cl, rfl, hcl⟩ := hr.slice; have HLN := hid hn; have HR := hid hr; have HC := hid hc; have F2 := hid (F1.out.trans f (fun _ h _ => h)); clear hn hr hc f hcl)
  clear HLG HS HI HLL HL F1
  have HN := hid (SH.new_ [115] 0 w2)
  rw [eb] at HN
  go_upto_region 4 with (go_at_call 11; refine HN.out.mono ?_; rintro e w3 ⟨s, rfl, h0, f⟩; obtain ⟨X0, h, hx⟩ : ∃ X0 : Nat → Prop, SH X0 w3 s (newM [115] 0 []) 1 ∧ ∀ k, X0 k → w2.heap.size ≤ k := ⟨_, h0, fun k hk => hk.1⟩; clear h0; have H0 := hid h; have HX0 := hid hx; have F3 := hid f; clear h hx f)
  clear HN eb
  obtain ⟨n, hn⟩ : ∃ n, rs.length = n := ⟨_, rfl⟩
  rw [hn] at HLN HR ⊢
  have HNE := hid hn
  clear hn
  obtain ⟨l, hll⟩ : ∃ l, rs.map RecV.r = l := ⟨_, rfl⟩
  have HLE := hid hll
  have HLEN := hid (show l.length = n from by rw [← hll, List.length_map]; exact HNE.out)
  clear hll
  have w1 : IntKind.i64.wrap ((n : Int) + 1) = (n : Int) + 1 := IntWalk.i64_in _ (by have := HLN.out; omega)
  obtain ⟨k, hk, hk2⟩ : ∃ k : Nat, stop % ((n : Int) + 1) = (k : Int) ∧ k ≤ n := ⟨(stop % ((n : Int) + 1)).toNat, by have := Int.emod_nonneg stop (show ((n : Int) + 1) ≠ 0 by omega); omega, by have := Int.emod_lt_of_pos stop (show (0 : Int) < (n : Int) + 1 by omega); omega⟩
  have HK := hid hk2
  have HRK := hid (fun W => rest_any W stop ((n : Int) + 1) (by omega) (by have := HLN.out; omega))
  rw [hk] at HRK
  clear hk hk2
  go_upto_region 5 with (go_at_call 16; refine (HRK.out _).mono ?_; rintro e w4 ⟨rfl, rfl⟩)
  clear HRK w1
  obtain ⟨M0, hM0⟩ : ∃ M0, newM [115] 0 [] = M0 := ⟨_, rfl⟩
  rw [hM0] at H0
  have HM0 := hid hM0
  clear hM0
  -- an element of the log
  have HAT := hid (fun (i : Nat) (hi : i < n) => show ∃ (g o : Nat) (r : RecV), al = some ⟨g, o, none⟩ ∧ w2.rangeAt g (o + i * 8) r.cells ∧ RecO w1.heap.size w2 r ∧ ∃ h : i < l.length, l[i] = r.r from by
    have hir : i < rs.length := by rw [HNE.out]; exact hi
    obtain ⟨g, o, e, ry⟩ := sl_at (k := 8) (by decide) (fun _ => rfl) (show Sl (fun _ => True) w2 (.slice al n cl) rs.length (rs.flatMap RecV.cells) from by rw [HNE.out]; exact HR.out.sl' (fun _ _ => trivial)) hir
    refine ⟨g, o, rs[i], e, ry, HC.out _ (List.getElem_mem hir), by rw [HLEN.out]; exact hi, ?_⟩
    have e2 := HLE.out
    subst e2
    exact List.getElem_map ..)
  clear HC HR HLE HNE
  go_upto_block 0 with fail
  go_cut [11] (fun s11 wx => ∃ X : Nat → Prop, SH X wx s (feedsM M0 0 (l.take k)) (k + 1) ∧ (∀ k, X k → w2.heap.size ≤ k) ∧ Fr (fun _ => False) w2 wx)
  case first =>
    go_wp2_with (fail)
    go_loopw [11] (fun s11 wr => ∃ (i : Nat) (X : Nat → Prop), i ≤ k ∧ s11 = .int .i64 i ∧ SH X wr s (feedsM M0 0 (l.take i)) (i + 1) ∧ (∀ k, X k → w2.heap.size ≤ k) ∧ Fr (fun _ => False) w2 wr) (fun s11 _ => k - (intOf s11).toNat)
    case atStart => exact ⟨0, X0, by omega, rfl, H0.out, HX0.out, F3.out⟩
    case round =>
      obtain ⟨i, X, hi, rfl, hs, hx, hf⟩ := hrel
      have HSI := hid hs
      have HXI := hid hx
      have FI := hid hf
      clear hs hx hf H0 HX0 F3
      rename World => WK
      by_cases hin : i < k
      · obtain ⟨g, o, r, rfl, ry, hr, hil, hrl⟩ := HAT.out i (by have := HK.out; omega)
        have HRY := hid (range_fr ry FI.out (fun h => h))
        have HCI := hid hr
        have HFT := hid (feeds_take M0 0 (l := l) (i := i) hil)
        rw [hrl, Int.zero_add] at HFT
        have HF := hid (SH.feedL HSI.out (by have := HLN.out; have := HK.out; omega) FI.out HXI.out HCI.out ((i : Int) + 1))
        have i1 : (0 : Int) ≤ (i : Int) := by omega
        have i2 : (i : Int) < (k : Int) := by omega
        have i3 : (i : Int) < (n : Int) := by have := HK.out; omega
        have w1 : IntKind.i64.wrap ((i : Int) + 1) = (i : Int) + 1 := IntWalk.i64_in _ (by have := HLN.out; have := HK.out; omega)
        clear hr ry hrl
        go_wp2_with (first
          | (refine wpList_load_mid rfl 35 (.tmp 39) rfl g (o + i * 8) rfl _ _ HRY.out Tryz.underlying35 rfl size_rec ?_)
          | (go_at_call 15; refine HF.out.mono ?_; rintro e w4 ⟨rfl, X2, h2, hx2, f2⟩; have H2 := hid h2; have HX2 := hid hx2; have F4 := hid f2; clear h2 hx2 f2))
        go_roundw
        case rel => exact ⟨i + 1, X2, by omega, by go_num, by rw [HFT.out]; exact H2.out, HX2.out, F4.out⟩
        case measure => simp [intOf]; omega
      · obtain rfl : i = k := by omega
        have i2 : ¬ ((i : Int) < (i : Int)) := by omega
        go_wp2_with (fail)
        go_meet
        exact ⟨X, HSI.out, HXI.out, FI.out⟩
  case rest =>
    obtain ⟨X, hs, hx, hf⟩ := hcut
    generalize wc = W4 at *
    have HS4 := hid hs
    have HX4 := hid hx
    have F4 := hid hf
    clear hs hx hf H0 HX0 F3
    have w1 : IntKind.i64.wrap ((k : Int) + 1) = (k : Int) + 1 := IntWalk.i64_in _ (by have := HLN.out; have := HK.out; omega)
    obtain ⟨a, ha, ha2⟩ : ∃ a : Nat, taken % ((k : Int) + 1) = (a : Int) ∧ a ≤ k := ⟨(taken % ((k : Int) + 1)).toNat, by have := Int.emod_nonneg taken (show ((k : Int) + 1) ≠ 0 by omega); omega, by have := Int.emod_lt_of_pos taken (show (0 : Int) < (k : Int) + 1 by omega); omega⟩
    have HA := hid ha2
    have HRK := hid (fun W => rest_any W taken ((k : Int) + 1) (by omega) (by have := HLN.out; have := HK.out; omega))
    rw [ha] at HRK
    clear ha ha2
    go_upto_region 10 with (go_at_call 16; refine (HRK.out _).mono ?_; rintro e w5 ⟨rfl, rfl⟩)
    clear HRK w1
    have HACK := hid (SH.ack HS4.out (by have := HLN.out; have := HK.out; omega) (a : Int))
    have hr := resumes [115] l k (by rw [HLEN.out]; exact HK.out) (a : Int) (by omega) (by have := HA.out; omega)
    dsimp only at hr
    rw [HM0.out] at hr
    have hge := Ge.ack (Ge.feeds (l.take k) (show Ge 1 M0 from by rw [← HM0.out]; exact Ge.new [115] [])) (a : Int)
    rw [show M0.last = 0 from by rw [← HM0.out]; rfl] at hge
    have hRg := (Rg.feeds (l.take k) (show Rg M0 from by rw [← HM0.out]; exact Rg.new [115] 0 [])).2.1
    rw [show M0.last = 0 from by rw [← HM0.out]; rfl, List.length_take, HLEN.out, Nat.min_eq_left HK.out] at hRg
    have hnm : (feedsM M0 0 (l.take k)).name = [115] := by rw [feeds_name, ← HM0.out]; rfl
    have hla := ack_last (feedsM M0 0 (l.take k)) (a : Int)
    have hna := ack_name (feedsM M0 0 (l.take k)) (a : Int)
    rw [hRg] at hla
    rw [hnm] at hna
    obtain ⟨p, hp⟩ : ∃ p, ackM (feedsM M0 0 (l.take k)) (a : Int) = p := ⟨_, rfl⟩
    rw [hp] at hr HACK hla hna hge
    obtain ⟨S, code⟩ := p
    dsimp only at hr HACK hla hna hge
    have HGE := hid hge
    clear hge
    obtain ⟨rfl, hac, hn1, hn2, hfin⟩ := hr
    have HLA := hid (show S.last = (k : Int) from by omega)
    have HNA := hid hna
    have HAC := hid hac
    obtain ⟨q, hq⟩ : ∃ q : Nat, needM S - 1 = (q : Int) := ⟨(needM S - 1).toNat, by omega⟩
    rw [hq, Int.toNat_natCast] at hfin
    have HFIN := hid hfin
    have HQ := hid (show needM S = (q : Int) + 1 ∧ q ≤ k from ⟨by omega, by omega⟩)
    clear hp hla hna hac hn1 hn2 hfin hRg hnm hq
    go_upto_region 11 with (go_at_call 23; refine HACK.out.mono ?_; rintro e w6 ⟨rfl, h, f⟩; have HS6 := hid h; have F6 := hid (F4.out.trans f (fun k hk hl => by have := HX4.out k hk; omega)); clear h f)
    clear HACK HS4 F4
    have HNEED := hid (SH.need HS6.out (by have := HLN.out; have := HK.out; omega) ⟨by have := HLA.out; omega, by have := HLA.out; have := HLN.out; have := HK.out; omega⟩)
    obtain ⟨z, hz⟩ : ∃ z, needM S = z := ⟨_, rfl⟩
    rw [hz] at HNEED HQ
    have HZ := hid hz
    clear hz
    go_upto_region 12 with (go_at_call 25; refine HNEED.out.mono ?_; rintro e w7 ⟨rfl, f⟩; have HS7 := hid (HS6.out.fre f); have F7 := hid (F6.out.trans f (fun _ h _ => h)); clear f)
    clear HNEED HS6 F6
    have HBY := hid (SH.bytes HS7.out (by have := HLN.out; have := HK.out; omega) ⟨by have := HLA.out; omega, by have := HLA.out; have := HLN.out; have := HK.out; omega⟩ (by rw [HNA.out]; decide) ⟨by have := HAC.out; omega, by have := HAC.out; have := HA.out; have := HLN.out; have := HK.out; omega⟩ ⟨by rw [HZ.out]; have := HQ.out; omega, by rw [HZ.out]; have := HQ.out; have := HLN.out; have := HK.out; omega⟩)
    have HOKC := hid (HS7.out.okc (needM S))
    have HSR := hid (fun W => SRead_go (sbytes S) (by have := sbytes_len S (by rw [HNA.out]; decide) HOKC.out; omega) W)
    rw [readSM_bytes (by rw [HNA.out]; decide) ⟨by have := HAC.out; omega, by have := HAC.out; have := HA.out; have := HLN.out; have := HK.out; omega⟩ ⟨by rw [HZ.out]; have := HQ.out; omega, by rw [HZ.out]; have := HQ.out; have := HLN.out; have := HK.out; omega⟩ HOKC.out (by have := bytes_le HOKC.out; omega)] at HSR
    unfold SReadP at HSR
    dsimp only at HSR
    have HTL := hid (show (backM S).last = (q : Int) ∧ (backM S).name = [115] from ⟨by show needM S - 1 = (q : Int); rw [HZ.out]; have := HQ.out; omega, HNA.out⟩)
    generalize sbytes S = sb at *
    generalize backM S = T at *
    go_upto_region 13 with (first
      | (go_at_call 26; refine (HSR.out _).mono ?_; rintro e w9 ⟨t, rfl, h, f⟩; have HTW := hid (show Two w2 w9 t T 1 s S (k + 1) from ⟨_, _, h, HS8.out.fre f, fun j hj hx => by have := HS8.out.lt hx; omega, fun j hj => Nat.le_trans F8.out.size hj.1, HX4.out, F8.out.trans f (fun _ h _ => h)⟩); clear h f)
      | (go_at_call 27; refine HBY.out.mono ?_; rintro e w8 ⟨rfl, f⟩; have HS8 := hid (HS7.out.fre f); have F8 := hid (F7.out.trans f (fun _ h _ => h)); clear f))
    clear HBY HSR HS7 HS8 F7 F8 HOKC HZ
    have z1 : ¬ z < 1 := by have := HQ.out; omega
    have z2 : ¬ (k : Int) + 1 < z := by have := HQ.out; omega
    have w1 : IntKind.i64.wrap ((k : Int) + 1) = (k : Int) + 1 := IntWalk.i64_in _ (by have := HLN.out; have := HK.out; omega)
    have w2' : IntKind.i64.wrap (z - 1) = (q : Int) := (IntWalk.i64_in _ (by have := HQ.out; have := HLN.out; have := HK.out; omega)).trans (by have := HQ.out; omega)
    go_upto_block 2 with fail
    go_cut [17] (fun s17 wx => Two w2 wx t (feedsM T q (l.drop q)) (1 + (n - q)) s S (k + 1))
    case first =>
      go_wp2_with (fail)
      go_loopw [17] (fun s17 wr => ∃ (p i : Nat), i = q + p ∧ i ≤ n ∧ s17 = .int .i64 i ∧ Two w2 wr t (feedsM T q ((l.drop q).take p)) (1 + p) s S (k + 1)) (fun s17 _ => n - (intOf s17).toNat)
      case atStart => exact ⟨0, q, by omega, by have := HQ.out; have := HK.out; omega, rfl, HTW.out⟩
      case round =>
        obtain ⟨p, i, hi, hin, rfl, htw⟩ := hrel
        have HTI := hid htw
        have HII := hid hi
        clear htw hi HTW
        rename World => WK
        by_cases hlt : i < n
        · obtain ⟨g, o, r, rfl, ry, hr, hil, hrl⟩ := HAT.out i hlt
          have HRY := hid (range_fr ry HTI.out.f (fun h => h))
          have HFT := hid (feeds_drop T (l := l) (p := p) HII.out hil)
          rw [hrl] at HFT
          have HF := hid (Two.feed HTI.out (by have := HLN.out; have := HK.out; have := HII.out; omega) hr ((i : Int) + 1))
          have i1 : (0 : Int) ≤ (i : Int) := by omega
          have i3 : (i : Int) < (n : Int) := by omega
          have w1 : IntKind.i64.wrap ((i : Int) + 1) = (i : Int) + 1 := IntWalk.i64_in _ (by have := HLN.out; omega)
          clear hr ry hrl
          go_wp2_with (first
            | (refine wpList_load_mid rfl 35 (.tmp 90) rfl g (o + i * 8) rfl _ _ HRY.out Tryz.underlying35 rfl size_rec ?_)
            | (go_at_call 15; refine HF.out.mono ?_; rintro e w4 ⟨rfl, h2⟩; have H2 := hid h2; clear h2))
          go_roundw
          case rel => exact ⟨p + 1, i + 1, by have := HII.out; omega, by omega, by go_num, by rw [HFT.out, show 1 + (p + 1) = 1 + p + 1 from rfl]; exact H2.out⟩
          case measure => simp [intOf]; omega
        · obtain rfl : i = n := by omega
          have i2 : ¬ ((i : Int) < (i : Int)) := by omega
          go_wp2_with (fail)
          go_meet
          have hp : p = i - q := by have := HII.out; omega
          subst hp
          have := HTI.out
          rwa [List.take_of_length_le (by rw [List.length_drop, HLEN.out]; exact Nat.le_refl _)] at this
    case rest =>
    generalize wc = WB17 at *
    have HTWN := hid hcut
    clear hcut HTW
    have HTS := hid HTWN.out.swap
    clear HTWN z1 z2 w1 w2'
    go_upto_block 4 with fail
    go_cut [18] (fun s18 wx => Two w2 wx s (feedsM S k (l.drop k)) (k + 1 + (n - k)) t (feedsM T q (l.drop q)) (1 + (n - q)))
    case first =>
      go_wp2_with (fail)
      go_loopw [18] (fun s18 wr => ∃ (p i : Nat), i = k + p ∧ i ≤ n ∧ s18 = .int .i64 i ∧ Two w2 wr s (feedsM S k ((l.drop k).take p)) (k + 1 + p) t (feedsM T q (l.drop q)) (1 + (n - q))) (fun s18 _ => n - (intOf s18).toNat)
      case atStart => exact ⟨0, k, by omega, by have := HQ.out; have := HK.out; omega, rfl, HTS.out⟩
      case round =>
        obtain ⟨p, i, hi, hin, rfl, htw⟩ := hrel
        have HTI := hid htw
        have HII := hid hi
        clear htw hi HTS
        rename World => WK
        by_cases hlt : i < n
        · obtain ⟨g, o, r, rfl, ry, hr, hil, hrl⟩ := HAT.out i hlt
          have HRY := hid (range_fr ry HTI.out.f (fun h => h))
          have HFT := hid (feeds_drop S (l := l) (p := p) HII.out hil)
          rw [hrl] at HFT
          have HF := hid (Two.feed HTI.out (by have := HLN.out; have := HK.out; have := HII.out; omega) hr ((i : Int) + 1))
          have i1 : (0 : Int) ≤ (i : Int) := by omega
          have i3 : (i : Int) < (n : Int) := by omega
          have w1 : IntKind.i64.wrap ((i : Int) + 1) = (i : Int) + 1 := IntWalk.i64_in _ (by have := HLN.out; omega)
          clear hr ry hrl
          go_wp2_with (first
            | (refine wpList_load_mid rfl 35 (.tmp 105) rfl g (o + i * 8) rfl _ _ HRY.out Tryz.underlying35 rfl size_rec ?_)
            | (go_at_call 15; refine HF.out.mono ?_; rintro e w4 ⟨rfl, h2⟩; have H2 := hid h2; clear h2))
          go_roundw
          case rel => exact ⟨p + 1, i + 1, by have := HII.out; omega, by omega, by go_num, by rw [HFT.out, show k + 1 + (p + 1) = k + 1 + p + 1 from rfl]; exact H2.out⟩
          case measure => simp [intOf]; omega
        · obtain rfl : i = n := by omega
          have i2 : ¬ ((i : Int) < (i : Int)) := by omega
          go_wp2_with (fail)
          go_meet
          have hp : p = i - k := by have := HII.out; omega
          subst hp
          have := HTI.out
          rwa [List.take_of_length_le (by rw [List.length_drop, HLEN.out]; exact Nat.le_refl _)] at this
    case rest =>
    generalize wc = WB18 at *
    have HTSN := hid hcut
    clear hcut HTS
    have HF := hid (show (feedsM S k (l.drop k)).last = (n : Int) ∧ (feedsM S k (l.drop k)).acked = (a : Int) ∧ (feedsM S k (l.drop k)).name = [115] ∧ 1 ≤ needM (feedsM S k (l.drop k)) ∧ needM (feedsM S k (l.drop k)) ≤ (n : Int) + 1 from by
      have e1 := feeds_last (l.drop k) S
      rw [HLA.out, List.length_drop, HLEN.out] at e1
      have e2 := (feeds_acked (l.drop k) S k).trans HAC.out
      have e3 := (feeds_name (l.drop k) S k).trans HNA.out
      have e4 := Ge.need (Ge.feeds (l.drop k) HGE.out)
      rw [HLA.out] at e4
      have e5 := (need_le (m := feedsM S k (l.drop k))).1
      have := HK.out
      exact ⟨by omega, e2, e3, e4, by omega⟩)
    have HG := hid (show (feedsM T q (l.drop q)).last = (n : Int) ∧ (feedsM T q (l.drop q)).name = [115] from by
      have e1 := feeds_last (l.drop q) T
      rw [HTL.out.1, List.length_drop, HLEN.out] at e1
      have := HQ.out
      have := HK.out
      exact ⟨by omega, (feeds_name (l.drop q) T q).trans HTL.out.2⟩)
    have HNS := hid (show k + 1 + (n - k) ≤ 1000 ∧ 1 + (n - q) ≤ 1000 from by have := HLN.out; have := HK.out; omega)
    generalize k + 1 + (n - k) = Ns at *
    generalize 1 + (n - q) = Nt at *
    generalize feedsM S k (l.drop k) = F at *
    generalize feedsM T q (l.drop q) = G at *
    have HQS := hid (fun (W : World) (f : Fr (fun _ => False) WB18 W) => Two.queued (HTSN.out.fre f) HNS.out.1)
    have HQT := hid (fun (W : World) (f : Fr (fun _ => False) WB18 W) => Two.queued (HTSN.out.fre f).swap HNS.out.2)
    have HTOLD := hid (show G.told = F.told from by unfold Slt.told; rw [HFIN.out.1])
    have HOS := hid (fun (W : World) (f : Fr (fun _ => False) WB18 W) => show Calls Tryz.prog 28 #[.pointer (some ⟨s, 0, none⟩)] W fun e w' => e = .returned (.int .i64 F.fols.length) ∧ w' = W from by obtain ⟨X, h⟩ := (HTSN.out.fre f).l; exact h.open_)
    have HOT := hid (fun (W : World) (f : Fr (fun _ => False) WB18 W) => show Calls Tryz.prog 28 #[.pointer (some ⟨t, 0, none⟩)] W fun e w' => e = .returned (.int .i64 F.fols.length) ∧ w' = W from by obtain ⟨X, h⟩ := (HTSN.out.fre f).swap.l; rw [← HFIN.out.2.1]; exact h.open_)
    have HAS := hid (fun (W : World) (f : Fr (fun _ => False) WB18 W) => show Calls Tryz.prog 24 #[.pointer (some ⟨s, 0, none⟩)] W fun e w' => e = .returned (.int .i64 F.acked) ∧ w' = W from by obtain ⟨X, h⟩ := (HTSN.out.fre f).l; exact h.acked)
    have HAT2 := hid (fun (W : World) (f : Fr (fun _ => False) WB18 W) => show Calls Tryz.prog 24 #[.pointer (some ⟨t, 0, none⟩)] W fun e w' => e = .returned (.int .i64 F.acked) ∧ w' = W from by obtain ⟨X, h⟩ := (HTSN.out.fre f).swap.l; rw [← HFIN.out.2.2.2.2]; exact h.acked)
    have HNS2 := hid (fun (W : World) (f : Fr (fun _ => False) WB18 W) => show Calls Tryz.prog 25 #[.pointer (some ⟨s, 0, none⟩)] W fun e w' => e = .returned (.int .i64 (needM F)) ∧ Fr (fun _ => False) W w' from by obtain ⟨X, h⟩ := (HTSN.out.fre f).l; exact h.need (by have := HNS.out; omega) (by have := HF.out.1; have := HLN.out; omega))
    have HNT2 := hid (fun (W : World) (f : Fr (fun _ => False) WB18 W) => show Calls Tryz.prog 25 #[.pointer (some ⟨t, 0, none⟩)] W fun e w' => e = .returned (.int .i64 (needM F)) ∧ Fr (fun _ => False) W w' from by obtain ⟨X, h⟩ := (HTSN.out.fre f).swap.l; rw [← HFIN.out.2.2.1]; exact h.need (by have := HNS.out; omega) (by have := HG.out.1; have := HLN.out; omega))
    have HBS := hid (fun (W : World) (f : Fr (fun _ => False) WB18 W) => show Calls Tryz.prog 27 #[.pointer (some ⟨s, 0, none⟩)] W fun e w' => e = .returned (.string (bs (sbytes F))) ∧ Fr (fun _ => False) W w' from by obtain ⟨X, h⟩ := (HTSN.out.fre f).l; exact h.bytes (by have := HNS.out; omega) (by have := HF.out.1; have := HLN.out; omega) (by rw [HF.out.2.2.1]; decide) (by have := HF.out.2.1; have := HA.out; have := HK.out; have := HLN.out; omega) (by have := HF.out.2.2.2; have := HLN.out; omega))
    have HBT := hid (fun (W : World) (f : Fr (fun _ => False) WB18 W) => show Calls Tryz.prog 27 #[.pointer (some ⟨t, 0, none⟩)] W fun e w' => e = .returned (.string (bs (sbytes F))) ∧ Fr (fun _ => False) W w' from by obtain ⟨X, h⟩ := (HTSN.out.fre f).swap.l; rw [← HFIN.out.2.2.2.1]; exact h.bytes (by have := HNS.out; omega) (by have := HG.out.1; have := HLN.out; omega) (by rw [HG.out.2]; decide) (by rw [HFIN.out.2.2.2.2]; have := HF.out.2.1; have := HA.out; have := HK.out; have := HLN.out; omega) (by rw [HFIN.out.2.2.1]; have := HF.out.2.2.2; have := HLN.out; omega))
    have FT := hid (F2.out.trans HTSN.out.f (fun _ h _ => h))
    generalize F.fols.length = fl at *
    generalize F.acked = fa at *
    generalize needM F = fn at *
    generalize sbytes F = fb at *
    clear HF HG HFIN HTSN
    go_wp2_with (fail)
    refine (HQS.out _ (Fr.refl _ _)).mono ?_
    rintro e w10 ⟨a1, c1, xs, rfl, -, hxs, hxl, hxc, hx, f⟩
    have HXS := hid hxs
    have HXL := hid (show xs.length ≤ 1099511627776 from by have := HNS.out; omega)
    have HXC := hid (show ∀ x ∈ xs, x.cs.length ≤ 1099511627776 from fun x h => by have := hxc x h; have := HNS.out; omega)
    have HX := hid hx.s
    have F10 := hid f
    clear hxs hxl hxc hx f HQS
    go_wp2_with (fail)
    refine (HQT.out _ F10.out).mono ?_
    rintro e w11 ⟨a2, c2, ys, rfl, -, hys, -, -, hy, f⟩
    have HSA := hid (Same_go (HX.out.fre f) hy.s (by rw [HXS.out, hys, HTOLD.out]) HXL.out HXC.out)
    have F11 := hid (F10.out.trans f (fun _ h _ => h))
    clear hys hy f HQT HX HXS HXL HXC HTOLD F10
    go_wp2_with (fail)
    refine HSA.out.mono ?_
    rintro e w12 ⟨rfl, f⟩
    have F12 := hid (F11.out.trans f (fun _ h _ => h))
    clear f HSA F11
    go_wp2_with (fail)
    refine (HOS.out _ F12.out).mono ?_
    rintro e w13 ⟨rfl, rfl⟩
    go_wp2_with (fail)
    refine (HOT.out _ F12.out).mono ?_
    rintro e w14 ⟨rfl, rfl⟩
    go_wp2_with (fail)
    refine (HAS.out _ F12.out).mono ?_
    rintro e w15 ⟨rfl, rfl⟩
    go_wp2_with (fail)
    refine (HAT2.out _ F12.out).mono ?_
    rintro e w16 ⟨rfl, rfl⟩
    go_wp2_with (fail)
    refine (HNS2.out _ F12.out).mono ?_
    rintro e w17 ⟨rfl, f⟩
    have F17 := hid (F12.out.trans f (fun _ h _ => h))
    clear f
    go_wp2_with (fail)
    refine (HNT2.out _ F17.out).mono ?_
    rintro e w18 ⟨rfl, f⟩
    have F18 := hid (F17.out.trans f (fun _ h _ => h))
    clear f
    go_wp2_with (fail)
    refine (HBS.out _ F18.out).mono ?_
    rintro e w19 ⟨rfl, f⟩
    have F19 := hid (F18.out.trans f (fun _ h _ => h))
    clear f
    go_wp2_with (fail)
    refine (HBT.out _ F19.out).mono ?_
    rintro e w20 ⟨rfl, f⟩
    have F20 := hid (F19.out.trans f (fun _ h _ => h))
    clear f
    go_wp2_with (fail)
    go_ret
    exact ⟨rfl, FT.out.trans F20.out (fun _ h _ => h)⟩
end Go.Proofs.YtiimomgbklgicaaGreat
namespace Go.Proofs.YtiimomgbklgicaaGreat.slotResumes
open Go.ChangeShapes Go.WideShapes Go.ChangeAt Go.RowKit Go.VB
set_option maxHeartbeats 400000 in
set_option maxRecDepth 100000 in
theorem lifted (os : Os) (started : os.Started) (H : Type) (enc : TypeId × Value → H) :
    ReturnsInHanded {} Tryz.checked os 5 .any (Rows.slotResumesSpec.pre6 enc Tryz.prog Tryz.f5 Rows.slotResumesRow.domain false) (Rows.slotResumesSpec.post enc Tryz.prog Tryz.f5 false true false false) := by
  refine returnsInHanded_of_change (C := Tryz.checked) own started (by kernel_rfl) Tryz.func5
    (ChangeSpec.witness6 (enc := enc) (C := Tryz.checked) false ⟨#[], #[.slice none 0 0, .int .i64 0, .int .i64 0], []⟩ 8 (by kernel_rfl) (by kernel_rfl) (by kernel_rfl) (by kernel_rfl)) ?_
  intro W base args ds gs before hval0 hW hcnd _
  have hval : ∀ (j : Nat) t v, Tryz.f5.params[j]? = some t → args[j]? = some v → Value.okWide Tryz.prog W .any base t v := hval0
  have hW' := hW
  obtain ⟨p, q, hA0, hV, rfl, hfz, hnd⟩ := hW
  have hA : DataW.TrodAll enc Tryz.prog W 0 (fun _ => true) true Tryz.f5.params.toList args.toList ds p := hA0
  rw [Tryz.params5] at hA hval
  obtain ⟨v0, vs0, d0, ds0, p0, q0, hargs, rfl, rfl, h0, r0⟩ := trodAll_cons hA
  obtain ⟨v1, vs1, d1, ds1, p1, q1, rfl, rfl, rfl, h1, r1⟩ := trodAll_cons r0
  obtain ⟨v2, vs2, d2, ds2, p2, q2, rfl, rfl, rfl, h2, r2⟩ := trodAll_cons r1
  obtain ⟨rfl, rfl, rfl⟩ := trodAll_nil r2
  obtain rfl : args = #[v0, v1, v2] := by cases args; simp_all
  obtain ⟨rfl, rfl⟩ := trodVars_none hV
  clear hA0 hval0
  refine Calls.mono (R := fun e w' => e = .returned (.bool true) ∧ Fr (fun _ => False) W w') ?_ fun e W' ⟨he, hf⟩ => ⟨_, he, post_law sound (by decide +kernel) rfl rfl (ht := Tryz.underlying4) (by rfl) hW' hf⟩
  obtain ⟨q, hq, hqi, hql⟩ := open_sl Tryz.underlying22 (k := 1) (by kernel_rfl) (by omega) (hval 0 22 v0 rfl rfl) h0 (fun x => [Value.int .i64 x]) (fun x => (Lit.int .i64 x).wf = true) (fun _ => rfl) (fun fuel cs r _ h => by obtain ⟨x, h1, h2⟩ := elem_int Tryz.underlying3 fuel cs r h; exact ⟨x, h1, h2⟩)
  obtain ⟨m, rfl, hm⟩ := okWide_int (k := .i64) Tryz.underlying3 (hval 1 3 v1 rfl rfl)
  obtain ⟨n, rfl, hn⟩ := okWide_int (k := .i64) Tryz.underlying3 (hval 2 3 v2 rfl rfl)
  exact SlotResumes_walk q v0 m n W hq (fun x hx => i64_wf (hqi x hx)) hql
theorem proved : Rows.SlotResumesSaid :=
  OpenClaim.holds_of_wide 5 Tryz.f5 rfl rfl rfl rfl rfl rfl rfl ⟨rfl, rfl, rfl, rfl, rfl⟩ rfl rfl rfl rfl rfl (by kernel_rfl) Tryz.func5 (by kernel_rfl)
    (of_decide_eq_true (by kernel_rfl)) (by unfold Func.isWrapper; first | (rw [if_pos (by decide +kernel)]; kernel_rfl) | (rw [if_neg (by decide +kernel)]; exact ⟨rfl, rfl⟩))
    (fun os started H enc _ => lifted os started H enc)
end Go.Proofs.YtiimomgbklgicaaGreat.slotResumes
