/- Proved: for every slice of calls, every integer and every slice of integers the law ClockKept of chapter 07 returns true, and its arguments read afterwards as before. Conditions: none beyond the given statement. -/
import Derived.Test.YtbkebjgoaeddjaaClkArgs
import Derived.Test.YtbkebjgoaeddjaaClkRun
import Derived.Test.YtbkebjgoaeddjaaClkRH
import Derived.Test.YtbkebjgoaeddjaaClkKepM
import Derived.Test.YtbkebjgoaeddjaaClkDsk
import Derived.Test.YtbkebjgoaeddjaaFin
set_option linter.unusedVariables false
namespace Go.Proofs.Ytbkebjgoaeddjaa
open Go.RowKit Go.VB Go.VB.Clk
theorem kept_len {m : CM} (ok : m.Ok) : m.lives.length ≤ 1000000 := by
  have h1 := List.length_filter_le m.live m.known
  have h2 := m.known_length
  have h3 := ok.far
  unfold CM.lives
  omega
structure KpW (w wr : World) (c : Nat) (m : CM) : Prop where
  rc : CRep wr c m
  ok : m.Ok
  fr : Fr (fun _ => False) w wr
set_option maxRecDepth 20000 in
set_option maxHeartbeats 16000000 in
theorem ClockKept_walk (L : List Cl) (more : Int) (q : List Int) (w : World) (va vq : Value) (hA : Sl (fun k => k < w.heap.size) w va L.length (L.flatMap ccl)) (hLl : L.length ≤ maxLen) (hQ : Sl (fun k => k < w.heap.size) w vq q.length (iv q)) (hQl : q.length ≤ maxLen) :
    Calls Try.prog 12 #[va, .int .i64 more, vq] w fun e w' => e = .returned (.bool true) ∧ Fr (fun _ => False) w w' := by
  have e63 : maxLen = 9223372036854775807 := rfl
  rw [e63] at hLl hQl
  obtain ⟨aa, ac, rfl, hac, ha⟩ := hA
  have HA := hid (fun j (hj : j < L.length) => ccl_at ha hj)
  have HQ := hid hQ
  obtain ⟨aq, cq, rfl, hcq, -⟩ := hQ
  have R13 := hid (fun w => rest_any w more 13 (by omega) (by omega))
  obtain ⟨r13, hr13, hr13'⟩ : ∃ r : Nat, more % 13 = r ∧ r ≤ 13 := ⟨(more % 13).toNat, by omega, by omega⟩
  rw [hr13] at R13
  have hsan := hid (fun w => sanity_go w)
  clear e63 ha hr13
  go_enter Try.func12, Try.ntmps12
  go_wp2_with (fail)
  refine (hsan.out _).mono ?_
  rintro e w1 ⟨rfl, f1⟩
  have F1 := hid f1
  clear f1 hsan
  go_wp2_with (fail)
  refine (New_go 80 w1).mono ?_
  rintro e w2 ⟨rfl, h2, f2⟩
  have INV := hid (show KpW w w2 w1.heap.size (CM.new 80) from ⟨h2, Go.VB.Clk.Ok_new 80, F1.out.trans f2 (fun _ h _ => h)⟩)
  have hc1 := F1.out.size
  clear F1 h2 f2
  generalize hdd : w1.heap.size = c at *
  clear hdd
  generalize CM.new 80 = m0 at *
  go_wp2_with (fail)
  go_loopw [9] (fun i wr => ∃ (j : Nat) (m : CM), j ≤ 40 ∧ j ≤ L.length ∧ i = .int .i64 j ∧ KpW w wr c m) (fun i _ => 40 - (intOf i).toNat)
  case atStart => exact ⟨0, _, by omega, by omega, rfl, INV.out⟩
  case round =>
    obtain ⟨j, m, hj, hjl, rfl, inv⟩ := hrel
    clear INV
    by_cases hg : j < L.length ∧ j < 40
    · obtain ⟨g1, g2⟩ := hg
      obtain ⟨g, o, rfl, hcell0⟩ := HA.out j g1
      have hcell0 : w.rangeAt g (o + j * 3) [.int .i64 L[j].kind, .int .i64 L[j].x, .int .i64 L[j].s] := hcell0
      have hcell : wr.rangeAt g (o + j * 3) [.int .i64 L[j].kind, .int .i64 L[j].x, .int .i64 L[j].s] := range_fr hcell0 inv.fr (fun h => h)
      have i1 : (0 : Int) ≤ j := by omega
      have i2 : (j : Int) < L.length := by omega
      have hnx := inv.ok.nx
      obtain ⟨p, hp⟩ : ∃ p, p = L[j] := ⟨_, rfl⟩
      rw [← hp] at hcell hcell0
      clear hp
      obtain ⟨kind, x, s⟩ := p
      dsimp only at hcell hcell0
      have NEAR := hid (fun w => near_go kind x s m.next hnx w)
      have INV := hid inv
      have hgd : g ≠ c := by have := lt_of_range (by simp) hcell0; omega
      clear inv
      go_wp2_with (fail)
      refine wp_region_scr (.take 0 (.take 1 (.take 2 (.take 3 (.take 4 (.take 5 (.op 6 (.op 7 (.op 8 .done))))))))) (fun kz w => (kz ≤ 9 → w.rangeAt g (o + j * 3) [.int .i64 kind, .int .i64 x, .int .i64 s]) ∧ True) (by kernel_rfl) (by kernel_rfl) (by intro c a d v w h; cases d <;> exact h) ?_
      repeat
        first
        | (refine wpT_pure rfl rfl rfl ?_; apply Exists.intro; refine ⟨?_, ?_⟩; intro w; (first | (exact run_load_mid _ _ rfl g _ rfl _ _ qa Try.underlying48 rfl Try.size_call) | (go_simp <;> rfl)); simp only [Act.put, List.setIfInBounds_toArray, List.set_cons_zero, List.set_cons_succ])
        | (refine wpT_take 9 rfl rfl (by decide +kernel) ⟨fun _ => hcell, trivial⟩ ?_; apply Exists.intro; refine ⟨?_, ?_⟩; intro w hw; (have qa := hw.1 (Nat.le_refl _); have qb := hw.2); (first | (exact run_load_mid _ _ rfl g _ rfl _ _ qa Try.underlying48 rfl Try.size_call) | (go_simp <;> rfl)); simp only [Act.put, List.setIfInBounds_toArray, List.set_cons_zero, List.set_cons_succ])
        | (refine wpT_skip rfl rfl ?_; simp only [Act.put, List.setIfInBounds_toArray, List.set_cons_zero, List.set_cons_succ])
      refine wpT_op rfl ?_
      go_wp2_with ((go_at_call 30; refine (Now_go (CRep.drew INV.out.rc)).mono ?_; rintro e w' ⟨rfl, rfl⟩))
      (refine ⟨?_, ?_⟩; focus (intro kz hk hk2 hh; first | (exfalso; simp at hk2; omega) | exact hh | exact (fun h => absurd h (by omega)) | obtain ⟨qa, qb⟩ := hh; first | exact ⟨qa, qb⟩ | (refine ⟨fun h => absurd h (by omega), ?_⟩; first | exact qb | (exact qa)) | (refine ⟨fun h => ?_, ?_⟩; (have qa := qa h); all_goals (first | exact qa | exact qb | (exact qa)))))
      refine wpT_op rfl ?_
      go_wp2_with ((go_at_call 34; refine (NEAR.out _).mono ?_; rintro e w6 ⟨rfl, f6⟩))
      (refine ⟨?_, ?_⟩; focus (intro kz hk hk2 hh; first | (exfalso; simp at hk2; omega) | exact hh | exact (fun h => absurd h (by omega)) | obtain ⟨qa, qb⟩ := hh; first | exact ⟨qa, qb⟩ | (refine ⟨fun h => absurd h (by omega), ?_⟩; first | exact qb | (exact range_fr qa f6 (fun h => h))) | (refine ⟨fun h => ?_, ?_⟩; (have qa := qa h); all_goals (first | exact qa | exact qb | (exact range_fr qa f6 (fun h => h))))))
      have f06 := (Fr.refl (fun _ => False) wr).drew.trans f6 (fun _ h _ => h)
      have R6 := hid (CRep.fr INV.out.rc f06 (fun h => h))
      have F6 := hid (INV.out.fr.trans f06 (fun _ h _ => h))
      generalize ((xat m.next (x % 125).toNat : Nat) : Int) = X at *
      generalize 1 + s % 4 = S at *
      have hdo := hid (do_go R6.out INV.out.ok kind X S)
      have hok := hid (Ok_dok INV.out.ok kind X S)
      refine wpT_op rfl ?_
      go_wp2_with ((go_at_call 35; refine hdo.out.mono ?_; rintro e w7 ⟨rfl, h7, f7⟩))
      (refine ⟨?_, ?_⟩; focus (intro kz hk hk2 hh; first | (exfalso; simp at hk2; omega) | exact hh | exact (fun h => absurd h (by omega)) | obtain ⟨qa, qb⟩ := hh; first | exact ⟨qa, qb⟩ | (refine ⟨fun h => absurd h (by omega), ?_⟩; first | exact qb | (exact range_fr qa f7 hgd)) | (refine ⟨fun h => ?_, ?_⟩; (have qa := qa h); all_goals (first | exact qa | exact qb | (exact range_fr qa f7 hgd)))))
      refine wpT_nil ?_
      have INV7 := hid (show KpW w w7 c (m.dok kind X S).1 from ⟨h7, hok.out, F6.out.trans f7 (fun k hk hl => by omega)⟩)
      clear hdo h7 f7 f6 f06 R6 F6 INV hcell hcell0 hok NEAR
      go_wp2_with (fail)
      go_roundw
      case rel => exact ⟨j + 1, _, by omega, by omega, by go_num, INV7.out⟩
      case measure => simp [intOf]; omega
    · have h3 : ¬ j < L.length ∨ (j < L.length ∧ ¬ j < 40) := by omega
      have INV := hid inv
      have hbl := m.bytes_length
      have hfar := inv.ok.far
      clear inv
      rcases h3 with h3 | ⟨h3, h4⟩
      · go_wp2_with (fail)
        refine (New_G wr 1).mono ?_
        rintro e w3 ⟨rfl, g3, f3⟩
        have hcl := Blk.lt INV.out.rc
        have hwl := INV.out.fr.size
        have R3 := hid (CRep.fr INV.out.rc f3 (fun h => h))
        have F3 := hid (INV.out.fr.trans f3 (fun _ h _ => h))
        have OK := hid INV.out.ok
        have hdm : Disk.DM.new (min (1 : Int) 400).toNat = LogM.M [] 0 0 := rfl
        rw [hdm] at g3
        have G3 := hid g3
        have HX := hid (show ∀ k, k < w.heap.size → k < wr.heap.size from fun k hk => by omega)
        clear g3 f3 INV hdm
        generalize hX : (fun k => k < wr.heap.size) = X at *
        have hXc : X c := by rw [← hX]; exact hcl
        have HXW := hid (show ∀ k, k < w.heap.size → X k from fun k hk => by rw [← hX]; exact HX.out k hk)
        generalize wr.heap.size + 1 = d at *
        clear hX HX hcl
        generalize hlb : m.bytes = lb at *
        have HLB := hid hlb
        have hb1 : lb.length ≤ 122 := by omega
        have HBL := hid hbl
        clear hlb hbl
        have HBY := hid (fun (w' : World) (h : CRep w' c m) => HLB.out ▸ Bytes_go h OK.out)
        go_wp2_with (fail)
        refine (HBY.out w3 R3.out).mono ?_
        rintro e w4 ⟨rfl, f4⟩
        have R4 := hid (CRep.fr R3.out f4 (fun h => h))
        have G4 := hid (G.fr G3.out f4 (fun _ h => h.elim))
        have F4 := hid (F3.out.trans f4 (fun _ h _ => h))
        clear f4 R3 G3 F3
        go_wp2_with (fail)
        have hap := Append_G G4.out (LogM.ok (by simp) (by simp)) lb (by omega)
        rw [LogM.append (by simp; omega)] at hap
        refine hap.mono ?_
        rintro e w5 ⟨rfl, g5, f5⟩
        have R5 := hid (CRep.fr R4.out f5 (fun h => h hXc))
        have F5 := hid (F4.out.trans f5 (fun k hk hl => absurd (HXW.out k hl) hk))
        have g5 : G X w5 d (LogM.M lb 0 (wrap64 (0 - 1))) := g5
        generalize wrap64 (0 - 1) = a1 at *
        have hfl := Flush_G g5
        rw [LogM.flush] at hfl
        have HFL := hid hfl
        clear hap g5 f5 R4 F4 G4 hfl
        go_wp2_with (fail)
        refine HFL.out.mono ?_
        rintro e w6 ⟨rfl, g6, f6⟩
        have R6 := hid (CRep.fr R5.out f6 (fun h => h hXc))
        have F6 := hid (F5.out.trans f6 (fun k hk hl => absurd (HXW.out k hl) hk))
        have g6 : G X w6 d (LogM.M lb lb.length (wrap64 (a1 - 1))) := g6
        generalize wrap64 (a1 - 1) = a2 at *
        have G6 := hid g6
        clear HFL g6 f6 R5 F5
        go_wp2_with (fail)
        refine (HBY.out w6 R6.out).mono ?_
        rintro e w7 ⟨rfl, f7⟩
        have R7 := hid (CRep.fr R6.out f7 (fun h => h))
        have F7 := hid (F6.out.trans f7 (fun _ h _ => h))
        have hap := Append_G (G.fr G6.out f7 (fun _ h => h.elim)) (LogM.ok (by omega) (by omega)) lb (by omega)
        rw [LogM.append (by omega)] at hap
        have HAP := hid hap
        clear f7 R6 F6 G6 hap
        go_wp2_with (fail)
        refine HAP.out.mono ?_
        rintro e w8 ⟨rfl, g8, f8⟩
        have R8 := hid (CRep.fr R7.out f8 (fun h => h hXc))
        have F8 := hid (F7.out.trans f8 (fun k hk hl => absurd (HXW.out k hl) hk))
        have g8 : G X w8 d (LogM.M (lb ++ lb) lb.length (wrap64 (a2 - 1))) := g8
        generalize wrap64 (a2 - 1) = a3 at *
        have G8 := hid g8
        have HLOG : Hid (Calls Try.prog 49 #[.pointer (some ⟨d, 0, none⟩)] w8 fun e w' => e = .returned (.string (bs (lb ++ lb))) ∧ w8 = w') := hid (Log_G g8)
        have e2 := bs_size (lb ++ lb)
        rw [List.length_append] at e2
        have HE2 := hid e2
        clear HAP g8 f8 R7 F7 HBY
        have hz : (bs (lb ++ lb)).size = 2 * lb.length := by omega
        clear e2 HE2
        go_wp2_with (fail)
        refine HLOG.out.mono ?_
        rintro e w' ⟨rfl, rfl⟩
        go_wp2_with (fail)
        clear hz
        go_loopw [12, 13] (fun t i wr => ∃ (a k : Nat), a ≤ 13 ∧ i = .int .i64 a ∧ m.n + k ≤ 60 ∧ t = .int .i64 (lastOf m k : Nat) ∧ CRep wr c (m.addN k) ∧ G X wr d (LogM.M (lb ++ lb) lb.length a3) ∧ Fr (fun _ => False) w wr) (fun _ i _ => 13 - (intOf i).toNat)
        case atStart => exact ⟨0, 0, by omega, rfl, by omega, rfl, R8.out, G8.out, F8.out⟩
        case round =>
          obtain ⟨a, k, ha, rfl, hk, rfl, hc, hG, fr⟩ := hrel
          clear R8 G8 F8
          by_cases ha3 : a < r13
          · have okk := (addN_ok OK.out k hk).1
            have hbeg := Begin_go hc okk 0
            have HGG := hid hG
            have FR := hid fr
            rcases begin_more OK.out hk with ⟨hlt, e⟩ | ⟨hlt, e⟩
            · rw [e] at hbeg
              have HB := hid hbeg
              clear e hbeg hG fr hc okk
              go_wp2_with (first | (go_at_call 14; refine (R13.out _).mono ?_; rintro e w' ⟨rfl, rfl⟩))
              refine HB.out.mono ?_
              rintro e w9 ⟨rfl, h9, f9⟩
              have H9 := hid h9
              have G9 := hid (G.fr HGG.out f9 (fun k hk => hk ▸ hXc))
              have F9 := hid (FR.out.trans f9 (fun k hk hl => by omega))
              clear h9 f9 HB
              go_wp2_with (fail)
              go_roundw
              case rel => exact ⟨a + 1, k + 1, by omega, by go_num, by omega, rfl, H9.out, G9.out, F9.out⟩
              case measure => simp [intOf]; omega
            · rw [e] at hbeg
              have HB := hid hbeg
              clear e hbeg hG fr hc okk
              go_wp2_with (first | (go_at_call 14; refine (R13.out _).mono ?_; rintro e w' ⟨rfl, rfl⟩))
              refine HB.out.mono ?_
              rintro e w9 ⟨rfl, h9, f9⟩
              have H9 := hid h9
              have G9 := hid (G.fr HGG.out f9 (fun k hk => hk ▸ hXc))
              have F9 := hid (FR.out.trans f9 (fun k hk hl => by omega))
              clear h9 f9 HB
              go_wp2_with (fail)
              go_roundw
              case rel => exact ⟨a + 1, k, by omega, by go_num, by omega, rfl, H9.out, G9.out, F9.out⟩
              case measure => simp [intOf]; omega
          · have hq : QRep X wr (.slice aq q.length cq) q := by
              obtain ⟨a', c', e, hc', hr⟩ := HQ.out
              cases e
              refine ⟨aq, cq, rfl, hcq, fun hne => ?_⟩
              obtain ⟨g, o, rfl, hg, hr⟩ := hr (by intro e; apply hne; cases q with | nil => rfl | cons => simp [iv] at e)
              exact ⟨g, o, rfl, HXW.out g hg, range_fr hr fr (fun h => h)⟩
            have hcr := Crash_G hG (LogM.ok (by simp; omega) (by simp)) (by omega) hq hQl
            obtain ⟨f, hf, hf1, hf2⟩ := LogM.crash (log := lb ++ lb) (fl := lb.length) (l := a3) q (by simp)
            rw [hf] at hcr
            have HCR := hid hcr
            have HC := hid hc
            have FR := hid fr
            have htk : ((lb ++ lb).take f).take lb.length = lb := by rw [List.take_take, Nat.min_eq_left hf1, List.take_left' rfl]
            have hln : lb.length ≤ ((lb ++ lb).take f).length := by rw [List.length_take]; omega
            have hln2 : ((lb ++ lb).take f).length ≤ 1000 := by rw [List.length_take, List.length_append]; omega
            clear hq hcr hf hc fr hG
            go_wp2_with (first | (go_at_call 14; refine (R13.out _).mono ?_; rintro e w' ⟨rfl, rfl⟩))
            refine HCR.out.mono ?_
            rintro e w9 ⟨rfl, g9, f9⟩
            have H9 := hid (CRep.fr HC.out f9 (fun h => h hXc))
            have F9 := hid (FR.out.trans f9 (fun k hk hl => absurd (HXW.out k hl) hk))
            have HLOG : Hid (Calls Try.prog 49 #[.pointer (some ⟨d, 0, none⟩)] w9 fun e w' => e = .returned (.string (bs ((lb ++ lb).take f))) ∧ w9 = w') := hid (Log_G g9)
            generalize (lb ++ lb).take f = lg at *
            have hex : (bs lg).extract 0 lb.length = bs lb := by
              apply ByteArray.ext
              rw [show lb = lg.take lb.length from htk.symm]
              simp [bs]
            have e2 := bs_size lg
            have HLN := hid (show ((lb.length : Nat) : Int) ≤ (lg.length : Int) by omega)
            clear HCR g9 f9 HC FR htk hf1 hf2
            go_wp2_with (fail)
            refine HLOG.out.mono ?_
            rintro e w' ⟨rfl, rfl⟩
            go_wp2_with (fail)
            have HRD := hid (Read_go lb w9 (by omega))
            have HSELF := hid (read_self OK.out)
            rw [HLB.out] at HSELF
            have HLK := hid (like_self OK.out)
            rw [HLB.out] at HLK
            clear hex e2 HLN hln hln2 HLOG
            refine HRD.out.mono ?_
            rintro e w10 (⟨n1, rfl, f1⟩ | ⟨d1, m1, n1, rfl, hd1, hc1', f1⟩)
            · rw [HSELF.out] at n1
              cases n1
            · rw [HSELF.out] at n1
              obtain rfl := Option.some.inj n1
              have LK := HLK
              have OK1 := hid (read_ok HSELF.out)
              generalize CM.fill lb m.low m.next m.n = r0 at *
              have hd1c : d1 ≠ c := by have := Blk.lt H9.out; omega
              have hd1w : w.heap.size ≤ d1 := by have := F9.out.size; omega
              have HA1 := hid (CRep.fr H9.out f1 (fun h => h))
              have HR1 := hid hc1'
              have F10 := hid (F9.out.trans f1 (fun _ h _ => h))
              have hre := Reach_go hc1' OK1.out (lastOf m k : Nat)
              rw [reach_last OK.out LK.out hk] at hre
              have HRE := hid hre
              clear n1 hc1' f1 hre HRD HSELF HLK H9 F9
              go_wp2_with (fail)
              refine HRE.out.mono ?_
              rintro e w11 ⟨rfl, h11, f11⟩
              have LKN := hid (Like.addN OK.out LK.out k hk)
              have hkr : r0.n + k ≤ 60 := by rw [LK.out.n]; exact hk
              have OKA := hid (addN_ok OK.out k hk).1
              have OKR := hid (addN_ok OK1.out k hkr).1
              generalize m.addN k = mc at *
              generalize r0.addN k = mr at *
              have HA2 := hid (CRep.fr HA1.out f11 (fun h => hd1c h.symm))
              have HR2 := hid h11
              have F11 := hid (F10.out.trans f11 (fun k hk hl => by omega))
              clear h11 f11 HA1 HR1 F10 HRE
              have NOW1 := hid (fun (w' : World) (h : CRep w' d1 mr) => LKN.out.nx ▸ Now_go h)
              go_wp2_with (fail)
              refine (NOW1.out w11 HR2.out).mono ?_
              rintro e w' ⟨rfl, rfl⟩
              go_wp2_with (fail)
              refine (Now_go HA2.out).mono ?_
              rintro e w' ⟨rfl, rfl⟩
              go_wp2_with (fail)
              refine (Snap_go HR2.out OKR.out).mono ?_
              rintro e w12 ⟨v, rfl, row, f12⟩
              obtain ⟨la, lc, rfl, hlc⟩ := own_slice row.own
              have hll := kept_len OKR.out
              have hrun := fun (x : Value) (a : Option Addr) (n q : Nat) (w : World) => run_snap_live x a n q w
              have hdl := Blk.lt HR2.out
              have HA3 := hid (CRep.fr HA2.out f12 (fun h => h))
              have HR3 := hid (CRep.fr HR2.out f12 (fun h => h))
              have F12 := hid (F11.out.trans f12 (fun _ h _ => h))
              have HLV := hid (fun i (hi : i < mr.lives.length) => show ∃ g, la = some ⟨g, 0, none⟩ ∧ g ≠ d1 ∧ w12.cell? ⟨g, i, none⟩ = some (.int .i64 (mr.lives[i] : Nat)) by
                obtain ⟨g, rfl, hg, hr⟩ := row_cells (⟨row.own, row.new⟩ : Row 3 1 w11.heap.size w12 _ mr.lives.length (nv mr.lives)) (by intro e; have := nv_length mr.lives; rw [e] at this; simp at this; omega)
                exact ⟨g, rfl, by omega, hr i _ (by simp [nv, hi])⟩)
              clear row f12 HA2 HR2 F11 NOW1
              go_wp2_with (fail)
              go_loopw [20] (fun i wr => ∃ (a : Nat) (st : Nat → Int), a ≤ mr.lives.length ∧ i = .int .i64 a ∧ CRep wr d1 (mr.with_ st) ∧ (mr.with_ st).Ok ∧ Abo mr st a ∧ Fr (fun k => k = d1) w12 wr) (fun i _ => mr.lives.length - (intOf i).toNat)
              case atStart => exact ⟨0, mr.st, by omega, rfl, HR3.out, OKR.out, Abo.zero mr, Fr.refl _ _⟩
              case round =>
                obtain ⟨a, st, ha, rfl, hc, hok, hab, fr⟩ := hrel
                clear HR3
                by_cases hal : a < mr.lives.length
                · obtain ⟨g, rfl, hgd, hcell⟩ := HLV.out a hal
                  have hkx := mr.lives_mem OKR.out (List.getElem_mem hal)
                  have hxl : mr.lives[a]? = some (mr.lives[a]) := List.getElem?_eq_getElem hal
                  have hcell := cell_fr hcell fr hgd
                  have i1 : (0 : Int) ≤ (a : Int) := by omega
                  have i2 : (a : Int) < mr.lives.length := by omega
                  generalize mr.lives[a] = x at *
                  have hx3 := CM.knows_iff.1 hkx
                  have hst : (mr.with_ st).state (x : Int) = st x := by
                    unfold CM.state
                    rw [if_neg (by omega), if_pos (show (mr.with_ st).knows (x : Int) = true from hkx)]
                    rfl
                  have hS := State_go hc hok (x : Int)
                  rw [hst] at hS
                  have HS := hid hS
                  have HC := hid hc
                  have HOKS := hid hok
                  have FR := hid fr
                  by_cases h1 : st x = 1
                  · obtain ⟨st', he, hab'⟩ := hab.end_ hxl hkx h1
                    rw [h1] at HS
                    have HABN := hid hab'
                    have HEE := hid he
                    clear hst hS hc hok fr hab hab' he h1 hx3
                    go_wp2_with (fail)
                    refine HS.out.mono ?_
                    rintro e w13 ⟨rfl, f13⟩
                    have hcell2 := cell_fr hcell f13 (fun h => h)
                    have hE := End_go (CRep.fr HC.out f13 (fun h => h)) HOKS.out (x : Int) 3
                    have hOE := Ok_end HOKS.out (x : Int) 3
                    rw [HEE.out] at hE hOE
                    have HE := hid hE
                    have HOE := hid hOE
                    have F13 := hid (FR.out.trans f13 (fun _ h _ => h.elim))
                    clear hcell f13 hE hOE HEE HS HC FR
                    go_wp2_with (fail)
                    refine HE.out.mono ?_
                    rintro e w14 ⟨rfl, h14, f14⟩
                    have H14 := hid h14
                    have F14 := hid (F13.out.trans f14 (fun _ h _ => h))
                    clear h14 f14 HE
                    go_wp2_with (fail)
                    go_roundw
                    case rel => exact ⟨a + 1, st', by omega, by go_num, H14.out, HOE.out, HABN.out, F14.out⟩
                    case measure => simp [intOf]; omega
                  · have h1' : (st x == 1) = false := by simpa using h1
                    have HABN := hid (hab.skip (fun z hz => by rw [hxl] at hz; cases hz; exact h1))
                    clear hst hS hc hok fr hab h1 hx3
                    go_wp2_with (fail)
                    refine HS.out.mono ?_
                    rintro e w13 ⟨rfl, f13⟩
                    have H13 := hid (CRep.fr HC.out f13 (fun h => h))
                    have F13 := hid (FR.out.trans f13 (fun _ h _ => h.elim))
                    clear f13 HS HC FR
                    go_wp2_with (fail)
                    go_roundw
                    case rel => exact ⟨a + 1, st, by omega, by go_num, H13.out, HOKS.out, HABN.out, F13.out⟩
                    case measure => simp [intOf]; omega
                · obtain rfl : a = mr.lives.length := by omega
                  have HC := hid hc
                  have HOKS := hid hok
                  have HKE := hid (fun (x : Int) (hx : 3 ≤ x) => kept_end OKR.out LKN.out hab x hx)
                  have HCA := hid (CRep.fr HA3.out fr (fun h => hd1c h.symm))
                  have FZ := hid (F12.out.trans fr (fun k hk hl => by omega))
                  clear hc hok hab fr HA3 F12 HLV
                  go_wp2_with (fail)
                  obtain ⟨wo, rfl⟩ : ∃ wo : World, wo = wr := ⟨_, rfl⟩
                  go_loopw [21] (fun i wr => ∃ x : Nat, 3 ≤ x ∧ x ≤ 128 ∧ i = .int .i64 x ∧ Fr (fun _ => False) wo wr) (fun i _ => 128 - (intOf i).toNat)
                  case atStart => exact ⟨3, by omega, by omega, rfl, Fr.refl _ _⟩
                  case round =>
                    obtain ⟨x, hx1, hx2, rfl, fr⟩ := hrel
                    by_cases hx : x < 128
                    · have hcase := HKE.out (x : Int) (by omega)
                      have hS := hid (State_go (CRep.fr HCA.out fr (fun h => h)) OKA.out (x : Int))
                      have FR := hid fr
                      clear fr
                      go_wp2_with (fail)
                      refine hS.out.mono ?_
                      rintro e w15 ⟨rfl, f15⟩
                      have F15 := hid (FR.out.trans f15 (fun _ h _ => h))
                      have hT := hid (State_go (CRep.fr HC.out F15.out (fun h => h)) HOKS.out (x : Int))
                      clear f15 FR hS
                      go_wp2_with (fail)
                      refine hT.out.mono ?_
                      rintro e w16 ⟨rfl, f16⟩
                      have F16 := hid (F15.out.trans f16 (fun _ h _ => h))
                      clear f16 F15 hT
                      generalize mc.state (x : Int) = s at *
                      generalize (mr.with_ st).state (x : Int) = t at *
                      have hc4 : (s = 1 ∧ t = 3) ∨ (s = 4 ∧ t = 4) ∨ (s = 4 ∧ t = 3) ∨ ((s == 1) = false ∧ (s == 4) = false ∧ (s != 1) = true ∧ (s != 4) = true ∧ t = s) := by
                        rcases hcase with ⟨h1, h2⟩ | ⟨h1, h2 | h2⟩ | ⟨h1, h2, h3⟩
                        · exact .inl ⟨h1, h2⟩
                        · exact .inr (.inl ⟨h1, h2⟩)
                        · exact .inr (.inr (.inl ⟨h1, h2⟩))
                        · exact .inr (.inr (.inr ⟨by simpa using h1, by simpa using h2, by simpa using h1, by simpa using h2, h3.symm⟩))
                      clear hcase
                      rcases hc4 with ⟨rfl, rfl⟩ | ⟨rfl, rfl⟩ | ⟨rfl, rfl⟩ | ⟨b1, b2, b3, b4, rfl⟩
                      all_goals
                        go_wp2_with (fail)
                        go_roundw
                        case rel => exact ⟨x + 1, by omega, by omega, by go_num, F16.out⟩
                        case measure => simp [intOf]; omega
                    · go_wp2_with (fail)
                      go_ret
                      exact ⟨rfl, FZ.out.trans fr (fun _ h _ => h)⟩
      
      · go_wp2_with (fail)
        refine (New_G wr 1).mono ?_
        rintro e w3 ⟨rfl, g3, f3⟩
        have hcl := Blk.lt INV.out.rc
        have hwl := INV.out.fr.size
        have R3 := hid (CRep.fr INV.out.rc f3 (fun h => h))
        have F3 := hid (INV.out.fr.trans f3 (fun _ h _ => h))
        have OK := hid INV.out.ok
        have hdm : Disk.DM.new (min (1 : Int) 400).toNat = LogM.M [] 0 0 := rfl
        rw [hdm] at g3
        have G3 := hid g3
        have HX := hid (show ∀ k, k < w.heap.size → k < wr.heap.size from fun k hk => by omega)
        clear g3 f3 INV hdm
        generalize hX : (fun k => k < wr.heap.size) = X at *
        have hXc : X c := by rw [← hX]; exact hcl
        have HXW := hid (show ∀ k, k < w.heap.size → X k from fun k hk => by rw [← hX]; exact HX.out k hk)
        generalize wr.heap.size + 1 = d at *
        clear hX HX hcl
        generalize hlb : m.bytes = lb at *
        have HLB := hid hlb
        have hb1 : lb.length ≤ 122 := by omega
        have HBL := hid hbl
        clear hlb hbl
        have HBY := hid (fun (w' : World) (h : CRep w' c m) => HLB.out ▸ Bytes_go h OK.out)
        go_wp2_with (fail)
        refine (HBY.out w3 R3.out).mono ?_
        rintro e w4 ⟨rfl, f4⟩
        have R4 := hid (CRep.fr R3.out f4 (fun h => h))
        have G4 := hid (G.fr G3.out f4 (fun _ h => h.elim))
        have F4 := hid (F3.out.trans f4 (fun _ h _ => h))
        clear f4 R3 G3 F3
        go_wp2_with (fail)
        have hap := Append_G G4.out (LogM.ok (by simp) (by simp)) lb (by omega)
        rw [LogM.append (by simp; omega)] at hap
        refine hap.mono ?_
        rintro e w5 ⟨rfl, g5, f5⟩
        have R5 := hid (CRep.fr R4.out f5 (fun h => h hXc))
        have F5 := hid (F4.out.trans f5 (fun k hk hl => absurd (HXW.out k hl) hk))
        have g5 : G X w5 d (LogM.M lb 0 (wrap64 (0 - 1))) := g5
        generalize wrap64 (0 - 1) = a1 at *
        have hfl := Flush_G g5
        rw [LogM.flush] at hfl
        have HFL := hid hfl
        clear hap g5 f5 R4 F4 G4 hfl
        go_wp2_with (fail)
        refine HFL.out.mono ?_
        rintro e w6 ⟨rfl, g6, f6⟩
        have R6 := hid (CRep.fr R5.out f6 (fun h => h hXc))
        have F6 := hid (F5.out.trans f6 (fun k hk hl => absurd (HXW.out k hl) hk))
        have g6 : G X w6 d (LogM.M lb lb.length (wrap64 (a1 - 1))) := g6
        generalize wrap64 (a1 - 1) = a2 at *
        have G6 := hid g6
        clear HFL g6 f6 R5 F5
        go_wp2_with (fail)
        refine (HBY.out w6 R6.out).mono ?_
        rintro e w7 ⟨rfl, f7⟩
        have R7 := hid (CRep.fr R6.out f7 (fun h => h))
        have F7 := hid (F6.out.trans f7 (fun _ h _ => h))
        have hap := Append_G (G.fr G6.out f7 (fun _ h => h.elim)) (LogM.ok (by omega) (by omega)) lb (by omega)
        rw [LogM.append (by omega)] at hap
        have HAP := hid hap
        clear f7 R6 F6 G6 hap
        go_wp2_with (fail)
        refine HAP.out.mono ?_
        rintro e w8 ⟨rfl, g8, f8⟩
        have R8 := hid (CRep.fr R7.out f8 (fun h => h hXc))
        have F8 := hid (F7.out.trans f8 (fun k hk hl => absurd (HXW.out k hl) hk))
        have g8 : G X w8 d (LogM.M (lb ++ lb) lb.length (wrap64 (a2 - 1))) := g8
        generalize wrap64 (a2 - 1) = a3 at *
        have G8 := hid g8
        have HLOG : Hid (Calls Try.prog 49 #[.pointer (some ⟨d, 0, none⟩)] w8 fun e w' => e = .returned (.string (bs (lb ++ lb))) ∧ w8 = w') := hid (Log_G g8)
        have e2 := bs_size (lb ++ lb)
        rw [List.length_append] at e2
        have HE2 := hid e2
        clear HAP g8 f8 R7 F7 HBY
        have hz : (bs (lb ++ lb)).size = 2 * lb.length := by omega
        clear e2 HE2
        go_wp2_with (fail)
        refine HLOG.out.mono ?_
        rintro e w' ⟨rfl, rfl⟩
        go_wp2_with (fail)
        clear hz
        go_loopw [12, 13] (fun t i wr => ∃ (a k : Nat), a ≤ 13 ∧ i = .int .i64 a ∧ m.n + k ≤ 60 ∧ t = .int .i64 (lastOf m k : Nat) ∧ CRep wr c (m.addN k) ∧ G X wr d (LogM.M (lb ++ lb) lb.length a3) ∧ Fr (fun _ => False) w wr) (fun _ i _ => 13 - (intOf i).toNat)
        case atStart => exact ⟨0, 0, by omega, rfl, by omega, rfl, R8.out, G8.out, F8.out⟩
        case round =>
          obtain ⟨a, k, ha, rfl, hk, rfl, hc, hG, fr⟩ := hrel
          clear R8 G8 F8
          by_cases ha3 : a < r13
          · have okk := (addN_ok OK.out k hk).1
            have hbeg := Begin_go hc okk 0
            have HGG := hid hG
            have FR := hid fr
            rcases begin_more OK.out hk with ⟨hlt, e⟩ | ⟨hlt, e⟩
            · rw [e] at hbeg
              have HB := hid hbeg
              clear e hbeg hG fr hc okk
              go_wp2_with (first | (go_at_call 14; refine (R13.out _).mono ?_; rintro e w' ⟨rfl, rfl⟩))
              refine HB.out.mono ?_
              rintro e w9 ⟨rfl, h9, f9⟩
              have H9 := hid h9
              have G9 := hid (G.fr HGG.out f9 (fun k hk => hk ▸ hXc))
              have F9 := hid (FR.out.trans f9 (fun k hk hl => by omega))
              clear h9 f9 HB
              go_wp2_with (fail)
              go_roundw
              case rel => exact ⟨a + 1, k + 1, by omega, by go_num, by omega, rfl, H9.out, G9.out, F9.out⟩
              case measure => simp [intOf]; omega
            · rw [e] at hbeg
              have HB := hid hbeg
              clear e hbeg hG fr hc okk
              go_wp2_with (first | (go_at_call 14; refine (R13.out _).mono ?_; rintro e w' ⟨rfl, rfl⟩))
              refine HB.out.mono ?_
              rintro e w9 ⟨rfl, h9, f9⟩
              have H9 := hid h9
              have G9 := hid (G.fr HGG.out f9 (fun k hk => hk ▸ hXc))
              have F9 := hid (FR.out.trans f9 (fun k hk hl => by omega))
              clear h9 f9 HB
              go_wp2_with (fail)
              go_roundw
              case rel => exact ⟨a + 1, k, by omega, by go_num, by omega, rfl, H9.out, G9.out, F9.out⟩
              case measure => simp [intOf]; omega
          · have hq : QRep X wr (.slice aq q.length cq) q := by
              obtain ⟨a', c', e, hc', hr⟩ := HQ.out
              cases e
              refine ⟨aq, cq, rfl, hcq, fun hne => ?_⟩
              obtain ⟨g, o, rfl, hg, hr⟩ := hr (by intro e; apply hne; cases q with | nil => rfl | cons => simp [iv] at e)
              exact ⟨g, o, rfl, HXW.out g hg, range_fr hr fr (fun h => h)⟩
            have hcr := Crash_G hG (LogM.ok (by simp; omega) (by simp)) (by omega) hq hQl
            obtain ⟨f, hf, hf1, hf2⟩ := LogM.crash (log := lb ++ lb) (fl := lb.length) (l := a3) q (by simp)
            rw [hf] at hcr
            have HCR := hid hcr
            have HC := hid hc
            have FR := hid fr
            have htk : ((lb ++ lb).take f).take lb.length = lb := by rw [List.take_take, Nat.min_eq_left hf1, List.take_left' rfl]
            have hln : lb.length ≤ ((lb ++ lb).take f).length := by rw [List.length_take]; omega
            have hln2 : ((lb ++ lb).take f).length ≤ 1000 := by rw [List.length_take, List.length_append]; omega
            clear hq hcr hf hc fr hG
            go_wp2_with (first | (go_at_call 14; refine (R13.out _).mono ?_; rintro e w' ⟨rfl, rfl⟩))
            refine HCR.out.mono ?_
            rintro e w9 ⟨rfl, g9, f9⟩
            have H9 := hid (CRep.fr HC.out f9 (fun h => h hXc))
            have F9 := hid (FR.out.trans f9 (fun k hk hl => absurd (HXW.out k hl) hk))
            have HLOG : Hid (Calls Try.prog 49 #[.pointer (some ⟨d, 0, none⟩)] w9 fun e w' => e = .returned (.string (bs ((lb ++ lb).take f))) ∧ w9 = w') := hid (Log_G g9)
            generalize (lb ++ lb).take f = lg at *
            have hex : (bs lg).extract 0 lb.length = bs lb := by
              apply ByteArray.ext
              rw [show lb = lg.take lb.length from htk.symm]
              simp [bs]
            have e2 := bs_size lg
            have HLN := hid (show ((lb.length : Nat) : Int) ≤ (lg.length : Int) by omega)
            clear HCR g9 f9 HC FR htk hf1 hf2
            go_wp2_with (fail)
            refine HLOG.out.mono ?_
            rintro e w' ⟨rfl, rfl⟩
            go_wp2_with (fail)
            have HRD := hid (Read_go lb w9 (by omega))
            have HSELF := hid (read_self OK.out)
            rw [HLB.out] at HSELF
            have HLK := hid (like_self OK.out)
            rw [HLB.out] at HLK
            clear hex e2 HLN hln hln2 HLOG
            refine HRD.out.mono ?_
            rintro e w10 (⟨n1, rfl, f1⟩ | ⟨d1, m1, n1, rfl, hd1, hc1', f1⟩)
            · rw [HSELF.out] at n1
              cases n1
            · rw [HSELF.out] at n1
              obtain rfl := Option.some.inj n1
              have LK := HLK
              have OK1 := hid (read_ok HSELF.out)
              generalize CM.fill lb m.low m.next m.n = r0 at *
              have hd1c : d1 ≠ c := by have := Blk.lt H9.out; omega
              have hd1w : w.heap.size ≤ d1 := by have := F9.out.size; omega
              have HA1 := hid (CRep.fr H9.out f1 (fun h => h))
              have HR1 := hid hc1'
              have F10 := hid (F9.out.trans f1 (fun _ h _ => h))
              have hre := Reach_go hc1' OK1.out (lastOf m k : Nat)
              rw [reach_last OK.out LK.out hk] at hre
              have HRE := hid hre
              clear n1 hc1' f1 hre HRD HSELF HLK H9 F9
              go_wp2_with (fail)
              refine HRE.out.mono ?_
              rintro e w11 ⟨rfl, h11, f11⟩
              have LKN := hid (Like.addN OK.out LK.out k hk)
              have hkr : r0.n + k ≤ 60 := by rw [LK.out.n]; exact hk
              have OKA := hid (addN_ok OK.out k hk).1
              have OKR := hid (addN_ok OK1.out k hkr).1
              generalize m.addN k = mc at *
              generalize r0.addN k = mr at *
              have HA2 := hid (CRep.fr HA1.out f11 (fun h => hd1c h.symm))
              have HR2 := hid h11
              have F11 := hid (F10.out.trans f11 (fun k hk hl => by omega))
              clear h11 f11 HA1 HR1 F10 HRE
              have NOW1 := hid (fun (w' : World) (h : CRep w' d1 mr) => LKN.out.nx ▸ Now_go h)
              go_wp2_with (fail)
              refine (NOW1.out w11 HR2.out).mono ?_
              rintro e w' ⟨rfl, rfl⟩
              go_wp2_with (fail)
              refine (Now_go HA2.out).mono ?_
              rintro e w' ⟨rfl, rfl⟩
              go_wp2_with (fail)
              refine (Snap_go HR2.out OKR.out).mono ?_
              rintro e w12 ⟨v, rfl, row, f12⟩
              obtain ⟨la, lc, rfl, hlc⟩ := own_slice row.own
              have hll := kept_len OKR.out
              have hrun := fun (x : Value) (a : Option Addr) (n q : Nat) (w : World) => run_snap_live x a n q w
              have hdl := Blk.lt HR2.out
              have HA3 := hid (CRep.fr HA2.out f12 (fun h => h))
              have HR3 := hid (CRep.fr HR2.out f12 (fun h => h))
              have F12 := hid (F11.out.trans f12 (fun _ h _ => h))
              have HLV := hid (fun i (hi : i < mr.lives.length) => show ∃ g, la = some ⟨g, 0, none⟩ ∧ g ≠ d1 ∧ w12.cell? ⟨g, i, none⟩ = some (.int .i64 (mr.lives[i] : Nat)) by
                obtain ⟨g, rfl, hg, hr⟩ := row_cells (⟨row.own, row.new⟩ : Row 3 1 w11.heap.size w12 _ mr.lives.length (nv mr.lives)) (by intro e; have := nv_length mr.lives; rw [e] at this; simp at this; omega)
                exact ⟨g, rfl, by omega, hr i _ (by simp [nv, hi])⟩)
              clear row f12 HA2 HR2 F11 NOW1
              go_wp2_with (fail)
              go_loopw [20] (fun i wr => ∃ (a : Nat) (st : Nat → Int), a ≤ mr.lives.length ∧ i = .int .i64 a ∧ CRep wr d1 (mr.with_ st) ∧ (mr.with_ st).Ok ∧ Abo mr st a ∧ Fr (fun k => k = d1) w12 wr) (fun i _ => mr.lives.length - (intOf i).toNat)
              case atStart => exact ⟨0, mr.st, by omega, rfl, HR3.out, OKR.out, Abo.zero mr, Fr.refl _ _⟩
              case round =>
                obtain ⟨a, st, ha, rfl, hc, hok, hab, fr⟩ := hrel
                clear HR3
                by_cases hal : a < mr.lives.length
                · obtain ⟨g, rfl, hgd, hcell⟩ := HLV.out a hal
                  have hkx := mr.lives_mem OKR.out (List.getElem_mem hal)
                  have hxl : mr.lives[a]? = some (mr.lives[a]) := List.getElem?_eq_getElem hal
                  have hcell := cell_fr hcell fr hgd
                  have i1 : (0 : Int) ≤ (a : Int) := by omega
                  have i2 : (a : Int) < mr.lives.length := by omega
                  generalize mr.lives[a] = x at *
                  have hx3 := CM.knows_iff.1 hkx
                  have hst : (mr.with_ st).state (x : Int) = st x := by
                    unfold CM.state
                    rw [if_neg (by omega), if_pos (show (mr.with_ st).knows (x : Int) = true from hkx)]
                    rfl
                  have hS := State_go hc hok (x : Int)
                  rw [hst] at hS
                  have HS := hid hS
                  have HC := hid hc
                  have HOKS := hid hok
                  have FR := hid fr
                  by_cases h1 : st x = 1
                  · obtain ⟨st', he, hab'⟩ := hab.end_ hxl hkx h1
                    rw [h1] at HS
                    have HABN := hid hab'
                    have HEE := hid he
                    clear hst hS hc hok fr hab hab' he h1 hx3
                    go_wp2_with (fail)
                    refine HS.out.mono ?_
                    rintro e w13 ⟨rfl, f13⟩
                    have hcell2 := cell_fr hcell f13 (fun h => h)
                    have hE := End_go (CRep.fr HC.out f13 (fun h => h)) HOKS.out (x : Int) 3
                    have hOE := Ok_end HOKS.out (x : Int) 3
                    rw [HEE.out] at hE hOE
                    have HE := hid hE
                    have HOE := hid hOE
                    have F13 := hid (FR.out.trans f13 (fun _ h _ => h.elim))
                    clear hcell f13 hE hOE HEE HS HC FR
                    go_wp2_with (fail)
                    refine HE.out.mono ?_
                    rintro e w14 ⟨rfl, h14, f14⟩
                    have H14 := hid h14
                    have F14 := hid (F13.out.trans f14 (fun _ h _ => h))
                    clear h14 f14 HE
                    go_wp2_with (fail)
                    go_roundw
                    case rel => exact ⟨a + 1, st', by omega, by go_num, H14.out, HOE.out, HABN.out, F14.out⟩
                    case measure => simp [intOf]; omega
                  · have h1' : (st x == 1) = false := by simpa using h1
                    have HABN := hid (hab.skip (fun z hz => by rw [hxl] at hz; cases hz; exact h1))
                    clear hst hS hc hok fr hab h1 hx3
                    go_wp2_with (fail)
                    refine HS.out.mono ?_
                    rintro e w13 ⟨rfl, f13⟩
                    have H13 := hid (CRep.fr HC.out f13 (fun h => h))
                    have F13 := hid (FR.out.trans f13 (fun _ h _ => h.elim))
                    clear f13 HS HC FR
                    go_wp2_with (fail)
                    go_roundw
                    case rel => exact ⟨a + 1, st, by omega, by go_num, H13.out, HOKS.out, HABN.out, F13.out⟩
                    case measure => simp [intOf]; omega
                · obtain rfl : a = mr.lives.length := by omega
                  have HC := hid hc
                  have HOKS := hid hok
                  have HKE := hid (fun (x : Int) (hx : 3 ≤ x) => kept_end OKR.out LKN.out hab x hx)
                  have HCA := hid (CRep.fr HA3.out fr (fun h => hd1c h.symm))
                  have FZ := hid (F12.out.trans fr (fun k hk hl => by omega))
                  clear hc hok hab fr HA3 F12 HLV
                  go_wp2_with (fail)
                  obtain ⟨wo, rfl⟩ : ∃ wo : World, wo = wr := ⟨_, rfl⟩
                  go_loopw [21] (fun i wr => ∃ x : Nat, 3 ≤ x ∧ x ≤ 128 ∧ i = .int .i64 x ∧ Fr (fun _ => False) wo wr) (fun i _ => 128 - (intOf i).toNat)
                  case atStart => exact ⟨3, by omega, by omega, rfl, Fr.refl _ _⟩
                  case round =>
                    obtain ⟨x, hx1, hx2, rfl, fr⟩ := hrel
                    by_cases hx : x < 128
                    · have hcase := HKE.out (x : Int) (by omega)
                      have hS := hid (State_go (CRep.fr HCA.out fr (fun h => h)) OKA.out (x : Int))
                      have FR := hid fr
                      clear fr
                      go_wp2_with (fail)
                      refine hS.out.mono ?_
                      rintro e w15 ⟨rfl, f15⟩
                      have F15 := hid (FR.out.trans f15 (fun _ h _ => h))
                      have hT := hid (State_go (CRep.fr HC.out F15.out (fun h => h)) HOKS.out (x : Int))
                      clear f15 FR hS
                      go_wp2_with (fail)
                      refine hT.out.mono ?_
                      rintro e w16 ⟨rfl, f16⟩
                      have F16 := hid (F15.out.trans f16 (fun _ h _ => h))
                      clear f16 F15 hT
                      generalize mc.state (x : Int) = s at *
                      generalize (mr.with_ st).state (x : Int) = t at *
                      have hc4 : (s = 1 ∧ t = 3) ∨ (s = 4 ∧ t = 4) ∨ (s = 4 ∧ t = 3) ∨ ((s == 1) = false ∧ (s == 4) = false ∧ (s != 1) = true ∧ (s != 4) = true ∧ t = s) := by
                        rcases hcase with ⟨h1, h2⟩ | ⟨h1, h2 | h2⟩ | ⟨h1, h2, h3⟩
                        · exact .inl ⟨h1, h2⟩
                        · exact .inr (.inl ⟨h1, h2⟩)
                        · exact .inr (.inr (.inl ⟨h1, h2⟩))
                        · exact .inr (.inr (.inr ⟨by simpa using h1, by simpa using h2, by simpa using h1, by simpa using h2, h3.symm⟩))
                      clear hcase
                      rcases hc4 with ⟨rfl, rfl⟩ | ⟨rfl, rfl⟩ | ⟨rfl, rfl⟩ | ⟨b1, b2, b3, b4, rfl⟩
                      all_goals
                        go_wp2_with (fail)
                        go_roundw
                        case rel => exact ⟨x + 1, by omega, by omega, by go_num, F16.out⟩
                        case measure => simp [intOf]; omega
                    · go_wp2_with (fail)
                      go_ret
                      exact ⟨rfl, FZ.out.trans fr (fun _ h _ => h)⟩
      
end Go.Proofs.Ytbkebjgoaeddjaa
namespace Go.Proofs.Ytbkebjgoaeddjaa.clockKept
open Go.ChangeShapes Go.WideShapes Go.ChangeAt Go.RowKit Go.VB Go.VB.Clk
set_option maxHeartbeats 400000 in
set_option maxRecDepth 100000 in
theorem lifted (os : Os) (started : os.Started) (H : Type) (enc : TypeId × Value → H) :
    ReturnsInHanded {} Try.checked os 12 .any (Rows.clockKeptSpec.pre6 enc Try.prog Try.f12 Rows.clockKeptRow.domain false) (Rows.clockKeptSpec.post enc Try.prog Try.f12 false true false false) := by
  refine returnsInHanded_of_change (C := Try.checked) own started (by kernel_rfl) Try.func12
    (ChangeSpec.witness6 (enc := enc) (C := Try.checked) false ⟨#[], #[.slice none 0 0, .int .i64 0, .slice none 0 0], []⟩ 8 (by kernel_rfl) (by kernel_rfl) (by kernel_rfl) (by kernel_rfl)) ?_
  intro W base args ds gs before hval0 hW hcnd _
  have hval : ∀ (j : Nat) t v, Try.f12.params[j]? = some t → args[j]? = some v → Value.okWide Try.prog W .any base t v := hval0
  have hW' := hW
  obtain ⟨p, q, hA0, hV, rfl, hfz, hnd⟩ := hW
  have hA : DataW.TrodAll enc Try.prog W 0 (fun _ => true) true Try.f12.params.toList args.toList ds p := hA0
  rw [Try.params12] at hA hval
  obtain ⟨v0, vs0, d0, ds0, p0, q0, hargs, rfl, rfl, h0, r0⟩ := trodAll_cons hA
  obtain ⟨v1, vs1, d1, ds1, p1, q1, rfl, rfl, rfl, h1, r1⟩ := trodAll_cons r0
  obtain ⟨v2, vs2, d2, ds2, p2, q2, rfl, rfl, rfl, h2, r2⟩ := trodAll_cons r1
  obtain ⟨rfl, rfl, rfl⟩ := trodAll_nil r2
  obtain rfl : args = #[v0, v1, v2] := by cases args; simp_all
  obtain ⟨rfl, rfl⟩ := trodVars_none hV
  clear hA0 hval0
  refine Calls.mono (R := fun e w' => e = .returned (.bool true) ∧ Fr (fun _ => False) W w') ?_ fun e W' ⟨he, hf⟩ => ⟨_, he, post_law sound (by decide +kernel) rfl rfl (ht := Try.underlying4) (by rfl) hW' hf⟩
  obtain ⟨L, sL, lL⟩ := open_calls (hval 0 46 v0 rfl rfl) h0
  obtain ⟨a1, rfl, -, -, -⟩ := open_int Try.underlying3 (hval 1 3 v1 rfl rfl) h1
  obtain ⟨Q, sQ, lQ, -⟩ := open_ins (hval 2 26 v2 rfl rfl) h2
  exact ClockKept_walk L a1 Q W v0 v2 sL lL sQ lQ
theorem proved : Rows.ClockKeptSaid :=
  OpenClaim.holds_of_wide 12 Try.f12 rfl rfl rfl rfl rfl rfl rfl ⟨rfl, rfl, rfl, rfl, rfl⟩ rfl rfl rfl rfl rfl (by kernel_rfl) Try.func12 (by kernel_rfl)
    (of_decide_eq_true (by kernel_rfl)) (by unfold Func.isWrapper; first | (rw [if_pos (by decide +kernel)]; kernel_rfl) | (rw [if_neg (by decide +kernel)]; exact ⟨rfl, rfl⟩))
    (fun os started H enc _ => lifted os started H enc)
end Go.Proofs.Ytbkebjgoaeddjaa.clockKept
