/- Proved: for every list of numbers of a log and every list of confirmations the law SlotTaken of chapter 16 returns true, and its arguments read afterwards as before. Conditions: none beyond the given statement. -/
import Derived.Deep.CutBlock
import Derived.Test.YtiimomgbklgicaaGreatPkTkX
set_option linter.unusedVariables false
namespace Go.Proofs.YtiimomgbklgicaaGreat
open Go.RowKit Go.VB Go.VB.Oct Go.VB.Cat Go.VB.Rec Go.VB.Slt
/-- the law's state ahead of a confirmation -/
structure KS (w w5 wr : World) (s : Nat) (X : Nat → Prop) (m : Slt) (N : Nat) (q0 : List Dn) (n at_ : Int) (u : Value) (xs : List TxnV) : Prop where
  h : SH X wr s m N
  k : Tk q0 n at_ m
  a : 0 ≤ at_ ∧ at_ ≤ n
  u : TxnsS (fun k => w5.heap.size ≤ k) wr u xs
  f : Fr (fun _ => False) w wr
theorem KS.fre {w w5 wr wq : World} {s : Nat} {X : Nat → Prop} {m : Slt} {N : Nat} {q0 : List Dn} {n at_ : Int} {u : Value} {xs : List TxnV} (h : KS w w5 wr s X m N q0 n at_ u xs) (f : Fr (fun _ => False) wr wq) : KS w w5 wq s X m N q0 n at_ u xs :=
  ⟨h.h.fre f, h.k, h.a, h.u.fre f, h.f.trans f (fun _ h _ => h)⟩
set_option maxRecDepth 20000 in
set_option maxHeartbeats 8000000 in
theorem SlotTaken_walk (L K : List Int) (vL vK : Value) (w : World) (hL : Sl (fun k => k < w.heap.size) w vL L.length (L.flatMap icell)) (hI : ∀ x ∈ L, -9223372036854775808 ≤ x ∧ x ≤ 9223372036854775807) (hl : L.length ≤ 9223372036854775807) (hK : Sl (fun k => k < w.heap.size) w vK K.length (K.flatMap icell)) :
    Calls Tryz.prog 4 #[vL, vK] w fun e w' => e = .returned (.bool true) ∧ Fr (fun _ => False) w w' := by
  have HL := hid hL
  have HK := hid hK
  have HI := hid hI
  have HLL := hid hl
  obtain ⟨aL, cL, rfl, -, -⟩ := hL
  obtain ⟨aK, cK, rfl, -, -⟩ := hK
  clear hI hl
  have HS := hid (sanity_go w)
  have eb : bs [115] = ⟨#[115]⟩ := rfl
  go_enter Tryz.func4, Tryz.ntmps4
  go_upto_region 2 with (go_at_call 8; refine HS.out.mono ?_; rintro e w1 ⟨rfl, f⟩; have F1 := hid f; clear f)
  have HLG := hid (Log_go (HL.out.fr F1.out (fun _ _ h => h)) HI.out HLL.out)
  go_upto_region 3 with (go_at_call 9; refine HLG.out.mono ?_; rintro e w2 ⟨u, rs, rfl, hn, hr, hc, f⟩; obtain ⟨al, cl, rfl, hcl⟩ := hr.slice; have HLN := hid hn; have HR := hid hr; have HC := hid hc; have F2 := hid (F1.out.trans f (fun _ h _ => h)); clear hn hr hc f hcl)
  clear HLG HS HI HLL
  have HN := hid (SH.new_ [115] 0 w2)
  rw [eb] at HN
  go_upto_region 4 with (go_at_call 11; refine HN.out.mono ?_; rintro e w3 ⟨s, rfl, h0, f⟩; obtain ⟨X0, h, hx⟩ : ∃ X0 : Nat → Prop, SH X0 w3 s (newM [115] 0 []) 1 ∧ ∀ k, X0 k → w2.heap.size ≤ k := ⟨_, h0, fun k hk => hk.1⟩; clear h0; have H0 := hid h; have HX0 := hid hx; have F3 := hid f; clear h hx f)
  clear HN eb
  obtain ⟨n, hn⟩ : ∃ n, rs.length = n := ⟨_, rfl⟩
  rw [hn] at HLN HR ⊢
  have HNE := hid hn
  clear hn
  obtain ⟨M0, hM0⟩ : ∃ M0, newM [115] 0 [] = M0 := ⟨_, rfl⟩
  rw [hM0] at H0
  have HM0 := hid hM0
  clear hM0
  go_upto_block 0 with fail
  go_cut [8] (fun s8 wx => ∃ X : Nat → Prop, SH X wx s (feedsM M0 0 (rs.map RecV.r)) (n + 1) ∧ (∀ k, X k → w2.heap.size ≤ k) ∧ Fr (fun _ => False) w2 wx)
  case first =>
    go_wp2_with (fail)
    go_loopw [8] (fun s8 wr => ∃ (i : Nat) (X : Nat → Prop), i ≤ n ∧ s8 = .int .i64 i ∧ SH X wr s (feedsM M0 0 ((rs.map RecV.r).take i)) (i + 1) ∧ (∀ k, X k → w2.heap.size ≤ k) ∧ Fr (fun _ => False) w2 wr) (fun s8 _ => n - (intOf s8).toNat)
    case atStart => exact ⟨0, X0, by omega, rfl, H0.out, HX0.out, F3.out⟩
    case round =>
      obtain ⟨i, X, hi, rfl, hs, hx, hf⟩ := hrel
      have HSI := hid hs
      have HXI := hid hx
      have FI := hid hf
      clear hs hx hf H0 HX0 F3
      rename World => WK
      by_cases hin : i < n
      · have hir : i < rs.length := by rw [HNE.out]; exact hin
        obtain ⟨g, o, rfl, ry⟩ := sl_at (k := 8) (by decide) (fun _ => rfl) (show Sl (fun _ => True) w2 (.slice al n cl) rs.length (rs.flatMap RecV.cells) from by rw [HNE.out]; exact HR.out.sl' (fun _ _ => trivial)) hir
        have HRY := hid (range_fr ry FI.out (fun h => h))
        have HCI := hid (HC.out _ (List.getElem_mem hir))
        have HFT := hid (feeds_take M0 0 (l := rs.map RecV.r) (i := i) (by rw [List.length_map]; exact hir))
        rw [List.getElem_map, Int.zero_add] at HFT
        obtain ⟨r, hr⟩ : ∃ r, rs[i] = r := ⟨_, rfl⟩
        rw [hr] at HRY HCI HFT
        have HF := hid (SH.feedL HSI.out (by have := HLN.out; omega) FI.out HXI.out HCI.out ((i : Int) + 1))
        have i1 : (0 : Int) ≤ (i : Int) := by omega
        have i2 : (i : Int) < (n : Int) := by omega
        have w1 : IntKind.i64.wrap ((i : Int) + 1) = (i : Int) + 1 := IntWalk.i64_in _ (by have := HLN.out; omega)
        clear hr ry
        go_wp2_with (first
          | (refine wpList_load_mid rfl 35 (.tmp 32) rfl g (o + i * 8) rfl _ _ HRY.out Tryz.underlying35 rfl size_rec ?_)
          | (go_at_call 15; refine HF.out.mono ?_; rintro e w4 ⟨rfl, X2, h2, hx2, f2⟩; have H2 := hid h2; have HX2 := hid hx2; have F4 := hid f2; clear h2 hx2 f2))
        go_roundw
        case rel => exact ⟨i + 1, X2, by omega, by go_num, by rw [HFT.out]; exact H2.out, HX2.out, F4.out⟩
        case measure => simp [intOf]; omega
      · obtain rfl : i = n := by omega
        have i2 : ¬ ((i : Int) < (i : Int)) := by omega
        go_wp2_with (fail)
        go_meet
        exact ⟨X, by have := HSI.out; rwa [List.take_of_length_le (by rw [List.length_map, HNE.out]; exact Nat.le_refl _)] at this, HXI.out, FI.out⟩
  case rest =>
    obtain ⟨X, hs, hx, hf⟩ := hcut
    generalize wc = W4 at *
    have HS4 := hid hs
    have HX4 := hid hx
    have F4 := hid hf
    clear hs hx hf H0 HX0 F3
    have hrl : (rs.map RecV.r).length = n := by rw [List.length_map, HNE.out]
    obtain ⟨M, hM⟩ : ∃ M, feedsM M0 0 (rs.map RecV.r) = M := ⟨_, rfl⟩
    rw [hM] at HS4
    have hr0 : Rg M0 := by rw [← HM0.out]; exact Rg.new [115] 0 []
    have hl0 : M0.last = 0 := by rw [← HM0.out]; rfl
    have ha0 : M0.acked = 0 := by rw [← HM0.out]; rfl
    have hRg := Rg.feeds (rs.map RecV.r) hr0
    rw [hl0, hM, hrl, Int.zero_add, ha0] at hRg
    have HRG := hid hRg
    clear hRg hl0 ha0 hM hrl hr0 HC HR HM0
    have HQ := hid (SH.queuedAll HS4.out (by have := HLN.out; omega))
    go_upto_region 9 with (go_at_call 18; refine HQ.out.mono ?_; rintro e w5 ⟨au, cu, xs, rfl, hcu, hxs, hxl, hxc, ht, f⟩; have HCU := hid hcu; have HXS := hid hxs; have HXL := hid hxl; have HXC := hid hxc; have HT := hid ht; have F5 := hid f; clear hcu hxs hxl hxc ht f)
    have HB := hid (fun k (hk : X k) => show w2.heap.size ≤ k ∧ k < W4.heap.size from ⟨HX4.out k hk, HS4.out.lt hk⟩)
    have HW2 := hid (show w.heap.size ≤ w2.heap.size from F2.out.size)
    have K0 := hid (show KS w W4 w5 s X M (n + 1) M.queue n 0 (.slice au xs.length cu) xs from ⟨HS4.out.fre F5.out, by have h := HRG.out.1.tk; rwa [HRG.out.2.1, HRG.out.2.2] at h, ⟨by omega, by omega⟩, HT.out.s, (F2.out.trans F4.out (fun _ h _ => h)).trans F5.out (fun _ h _ => h)⟩)
    have HOW := hid (show (au = none ∧ cu = 0 ∧ xs.length = 0) ∨ ∃ g, au = some ⟨g, 0, none⟩ from by
      rcases HT.out.r.own.2 with ⟨e, -⟩ | ⟨g, cap, cur, e, -⟩
      · injection e with e1 e2 e3
        exact .inl ⟨e1, e3, e2⟩
      · injection e with e1 e2 e3
        exact .inr ⟨g, e1⟩)
    have HASC := hid HRG.out.1.asc
    have HTO := hid (show xs.map TxnV.t = M.queue.map fun d => (d.lsn, d.cs) from HXS.out)
    obtain ⟨Q, hQ⟩ : ∃ Q, xs.length = Q := ⟨_, rfl⟩
    rw [hQ] at K0 HCU HXL HOW ⊢
    have HQE := hid hQ
    have HQM := hid (show M.queue.length = Q from by have := congrArg List.length HTO.out; rw [List.length_map, List.length_map, hQ] at this; exact this.symm)
    have HLS := hid (fun (f : Nat) (h : f < xs.length) (h2 : f < M.queue.length) => show xs[f].lsn = M.queue[f].lsn from by
      have e := congrArg (fun l => l[f]?) HTO.out
      simp only [List.getElem?_map, List.getElem?_eq_getElem h, List.getElem?_eq_getElem h2, Option.map_some, Option.some.injEq] at e
      exact (Prod.mk.inj e).1)
    clear hQ HQ HS4 HX4 F4 F5 HT HXS F2 HRG HL
    go_wp2_with (fail)
    go_loopw [10, 11] (fun s10 s11 wr => ∃ (i : Nat) (at_ : Int) (m : Slt), i ≤ 20 ∧ s11 = .int .i64 i ∧ s10 = .int .i64 at_ ∧ KS w W4 wr s X m (n + 1) M.queue n at_ (.slice au Q cu) xs) (fun _ s11 _ => 20 - (intOf s11).toNat)
    case atStart => exact ⟨0, 0, M, by omega, rfl, rfl, K0.out⟩
    case round =>
      obtain ⟨i, at_, m, hi, rfl, rfl, hk⟩ := hrel
      have HKS := hid hk
      have HAT := hid hk.a
      clear hk K0
      rename World => WR
      have i0 : (0 : Int) ≤ (i : Int) := by omega
      by_cases hc : i < K.length ∧ i < 20
      · obtain ⟨hik, hi20⟩ := hc
        have i1 : (i : Int) < (K.length : Int) := by omega
        have i2 : (i : Int) < 20 := by omega
        obtain ⟨gK, oK, rfl, rK⟩ := sl_at (k := 1) (by decide) icell_len HK.out hik
        have q0 : WR.cell? ⟨gK, oK + i, none⟩ = some (.int .i64 K[i]) := cell_fr (show w.cell? ⟨gK, oK + i, none⟩ = some (.int .i64 K[i]) from by have := rK 0 (.int .i64 K[i]) rfl; simpa using this) HKS.out.f (fun h => h)
        have w1 : IntKind.i64.wrap ((n : Int) + 4) = (n : Int) + 4 := IntWalk.i64_in _ (by have := HLN.out; omega)
        have HR4 := hid (rest_any WR K[i] ((n : Int) + 4) (by omega) (by have := HLN.out; omega))
        obtain ⟨b, a, hb, hba, ha1, ha2⟩ : ∃ b a : Int, K[i] % ((n : Int) + 4) = b ∧ b - 1 = a ∧ -1 ≤ a ∧ a ≤ (n : Int) + 2 := ⟨K[i] % ((n : Int) + 4), K[i] % ((n : Int) + 4) - 1, rfl, rfl, by have := Int.emod_nonneg K[i] (show ((n : Int) + 4) ≠ 0 by omega); omega, by have := Int.emod_lt_of_pos K[i] (show (0 : Int) < (n : Int) + 4 by omega); omega⟩
        rw [hb] at HR4
        have w2 : IntKind.i64.wrap (b - 1) = a := (IntWalk.i64_in _ (by have := HLN.out; omega)).trans hba
        clear hb hba rK
        generalize K[i] = ki at *
        have HACK := hid (SH.ack HKS.out.h (by have := HLN.out; omega) a)
        obtain ⟨p, hp⟩ : ∃ p, ackM m a = p := ⟨_, rfl⟩
        obtain ⟨at2, hat⟩ : ∃ at2, (p.2 = 0 ∧ at_ ≤ a ∧ a ≤ (n : Int) ∧ at2 = a ∧ Tk M.queue n at2 p.1) ∨ (p.2 = 1 ∧ a < at_ ∧ at2 = at_ ∧ Tk M.queue n at2 p.1) ∨ (p.2 = 1 ∧ at_ ≤ a ∧ (n : Int) < a ∧ at2 = at_ ∧ Tk M.queue n at2 p.1) := by
          by_cases h1 : a < at_
          · have h := HKS.out.k.no (k := a) (.inl h1)
            rw [hp] at h
            exact ⟨at_, .inr (.inl ⟨by rw [h], h1, rfl, by rw [h]; exact HKS.out.k⟩)⟩
          · by_cases h2 : (n : Int) < a
            · have h := HKS.out.k.no (k := a) (.inr h2)
              rw [hp] at h
              exact ⟨at_, .inr (.inr ⟨by rw [h], by omega, h2, rfl, by rw [h]; exact HKS.out.k⟩)⟩
            · have h := HKS.out.k.ok (k := a) (by omega) (by omega)
              rw [hp] at h
              exact ⟨a, .inl ⟨h.1, by omega, by omega, rfl, h.2⟩⟩
        rw [hp] at HACK
        clear hp
        obtain ⟨m2, code⟩ := p
        dsimp only at hat HACK
        rcases hat with ⟨rfl, g1, g2, rfl, htk⟩ | ⟨rfl, g1, rfl, htk⟩ | ⟨rfl, g1, g2, rfl, htk⟩
        all_goals
          have HTK := hid htk
          have HA2 := hid (show 0 ≤ at2 ∧ at2 ≤ (n : Int) from by have := HAT.out; omega)
          clear htk
          go_upto_region 14 with (go_at_call 16; refine HR4.out.mono ?_; rintro e w6 ⟨rfl, rfl⟩; clear q0)
          clear HR4 w1 w2
          go_wp2_with (fail)
          refine HACK.out.mono ?_
          rintro e w7 ⟨rfl, h, f⟩
          have hu := HKS.out.u.fr f (fun k hk hX => by have := (HB.out k hX).2; omega)
          have hf := HKS.out.f.trans f (fun k hk hl => by have h1 := (HB.out k hk).1; have h2 := HW2.out; omega)
          have HK7 := hid (show KS w W4 w7 s X m2 (n + 1) M.queue n at2 (.slice au Q cu) xs from ⟨h, HTK.out, HA2.out, hu, hf⟩)
          clear h f hu hf
          clear HACK HKS HTK
          go_upto_region 17 with fail
          go_upto_region 19 with fail
          have HQ2 := hid (SH.queuedAll HK7.out.h (by have := HLN.out; omega))
          go_upto_region 20 with (go_at_call 18; refine HQ2.out.mono ?_; rintro e w8 ⟨ab, cb, ys, rfl, hcb, hys, hyl, hyc, hty, f⟩; have HYS := hid hys; have HYL := hid hyl; have HYC := hid hyc; have HTY := hid hty; have HK8 := hid (HK7.out.fre f); clear hcb hys hyl hyc hty f)
          clear HQ2 HK7
          go_upto_block 4 with fail
          go_cut [15] (fun s15 wx => ∃ f : Nat, s15 = .int .i64 f ∧ f ≤ Q ∧ (∀ j (h : j < xs.length), j < f → xs[j].lsn ≤ at2) ∧ (∀ h : f < xs.length, at2 < xs[f].lsn) ∧ KS w W4 wx s X m2 (n + 1) M.queue n at2 (.slice au Q cu) xs ∧ TxnsS (fun k => w7.heap.size ≤ k) wx (.slice ab ys.length cb) ys)
          case first =>
            go_wp2_with (fail)
            go_loopw [15] (fun s15 wr => ∃ f : Nat, s15 = .int .i64 f ∧ f ≤ Q ∧ (∀ j (h : j < xs.length), j < f → xs[j].lsn ≤ at2) ∧ KS w W4 wr s X m2 (n + 1) M.queue n at2 (.slice au Q cu) xs ∧ TxnsS (fun k => w7.heap.size ≤ k) wr (.slice ab ys.length cb) ys) (fun s15 _ => Q - (intOf s15).toNat)
            case atStart => exact ⟨0, rfl, by omega, fun j h hj => by omega, HK8.out, HTY.out.s⟩
            case round =>
              obtain ⟨f, rfl, hf, hle, hk, hy⟩ := hrel
              have HKF := hid hk
              have HYF := hid hy
              have HLE := hid hle
              clear hk hy hle HK8 HTY
              rename World => WF
              have f0 : (0 : Int) ≤ (f : Int) := by omega
              by_cases hfq : f < Q
              · have hfx : f < xs.length := by rw [HQE.out]; exact hfq
                obtain ⟨g, o, rfl, rx⟩ := sl_at (k := 2) (by decide) (fun _ => rfl) HKF.out.u.r hfx
                have q0 : WF.cell? ⟨g, o + f * 2, none⟩ = some (.int .i64 xs[f].lsn) := by have := rx 0 (.int .i64 xs[f].lsn) rfl; simpa using this
                obtain ⟨lx, hlx⟩ : ∃ l, xs[f].lsn = l := ⟨_, rfl⟩
                rw [hlx] at q0
                have HLX := hid hlx
                have f1 : (f : Int) < (Q : Int) := by omega
                have w3 : IntKind.i64.wrap ((f : Int) + 1) = (f : Int) + 1 := IntWalk.i64_in _ (by have := HXL.out; have := HLN.out; omega)
                clear hlx rx
                by_cases hc : lx ≤ at2
                · go_wp2_with (fail)
                  go_roundw
                  case rel => exact ⟨f + 1, by go_num, by omega, fun j h hj => by
                    by_cases e : j = f
                    · subst e; rw [HLX.out]; exact hc
                    · exact HLE.out j h (by omega), HKF.out, HYF.out⟩
                  case measure => simp [intOf]; omega
                · have HC := hid hc
                  go_wp2_with (fail)
                  go_meet
                  exact ⟨f, rfl, hf, HLE.out, fun h => by rw [HLX.out]; have := HC.out; omega, HKF.out, HYF.out⟩
              · obtain rfl : f = Q := by omega
                have f1 : ¬ ((f : Int) < (f : Int)) := by omega
                go_wp2_with (fail)
                go_meet
                exact ⟨f, rfl, Nat.le_refl _, HLE.out, fun h => by rw [HQE.out] at h; omega, HKF.out, HYF.out⟩
          case rest =>
            obtain ⟨f, rfl, hf, hle, hgt, hk, hy⟩ := hcut
            generalize wc = WC at *
            have HKC := hid hk
            have HYCC := hid hy
            have HFQ := hid hf
            have hto := hk.k.told HASC.out f (by rw [HQM.out]; exact hf) (fun j h hj => by rw [← HLS.out j (by rw [HQE.out, ← HQM.out]; exact h) h]; exact hle j _ hj) (fun h => by rw [← HLS.out f (by rw [HQE.out, ← HQM.out]; exact h) h]; exact hgt _)
            have HEQ := hid (show ys.map TxnV.t = (xs.drop f).map TxnV.t from by rw [HYS.out, hto, List.map_drop, HTO.out])
            clear hk hy hle hgt hto HK8 HTY
            have HSA := hid (fun (W : World) (v : Value) (f1 : Fr (fun _ => False) WC W) (h : TxnsS (fun _ => True) W v (xs.drop f)) => Same_go (HYCC.out.fre f1) h HEQ.out (by have := HYL.out; have := HLN.out; omega) (fun y hy => by have := HYC.out y hy; have := HLN.out; omega))
            have HAK := hid (fun (W : World) (f1 : Fr (fun _ => False) WC W) => SH.acked (HKC.out.h.fre f1))
            rw [HKC.out.k.ack] at HAK
            have w3 : IntKind.i64.wrap ((i : Int) + 1) = (i : Int) + 1 := IntWalk.i64_in _ (by omega)
            have f0 : (0 : Int) ≤ (f : Int) := by omega
            have f1 : (f : Int) ≤ (Q : Int) := by omega
            have f2 : (Q : Int) ≤ (cu : Int) := by have := HCU.out; omega
            have f3 : (f : Int) ≤ (cu : Int) := by omega
            rcases HOW.out with ⟨rfl, rfl, h0⟩ | ⟨g, rfl⟩
            · have hf0 : f = 0 := by omega
              subst h0
              subst hf0
              have HXN := hid (show xs.drop 0 = [] from by rw [List.drop_zero]; exact List.eq_nil_of_length_eq_zero HQE.out)
              go_wp2_with (fail)
              refine (HSA.out _ _ (Fr.refl _ _) (by rw [HXN.out]; exact ⟨⟨none, 0, rfl, Nat.le_refl _, fun h => absurd rfl h⟩, fun x hx => by simp at hx⟩)).mono ?_
              rintro e v9 ⟨rfl, f9⟩
              have G9 := hid f9
              clear f9
              go_wp2_with (go_at_call 24; refine (HAK.out _ G9.out).mono ?_; rintro e v10 ⟨rfl, rfl⟩)
              go_roundw
              case rel => exact ⟨i + 1, at2, m2, by omega, by go_num, rfl, HKC.out.fre G9.out⟩
              case measure => simp [intOf]; omega
            · have HTS := hid (show TxnsS (fun _ => True) WC (.slice (if cu = f then some ⟨g, 0, none⟩ else some ⟨g, f * 2, none⟩) (Q - f) (cu - f)) (xs.drop f) from by
                refine ⟨?_, fun x hx => ⟨(HKC.out.u.t x (List.mem_of_mem_drop hx)).r.mono (fun _ _ => trivial), fun c hc => ((HKC.out.u.t x (List.mem_of_mem_drop hx)).c c hc).mono (fun _ _ => trivial)⟩⟩
                split
                · rename_i hce
                  have h0 : xs.drop f = [] := List.drop_eq_nil_of_le (by rw [HQE.out]; have := HCU.out; omega)
                  rw [h0]
                  exact ⟨_, cu - f, by rw [show Q - f = 0 from by have := HCU.out; omega]; rfl, Nat.zero_le _, fun h => absurd rfl h⟩
                · have := sl_drop (k := 2) (fun _ => rfl) (HKC.out.u.r.mono (R' := fun _ => True) (fun _ _ => trivial)) (a := f) (by rw [HQE.out]; exact HFQ.out)
                  rwa [Nat.zero_add] at this)
              by_cases hcf : cu = f
              · rw [if_pos hcf] at HTS
                subst hcf
                rw [Nat.sub_self] at HTS
                go_wp2_with (fail)
                refine (HSA.out _ _ (Fr.refl _ _) HTS.out).mono ?_
                rintro e w9 ⟨rfl, f9⟩
                have F9 := hid f9
                clear f9
                go_wp2_with (go_at_call 24; refine (HAK.out _ F9.out).mono ?_; rintro e w10 ⟨rfl, rfl⟩)
                go_roundw
                case rel => exact ⟨i + 1, at2, m2, by omega, by go_num, rfl, HKC.out.fre F9.out⟩
                case measure => simp [intOf]; omega
              · rw [if_neg hcf] at HTS
                go_wp2_with (fail)
                refine (HSA.out _ _ (Fr.refl _ _) HTS.out).mono ?_
                rintro e w9 ⟨rfl, f9⟩
                have F9 := hid f9
                clear f9
                go_wp2_with (go_at_call 24; refine (HAK.out _ F9.out).mono ?_; rintro e w10 ⟨rfl, rfl⟩)
                go_roundw
                case rel => exact ⟨i + 1, at2, m2, by omega, by go_num, rfl, HKC.out.fre F9.out⟩
                case measure => simp [intOf]; omega
      · have HZ := hid HKS.out.f
        by_cases hc2 : i < K.length
        · have i1 : (i : Int) < (K.length : Int) := by omega
          have i2 : ¬ (i : Int) < 20 := by omega
          go_wp2_with (fail)
          go_ret
          exact ⟨rfl, HZ.out⟩
        · have i1 : ¬ (i : Int) < (K.length : Int) := by omega
          go_wp2_with (fail)
          go_ret
          exact ⟨rfl, HZ.out⟩
end Go.Proofs.YtiimomgbklgicaaGreat
namespace Go.Proofs.YtiimomgbklgicaaGreat.slotTaken
open Go.ChangeShapes Go.WideShapes Go.ChangeAt Go.RowKit Go.VB
set_option maxHeartbeats 400000 in
set_option maxRecDepth 100000 in
theorem lifted (os : Os) (started : os.Started) (H : Type) (enc : TypeId × Value → H) :
    ReturnsInHanded {} Tryz.checked os 4 .any (Rows.slotTakenSpec.pre6 enc Tryz.prog Tryz.f4 Rows.slotTakenRow.domain false) (Rows.slotTakenSpec.post enc Tryz.prog Tryz.f4 false true false false) := by
  refine returnsInHanded_of_change (C := Tryz.checked) own started (by kernel_rfl) Tryz.func4
    (ChangeSpec.witness6 (enc := enc) (C := Tryz.checked) false ⟨#[], #[.slice none 0 0, .slice none 0 0], []⟩ 8 (by kernel_rfl) (by kernel_rfl) (by kernel_rfl) (by kernel_rfl)) ?_
  intro W base args ds gs before hval0 hW hcnd _
  have hval : ∀ (j : Nat) t v, Tryz.f4.params[j]? = some t → args[j]? = some v → Value.okWide Tryz.prog W .any base t v := hval0
  have hW' := hW
  obtain ⟨p, q, hA0, hV, rfl, hfz, hnd⟩ := hW
  have hA : DataW.TrodAll enc Tryz.prog W 0 (fun _ => true) true Tryz.f4.params.toList args.toList ds p := hA0
  rw [Tryz.params4] at hA hval
  obtain ⟨v0, vs0, d0, ds0, p0, q0, hargs, rfl, rfl, h0, r0⟩ := trodAll_cons hA
  obtain ⟨v1, vs1, d1, ds1, p1, q1, rfl, rfl, rfl, h1, r1⟩ := trodAll_cons r0
  obtain ⟨rfl, rfl, rfl⟩ := trodAll_nil r1
  obtain rfl : args = #[v0, v1] := by cases args; simp_all
  obtain ⟨rfl, rfl⟩ := trodVars_none hV
  clear hA0 hval0
  refine Calls.mono (R := fun e w' => e = .returned (.bool true) ∧ Fr (fun _ => False) W w') ?_ fun e W' ⟨he, hf⟩ => ⟨_, he, post_law sound (by decide +kernel) rfl rfl (ht := Tryz.underlying4) (by rfl) hW' hf⟩
  obtain ⟨q, hq, hqi, hql⟩ := open_sl Tryz.underlying22 (k := 1) (by kernel_rfl) (by omega) (hval 0 22 v0 rfl rfl) h0 (fun x => [Value.int .i64 x]) (fun x => (Lit.int .i64 x).wf = true) (fun _ => rfl) (fun fuel cs r _ h => by obtain ⟨x, h1, h2⟩ := elem_int Tryz.underlying3 fuel cs r h; exact ⟨x, h1, h2⟩)
  obtain ⟨K, hK, -, -⟩ := open_sl Tryz.underlying22 (k := 1) (by kernel_rfl) (by omega) (hval 1 22 v1 rfl rfl) h1 (fun x => [Value.int .i64 x]) (fun x => True) (fun _ => rfl) (fun fuel cs r _ h => by obtain ⟨x, h1, _⟩ := elem_int Tryz.underlying3 fuel cs r h; exact ⟨x, h1, trivial⟩)
  exact SlotTaken_walk q K v0 v1 W hq (fun x hx => i64_wf (hqi x hx)) hql hK
theorem proved : Rows.SlotTakenSaid :=
  OpenClaim.holds_of_wide 4 Tryz.f4 rfl rfl rfl rfl rfl rfl rfl ⟨rfl, rfl, rfl, rfl, rfl⟩ rfl rfl rfl rfl rfl (by kernel_rfl) Tryz.func4 (by kernel_rfl)
    (of_decide_eq_true (by kernel_rfl)) (by unfold Func.isWrapper; first | (rw [if_pos (by decide +kernel)]; kernel_rfl) | (rw [if_neg (by decide +kernel)]; exact ⟨rfl, rfl⟩))
    (fun os started H enc _ => lifted os started H enc)
end Go.Proofs.YtiimomgbklgicaaGreat.slotTaken
