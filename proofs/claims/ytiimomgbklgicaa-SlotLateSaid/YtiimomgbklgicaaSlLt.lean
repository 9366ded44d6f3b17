/- Proved: for every list of numbers of changes and every place of the second slot's creation the law SlotLate of chapter 16 returns true, and its arguments read afterwards as before. Conditions: none beyond the given statement. -/
import Derived.Test.YtiimomgbklgicaaSlLtM
set_option linter.unusedVariables false
namespace Go.Proofs.Ytiimomgbklgicaa
open Go.RowKit Go.VB Go.VB.Oct Go.VB.Cat Go.VB.Rec Go.VB.Slt
theorem size_rec8 : (Try.prog.info? 35).map (·.size) = some 8 := by kernel_rfl
/-- the second slot: none yet, or one that was begun when 'ahead' transactions were told -/
def LB (w W : World) (Xa : Nat → Prop) (sp sah : Value) (x : Int) (j : Nat) (lsn : Int) (q : List (Int × List Chg)) (N : Nat) : Prop :=
  (sp = .pointer none ∧ sah = .int .i64 0) ∨ ∃ (sb : Nat) (Xb : Nat → Prop) (mb : Slt) (Nb ahead : Nat), sp = .pointer (some ⟨sb, 0, none⟩) ∧ sah = .int .i64 (ahead : Int) ∧ SH Xb W sb mb Nb ∧ Nb ≤ N ∧ (∀ k, Xb k → w.heap.size ≤ k) ∧ (∀ k, Xa k → ¬ Xb k) ∧ Lt x j lsn (q.drop ahead) mb ∧ ahead ≤ q.length
/-- the first slot -/
structure LA (w W : World) (sa : Nat) (Xa : Nat → Prop) (x : Int) (j : Nat) (lsn : Int) (q : List (Int × List Chg)) (ma : Slt) (N : Nat) : Prop where
  h : SH Xa W sa ma N
  ge : ∀ k, Xa k → w.heap.size ≤ k
  n1 : 1 ≤ N
  l : Lt x j lsn q ma
  f : Fr (fun _ => False) w W
theorem LA.fre {w W W' : World} {sa : Nat} {Xa : Nat → Prop} {x : Int} {j : Nat} {lsn : Int} {q : List (Int × List Chg)} {ma : Slt} {N : Nat} (h : LA w W sa Xa x j lsn q ma N) (f : Fr (fun _ => False) W W') : LA w W' sa Xa x j lsn q ma N := ⟨h.h.fre f, h.ge, h.n1, h.l, h.f.trans f (fun _ h _ => h)⟩
theorem LB.fre {w W W' : World} {Xa : Nat → Prop} {sp sah : Value} {x : Int} {j : Nat} {lsn : Int} {q : List (Int × List Chg)} {N : Nat} (h : LB w W Xa sp sah x j lsn q N) (f : Fr (fun _ => False) W W') : LB w W' Xa sp sah x j lsn q N := by
  rcases h with h | ⟨sb, Xb, mb, Nb, ahead, h1, h2, h3, h4, h5, h6, h7, h8⟩
  · exact .inl h
  · exact .inr ⟨sb, Xb, mb, Nb, ahead, h1, h2, h3.fre f, h4, h5, h6, h7, h8⟩
theorem LB.fresh {w W : World} {Xa : Nat → Prop} {sp sah : Value} {x lsn : Int} {q : List (Int × List Chg)} {N : Nat} (h : LB w W Xa sp sah x 0 lsn q N) (y : Int) : LB w W Xa sp sah y 0 lsn q N := by
  rcases h with h | ⟨sb, Xb, mb, Nb, ahead, h1, h2, h3, h4, h5, h6, h7, h8⟩
  · exact .inl h
  · exact .inr ⟨sb, Xb, mb, Nb, ahead, h1, h2, h3, h4, h5, h6, h7.fresh, h8⟩
theorem flat_drop2 {α : Type} {k : Nat} {f : α → List Value} (hf : ∀ x, (f x).length = k) : ∀ (l : List α) (a : Nat), (l.drop a).flatMap f = (l.flatMap f).drop (a * k)
  | l, 0 => by simp
  | [], a + 1 => by simp
  | x :: l, a + 1 => by
    rw [List.drop_succ_cons, flat_drop2 hf l a, List.flatMap_cons, Nat.succ_mul, Nat.add_comm (a * k) k, ← List.drop_drop, List.drop_left' (hf x)]
theorem sl_drop {α : Type} {k n g o c : Nat} {R : Nat → Prop} {w : World} {l : List α} {f : α → List Value} (hf : ∀ x, (f x).length = k) (h : Sl R w (.slice (some ⟨g, o, none⟩) n c) l.length (l.flatMap f)) {a : Nat} (ha : a ≤ l.length) : Sl R w (.slice (some ⟨g, o + a * k, none⟩) (n - a) (c - a)) (l.drop a).length ((l.drop a).flatMap f) := by
  obtain ⟨a', c', e, hc, hx⟩ := h
  injection e with e1 e2 e3
  subst e1 e2 e3
  refine ⟨some ⟨g, o + a * k, none⟩, c - a, by rw [List.length_drop], by rw [List.length_drop]; omega, fun hne => ?_⟩
  rw [flat_drop2 hf] at hne ⊢
  obtain ⟨g', o', e, hR, hr⟩ := hx (fun e => hne (by rw [e]; exact List.drop_nil))
  injection e with e
  injection e with e1 e2
  subst e1 e2
  refine ⟨g, o + a * k, rfl, hR, fun j u hu => ?_⟩
  rw [List.getElem?_drop] at hu
  have := hr _ u hu
  rwa [← Nat.add_assoc] at this
theorem drop_app {α : Type} {q r : List α} {n : Nat} (h : n ≤ q.length) : (q ++ r).drop n = q.drop n ++ r := by rw [List.drop_append_of_le_length h]
set_option maxRecDepth 20000 in
set_option maxHeartbeats 16000000 in
theorem SlotLate_walk (L : List Int) (from_ : Int) (vL : Value) (w : World) (hL : Sl (fun k => k < w.heap.size) w vL L.length (L.flatMap icell)) :
    Calls Try.prog 3 #[vL, .int .i64 from_] w fun e w' => e = .returned (.bool true) ∧ Fr (fun _ => False) w w' := by
  have HL := hid hL
  obtain ⟨aL, cL, rfl, -, -⟩ := hL
  have HS := hid (sanity_go w)
  have eb : bs [97] = ⟨#[97]⟩ := rfl
  go_enter Try.func3, Try.ntmps3
  go_upto_region 2 with (go_at_call 8; refine HS.out.mono ?_; rintro e w1 ⟨rfl, f⟩; have F1 := hid f; clear f)
  have HN := hid (SH.new_ [97] 0 w1)
  rw [eb] at HN
  obtain ⟨kk, hkk, hkk2⟩ : ∃ kk : Nat, from_ % 31 = (kk : Int) ∧ kk ≤ 30 := ⟨(from_ % 31).toNat, by omega, by omega⟩
  have HR0 := hid (fun W => rest_any W from_ 31 (by omega) (by omega))
  rw [hkk] at HR0
  clear hkk eb
  go_upto_block 0 with (first
    | (go_at_call 9; refine HN.out.mono ?_; rintro e w2 ⟨sa, rfl, h, f⟩; obtain ⟨X0, h, hx⟩ : ∃ X0 : Nat → Prop, SH X0 w2 sa (newM [97] 0 []) 1 ∧ ∀ k, X0 k → w.heap.size ≤ k := ⟨_, h, fun k hk => Nat.le_trans F1.out.size hk.1⟩; have A0 := hid (show LA w w2 sa X0 0 0 0 [] (newM [97] 0 []) 1 from ⟨h, hx, Nat.le_refl _, Lt.new _ _ _, F1.out.trans f (fun _ h _ => h)⟩); clear h hx f)
    | (go_at_call 10; refine (HR0.out _).mono ?_; rintro e w3 ⟨rfl, rfl⟩))
  clear HN HS F1 HR0
  go_cut [9, 10] (fun s9 s10 wx => ∃ (i : Nat) (x lsn : Int) (q : List (Int × List Chg)) (Xa : Nat → Prop) (ma : Slt) (N : Nat), i ≤ 30 ∧ q.length ≤ i ∧ N ≤ 1 + 7 * i ∧ LA w wx sa Xa x 0 lsn q ma N ∧ LB w wx Xa s9 s10 x 0 lsn q N)
  case first =>
    go_wp2_with (fail)
    go_loopw [7, 9, 10, 11] (fun s7 s9 s10 s11 wr => ∃ (i : Nat) (x lsn : Int) (q : List (Int × List Chg)) (Xa : Nat → Prop) (ma : Slt) (N : Nat), i ≤ 30 ∧ s11 = .int .i64 i ∧ s7 = .int .i64 lsn ∧ 0 ≤ lsn ∧ lsn ≤ 7 * i ∧ q.length ≤ i ∧ N ≤ 1 + 7 * i ∧ LA w wr sa Xa x 0 lsn q ma N ∧ LB w wr Xa s9 s10 x 0 lsn q N) (fun _ _ _ s11 _ => 30 - (intOf s11).toNat)
    case atStart => exact ⟨0, 0, 0, [], X0, _, 1, by omega, rfl, rfl, by omega, by omega, Nat.le_refl _, by omega, A0.out, .inl ⟨rfl, rfl⟩⟩
    case round =>
      obtain ⟨i, x, lsn, q, Xa, ma, N, hi, rfl, rfl, hl0, hl7, hql, hN, ha, hb⟩ := hrel
      have HA := hid ha
      have HB := hid hb
      have HQL := hid hql
      have HNN := hid hN
      clear ha hb hql hN A0
      rename World => WR
      by_cases hc : i < L.length ∧ i < 30
      · obtain ⟨hil, hi3⟩ := hc
        have i1 : (i : Int) < (L.length : Int) := by omega
        have i2 : (i : Int) < 30 := by omega
        have i3 : (0 : Int) ≤ (i : Int) := by omega
        obtain ⟨g, o, rfl, rl⟩ := sl_at (k := 1) (by decide) icell_len HL.out hil
        have HQ0 := hid (show w.cell? ⟨g, o + i, none⟩ = some (.int .i64 L[i]) from by have := rl 0 (.int .i64 L[i]) rfl; simpa using this)
        obtain ⟨n, hn1, hn2⟩ : ∃ n : Nat, L[i] % 6 = (n : Int) ∧ n ≤ 5 := ⟨(L[i] % 6).toNat, by omega, by omega⟩
        have HRL := hid (fun W => rest_any W L[i] 6 (by omega) (by omega))
        rw [hn1] at HRL
        clear hn1 rl
        generalize L[i] = li at *
        go_upto_if 32 with fail
        go_cut [9, 10] (fun s9 s10 wx => ∃ y : Int, LA w wx sa Xa y 0 lsn q ma N ∧ LB w wx Xa s9 s10 y 0 lsn q N)
        case first =>
          by_cases hik : i = kk
          · have b1 : ((i : Int) == (kk : Int)) = true := by simp [hik]
            have HNB := hid (SH.new_ [98] lsn WR)
            have eb : bs [98] = ⟨#[98]⟩ := rfl
            rw [eb, show max lsn 0 = lsn from by omega] at HNB
            have HQA := hid (fun W (f : Fr (fun _ => False) WR W) => SH.queued (HA.out.h.fre f) (by have := HNN.out; omega) 1000)
            have HTK := hid (show ma.told.take (qn 1000 ma.queue.length) = q from by
              have h1 := HA.out.l.told
              have h2 : ma.queue.length = q.length := by rw [← h1]; unfold Slt.told; rw [List.length_map]
              have h3 : qn 1000 ma.queue.length = q.length := by rw [h2]; have := HQL.out; unfold qn; omega
              rw [h3, h1, List.take_length])
            rw [HTK.out] at HQA
            clear hik
            go_wp2_with (first
              | (go_at_call 9; refine HNB.out.mono ?_; rintro e w2 ⟨sb, rfl, h, f⟩; obtain ⟨Xb, h, hx⟩ : ∃ X0 : Nat → Prop, SH X0 w2 sb (newM [98] lsn []) 1 ∧ ∀ k, X0 k → WR.heap.size ≤ k := ⟨_, h, fun k hk => hk.1⟩; have HHB := hid h; have HXB := hid hx; have FB := hid f; clear h hx f)
              | (go_at_call 11; refine (HQA.out _ FB.out).mono ?_; rintro e w5 ⟨u, xs, rfl, hx, ht, f⟩; obtain ⟨au, cu, eu, -⟩ := ht.r.slice; have hxl : xs.length = q.length := (by have h1 := congrArg List.length hx; rwa [List.length_map] at h1); rw [hxl] at eu; subst eu; have FQ := hid f; clear hx ht f hxl))
            go_meet
            have f := FB.out.trans FQ.out (fun _ h _ => h)
            exact ⟨x, HA.out.fre f, .inr ⟨sb, Xb, _, 1, q.length, rfl, rfl, HHB.out.fre FQ.out, HA.out.n1, fun k hk => Nat.le_trans HA.out.f.size (HXB.out k hk), fun k hk hb => by have h1 := HA.out.h.lt hk; have h2 := HXB.out k hb; omega, by rw [List.drop_length]; exact Lt.new _ _ _, Nat.le_refl _⟩⟩
          · have b1 : ((i : Int) == (kk : Int)) = false := beq_eq_false_iff_ne.2 (by omega)
            clear hik
            go_wp2_with (fail)
            go_meet
            exact ⟨x, HA.out, HB.out⟩
        case rest =>
          obtain ⟨y, ha, hb⟩ := hcut
          generalize wc = WB at *
          obtain ⟨r, hmod, hr0, hr8⟩ : ∃ r : Int, (i : Int).tmod 9 = r ∧ 0 ≤ r ∧ r ≤ 8 := ⟨(i : Int) % 9, Int.tmod_eq_emod_of_nonneg i3, by omega, by omega⟩
          have HA2 := hid (show LA w WB sa Xa (3 + r) 0 lsn q ma N from ⟨ha.h, ha.ge, ha.n1, ha.l.fresh, ha.f⟩)
          have HB2 := hid (hb.fresh (3 + r))
          clear ha hb HA HB
          have q0 := cell_fr HQ0.out HA2.out.f (fun h => h)
          have w9 : IntKind.i64.wrap (3 + r) = 3 + r := IntWalk.i64_in _ (by omega)
          have HI64 := hid (show I64 (3 + r) from ⟨by omega, by omega⟩)
          go_upto_block 2 with (go_at_call 10; refine (HRL.out _).mono ?_; rintro e w3 ⟨rfl, rfl⟩)
          clear q0 HRL
          go_wp2_with (fail)
          go_loopw [7, 13] (fun s7 s13 wr => ∃ (j jj : Nat) (qq : List (Int × List Chg)) (Xa : Nat → Prop) (ma : Slt) (N' : Nat), j ≤ n + 1 ∧ s13 = .int .i64 j ∧ s7 = .int .i64 (lsn + (j : Int)) ∧ (j ≤ n ∧ jj = j ∧ qq = q ∨ j = n + 1 ∧ jj = 0 ∧ qq.length ≤ q.length + 1) ∧ N' ≤ N + j ∧ LA w wr sa Xa (3 + r) jj (lsn + (j : Int)) qq ma N' ∧ LB w wr Xa u9 u10 (3 + r) jj (lsn + (j : Int)) qq N') (fun _ s13 _ => n + 1 - (intOf s13).toNat)
          case atStart => exact ⟨0, 0, q, Xa, ma, N, by omega, rfl, by simp, .inl ⟨by omega, rfl, rfl⟩, by omega, by simpa using HA2.out, by simpa using HB2.out⟩
          case round =>
            obtain ⟨j, jj, qq, Xa, ma, N', hj, rfl, rfl, hjj, hn', ha, hb⟩ := hrel
            have HA3 := hid ha
            have HB3 := hid hb
            have HN3 := hid hn'
            clear ha hb hn' HA2 HB2
            rename World => WK
            by_cases hjn : j ≤ n
            · obtain ⟨rfl, rfl⟩ : jj = j ∧ qq = q := by
                rcases hjj with h | h
                · exact h.2
                · omega
              clear hjj
              have j1 : (jj : Int) ≤ (n : Int) := by omega
              have fa := ((Fr.refl (fun _ => False) WK).alloc (.cells #[.int .i64 1, .int .i64 jj, .string ⟨#[]⟩] 30)).alloc (.cells #[.int .i64 2, .int .i64 (3 + r), .int .i64 0, .slice none 0 0, .slice (some ⟨WK.heap.size, 0, none⟩) 1 1, .slice none 0 0, .slice none 0 0, .string ⟨#[]⟩] 35)
              have BG := hid ((Blk.new WK [.int .i64 1, .int .i64 jj, .string ⟨#[]⟩] 30).alloc (.cells #[.int .i64 2, .int .i64 (3 + r), .int .i64 0, .slice none 0 0, .slice (some ⟨WK.heap.size, 0, none⟩) 1 1, .slice none 0 0, .slice none 0 0, .string ⟨#[]⟩] 35))
              have BR := hid (Blk.new (WK.alloc (.cells #[.int .i64 1, .int .i64 jj, .string ⟨#[]⟩] 30)) [.int .i64 2, .int .i64 (3 + r), .int .i64 0, .slice none 0 0, .slice (some ⟨WK.heap.size, 0, none⟩) 1 1, .slice none 0 0, .slice none 0 0, .string ⟨#[]⟩] 35)
              simp only [World.size_alloc] at BR
              have FA := hid fa
              have HGE := hid (Nat.le_refl WK.heap.size)
              clear fa
              go_upto_region 18 with fail
              obtain ⟨g', hg'⟩ : ∃ g', g' = WK.heap.size := ⟨_, rfl⟩
              rw [← hg'] at BG BR HGE FA ⊢
              have HG := hid hg'
              clear hg'
              generalize (WK.alloc _).alloc _ = W5 at *
              go_upto_if 57 with fail
              go_cut [58] (fun s58 wx => ∃ kd : Int, (jj < n ∧ kd = 2 ∨ jj = n ∧ kd = 5) ∧ Blk wx (g' + 1) [.int .i64 kd, .int .i64 (3 + r), .int .i64 0, .slice none 0 0, .slice (some ⟨g', 0, none⟩) 1 1, .slice none 0 0, .slice none 0 0, .string ⟨#[]⟩] 35 ∧ Blk wx g' [.int .i64 1, .int .i64 jj, .string ⟨#[]⟩] 30 ∧ Fr (fun _ => False) WK wx)
              case first =>
                by_cases hje : jj = n
                · have b1 : ((jj : Int) == (n : Int)) = true := by simp [hje]
                  have HJE := hid hje
                  clear hje
                  have k0 : W5.cell? ⟨g' + 1, 0, none⟩ = some (.int .i64 2) := BR.out.cell 0
                  have z0 : W5.frozen? ⟨g' + 1, 0, none⟩ = false := BR.out.frozen 0
                  go_wp2_with (fail)
                  go_meet
                  exact ⟨5, .inr ⟨HJE.out, rfl⟩, BR.out.set 0 (.int .i64 5), BG.out.set_ne _ _ (show g' ≠ g' + 1 by omega), FA.out.setCell ⟨g' + 1, 0, none⟩ (.int .i64 5) (fun h => by have := HG.out; have h : g' + 1 < WK.heap.size := h; omega)⟩
                · have b1 : ((jj : Int) == (n : Int)) = false := beq_eq_false_iff_ne.2 (by omega)
                  have HJE := hid hje
                  clear hje
                  go_wp2_with (fail)
                  go_meet
                  exact ⟨2, .inl ⟨by have := HJE.out; omega, rfl⟩, BR.out, BG.out, FA.out⟩
              case rest =>
                obtain ⟨kd, hkd, hbr, hbg, hf⟩ := hcut
                generalize wc = W6 at *
                have HKD := hid hkd
                have HBR := hid hbr
                have HBG := hid hbg
                have HA5 := hid (HA3.out.fre hf)
                have HXA := hid (fun k (hk : Xa k) => show k < g' from by have := HA3.out.h.lt hk; have := HG.out; omega)
                have HXB := hid (show ∀ (sb : Nat) (Xb : Nat → Prop) (mb : Slt) (Nb : Nat), SH Xb WK sb mb Nb → ∀ k, Xb k → k < g' from fun sb Xb mb Nb h k hk => by have := h.lt hk; have := HG.out; omega)
                have HF6 := hid hf
                clear hkd hbr hbg hf FA HA3 BG BR
                have HRG := hid HBR.out.all
                have w1 : IntKind.i64.wrap (lsn + (jj : Int) + 1) = lsn + (jj : Int) + 1 := IntWalk.i64_in _ (by omega)
                have w2 : IntKind.i64.wrap ((jj : Int) + 1) = (jj : Int) + 1 := IntWalk.i64_in _ (by omega)
                have HF := hid (SH.feedAt HA5.out.h (by have := HN3.out; have := HNN.out; omega) HBG.out (fun hx => by have := HXA.out _ hx; omega) (lsn + (jj : Int) + 1) kd (3 + r) HI64.out)
                go_upto_region 22 with (first
                  | (refine wpList_load_mid rfl 35 (.tmp 14) rfl (g' + 1) 0 rfl _ _ HRG.out Try.underlying35 rfl size_rec8 ?_)
                  | (go_at_call 12; refine HF.out.mono ?_; rintro e w6 ⟨rfl, X2, h2, hx2, f2⟩; have HH6 := hid h2; have HX6 := hid hx2; have F6 := hid f2; clear h2 hx2 f2))
                clear HF HRG
                have HBR6 := hid (Blk.fr HBR.out F6.out (fun hx => by have := HXA.out _ hx; omega))
                have HBG6 := hid (Blk.fr HBG.out F6.out (fun hx => by have := HXA.out _ hx; omega))
                have HFA := hid (HA5.out.f.trans F6.out (fun k hk hl => by have := HA5.out.ge k hk; omega))
                have HGA := hid (fun k (hk : X2 k) => (HX6.out k hk).elim (HA5.out.ge k) (fun h => Nat.le_trans HA5.out.f.size h))
                have HLA := hid (show (jj < n ∧ Lt (3 + r) (jj + 1) (lsn + (jj : Int) + 1) qq (feedM ma (lsn + (jj : Int) + 1) ⟨kd, (3 + r), 0, [], [⟨1, (jj : Int), []⟩], [], []⟩)) ∨ (jj = n ∧ Lt (3 + r) 0 (lsn + (jj : Int) + 1) (qq ++ ltQ n (lsn + (jj : Int) + 1)) (feedM ma (lsn + (jj : Int) + 1) ⟨kd, (3 + r), 0, [], [⟨1, (jj : Int), []⟩], [], []⟩)) from by
                  rcases HKD.out with ⟨h1, rfl⟩ | ⟨h1, rfl⟩
                  · exact .inl ⟨h1, HA5.out.l.step⟩
                  · have := HA5.out.l.commit HA5.out.h.ok (3 + r) (jj : Int)
                    rw [h1] at this ⊢
                    exact .inr ⟨rfl, this⟩)
                rcases HB3.out with ⟨rfl, rfl⟩ | ⟨sb, Xb, mb, Nb, ahead, rfl, rfl, hb1, hb2, hb3, hb4, hb5, hb6⟩
                · go_wp2_with (fail)
                  go_roundw
                  case rel =>
                    rcases HLA.out with ⟨h1, h2⟩ | ⟨h1, h2⟩
                    · exact ⟨jj + 1, jj + 1, qq, X2, _, N' + 1, by omega, by go_num, by congr 1; push_cast; omega, .inl ⟨by omega, rfl, rfl⟩, by have := HN3.out; omega, ⟨HH6.out, HGA.out, by omega, by rw [show lsn + ((jj + 1 : Nat) : Int) = lsn + (jj : Int) + 1 from by push_cast; omega]; exact h2, HFA.out⟩, .inl ⟨rfl, rfl⟩⟩
                    · exact ⟨jj + 1, 0, qq ++ ltQ n (lsn + (jj : Int) + 1), X2, _, N' + 1, by omega, by go_num, by congr 1; push_cast; omega, .inr ⟨by omega, rfl, by rw [List.length_append]; have := ltQ_len n (lsn + (jj : Int) + 1); omega⟩, by have := HN3.out; omega, ⟨HH6.out, HGA.out, by omega, by rw [show lsn + ((jj + 1 : Nat) : Int) = lsn + (jj : Int) + 1 from by push_cast; omega]; exact h2, HFA.out⟩, .inl ⟨rfl, rfl⟩⟩
                  case measure => simp [intOf]; omega
                · have HB1 := hid ((hb1.fre HF6.out).fr F6.out (fun k hk ha => hb4 k ha hk))
                  have HB2 := hid hb2
                  have HB3' := hid hb3
                  have HB4 := hid hb4
                  have HB5' := hid hb5
                  have HB6 := hid hb6
                  have HXB1 := hid (fun k (hk : Xb k) => hb1.lt hk)
                  have HAP := hid (show (jj < n ∧ Lt (3 + r) (jj + 1) (lsn + (jj : Int) + 1) (qq.drop ahead) (feedM mb (lsn + (jj : Int) + 1) ⟨kd, (3 + r), 0, [], [⟨1, (jj : Int), []⟩], [], []⟩)) ∨ (jj = n ∧ Lt (3 + r) 0 (lsn + (jj : Int) + 1) ((qq ++ ltQ n (lsn + (jj : Int) + 1)).drop ahead) (feedM mb (lsn + (jj : Int) + 1) ⟨kd, (3 + r), 0, [], [⟨1, (jj : Int), []⟩], [], []⟩)) from by
                    rcases HKD.out with ⟨h1, rfl⟩ | ⟨h1, rfl⟩
                    · exact .inl ⟨h1, hb5.step⟩
                    · have := hb5.commit hb1.ok (3 + r) (jj : Int)
                      rw [drop_app hb6]
                      rw [h1] at this ⊢
                      exact .inr ⟨rfl, this⟩)
                  have HNX := hid (fun k (hk : X2 k) (hx : Xb k) => show False from (HX6.out k hk).elim (fun ha => hb4 k ha hx) (fun h => by have h1 := hb1.lt hx; have h2 := HF6.out.size; omega))
                  have HXG := hid (fun (hx : Xb g') => show False from by have h1 := hb1.lt hx; have h2 := HG.out; omega)
                  clear hb1 hb2 hb3 hb4 hb5 hb6 HB3
                  have HRG6 := hid HBR6.out.all
                  have HFB := hid (SH.feedAt HB1.out (by have := HB2.out; have := HN3.out; have := HNN.out; omega) HBG6.out (fun hx => HXG.out hx) (lsn + (jj : Int) + 1) kd (3 + r) HI64.out)
                  go_wp2_with (first
                    | (refine wpList_load_mid rfl 35 (.tmp 14) rfl (g' + 1) 0 rfl _ _ HRG6.out Try.underlying35 rfl size_rec8 ?_)
                    | (go_at_call 12; refine HFB.out.mono ?_; rintro e w7 ⟨rfl, X3, h3, hx3, f3⟩; have HH7 := hid h3; have HX7 := hid hx3; have F7 := hid f3; clear h3 hx3 f3))
                  have HH67 := hid (HH6.out.fr F7.out (fun k hk hx => HNX.out k hk hx))
                  have HFA7 := hid (HFA.out.trans F7.out (fun k hk hl => by have := HB3'.out k hk; omega))
                  have HGB := hid (fun k (hk : X3 k) => (HX7.out k hk).elim (HB3'.out k) (fun h => Nat.le_trans HFA.out.size h))
                  have HDJ := hid (fun k (hk : X2 k) (hx : X3 k) => show False from (HX7.out k hx).elim (fun h => HNX.out k hk h) (fun h => by have := HH6.out.lt hk; omega))
                  go_roundw
                  case rel =>
                    rcases HLA.out with ⟨h1, h2⟩ | ⟨h1, h2⟩
                    · rcases HAP.out with ⟨h3, h4⟩ | ⟨h3, h4⟩
                      · exact ⟨jj + 1, jj + 1, qq, X2, _, N' + 1, by omega, by go_num, by congr 1; push_cast; omega, .inl ⟨by omega, rfl, rfl⟩, by have := HN3.out; omega, ⟨HH67.out, HGA.out, by omega, by rw [show lsn + ((jj + 1 : Nat) : Int) = lsn + (jj : Int) + 1 from by push_cast; omega]; exact h2, HFA7.out⟩, .inr ⟨sb, X3, _, Nb + 1, ahead, rfl, rfl, HH7.out, by have := HB2.out; omega, HGB.out, HDJ.out, by rw [show lsn + ((jj + 1 : Nat) : Int) = lsn + (jj : Int) + 1 from by push_cast; omega]; exact h4, HB6.out⟩⟩
                      · omega
                    · rcases HAP.out with ⟨h3, h4⟩ | ⟨h3, h4⟩
                      · omega
                      · exact ⟨jj + 1, 0, qq ++ ltQ n (lsn + (jj : Int) + 1), X2, _, N' + 1, by omega, by go_num, by congr 1; push_cast; omega, .inr ⟨by omega, rfl, by rw [List.length_append]; have := ltQ_len n (lsn + (jj : Int) + 1); omega⟩, by have := HN3.out; omega, ⟨HH67.out, HGA.out, by omega, by rw [show lsn + ((jj + 1 : Nat) : Int) = lsn + (jj : Int) + 1 from by push_cast; omega]; exact h2, HFA7.out⟩, .inr ⟨sb, X3, _, Nb + 1, ahead, rfl, rfl, HH7.out, by have := HB2.out; omega, HGB.out, HDJ.out, by rw [show lsn + ((jj + 1 : Nat) : Int) = lsn + (jj : Int) + 1 from by push_cast; omega]; exact h4, by rw [List.length_append]; have := HB6.out; omega⟩⟩
                  case measure => simp [intOf]; omega
            · obtain ⟨h1, rfl, h3⟩ : j = n + 1 ∧ jj = 0 ∧ qq.length ≤ q.length + 1 := by
                rcases hjj with h | h
                · omega
                · exact h
              clear hjj
              have HJ := hid h1
              have HQ3 := hid h3
              have j1 : ¬ (j : Int) ≤ (n : Int) := by omega
              have w2 : IntKind.i64.wrap ((i : Int) + 1) = (i : Int) + 1 := IntWalk.i64_in _ (by omega)
              clear h1 h3
              go_wp2_with (fail)
              go_roundw
              case rel => exact ⟨i + 1, 3 + r, lsn + (j : Int), qq, Xa, ma, N', by omega, by go_num, rfl, by omega, by have := HJ.out; push_cast; omega, by have := HQ3.out; have := HQL.out; omega, by have := HN3.out; have := HNN.out; have := HJ.out; omega, HA3.out, HB3.out⟩
              case measure => simp [intOf]; omega
      · by_cases hil : i < L.length
        · have i1 : (i : Int) < (L.length : Int) := by omega
          have i2 : ¬ (i : Int) < 30 := by omega
          go_wp2_with (fail)
          go_meet
          exact ⟨i, x, lsn, q, Xa, ma, N, hi, HQL.out, HNN.out, HA.out, HB.out⟩
        · have i1 : ¬ (i : Int) < (L.length : Int) := by omega
          go_wp2_with (fail)
          go_meet
          exact ⟨i, x, lsn, q, Xa, ma, N, hi, HQL.out, HNN.out, HA.out, HB.out⟩
  case rest =>
    obtain ⟨i, x, lsn, q, Xa, ma, N, hi, hql, hN, ha, hb⟩ := hcut
    generalize wc = WB at *
    have HA := hid ha
    have HQL := hid hql
    have HNN := hid hN
    clear ha hql hN A0
    rcases hb with ⟨rfl, rfl⟩ | ⟨sb, Xb, mb, Nb, ahead, rfl, rfl, hb1, hb2, hb3, hb4, hb5, hb6⟩
    · go_wp2_with (fail)
      go_ret
      exact ⟨rfl, HA.out.f⟩
    · have HB1 := hid hb1
      have HB2 := hid hb2
      have HB5 := hid hb5
      have HAH := hid hb6
      clear hb1 hb2 hb3 hb4 hb5 hb6
      have HQA := hid (SH.queued HA.out.h (by have := HNN.out; omega) 1000)
      have HTA := hid (show ma.told.take (qn 1000 ma.queue.length) = q from by
        have h1 := HA.out.l.told
        have h2 : ma.queue.length = q.length := by rw [← h1]; unfold Slt.told; rw [List.length_map]
        have h3 : qn 1000 ma.queue.length = q.length := by rw [h2]; have := HQL.out; unfold qn; omega
        rw [h3, h1, List.take_length])
      have HTB := hid (show mb.told.take (qn 1000 mb.queue.length) = q.drop ahead from by
        have h1 := HB5.out.told
        have h2 : mb.queue.length = (q.drop ahead).length := by rw [← h1]; unfold Slt.told; rw [List.length_map]
        have h3 : qn 1000 mb.queue.length = (q.drop ahead).length := by rw [h2, List.length_drop]; have := HQL.out; unfold qn; omega
        rw [h3, h1, List.take_length])
      have HQB := hid (fun W (f : Fr (fun _ => False) WB W) => SH.queued (HB1.out.fre f) (by have := HB2.out; have := HNN.out; omega) 1000)
      rw [HTA.out] at HQA
      rw [HTB.out] at HQB
      have HFQ := hid (show ∀ d ∈ q, d.2.length ≤ N from fun d hd => by
        have h1 := HA.out.l.told
        rw [← h1] at hd
        obtain ⟨dn, h2, rfl⟩ := List.mem_map.1 hd
        exact HA.out.h.few.q dn h2)
      have HFF := hid HA.out.f
      clear HA HB5 HTA HTB
      go_upto_region 27 with (go_at_call 11; refine HQA.out.mono ?_; rintro e w5 ⟨u, xs, rfl, hx, ht, f⟩; obtain ⟨au, cu, eu, -⟩ := ht.r.slice; have hxl : xs.length = q.length := (by have h1 := congrArg List.length hx; rwa [List.length_map] at h1); rw [hxl] at eu; subst eu; have HXS := hid hx; have HT := hid ht; have HXL := hid hxl; have FQ := hid f; clear hx ht f hxl)
      clear HQA
      have fd := (Fr.refl (fun _ => False) w5).drew
      have HT2 := hid (HT.out.fre fd)
      have FD := hid (FQ.out.trans fd (fun _ h _ => h))
      have i1 : (ahead : Int) ≤ (q.length : Int) := by have := HAH.out; omega
      have i2 : (0 : Int) ≤ (ahead : Int) := by omega
      obtain ⟨Q, hQ⟩ : ∃ Q, Q = q.length := ⟨_, rfl⟩
      rw [← hQ] at HT2 i1 ⊢
      have HQQ := hid hQ
      clear fd HT FQ hQ
      rcases HT2.out.r.own.2 with ⟨e, -⟩ | ⟨g, cap, cur, e, -, -, hcap, -⟩
      · injection e with e1 e2 e3
        have HQ0 := hid (show Q = 0 from e2)
        obtain rfl : ahead = 0 := by have := HAH.out; have := HQQ.out; omega
        subst e1 e2 e3
        have HXN := hid (show xs = [] from List.eq_nil_of_length_eq_zero (by rw [HXL.out, ← HQQ.out]))
        go_upto_region 27 with fail
        refine wp_region_scr (.take 0 (.take 1 (.take 2 (.take 3 (.take 4 (.take 5 (.take 6 (.take 7 (.take 8 (.take 10 (.take 11 (.take 12 (.op 9 (.op 13 (.take 14 (.take 15 .done)))))))))))))))) (fun kz w => (kz ≤ 16 → Hid True) ∧ Hid True) (by kernel_rfl) (by kernel_rfl) (by intro c a d v w h; cases d <;> exact h) ?_
        repeat
          first
          | (refine wpT_pure rfl rfl rfl ?_; apply Exists.intro; refine ⟨?_, ?_⟩; intro w; ((go_simp <;> rfl)); simp only [Act.put, List.setIfInBounds_toArray, List.set_cons_zero, List.set_cons_succ])
          | (refine wpT_take 16 rfl rfl (by decide +kernel) ⟨fun _ => hid trivial, hid trivial⟩ ?_; apply Exists.intro; refine ⟨?_, ?_⟩; intro w hw; (have qa := hw.1 (Nat.le_refl _); have qb := hw.2); ((go_simp <;> rfl)); simp only [Act.put, List.setIfInBounds_toArray, List.set_cons_zero, List.set_cons_succ])
          | (refine wpT_skip rfl rfl ?_; simp only [Act.put, List.setIfInBounds_toArray, List.set_cons_zero, List.set_cons_succ])
        generalize w5.drew = W6 at *
        refine wpT_op rfl ?_
        go_wp2_with ((go_at_call 11; refine (HQB.out _ FD.out).mono ?_; rintro e w7 ⟨u2, ys, rfl, hx, ht, f⟩; have HY := hid hx; have HT3 := hid ht; have F7 := hid (FD.out.trans f (fun _ h _ => h)); have HT27 := hid (HT2.out.fre f); clear hx ht f))
        (refine ⟨?_, ?_⟩; focus (intro kz hk hk2 hh; first | (exfalso; simp at hk2; omega) | exact hh | exact (fun h => absurd h (by omega)) | obtain ⟨qa, qb⟩ := hh; first | exact ⟨qa, qb⟩ | (refine ⟨fun h => absurd h (by omega), ?_⟩; first | exact qb | (exact hid trivial)) | (refine ⟨fun h => ?_, ?_⟩; (have qa := qa h); all_goals (first | exact qa | exact qb | (exact hid trivial)))))
        have HSA := hid (Same_go HT3.out.s (show TxnsS (fun _ => True) w7 (.slice none 0 0) (xs.drop 0) from by rw [HXN.out]; exact ⟨⟨none, 0, rfl, Nat.le_refl _, fun h => absurd rfl h⟩, fun x hx => by simp at hx⟩) (by rw [HY.out, List.map_drop, HXS.out]) (by have h := congrArg List.length HY.out; rw [List.length_map, List.length_drop] at h; have := HQL.out; omega) (fun y hy => by have h1 : TxnV.t y ∈ q.drop 0 := (by rw [← HY.out]; exact List.mem_map_of_mem hy); have h2 := HFQ.out _ (List.mem_of_mem_drop h1); have h3 : (TxnV.t y).2.length = y.cs.length := List.length_map ..; have := HNN.out; omega))
        repeat
          first
          | (refine wpT_pure rfl rfl rfl ?_; apply Exists.intro; refine ⟨?_, ?_⟩; intro w; ((go_simp <;> rfl)); simp only [Act.put, List.setIfInBounds_toArray, List.set_cons_zero, List.set_cons_succ])
          | (refine wpT_take 16 rfl rfl (by decide +kernel) ⟨fun _ => hid trivial, hid trivial⟩ ?_; apply Exists.intro; refine ⟨?_, ?_⟩; intro w hw; (have qa := hw.1 (Nat.le_refl _); have qb := hw.2); ((go_simp <;> rfl)); simp only [Act.put, List.setIfInBounds_toArray, List.set_cons_zero, List.set_cons_succ])
          | (refine wpT_skip rfl rfl ?_; simp only [Act.put, List.setIfInBounds_toArray, List.set_cons_zero, List.set_cons_succ])
        refine wpT_op rfl ?_
        go_wp2_with ((go_at_call 13; refine HSA.out.mono ?_; rintro e w8 ⟨rfl, f⟩; have F8 := hid (HFF.out.trans (F7.out.trans f (fun _ h _ => h)) (fun _ h _ => h)); clear f))
        (refine ⟨?_, ?_⟩; focus (intro kz hk hk2 hh; first | (exfalso; simp at hk2; omega) | exact hh | exact (fun h => absurd h (by omega)) | obtain ⟨qa, qb⟩ := hh; first | exact ⟨qa, qb⟩ | (refine ⟨fun h => absurd h (by omega), ?_⟩; first | exact qb | (exact hid trivial)) | (refine ⟨fun h => ?_, ?_⟩; (have qa := qa h); all_goals (first | exact qa | exact qb | (exact hid trivial)))))
        repeat
          first
          | (refine wpT_pure rfl rfl rfl ?_; apply Exists.intro; refine ⟨?_, ?_⟩; intro w; ((go_simp <;> rfl)); simp only [Act.put, List.setIfInBounds_toArray, List.set_cons_zero, List.set_cons_succ])
          | (refine wpT_take 16 rfl rfl (by decide +kernel) ⟨fun _ => hid trivial, hid trivial⟩ ?_; apply Exists.intro; refine ⟨?_, ?_⟩; intro w hw; (have qa := hw.1 (Nat.le_refl _); have qb := hw.2); ((go_simp <;> rfl)); simp only [Act.put, List.setIfInBounds_toArray, List.set_cons_zero, List.set_cons_succ])
          | (refine wpT_skip rfl rfl ?_; simp only [Act.put, List.setIfInBounds_toArray, List.set_cons_zero, List.set_cons_succ])
        refine wpT_nil ?_
        go_wp2_with (fail)
        go_ret
        exact ⟨rfl, F8.out⟩
      · injection e with e1 e2 e3
        subst e1 e3
        clear e2
        have hcap' : (Q : Int) ≤ (cu : Int) := by have := HXL.out; have := HQQ.out; omega
        have hc2 : (ahead : Int) ≤ (cu : Int) := by omega
        have hc3 : ahead ≤ Q := by omega
        have hc4 : Q ≤ cu := by omega
        have HTS := hid (fun (w7 : World) (h : TxnsR WB.heap.size w7 (.slice (some ⟨g, 0, none⟩) Q cu) xs) => show TxnsS (fun _ => True) w7 (.slice (if cu = ahead then some ⟨g, 0, none⟩ else some ⟨g, ahead * 2, none⟩) (Q - ahead) (cu - ahead)) (xs.drop ahead) from by
          have hxl : xs.length = Q := by rw [HXL.out]; exact HQQ.out.symm
          refine ⟨?_, fun x hx => ⟨((h.t x (List.mem_of_mem_drop hx)).r.sl' (fun _ _ => trivial)), fun c hc => ((h.t x (List.mem_of_mem_drop hx)).c c hc).s⟩⟩
          split
          · rename_i hce
            have h0 : xs.drop ahead = [] := List.drop_eq_nil_of_le (by omega)
            rw [h0]
            exact ⟨_, cu - ahead, by rw [show Q - ahead = 0 from by omega]; rfl, Nat.zero_le _, fun h => absurd rfl h⟩
          · have := sl_drop (k := 2) (fun _ => rfl) (h.r.sl' (R := fun _ => True) (fun _ _ => trivial)) (a := ahead) (by rw [HXL.out]; exact HAH.out)
            rwa [Nat.zero_add] at this)
        go_upto_region 27 with fail
        refine wp_region_scr (.take 0 (.take 1 (.take 2 (.take 3 (.take 4 (.take 5 (.take 6 (.take 7 (.take 8 (.take 10 (.take 11 (.take 12 (.op 9 (.op 13 (.take 14 (.take 15 .done)))))))))))))))) (fun kz w => (kz ≤ 16 → Hid True) ∧ Hid True) (by kernel_rfl) (by kernel_rfl) (by intro c a d v w h; cases d <;> exact h) ?_
        repeat
          first
          | (refine wpT_pure rfl rfl rfl ?_; apply Exists.intro; refine ⟨?_, ?_⟩; intro w; (first | ((refine Eq.trans (b := Result.ok (Next.value (.bool true)) w) ?_ rfl; go_simp; first | done | exact decide_eq_true hc3 | simp [hc3] | exact hc3)) | (go_simp <;> rfl)); simp only [Act.put, List.setIfInBounds_toArray, List.set_cons_zero, List.set_cons_succ])
          | (refine wpT_take 16 rfl rfl (by decide +kernel) ⟨fun _ => hid trivial, hid trivial⟩ ?_; apply Exists.intro; refine ⟨?_, ?_⟩; intro w hw; (have qa := hw.1 (Nat.le_refl _); have qb := hw.2); (first | ((refine Eq.trans (b := Result.ok (Next.value (.bool true)) w) ?_ rfl; go_simp; first | done | exact decide_eq_true hc3 | simp [hc3] | exact hc3)) | (go_simp <;> rfl)); simp only [Act.put, List.setIfInBounds_toArray, List.set_cons_zero, List.set_cons_succ])
          | (refine wpT_skip rfl rfl ?_; simp only [Act.put, List.setIfInBounds_toArray, List.set_cons_zero, List.set_cons_succ])
        generalize (if cu = ahead then some (⟨g, 0, none⟩ : Addr) else some ⟨g, ahead * 2, none⟩) = AD at *
        generalize w5.drew = W6 at *
        refine wpT_op rfl ?_
        go_wp2_with ((go_at_call 11; refine (HQB.out _ FD.out).mono ?_; rintro e w7 ⟨u2, ys, rfl, hx, ht, f⟩; have HY := hid hx; have HT3 := hid ht; have F7 := hid (FD.out.trans f (fun _ h _ => h)); have HT27 := hid (HT2.out.fre f); clear hx ht f))
        (refine ⟨?_, ?_⟩; focus (intro kz hk hk2 hh; first | (exfalso; simp at hk2; omega) | exact hh | exact (fun h => absurd h (by omega)) | obtain ⟨qa, qb⟩ := hh; first | exact ⟨qa, qb⟩ | (refine ⟨fun h => absurd h (by omega), ?_⟩; first | exact qb | (exact hid trivial)) | (refine ⟨fun h => ?_, ?_⟩; (have qa := qa h); all_goals (first | exact qa | exact qb | (exact hid trivial)))))
        have HSA := hid (Same_go HT3.out.s (HTS.out _ HT27.out) (by rw [HY.out, List.map_drop, HXS.out]) (by have h := congrArg List.length HY.out; rw [List.length_map, List.length_drop] at h; have := HQL.out; omega) (fun y hy => by have h1 : TxnV.t y ∈ q.drop ahead := (by rw [← HY.out]; exact List.mem_map_of_mem hy); have h2 := HFQ.out _ (List.mem_of_mem_drop h1); have h3 : (TxnV.t y).2.length = y.cs.length := List.length_map ..; have := HNN.out; omega))
        repeat
          first
          | (refine wpT_pure rfl rfl rfl ?_; apply Exists.intro; refine ⟨?_, ?_⟩; intro w; ((go_simp <;> rfl)); simp only [Act.put, List.setIfInBounds_toArray, List.set_cons_zero, List.set_cons_succ])
          | (refine wpT_take 16 rfl rfl (by decide +kernel) ⟨fun _ => hid trivial, hid trivial⟩ ?_; apply Exists.intro; refine ⟨?_, ?_⟩; intro w hw; (have qa := hw.1 (Nat.le_refl _); have qb := hw.2); ((go_simp <;> rfl)); simp only [Act.put, List.setIfInBounds_toArray, List.set_cons_zero, List.set_cons_succ])
          | (refine wpT_skip rfl rfl ?_; simp only [Act.put, List.setIfInBounds_toArray, List.set_cons_zero, List.set_cons_succ])
        refine wpT_op rfl ?_
        go_wp2_with ((go_at_call 13; (with_reducible refine HSA.out.mono ?_); rintro e w8 ⟨rfl, f⟩; have F8 := hid (HFF.out.trans (F7.out.trans f (fun _ h _ => h)) (fun _ h _ => h)); clear f))
        (refine ⟨?_, ?_⟩; focus (intro kz hk hk2 hh; first | (exfalso; simp at hk2; omega) | exact hh | exact (fun h => absurd h (by omega)) | obtain ⟨qa, qb⟩ := hh; first | exact ⟨qa, qb⟩ | (refine ⟨fun h => absurd h (by omega), ?_⟩; first | exact qb | (exact hid trivial)) | (refine ⟨fun h => ?_, ?_⟩; (have qa := qa h); all_goals (first | exact qa | exact qb | (exact hid trivial)))))
        repeat
          first
          | (refine wpT_pure rfl rfl rfl ?_; apply Exists.intro; refine ⟨?_, ?_⟩; intro w; ((go_simp <;> rfl)); simp only [Act.put, List.setIfInBounds_toArray, List.set_cons_zero, List.set_cons_succ])
          | (refine wpT_take 16 rfl rfl (by decide +kernel) ⟨fun _ => hid trivial, hid trivial⟩ ?_; apply Exists.intro; refine ⟨?_, ?_⟩; intro w hw; (have qa := hw.1 (Nat.le_refl _); have qb := hw.2); ((go_simp <;> rfl)); simp only [Act.put, List.setIfInBounds_toArray, List.set_cons_zero, List.set_cons_succ])
          | (refine wpT_skip rfl rfl ?_; simp only [Act.put, List.setIfInBounds_toArray, List.set_cons_zero, List.set_cons_succ])
        refine wpT_nil ?_
        go_wp2_with (fail)
        go_ret
        exact ⟨rfl, F8.out⟩
end Go.Proofs.Ytiimomgbklgicaa
namespace Go.Proofs.Ytiimomgbklgicaa.slotLate
open Go.ChangeShapes Go.WideShapes Go.ChangeAt Go.RowKit Go.VB
set_option maxHeartbeats 400000 in
set_option maxRecDepth 100000 in
theorem lifted (os : Os) (started : os.Started) (H : Type) (enc : TypeId × Value → H) :
    ReturnsInHanded {} Try.checked os 3 .any (Rows.slotLateSpec.pre6 enc Try.prog Try.f3 Rows.slotLateRow.domain false) (Rows.slotLateSpec.post enc Try.prog Try.f3 false true false false) := by
  refine returnsInHanded_of_change (C := Try.checked) own started (by kernel_rfl) Try.func3
    (ChangeSpec.witness6 (enc := enc) (C := Try.checked) false ⟨#[], #[.slice none 0 0, .int .i64 0], []⟩ 8 (by kernel_rfl) (by kernel_rfl) (by kernel_rfl) (by kernel_rfl)) ?_
  intro W base args ds gs before hval0 hW hcnd _
  have hval : ∀ (j : Nat) t v, Try.f3.params[j]? = some t → args[j]? = some v → Value.okWide Try.prog W .any base t v := hval0
  have hW' := hW
  obtain ⟨p, q, hA0, hV, rfl, hfz, hnd⟩ := hW
  have hA : DataW.TrodAll enc Try.prog W 0 (fun _ => true) true Try.f3.params.toList args.toList ds p := hA0
  rw [Try.params3] at hA hval
  obtain ⟨v0, vs0, d0, ds0, p0, q0, hargs, rfl, rfl, h0, r0⟩ := trodAll_cons hA
  obtain ⟨v1, vs1, d1, ds1, p1, q1, rfl, rfl, rfl, h1, r1⟩ := trodAll_cons r0
  obtain ⟨rfl, rfl, rfl⟩ := trodAll_nil r1
  obtain rfl : args = #[v0, v1] := by cases args; simp_all
  obtain ⟨rfl, rfl⟩ := trodVars_none hV
  clear hA0 hval0
  refine Calls.mono (R := fun e w' => e = .returned (.bool true) ∧ Fr (fun _ => False) W w') ?_ fun e W' ⟨he, hf⟩ => ⟨_, he, post_law sound (by decide +kernel) rfl rfl (ht := Try.underlying4) (by rfl) hW' hf⟩
  obtain ⟨q, hq, -, hql⟩ := open_sl Try.underlying22 (k := 1) (by kernel_rfl) (by omega) (hval 0 22 v0 rfl rfl) h0 (fun x => [Value.int .i64 x]) (fun x => True) (fun _ => rfl) (fun fuel cs r _ h => by obtain ⟨x, h1, _⟩ := elem_int Try.underlying3 fuel cs r h; exact ⟨x, h1, trivial⟩)
  obtain ⟨a1, rfl, -, -, -⟩ := open_int Try.underlying3 (hval 1 3 v1 rfl rfl) h1
  exact SlotLate_walk q a1 v0 W hq
theorem proved : Rows.SlotLateSaid :=
  OpenClaim.holds_of_wide 3 Try.f3 rfl rfl rfl rfl rfl rfl rfl ⟨rfl, rfl, rfl, rfl, rfl⟩ rfl rfl rfl rfl rfl (by kernel_rfl) Try.func3 (by kernel_rfl)
    (of_decide_eq_true (by kernel_rfl)) (by unfold Func.isWrapper; first | (rw [if_pos (by decide +kernel)]; kernel_rfl) | (rw [if_neg (by decide +kernel)]; exact ⟨rfl, rfl⟩))
    (fun os started H enc _ => lifted os started H enc)
end Go.Proofs.Ytiimomgbklgicaa.slotLate
