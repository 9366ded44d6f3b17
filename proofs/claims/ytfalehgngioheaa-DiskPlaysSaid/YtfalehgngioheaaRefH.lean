import Derived.Test.YtfalehgngioheaaRefG
/- The reference's disk: Crash. -/
set_option linter.unusedVariables false
namespace Go.Proofs.Ytfalehgngioheaa
open Go.RowKit Go.VB Go.VB.Disk
theorem qAt_succ' (ps : List Pg) (q : List Int) (i : Nat) (hi : i < ps.length) : qAt ps q (i + 1) = if ps[i].ws = [] then qAt ps q i else (qAt ps q i).tail.tail := qAt_succ ps q i _ (List.getElem?_eq_getElem hi)
theorem takeQ_lt' (q : List Int) (n : Nat) (hn : 0 < n) : takeQ q n < n := LogM.takeQ_lt q n hn
variable {S : Nat → Prop} {w : World} {d : Nat} {m : DM} {pv : Value} {wv : List Value}
theorem RRep.there (h : RRep S w d m pv wv) {g c : Nat} (hpv : pv = .slice (some ⟨g, 0, none⟩) m.pages.length c) {j : Nat} (hj : j < m.pages.length) : w.there g (j * 2) 2 := by
  subst hpv
  rcases h.own.2 with ⟨hn, _⟩ | ⟨g', cap, cur, hn, -, hgg, h1, h2, h3, h4⟩
  · cases hn
  · obtain ⟨rfl, rfl⟩ : g = g' ∧ c = cap := by simpa using hn
    refine (show Blk w g cur.toList 89 by unfold Blk; simpa using hgg).there (j * 2) 2 ?_
    rw [Array.length_toList, h3]
    omega
set_option maxHeartbeats 1000000 in
theorem Crash_ref {R : Nat → Prop} (h : RRep S w d m pv wv) (hlen : m.pages.length ≤ 400) {kk : Nat} (ok : m.Ok kk) (hkk : kk ≤ 1000000) {v : Value} {q : List Int} (hq : QRep R w v q) (hR : ∀ k, R k → ¬ S k) (hql : q.length ≤ 9223372036854775807) :
    Calls Try.prog 59 #[.pointer (some ⟨d, 0, none⟩), v] w fun e w' => e = .returned (.tuple #[]) ∧ ROut S w w' d (m.crash q) := by
  obtain ⟨M, hMM⟩ : ∃ M : Nat → DM, M = fun j => { m with pages := crN m.pages q j } := ⟨_, rfl⟩
  have HMP := hid (show ∀ j, (M j).pages = crN m.pages q j from fun j => by rw [hMM])
  have HML := hid (show ∀ j, (M j).pages.length = m.pages.length from fun j => by rw [HMP.out, crN_length])
  have HMS := hid (show ∀ j (hj : j < m.pages.length), M (j + 1) = { M j with pages := (M j).pages.set j (if m.pages[j].ws = [] then m.pages[j] else m.pages[j].crash (qAt m.pages q j)) } from fun j hj => by
    rw [hMM]
    simp only [crN_succ m.pages q j hj])
  have hM0 : M 0 = m := by rw [hMM]; simp [crN]
  have HME := hid (show M m.pages.length = { m with pages := (crashPages m.pages q).1 } by rw [hMM]; simp only [crN_all])
  have INV0 := hid (show RRep S w d (M 0) pv wv by rw [hM0]; exact h)
  have HQ := hid hq
  have HR := hid hR
  have HQL := hid hql
  have OK := hid ok
  have hqs := hq
  obtain ⟨qa, qc, rfl, hqc, -⟩ := hqs
  clear hMM hM0 h hq hR hql ok
  go_enter Try.func59, Try.ntmps59
  go_wp2
  go_loopw [4, 5] (fun t i wr => ∃ (j at_ : Nat) (wvj : List Value), j ≤ m.pages.length ∧ at_ ≤ 2 * j ∧ q.drop at_ = qAt m.pages q j ∧ i = .int .i64 j ∧ t = .int .i64 at_ ∧ RRep S wr d (M j) pv wvj ∧ Fr S w wr) (fun _ i _ => m.pages.length - (intOf i).toNat)
  case atStart => exact ⟨0, 0, _, by omega, by omega, by rw [qAt_zero]; rfl, rfl, rfl, INV0.out, Fr.refl _ _⟩
  case round =>
    obtain ⟨j, at_, wvj, hj, hat, hqd, rfl, rfl, hR, fR⟩ := hrel
    clear INV0
    have HQD := hid hqd
    have c0 : wr.cell? ⟨d, 0, none⟩ = some pv := hR.b.cell 0
    have hln := HML.out j
    by_cases hjl : j < m.pages.length
    · have hjl2 : j < (M j).pages.length := by rw [hln]; exact hjl
      obtain ⟨g, c, rfl, hSg, k0, k1⟩ := hR.page hjl2
      have hw := hR.write hjl2
      have hpj : (M j).pages[j] = m.pages[j] := by
        have := crN_at m.pages q j hjl
        simp only [HMP.out]
        exact this
      rw [hpj] at hw k0
      have few := OK.out.few _ (List.getElem_mem hjl)
      have hs512 := OK.out.safe _ (List.getElem_mem hjl)
      have hw512 := OK.out.ws _ (List.getElem_mem hjl)
      have hsucc := HMS.out j hjl
      have hqs := qAt_succ' m.pages q j hjl
      rw [hln] at c0
      have hlw : j < wvj.length := by rw [hR.len]; exact hjl2
      replace k1 : wr.cell? ⟨g, j * 2 + 1, none⟩ = some (wvj[j]'hlw) := k1
      replace hw : wr.ownsRow 0 9 1 (wvj[j]'hlw) m.pages[j].ws.length (sv m.pages[j].ws) := hw
      generalize wvj[j]'hlw = v at *
      have hRR := hid hR
      have hPJ := hid hpj
      have hTh0 := hR.there rfl hjl2
      have hrow : wr.rangeAt g (j * 2) [.string (bs m.pages[j].safe), v] := by
        intro i u hi
        rcases (show i = 0 ∨ i = 1 by have := (List.getElem?_eq_some_iff.1 hi).1; simp at this; omega) with rfl | rfl
        · simpa using k0.trans hi
        · simpa using k1.trans hi
      have ld := lt_of_cell c0
      have lg := lt_of_cell k0
      clear hR hpj hln k0 k1 hqd
      generalize m.pages[j] = p at *
      by_cases hws : p.ws = []
      · have hsame : M (j + 1) = M j := by
          rw [hsucc, if_pos hws, ← hPJ.out, List.set_getElem_self]
        have hqd2 : q.drop at_ = qAt m.pages q (j + 1) := by rw [hqs, if_pos hws]; exact HQD.out
        have hl0 : p.ws.length = 0 := by rw [hws]; rfl
        rw [hl0] at hw
        obtain ⟨va, vc, rfl, -⟩ := own_slice hw
        generalize bs p.safe = sf at *
        have HS := hid hsame
        have HQ2 := hid hqd2
        have F2 := fR.alloc (.cells [Value.string sf, .slice va 0 vc].toArray 89)
        have h2 := hRR.out.fr ((Fr.refl (fun _ => False) wr).alloc (.cells [Value.string sf, .slice va 0 vc].toArray 89)) (fun _ _ h => h)
        have H2 := hid h2
        have HF2 := hid F2
        clear hws hw hsucc hsame few hTh0 hl0 hs512 hw512 hqs hqd2 h2 F2
        go_wp2_with (refine wpList_load_mid rfl 89 _ rfl g _ rfl _ _ hrow Try.underlying89 rfl Try.size_page ?_)
        go_roundw
        case rel => exact ⟨j + 1, at_, wvj, by omega, by omega, HQ2.out, by go_num, rfl, by rw [HS.out]; exact H2.out, HF2.out⟩
        case measure => simp [intOf]; omega
      · have hlw0 : 0 < p.ws.length := List.length_pos_iff.2 hws
        obtain ⟨va, vc, rfl, hvc, hr⟩ := own_sl (R := fun _ => True) hw (fun _ _ => trivial)
        obtain ⟨gw, ow, rfl, -, hr⟩ := hr (by simpa [sv] using hws)
        obtain ⟨a, ha⟩ : ∃ a, a = takeQ (q.drop at_) (p.ws.length + 1) := ⟨_, rfl⟩
        obtain ⟨b, hb⟩ : ∃ b, b = takeQ (q.drop (at_ + 1)) (p.ws.length + 1) := ⟨_, rfl⟩
        have hal : a < p.ws.length + 1 := ha ▸ takeQ_lt' _ _ (by omega)
        have hbl : b < p.ws.length + 1 := hb ▸ takeQ_lt' _ _ (by omega)
        have hA : ((p.safe :: p.ws).getD a []).length = 512 := by
          have := getD_mem (L := p.safe :: p.ws) (i := a) (z := []) (by simpa using hal)
          rcases List.mem_cons.1 this with h | h
          · rw [h]; exact hs512
          · exact hw512 _ h
        have hB : ((p.safe :: p.ws).getD b []).length = 512 := by
          have := getD_mem (L := p.safe :: p.ws) (i := b) (z := []) (by simpa using hbl)
          rcases List.mem_cons.1 this with h | h
          · rw [h]; exact hs512
          · exact hw512 _ h
        have hcr : p.crash (qAt m.pages q j) = ⟨((p.safe :: p.ws).getD a []).take 256 ++ ((p.safe :: p.ws).getD b []).drop 256, []⟩ := by
          rw [← HQD.out, ha, hb]
          unfold Pg.crash
          rw [List.tail_drop]
        have hqd2 : q.drop (at_ + 2) = qAt m.pages q (j + 1) := by
          rw [hqs, if_neg hws, ← HQD.out, List.tail_drop, List.tail_drop]
        have hsv : [Value.string (bs p.safe)] ++ sv p.ws = sv (p.safe :: p.ws) := rfl
        have ca := sv_at (getD_at (L := p.safe :: p.ws) (i := a) (z := []) (by simpa using hal))
        have cb := sv_at (getD_at (L := p.safe :: p.ws) (i := b) (z := []) (by simpa using hbl))
        rw [hcr, if_neg hws] at hsucc
        generalize (p.safe :: p.ws).getD a [] = A at *
        generalize (p.safe :: p.ws).getD b [] = B at *
        have eA : (bs A).extract 0 256 = bs (A.take 256) := by apply ByteArray.ext; simp [bs]
        have eB : (bs B).extract 256 512 = bs (B.drop 256) := by apply ByteArray.ext; simp [bs]; rw [List.take_of_length_le (by simp; omega)]
        have sA : (bs A).size = 512 := by rw [bs_size, hA]
        have sB : (bs B).size = 512 := by rw [bs_size, hB]
        have e4 := fun w => run_add_bs (P := Try.prog) w (A.take 256) (B.drop 256) (by simp; omega)
        have F1 := (Fr.refl (fun _ => False) wr).alloc (.cells [Value.string (bs p.safe), .slice (some ⟨gw, ow, none⟩) p.ws.length vc].toArray 89)
        have F2 := F1.alloc (.cells [Value.string (bs p.safe)].toArray 9)
        have own1 := own_new (w := wr.alloc (.cells [Value.string (bs p.safe), .slice (some ⟨gw, ow, none⟩) p.ws.length vc].toArray 89)) (e := 9) (size := 1) (n := 1) (l := [Value.string (bs p.safe)]) (by rfl) (by decide)
        rw [World.size_alloc] at own1
        have hsrc : Src Try.prog ((wr.alloc (.cells [Value.string (bs p.safe), .slice (some ⟨gw, ow, none⟩) p.ws.length vc].toArray 89)).alloc (.cells [Value.string (bs p.safe)].toArray 9)) 1 (.slice (some ⟨gw, ow, none⟩) p.ws.length vc) p.ws.length (sv p.ws) := Src.slice (by simp [sv]) (by intro u hu; simp only [sv, List.mem_map] at hu; obtain ⟨t, -, rfl⟩ := hu; rfl) (range_fr hr F2 (fun h => h))
        have HS := hid hsucc
        have HQ2 := hid hqd2
        have HSV := hid hsv
        have HA := hid ha
        have HB := hid hb
        have HCA := hid ca
        have HCB := hid cb
        have HTh := hid hTh0
        clear hws hsucc hcr hqd2 hqs hsv ha hb ca cb hTh0 hs512 hw512 hw hr hA hB
        generalize hsf : bs p.safe = sf at *
        go_wp2_with (first
          | (refine wpList_load_mid rfl 89 _ rfl g _ rfl _ _ hrow Try.underlying89 rfl Try.size_page ?_)
          | (refine wpList_append rfl (s := .tmp 35) (x := .tmp 37) (t := 22) (tx := 22) rfl Try.underlying22 Try.underlying22 (.inr ⟨_, rfl⟩) Try.info_string rfl rfl rfl own1 hsrc (by omega) (by omega) ?_; intro ab ac wg hown hg hat)
          | fail)
        have hg : World.grownBy _ wg (some (wr.heap.size + 1)) := hg
        have FG : Fr (fun _ => False) wr wg := F2.grown hg (fun k hk hlt => by have := Option.some.inj hk; omega)
        have hqw : QRep R wg (.slice qa q.length qc) q := (HQ.out.fr fR HR.out).fr FG (fun _ _ h => h)
        have r1 : Calls Try.prog 63 #[.slice qa q.length qc, .int .i64 at_, .int .i64 ((p.ws.length : Int) + 1)] wg fun e w' => e = .returned (.int .i64 a) ∧ wg = w' := by
          have := rest_ref hqw HQL.out at_ (p.ws.length + 1) (by omega) (by omega)
          rw [← HA.out] at this
          exact this
        have r2 : Calls Try.prog 63 #[.slice qa q.length qc, .int .i64 ((at_ : Int) + 1), .int .i64 ((p.ws.length : Int) + 1)] wg fun e w' => e = .returned (.int .i64 b) ∧ wg = w' := by
          have := rest_ref hqw HQL.out (at_ + 1) (p.ws.length + 1) (by omega) (by omega)
          rw [← HB.out] at this
          exact this
        have hown2 := hown
        obtain ⟨ab', ac', hv2, hac, hrow3⟩ := own_sl (R := fun _ => True) hown2 (fun _ _ => trivial)
        obtain ⟨rfl, rfl⟩ : ab = ab' ∧ ac = ac' := by simpa using hv2
        obtain ⟨g3, o3, rfl, -, hrow3⟩ := hrow3 (by simp)
        rw [HSV.out] at hrow3
        have cA : wg.cell? ⟨g3, o3 + a, none⟩ = some (.string (bs A)) := hrow3 a _ HCA.out
        have cB : wg.cell? ⟨g3, o3 + b, none⟩ = some (.string (bs B)) := hrow3 b _ HCB.out
        have cd := cell_fr c0 FG (fun h => h)
        have hput := (hRR.out.fr FG.drew (fun _ _ h => h)).put hjl2 (A.take 256 ++ B.drop 256)
        have hTh : wg.drew.there g (j * 2) 2 := (hRR.out.fr FG.drew (fun _ _ h => h)).there rfl hjl2
        have HPUT := hid hput
        have HTH := hid hTh
        have R1 := hid r1
        have R2 := hid r2
        have a1 : (a : Int) < (p.ws.length : Int) + 1 := by omega
        have b1 : (b : Int) < (p.ws.length : Int) + 1 := by omega
        have a2 : a < 1 + p.ws.length := by omega
        have b2 : b < 1 + p.ws.length := by omega
        have a3 : (a : Int) < 1 + (p.ws.length : Int) := by omega
        have b3 : (b : Int) < 1 + (p.ws.length : Int) := by omega
        have F5 := fR.trans (FG.drew.mono (fun _ h _ => h.elim)) (fun _ h _ => h)
        clear hput hTh r1 r2 hown hown2 hrow3 hg hat own1 hsrc F1 F2 hqw hv2 hrow
        generalize bs (A.take 256) = z1 at *
        generalize bs (B.drop 256) = z2 at *
        generalize bs A = z3 at *
        generalize bs B = z4 at *
        generalize hzz : A.take 256 ++ B.drop 256 = zz at *
        clear hzz
        go_wp2_with (first
          | (go_at_call 63; (with_reducible refine R1.out.mono ?_); rintro e w' ⟨rfl, rfl⟩)
          | (go_at_call 63; (with_reducible refine R2.out.mono ?_); rintro e w' ⟨rfl, rfl⟩)
          | fail)
        refine wp_region_script [(true, 0), (true, 1), (true, 2), (true, 3), (true, 4), (true, 5), (true, 6), (true, 7), (true, 8), (true, 9), (true, 10), (true, 11), (true, 12), (true, 13), (true, 14), (true, 15), (false, 16), (true, 17), (false, 18)] (fun kz w => (kz ≤ 18 → w.cell? ⟨d, 0, none⟩ = some (.slice (some ⟨g, 0, none⟩) m.pages.length c) ∧ w.cell? ⟨g3, o3 + a, none⟩ = some (.string z3) ∧ w.cell? ⟨g3, o3 + b, none⟩ = some (.string z4)) ∧ True) (by kernel_rfl) (by kernel_rfl) (by intro c a d v w h; cases d <;> exact h) ?_
        repeat
          first
          | (refine wpS_pure rfl rfl rfl ?_; apply Exists.intro; refine ⟨?_, ?_⟩; intro w; ((go_simp <;> rfl)); simp only [Act.put, List.setIfInBounds_toArray, List.set_cons_zero, List.set_cons_succ])
          | (refine wpS_take 18 rfl rfl (by decide +kernel) ⟨fun _ => ⟨cd, cA, cB⟩, trivial⟩ ?_; apply Exists.intro; refine ⟨?_, ?_⟩; intro w hw; (have qa := (hw rfl).1 (Nat.le_refl _); have qb := (hw rfl).2); ((go_simp <;> rfl)); simp only [Act.put, List.setIfInBounds_toArray, List.set_cons_zero, List.set_cons_succ])
          | (refine wpS_skip rfl rfl ?_; simp only [Act.put, List.setIfInBounds_toArray, List.set_cons_zero, List.set_cons_succ])
        refine wpS_op rfl ?_
        go_wp2_with (fail)
        (refine ⟨?_, ?_⟩; focus (intro kz hk hk2; rintro ⟨qa, qb⟩; first | (exfalso; simp at hk2; omega) | exact ⟨qa, qb⟩ | (refine ⟨fun h => absurd h (by omega), ?_⟩; first | exact qb | (exact qa)) | (refine ⟨fun h => ?_, ?_⟩; (have qa := qa h); all_goals (first | exact qa | exact qb | (exact qa)))))
        repeat
          first
          | (refine wpS_pure rfl rfl rfl ?_; apply Exists.intro; refine ⟨?_, ?_⟩; intro w; ((go_simp <;> rfl)); simp only [Act.put, List.setIfInBounds_toArray, List.set_cons_zero, List.set_cons_succ])
          | (refine wpS_take 18 rfl rfl (by decide +kernel) ⟨fun _ => ⟨cd, cA, cB⟩, trivial⟩ ?_; apply Exists.intro; refine ⟨?_, ?_⟩; intro w hw; (have qa := (hw rfl).1 (Nat.le_refl _); have qb := (hw rfl).2); ((go_simp <;> rfl)); simp only [Act.put, List.setIfInBounds_toArray, List.set_cons_zero, List.set_cons_succ])
          | (refine wpS_skip rfl rfl ?_; simp only [Act.put, List.setIfInBounds_toArray, List.set_cons_zero, List.set_cons_succ])
        refine wpS_op rfl ?_
        refine wpList_store_mid rfl 89 _ _ rfl g (j * 2) _ rfl rfl HTH.out Try.size_page (by simp [Value.oneCell']) ?_
        rw [List.toList_toArray]
        go_wp2
        refine ⟨fun kz h1 h2 _ => by exfalso; simp at h2; omega, ?_⟩
        refine wpS_nil ?_
        obtain ⟨h3, f3⟩ := HPUT.out
        have F6 := F5.trans (f3.mono (fun i hi _ => hi ▸ hSg)) (fun _ h _ => h)
        rw [← HS.out] at h3
        have H3 := hid h3
        clear h3 f3 HPUT HTH
        go_wp2
        go_roundw
        case rel => exact ⟨j + 1, at_ + 2, _, by omega, by omega, HQ2.out, by go_num, by go_num, H3.out, F6⟩
        case measure => simp [intOf]; omega
    · obtain rfl : j = m.pages.length := by omega
      obtain ⟨pa, pc, rfl, hpc⟩ := own_slice hR.own
      rw [hln] at c0 hR
      clear hpc hln
      have hME := HME.out
      rw [hME] at hR
      obtain ⟨mm, hmm⟩ : ∃ mm : DM, mm = { m with pages := (crashPages m.pages q).1 } := ⟨_, rfl⟩
      rw [← hmm] at hR
      have hml : mm.log = m.log := by rw [hmm]
      have hmf : mm.flushed = m.flushed := by rw [hmm]
      have hfl := OK.out.fl
      have hlg := OK.out.log
      have B := hR.b
      rw [hml, hmf] at B
      have c1 : wr.cell? ⟨d, 1, none⟩ = some (.string (bs m.log)) := B.cell 1
      have c2 : wr.cell? ⟨d, 2, none⟩ = some (.int .i64 m.flushed) := B.cell 2
      have c3 : wr.cell? ⟨d, 3, none⟩ = some (.bool (!mm.off)) := B.cell 3
      have c4 : wr.cell? ⟨d, 4, none⟩ = some (.bool mm.armed) := B.cell 4
      have z1 := B.frozen 1
      have z2 := B.frozen 2
      have z3 := B.frozen 3
      have z4 := B.frozen 4
      obtain ⟨t, ht⟩ : ∃ t, t = takeQ (q.drop at_) (m.log.length - m.flushed + 1) := ⟨_, rfl⟩
      have htl : t < m.log.length - m.flushed + 1 := ht ▸ takeQ_lt' _ _ (by omega)
      have hcr : m.crash q = { mm with flushed := m.flushed + t, log := m.log.take (m.flushed + t), off := false, armed := false } := by
        rw [hmm, ht]
        unfold DM.crash
        simp only [crashPages_snd]
        rw [HQD.out]
      have r1 : Calls Try.prog 63 #[.slice qa q.length qc, .int .i64 at_, .int .i64 ((m.log.length : Int) - (m.flushed : Int) + 1)] wr.drew fun e w' => e = .returned (.int .i64 t) ∧ wr.drew = w' := by
        have hq2 : QRep R wr.drew (.slice qa q.length qc) q := (HQ.out.fr fR HR.out).fr (Fr.refl (fun _ => False) wr).drew (fun _ _ h => h)
        have := rest_ref hq2 HQL.out at_ (m.log.length - m.flushed + 1) (by omega) (by omega)
        rw [← ht] at this
        have e : ((m.log.length - m.flushed + 1 : Nat) : Int) = (m.log.length : Int) - (m.flushed : Int) + 1 := by omega
        rw [e] at this
        exact this
      have R1 := hid r1
      have hs := bs_size m.log
      have ee : (bs m.log).extract 0 (m.flushed + t) = bs (m.log.take (m.flushed + t)) := by apply ByteArray.ext; simp [bs]
      have HCR := hid hcr
      have HH := hid hR
      have FR := hid fR
      have BB := hid B
      have hft : (m.flushed : Int) + (t : Int) ≤ m.log.length := by omega
      have hft2 : m.flushed + t ≤ m.log.length := by omega
      clear hME hmm hml hmf r1 hcr hR fR B ht hqd
      go_wp2_with (fail)
      refine wp_region_script [(true, 0), (true, 1), (true, 2), (true, 3), (true, 4), (true, 5), (true, 6), (true, 7), (true, 8), (true, 9), (true, 10), (true, 11), (true, 12), (true, 13), (true, 14), (true, 15), (true, 16), (true, 17), (false, 18), (true, 19), (true, 20), (true, 21), (false, 22)] (fun kz w => (kz ≤ 22 → w.cell? ⟨d, 1, none⟩ = some (.string (bs m.log)) ∧ w.cell? ⟨d, 2, none⟩ = some (.int .i64 m.flushed)) ∧ True) (by kernel_rfl) (by kernel_rfl) (by intro c a d v w h; cases d <;> exact h) ?_
      repeat
        first
        | (refine wpS_pure rfl rfl rfl ?_; apply Exists.intro; refine ⟨?_, ?_⟩; intro w; ((go_simp <;> rfl)); simp only [Act.put, List.setIfInBounds_toArray, List.set_cons_zero, List.set_cons_succ])
        | (refine wpS_take 22 rfl rfl (by decide +kernel) ⟨fun _ => ⟨c1, c2⟩, trivial⟩ ?_; apply Exists.intro; refine ⟨?_, ?_⟩; intro w hw; (have qa := (hw rfl).1 (Nat.le_refl _); have qb := (hw rfl).2); ((go_simp <;> rfl)); simp only [Act.put, List.setIfInBounds_toArray, List.set_cons_zero, List.set_cons_succ])
        | (refine wpS_skip rfl rfl ?_; simp only [Act.put, List.setIfInBounds_toArray, List.set_cons_zero, List.set_cons_succ])
      refine wpS_op rfl ?_
      go_wp2_with ((go_at_call 63; (with_reducible refine R1.out.mono ?_); rintro e w' ⟨rfl, rfl⟩))
      (refine ⟨?_, ?_⟩; focus (intro kz hk hk2; rintro ⟨qa, qb⟩; first | (exfalso; simp at hk2; omega) | exact ⟨qa, qb⟩ | (refine ⟨fun h => absurd h (by omega), ?_⟩; first | exact qb | (exact qa)) | (refine ⟨fun h => ?_, ?_⟩; (have qa := qa h); all_goals (first | exact qa | exact qb | (exact qa)))))
      repeat
        first
        | (refine wpS_pure rfl rfl rfl ?_; apply Exists.intro; refine ⟨?_, ?_⟩; intro w; ((go_simp <;> rfl)); simp only [Act.put, List.setIfInBounds_toArray, List.set_cons_zero, List.set_cons_succ])
        | (refine wpS_take 22 rfl rfl (by decide +kernel) ⟨fun _ => ⟨c1, c2⟩, trivial⟩ ?_; apply Exists.intro; refine ⟨?_, ?_⟩; intro w hw; (have qa := (hw rfl).1 (Nat.le_refl _); have qb := (hw rfl).2); ((go_simp <;> rfl)); simp only [Act.put, List.setIfInBounds_toArray, List.set_cons_zero, List.set_cons_succ])
        | (refine wpS_skip rfl rfl ?_; simp only [Act.put, List.setIfInBounds_toArray, List.set_cons_zero, List.set_cons_succ])
      refine wpS_op rfl ?_
      go_wp2_with (fail)
      refine ⟨fun kz h1 h2 _ => by exfalso; simp at h2; omega, ?_⟩
      refine wpS_nil ?_
      have f1 := ((Fr.refl (fun i => i = d) wr).setCell ⟨d, 2, none⟩ (.int .i64 ((m.flushed : Int) + (t : Int))) (fun _ => rfl)).drew
      have B1 := (BB.out.set 2 (.int .i64 ((m.flushed : Int) + (t : Int)))).drew
      generalize (wr.setCell ⟨d, 2, none⟩ (.int .i64 ((m.flushed : Int) + (t : Int)))).drew = W1 at *
      have e1 : W1.cell? ⟨d, 1, none⟩ = some (.string (bs m.log)) := B1.cell 1
      have e2 : W1.cell? ⟨d, 2, none⟩ = some (.int .i64 ((m.flushed : Int) + (t : Int))) := B1.cell 2
      have y1 := B1.frozen 1
      clear c1 c2 c3 c4 z1 z2 z3 z4 R1
      go_wp2_with (fail)
      refine wp_region_script [(true, 0), (true, 1), (true, 2), (true, 3), (true, 4), (true, 5), (true, 6), (true, 7), (true, 8), (true, 9), (true, 10), (true, 11), (false, 12)] (fun kz w => (kz ≤ 12 → w.cell? ⟨d, 1, none⟩ = some (.string (bs m.log)) ∧ w.cell? ⟨d, 2, none⟩ = some (.int .i64 ((m.flushed : Int) + (t : Int)))) ∧ True) (by kernel_rfl) (by kernel_rfl) (by intro c a d v w h; cases d <;> exact h) ?_
      repeat
        first
        | (refine wpS_pure rfl rfl rfl ?_; apply Exists.intro; refine ⟨?_, ?_⟩; intro w; ((go_simp <;> rfl)); simp only [Act.put, List.setIfInBounds_toArray, List.set_cons_zero, List.set_cons_succ])
        | (refine wpS_take 12 rfl rfl (by decide +kernel) ⟨fun _ => ⟨e1, e2⟩, trivial⟩ ?_; apply Exists.intro; refine ⟨?_, ?_⟩; intro w hw; (have qa := (hw rfl).1 (Nat.le_refl _); have qb := (hw rfl).2); ((go_simp <;> rfl)); simp only [Act.put, List.setIfInBounds_toArray, List.set_cons_zero, List.set_cons_succ])
        | (refine wpS_skip rfl rfl ?_; simp only [Act.put, List.setIfInBounds_toArray, List.set_cons_zero, List.set_cons_succ])
      refine wpS_op rfl ?_
      go_wp2_with (fail)
      refine ⟨fun kz h1 h2 _ => by exfalso; simp at h2; omega, ?_⟩
      refine wpS_nil ?_
      have f2 := f1.setCell ⟨d, 1, none⟩ (.string (bs (m.log.take (m.flushed + t)))) (fun _ => rfl) |>.drew
      have B2 := (B1.set 1 (.string (bs (m.log.take (m.flushed + t))))).drew
      have x3 : W1.cell? ⟨d, 3, none⟩ = some (.bool (!mm.off)) := B1.cell 3
      have x4 : W1.cell? ⟨d, 4, none⟩ = some (.bool mm.armed) := B1.cell 4
      have y3 := B1.frozen 3
      have y4 := B1.frozen 4
      have F2 := hid f2
      have BB2 := hid B2
      clear e1 e2 y1 B1 f1 f2 B2
      go_wp2
      go_end0
      have f2 := F2.out
      have B2 := BB2.out
      have f3 := (f2.setCell ⟨d, 3, none⟩ (.bool true) (fun _ => rfl)).setCell ⟨d, 4, none⟩ (.bool false) (fun _ => rfl)
      have B3 := (B2.set 3 (.bool true)).set 4 (.bool false)
      have hU : RRep S (((W1.setCell ⟨d, 1, none⟩ (.string (bs (m.log.take (m.flushed + t))))).drew.setCell ⟨d, 3, none⟩ (.bool true)).setCell ⟨d, 4, none⟩ (.bool false)) d (m.crash q) _ wvj := HH.out.upd f3 (by rw [HCR.out]) (by rw [HCR.out]; exact B3)
      exact ⟨rfl, ⟨⟨_, _, hU.ext⟩, FR.out.trans (f3.mono (fun i hi _ => hi ▸ HH.out.sd)) (fun _ h _ => h)⟩⟩
