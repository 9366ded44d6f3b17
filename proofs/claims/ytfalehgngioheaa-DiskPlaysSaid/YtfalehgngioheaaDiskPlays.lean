/- Proved: for every slice of calls and every number of pages the law DiskPlays of chapter 05 returns true, and its arguments read afterwards as before. Conditions: none beyond the given statement. -/
import Derived.Test.YtfalehgngioheaaRefK
import Derived.Test.YtfalehgngioheaaDiskArgs
import Derived.Test.YtfalehgngioheaaDiskSafeM
import Derived.Test.YtfalehgngioheaaFin
set_option linter.unusedVariables false
namespace Go.Proofs.Ytfalehgngioheaa
open Go.RowKit Go.VB Go.VB.Disk
/-- both disks stand for m; A: blocks that neither touches -/
structure PlayInv (d e : Nat) (A : Nat → Prop) (w wr : World) (k : Nat) (m : DM) : Prop where
  rep : ∃ (Y S : Nat → Prop) (pv : Value) (wv : List Value), G Y wr d m ∧ RRep S wr e m pv wv ∧ (∀ j, S j → Y j ∧ ¬ A j) ∧ (∀ j, A j → Y j)
  fr : Fr (fun j => ¬ A j) w wr
  ok : m.Ok k
  few : m.pages.length ≤ 5
theorem PlayInv.step {d e : Nat} {A Y S : Nat → Prop} {w wr w5 w6 : World} {k : Nat} {m' : DM} (hS : ∀ j, S j → Y j ∧ ¬ A j) (hA : ∀ j, A j → Y j) (fr : Fr (fun j => ¬ A j) w wr) (g5 : G Y w5 d m') (f5 : Fr (fun j => ¬ Y j) wr w5) (ro : ROut S w5 w6 e m') (ok : m'.Ok k) (few : m'.pages.length ≤ 5) : PlayInv d e A w w6 k m' := by
  obtain ⟨pv, wv, hr⟩ := ro.rep
  refine ⟨⟨_, _, pv, wv, g5.own (ro.fr.mono fun j hj _ => (hS j hj).1), hr, ?_, fun j hj => .inl (hA j hj)⟩, (fr.trans f5 fun j hj _ ha => hj (hA j ha)).trans ro.fr fun j hj _ => (hS j hj).2, ok, few⟩
  rintro j (hj | ⟨h1, h2⟩)
  · exact ⟨.inl (hS j hj).1, (hS j hj).2⟩
  · refine ⟨.inr ⟨h1, h2⟩, fun ha => ?_⟩
    obtain ⟨_, _, hlt, _⟩ := g5
    have := hlt j (hA j ha)
    omega
theorem PlayInv.same {d e : Nat} {A : Nat → Prop} {w wr w5 : World} {k : Nat} {m : DM} (h : PlayInv d e A w wr k m) (f : Fr (fun _ => False) wr w5) : PlayInv d e A w w5 k m := by
  obtain ⟨⟨Y, S, pv, wv, g, r, hS, hA⟩, fr, ok, few⟩ := h
  exact ⟨⟨Y, S, pv, wv, g.fr f (fun _ h => h.elim), r.fr f (fun _ _ h => h), hS, hA⟩, fr.trans f (fun _ h _ => h.elim), ok, few⟩
set_option maxHeartbeats 4000000 in
theorem DiskPlays_walk (L : List (Ca × Value)) (pages : Int) (w : World) (hLl : L.length ≤ maxLen) (hL : ∀ p ∈ L, GoodCall w p)
    (v : Value) (hv : Sl (fun k => k < w.heap.size) w v L.length (L.flatMap ccs)) :
    Calls Try.prog 11 #[v, .int .i64 pages] w fun e w' => e = .returned (.bool true) ∧ Fr (fun _ => False) w w' := by
  have e63 : maxLen = 9223372036854775807 := rfl
  rw [e63] at hLl
  have hn : 0 ≤ pages % 6 ∧ pages % 6 < 6 := ⟨by omega, by omega⟩
  have HL := hid hL
  have HV := hid hv
  have HLl := hid hLl
  clear hL hv hLl e63
  go_enter Try.func11, Try.ntmps11
  go_wp2_with (fail)
  refine (sanity_go _).mono ?_
  rintro e w1 ⟨rfl, f1⟩
  go_wp2_with (fail)
  refine (rest_any _ _ _ (by omega) (by omega)).mono ?_
  rintro e w1b ⟨rfl, rfl⟩
  go_wp2_with (fail)
  generalize hN : pages % 6 = n at *
  have HN := hid hN
  clear hN
  refine (New_G _ _).mono ?_
  rintro e w2 ⟨rfl, g2, f2⟩
  have s1 := f1.size
  have s2 := f2.size
  generalize hd : w1.heap.size + 1 = d at *
  have HD := hid hd
  clear hd
  go_wp2_with (fail)
  refine (New_ref w2 n (min n 400).toNat rfl).mono ?_
  rintro e w3 ⟨rfl, r3, f3⟩
  have s3 := f3.size
  generalize he : w2.heap.size = e at *
  have HE := hid he
  clear he
  obtain ⟨pv, wv, r3⟩ := r3
  have F3 := (f1.trans f2 (fun _ h _ => h)).trans f3 (fun _ h _ => h)
  have hfew := few_go (fun j => j < w.heap.size) L HLl.out (fun p hp => ⟨(HL.out p hp).1, (HL.out p hp).2.1⟩) w3 (fun p hp => (HL.out p hp).2.2.fr F3 (fun _ _ h => h)) v ((HV.out.fr F3 (fun _ _ h => h)).mono (fun _ _ => trivial))
  go_wp2_with (fail)
  refine hfew.mono ?_
  rintro _ w4 ⟨vf, rfl, fp⟩
  have F4 := F3.trans fp.fr (fun _ h _ => h)
  obtain ⟨af, cf, rfl, hcf⟩ := own_slice fp.own
  have s4 := fp.fr.size
  have g3 := (g2.own (f3.mono (fun _ h _ => h.elim))).own (fp.fr.mono (fun _ h _ => h.elim))
  have r4 := r3.fr fp.fr (fun _ _ h => h)
  have g4 : G (fun j => (j < w1.heap.size ∨ (w2.heap.size ≤ j ∧ j < w3.heap.size)) ∨ (w3.heap.size ≤ j ∧ j < w4.heap.size)) w4 d (DM.new (min n 400).toNat) := g3
  have hsl := own_sl (R := fun j => j < w.heap.size ∨ (w3.heap.size ≤ j ∧ j < w4.heap.size)) fp.own (fun j hj => .inr ⟨fp.new j hj, own_lt fp.own hj⟩)
  have hE := HE.out
  have INV0 := hid (show PlayInv d e (fun j => j < w.heap.size ∨ (w3.heap.size ≤ j ∧ j < w4.heap.size)) w4 w4 0 (DM.new (min n 400).toNat) from
    ⟨⟨_, _, pv, wv, g4, r4, fun j hj => ⟨.inl (.inr ⟨by omega, hj.2⟩), fun ha => by omega⟩, fun j hj => hj.elim (fun h => .inl (.inl (by omega))) .inr⟩, Fr.refl _ _, Ok_new _ (by omega), by simp [DM.new]; omega⟩)
  clear g3 g4 r3 r4 hfew f1 f2 f3 F3 fp g2
  have HSL := hid hsl
  have XF := hid F4
  clear hsl F4 s1 s2 s3 s4 hE
  generalize hXX : (fun j => j < w.heap.size ∨ (w3.heap.size ≤ j ∧ j < w4.heap.size)) = A at *
  have HX : Hid (∀ j, j < w.heap.size → A j) := hid (by subst hXX; exact fun j hj => .inl hj)
  clear hXX HE
  have hfl : (fewL L).length ≤ 60 := by rw [fewL_length]; omega
  have hfm : ∀ p ∈ fewL L, p.1.s.length ≤ 1000000 ∧ p.1.q.length ≤ 9223372036854775807 ∧ QRep (fun j => j < w.heap.size) w p.2 p.1.q := by
    intro p hp
    simp only [fewL, List.mem_map] at hp
    obtain ⟨p0, hp0, rfl⟩ := hp
    have := HL.out p0 (List.mem_of_mem_take hp0)
    exact ⟨by simp [Ca.cut]; omega, by simp [Ca.cut]; omega, QRep_cut this.2.2⟩
  have HFM := hid hfm
  clear hfm HL HV HLl
  generalize fewL L = FL at *
  generalize DM.new (min n 400).toNat = m0 at *
  go_wp2
  go_loopw [10] (fun i wr => ∃ (k : Nat) (m : DM), k ≤ FL.length ∧ i = .int .i64 k ∧ PlayInv d e A w4 wr k m) (fun i _ => FL.length - (intOf i).toNat)
  case atStart => exact ⟨0, m0, by omega, rfl, INV0.out⟩
  case round =>
    obtain ⟨k, m, hkl, rfl, inv⟩ := hrel
    clear INV0
    by_cases hk : k < FL.length
    · obtain ⟨ao, cp, hv, hcp, hrow⟩ := HSL.out
      obtain ⟨rfl, rfl⟩ : af = ao ∧ cf = cp := by simpa using hv
      obtain ⟨g1, o1, rfl, hX1, hrow⟩ := hrow (by cases FL with | nil => simp at hk | cons p FL => simp [ccs])
      have hr1 : w4.rangeAt g1 (o1 + k * 4) (ccs FL[k]) := by
        intro j u hj
        have hj4 : j < 4 := (List.getElem?_eq_some_iff.1 hj).1
        have := hrow (k * 4 + j) u (by rw [flatMap_at ccs 4 (fun _ => rfl) FL k hk j hj4]; exact hj)
        rwa [← Nat.add_assoc] at this
      have hr2 := range_fr hr1 inv.fr (fun h => h hX1)
      obtain ⟨p1, p2, p3⟩ := HFM.out _ (List.getElem_mem hk)
      generalize FL[k] = p at *
      obtain ⟨⟨Y, S, pv, wv, g, r, hS, hA⟩, fr, ok, hfew⟩ := inv
      have hq0 := (p3.fr XF.out (fun _ _ h => h)).fr fr (fun j hj h => h (HX.out j hj))
      have hD := do_G g ok (by omega) p.1.kind p.1.n p.1.s p1 (hq0.mono (fun j hj => hA j (HX.out j hj))) p2
      have hr3 : wr.rangeAt g1 (o1 + k * 4) [.int .i64 p.1.kind, .int .i64 p.1.n, .string (bs p.1.s), p.2] := hr2
      have hlt1 := lt_of_range (by simp) hr3
      clear hr2 hr1 hrow hv
      go_wp2_with (first
        | (refine wpList_load_mid rfl 52 _ rfl g1 _ rfl _ _ hr3 Try.underlying52 rfl Try.size_call ?_)
        | fail)
      refine hD.mono ?_
      rintro _ w5 ⟨rfl, g5, f5⟩
      have r5 := r.fr f5 (fun j hj h => h (hS j hj).1)
      have hr5 := range_fr hr3 f5 (fun h => h (hA _ hX1))
      have hq5 := hq0.fr f5 (fun j hj h => h (hA _ (HX.out j hj)))
      have hDo := Do_ref r5 (by omega) ok (by omega) p.1.kind p.1.n p.1.s p1 hq5 (fun j hj hs => (hS j hs).2 (HX.out j hj)) p2
      generalize hm : m.dok fill p.1.kind p.1.n p.1.s p.1.q = mo at *
      have HM := hid hm
      clear hm hD r hr3
      go_wp2_with (first
        | (refine wpList_load_mid rfl 52 _ rfl g1 _ rfl _ _ hr5 Try.underlying52 rfl Try.size_call ?_)
        | fail)
      refine hDo.mono ?_
      rintro _ w6 ⟨rfl, ro⟩
      have inv' : PlayInv d e A w4 w6 (k + 1) mo.1 := PlayInv.step hS hA fr g5 f5 ro (by rw [← HM.out]; exact Ok_dok (m := m) ok p.1.kind p.1.n p.1.s p.1.q) (by rw [← HM.out]; exact Nat.le_trans (Nat.le_of_eq (dok_pages (m := m) p.1.kind p.1.n p.1.s p.1.q)) hfew)
      have F7 := (Fr.refl (fun _ => False) w6).alloc (.cells #[Value.string (bs mo.2.1), .int .i64 mo.2.2] 62)
      have B7 := Blk.new w6 [Value.string (bs mo.2.1), .int .i64 mo.2.2] 62
      have INV := hid (inv'.same F7)
      clear inv' ro hDo g5 f5 r5 hr5 hq5 hq0 g fr F7 HM
      have k0 : (w6.alloc (.cells #[Value.string (bs mo.2.1), .int .i64 mo.2.2] 62)).cell? ⟨w6.heap.size, 0, none⟩ = some (.string (bs mo.2.1)) := B7.cell 0
      have k1 : (w6.alloc (.cells #[Value.string (bs mo.2.1), .int .i64 mo.2.2] 62)).cell? ⟨w6.heap.size, 1, none⟩ = some (.int .i64 mo.2.2) := B7.cell 1
      clear B7
      by_cases h7 : k % 8 = 7
      · have h7' : (k : Int) % 8 = 7 := by omega
        go_wp2_with (fail)
        obtain ⟨⟨Y2, S2, pv2, wv2, g2, r2, hS2, hA2⟩, -, ok2, few2⟩ := INV.out
        refine (same_ref g2 r2 (by omega) ok2 (by omega)).mono ?_
        rintro _ w8 ⟨rfl, f8⟩
        have INV2 := hid (INV.out.same f8)
        clear g2 r2 hS2 hA2 ok2 few2 INV k0 k1
        go_wp2_with (fail)
        go_roundw
        case rel => exact ⟨k + 1, _, by omega, by go_num, INV2.out⟩
        case measure => simp [intOf]; omega
      · have h7' : decide ((k : Int) % 8 = 7) = false := by simp; omega
        go_wp2_with (fail)
        go_roundw
        case rel => exact ⟨k + 1, _, by omega, by go_num, INV.out⟩
        case measure => simp [intOf]; omega
    · obtain ⟨⟨Y2, S2, pv2, wv2, g2, r2, hS2, hA2⟩, fr2, ok2, few2⟩ := inv
      have FR := hid (XF.out.trans fr2 (fun j h hl => h (HX.out j hl)))
      have hS := same_ref g2 r2 (by omega) ok2 (by omega)
      clear g2 r2 hS2 hA2 ok2
      have h3 : pages ≤ 0 ∨ (0 < pages ∧ pages ≤ 400) ∨ 400 < pages := by omega
      go_wp2_with (fail)
      refine hS.mono ?_
      rintro _ w8 ⟨rfl, f8⟩
      have FR2 := hid (FR.out.trans f8 (fun _ h _ => h))
      clear hS FR f8 fr2
      go_wp2_with (fail)
      refine (New_G _ _).mono ?_
      rintro _ w9 ⟨rfl, g9, f9⟩
      have FR3 := hid (FR2.out.trans f9 (fun _ h _ => h))
      have hP := Pages_G g9
      rw [show (DM.new (min pages 400).toNat).pages.length = (min pages 400).toNat by simp [DM.new]] at hP
      clear f9 FR2 g9
      go_wp2_with (fail)
      refine hP.mono ?_
      rintro _ w10 ⟨rfl, rfl⟩
      clear hP
      rcases h3 with h3 | ⟨h3, h4⟩ | h3
      · have e1 : (min pages 400).toNat = 0 := by omega
        rw [e1]
        clear e1
        go_wp2_with (fail)
        go_ret
        exact ⟨rfl, FR3.out⟩
      · have e1 : (((min pages 400).toNat : Nat) : Int) = pages := by omega
        rw [e1]
        clear e1
        go_wp2_with (fail)
        go_ret
        exact ⟨rfl, FR3.out⟩
      · have e1 : (min pages 400).toNat = 400 := by omega
        rw [e1]
        clear e1
        go_wp2_with (fail)
        go_ret
        exact ⟨rfl, FR3.out⟩
end Go.Proofs.Ytfalehgngioheaa
namespace Go.Proofs.Ytfalehgngioheaa.diskPlays
open Go.ChangeShapes Go.WideShapes Go.ChangeAt Go.RowKit Go.VB Go.VB.Disk
set_option maxHeartbeats 400000 in
set_option maxRecDepth 100000 in
theorem lifted (os : Os) (started : os.Started) (H : Type) (enc : TypeId × Value → H) :
    ReturnsInHanded {} Try.checked os 11 .any (Rows.diskPlaysSpec.pre6 enc Try.prog Try.f11 Rows.diskPlaysRow.domain false) (Rows.diskPlaysSpec.post enc Try.prog Try.f11 false true false false) := by
  refine returnsInHanded_of_change (C := Try.checked) own started (by kernel_rfl) Try.func11
    (ChangeSpec.witness6 (enc := enc) (C := Try.checked) false ⟨#[], #[.slice none 0 0, .int .i64 0], []⟩ 8 (by kernel_rfl) (by kernel_rfl) (by kernel_rfl) (by kernel_rfl)) ?_
  intro W base args ds gs before hval0 hW hcnd _
  have hval : ∀ (j : Nat) t v, Try.f11.params[j]? = some t → args[j]? = some v → Value.okWide Try.prog W .any base t v := hval0
  have hW' := hW
  obtain ⟨p, q, hA0, hV, rfl, hfz, hnd⟩ := hW
  have hA : DataW.TrodAll enc Try.prog W 0 (fun _ => true) true Try.f11.params.toList args.toList ds p := hA0
  rw [Try.params11] at hA hval
  obtain ⟨v0, vs0, d0, ds0, p0, q0, hargs, rfl, rfl, h0, r0⟩ := trodAll_cons hA
  obtain ⟨v1, vs1, d1, ds1, p1, q1, rfl, rfl, rfl, h1, r1⟩ := trodAll_cons r0
  obtain ⟨rfl, rfl, rfl⟩ := trodAll_nil r1
  obtain rfl : args = #[v0, v1] := by cases args; simp_all
  obtain ⟨rfl, rfl⟩ := trodVars_none hV
  clear hA0 hval0
  refine Calls.mono (R := fun e w' => e = .returned (.bool true) ∧ Fr (fun _ => False) W w') ?_ fun e W' ⟨he, hf⟩ => ⟨_, he, post_law sound (by decide +kernel) rfl rfl (ht := Try.underlying4) (by rfl) hW' hf⟩
  obtain ⟨L, hs, hg, hl⟩ := open_sl Try.underlying54 (k := 4) cells_call (by omega) (hval 0 54 v0 rfl rfl) h0 ccs (GoodCall W) (fun _ => rfl) (fun fuel cs r hcs h => elem_call fuel cs r hcs h)
  obtain ⟨a1, rfl, -, -, -⟩ := open_int Try.underlying3 (hval 1 3 v1 rfl rfl) h1
  exact DiskPlays_walk L a1 W hl hg v0 hs
theorem proved : Rows.DiskPlaysSaid :=
  OpenClaim.holds_of_wide 11 Try.f11 rfl rfl rfl rfl rfl rfl rfl ⟨rfl, rfl, rfl, rfl, rfl⟩ rfl rfl rfl rfl rfl (by kernel_rfl) Try.func11 (by kernel_rfl)
    (of_decide_eq_true (by kernel_rfl)) (by unfold Func.isWrapper; first | (rw [if_pos (by decide +kernel)]; kernel_rfl) | (rw [if_neg (by decide +kernel)]; exact ⟨rfl, rfl⟩))
    (fun os started H enc _ => lifted os started H enc)
end Go.Proofs.Ytfalehgngioheaa.diskPlays
