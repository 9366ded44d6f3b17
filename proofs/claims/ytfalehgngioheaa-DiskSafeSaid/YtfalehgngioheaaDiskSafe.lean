/- Proved: for every slice of calls and every two slices of integers the law DiskSafe of chapter 05 returns true, and its arguments read afterwards as before. Conditions: none beyond the given statement. -/
import Derived.Test.YtfalehgngioheaaDiskSafeM
import Derived.Test.YtfalehgngioheaaDiskArgs
import Derived.Test.YtfalehgngioheaaFin
set_option linter.unusedVariables false
namespace Go.Proofs.Ytfalehgngioheaa
open Go.RowKit Go.VB Go.VB.Disk
/-- the first k pages' contents -/
def wasL (r : Nat → Bytes) (k : Nat) : List Bytes := [if 0 < k then r 0 else [], if 1 < k then r 1 else [], if 2 < k then r 2 else [], if 3 < k then r 3 else []]
theorem wasL_set {r : Nat → Bytes} {k : Nat} (hk : k < 4) : (∃ x, (sv (wasL r k))[k]? = some (.string (bs x))) ∧ (sv (wasL r k)).set k (.string (bs (r k))) = sv (wasL r (k + 1)) ∧ (sv (wasL r 4))[k]? = some (.string (bs (r k))) := by
  rcases (show k = 0 ∨ k = 1 ∨ k = 2 ∨ k = 3 by omega) with rfl | rfl | rfl | rfl
  · exact ⟨⟨_, rfl⟩, rfl, rfl⟩
  · exact ⟨⟨_, rfl⟩, rfl, rfl⟩
  · exact ⟨⟨_, rfl⟩, rfl, rfl⟩
  · exact ⟨⟨_, rfl⟩, rfl, rfl⟩
theorem list2 {α : Type} {L : List α} (h : L.length = 2) : ∃ a b, L = [a, b] := by
  match L, h with
  | [a, b], _ => exact ⟨a, b, rfl⟩
structure SafeInv (d : Nat) (X : Nat → Prop) (w wr : World) (k : Nat) (m : DM) : Prop where
  g : G X wr d m
  fr : Fr (fun j => ¬ X j) w wr
  ok : m.Ok k
  pages : m.pages.length = 4
set_option maxHeartbeats 2000000 in
theorem DiskSafe_walk (L : List (Ca × Value)) (q0 q1 : List Int × Value) (w : World) (hLl : L.length ≤ maxLen) (hL : ∀ p ∈ L, GoodCall w p) (h0 : QRep (fun j => j < w.heap.size) w q0.2 q0.1 ∧ q0.1.length ≤ maxLen) (h1 : QRep (fun j => j < w.heap.size) w q1.2 q1.1 ∧ q1.1.length ≤ maxLen)
    (v : Value) (hv : Sl (fun k => k < w.heap.size) w v L.length (L.flatMap ccs)) :
    Calls Try.prog 10 #[v, .agg #[q0.2, q1.2]] w fun e w' => e = .returned (.bool true) ∧ Fr (fun _ => False) w w' := by
  have e63 : maxLen = 9223372036854775807 := rfl
  rw [e63] at hLl h0 h1
  have B0 := Blk.new w [q0.2, q1.2] 55
  have F0 := (Fr.refl (fun _ => False) w).alloc (.cells [q0.2, q1.2].toArray 55)
  have z0 : (w.alloc (.cells [q0.2, q1.2].toArray 55)).heap.size = w.heap.size + 1 := by simp
  generalize hW0 : w.alloc (.cells [q0.2, q1.2].toArray 55) = W0 at *
  have HW0 := hid hW0
  have Z0 := hid z0
  have HL := hid hL
  have H0 := hid h0
  have H1 := hid h1
  have HV := hid hv
  have HLl := hid hLl
  clear hW0 z0 hL h0 h1 hv hLl e63
  go_enter Try.func10, Try.ntmps10
  go_wp2_with (fail)
  rw [HW0.out]
  refine (sanity_go _).mono ?_
  rintro e w1 ⟨rfl, f1⟩
  go_wp2_with (fail)
  refine (New_G _ _).mono ?_
  rintro e w2 ⟨rfl, g2, f2⟩
  have F2 := (F0.trans f1 (fun _ h _ => h)).trans f2 (fun _ h _ => h)
  have B2 := (B0.fr f1 (fun h => h)).fr f2 (fun h => h)
  have l1 := B0.lt
  have s1 := f1.size
  have s2 := f2.size
  generalize hd : w1.heap.size + 1 = d at *
  clear hd
  have g2 : G (fun j => j < w1.heap.size) w2 d (DM.new 4) := g2
  have hfew := few_go (fun j => j < w.heap.size) L HLl.out (fun p hp => ⟨(HL.out p hp).1, (HL.out p hp).2.1⟩) w2 (fun p hp => (HL.out p hp).2.2.fr F2 (fun _ _ h => h)) v ((HV.out.fr F2 (fun _ _ h => h)).mono (fun _ _ => trivial))
  go_wp2_with (fail)
  refine hfew.mono ?_
  rintro e w3 ⟨vf, rfl, fp⟩
  have F3 := F2.trans fp.fr (fun _ h _ => h)
  have B3 := B2.fr fp.fr (fun h => h)
  have g3 := g2.own (fp.fr.mono (fun _ h _ => h.elim))
  obtain ⟨af, cf, rfl, hcf⟩ := own_slice fp.own
  have s3 := fp.fr.size
  have HX := hid (fun j (hj : j < w.heap.size) => (Or.inl (by have := Z0.out; omega) : j < w1.heap.size ∨ (w2.heap.size ≤ j ∧ j < w3.heap.size)))
  have xB : w.heap.size < w1.heap.size ∨ (w2.heap.size ≤ w.heap.size ∧ w.heap.size < w3.heap.size) := .inl (by omega)
  have hsl := own_sl (R := fun j => j < w1.heap.size ∨ (w2.heap.size ≤ j ∧ j < w3.heap.size)) fp.own (fun j hj => .inr ⟨fp.new j hj, own_lt fp.own hj⟩)
  have INV0 := hid (show SafeInv d (fun j => j < w1.heap.size ∨ (w2.heap.size ≤ j ∧ j < w3.heap.size)) w3 w3 0 (DM.new 4) from ⟨g3, Fr.refl _ _, Ok_new 4 (by omega), rfl⟩)
  clear g3 g2 hfew B2 F2 f1 f2 F0 B0 s3 fp
  have HSL := hid hsl
  clear hsl s1 s2 l1
  have XF := hid F3
  have XB := hid B3
  clear F3 B3
  generalize hXX : (fun j => j < w1.heap.size ∨ (w2.heap.size ≤ j ∧ j < w3.heap.size)) = X at *
  have HX : Hid (∀ j, j < w.heap.size → X j) := by subst hXX; exact HX
  have xB : X w.heap.size := by subst hXX; exact xB
  clear hXX
  have hfl : (fewL L).length ≤ 60 := by rw [fewL_length]; omega
  have hfm : ∀ p ∈ fewL L, p.1.s.length ≤ 1000000 ∧ p.1.q.length ≤ 9223372036854775807 ∧ QRep (fun j => j < w.heap.size) w p.2 p.1.q := by
    intro p hp
    simp only [fewL, List.mem_map] at hp
    obtain ⟨p0, hp0, rfl⟩ := hp
    have := HL.out p0 (List.mem_of_mem_take hp0)
    exact ⟨by simp [Ca.cut]; omega, by simp [Ca.cut]; omega, QRep_cut this.2.2⟩
  have HFM := hid hfm
  clear hfm HL HV HLl
  generalize fewL L = FL at *
  go_wp2
  go_loopw [8] (fun i wr => ∃ (k : Nat) (m : DM), k ≤ FL.length ∧ i = .int .i64 k ∧ SafeInv d X w3 wr k m) (fun i _ => FL.length - (intOf i).toNat)
  case atStart => exact ⟨0, _, by omega, rfl, INV0.out⟩
  case round =>
    obtain ⟨k, m, hkl, rfl, inv⟩ := hrel
    clear INV0
    by_cases hk : k < FL.length
    · obtain ⟨ao, cp, hv, hcp, hrow⟩ := HSL.out
      obtain ⟨rfl, rfl⟩ : af = ao ∧ cf = cp := by simpa using hv
      obtain ⟨g1, o1, rfl, hX1, hrow⟩ := hrow (by cases FL with | nil => simp at hk | cons p FL => simp [ccs])
      have hr1 : w3.rangeAt g1 (o1 + k * 4) (ccs FL[k]) := by
        intro j u hj
        have hj4 : j < 4 := (List.getElem?_eq_some_iff.1 hj).1
        have := hrow (k * 4 + j) u (by rw [flatMap_at ccs 4 (fun _ => rfl) FL k hk j hj4]; exact hj)
        rwa [← Nat.add_assoc] at this
      have hr2 := range_fr hr1 inv.fr (fun h => h hX1)
      obtain ⟨p1, p2, p3⟩ := HFM.out _ (List.getElem_mem hk)
      generalize FL[k] = p at *
      have hq := ((p3.mono (fun j hj => HX.out j hj)).fr XF.out (fun _ _ h => h)).fr inv.fr (fun j hj h => h hj)
      have hD := do_G inv.g inv.ok (by omega) p.1.kind p.1.n p.1.s p1 hq p2
      have hr3 : wr.rangeAt g1 (o1 + k * 4) [.int .i64 p.1.kind, .int .i64 p.1.n, .string (bs p.1.s), p.2] := hr2
      clear hr2 hr1 hrow hv hq p1 p2 p3
      go_wp2_with (first
        | (refine wpList_load_mid rfl 52 _ rfl g1 _ rfl _ _ hr3 Try.underlying52 rfl Try.size_call ?_)
        | (go_at_call 30; refine hD.mono ?_; rintro e w5 ⟨rfl, g5, f5⟩))
      have inv' : SafeInv d X w3 w5 (k + 1) (m.dok fill p.1.kind p.1.n p.1.s p.1.q).1 := ⟨g5, inv.fr.trans f5 (fun _ h _ => h), Ok_dok inv.ok _ _ _ _, (dok_pages _ _ _ _).trans inv.pages⟩
      go_roundw
      case rel => exact ⟨k + 1, _, by omega, by go_num, inv'⟩
      case measure => simp [intOf]; omega
    · obtain ⟨e1, e2, e3, e4, e5, e6⟩ := safe_law inv.ok q0.1 q1.1 inv.pages
      obtain ⟨hg, hfr, ok, -⟩ := inv
      have ok1 := Ok_crash ok q0.1
      have ok2 := Ok_sync ok1
      have ok3 := Ok_flush ok2
      have ok4 := Ok_crash ok3 q1.1
      have BB := XB.out.fr hfr (fun h => h xB)
      have FF := XF.out.trans hfr (fun j hj hlt => hj (HX.out j hlt))
      have c0 : wr.cell? ⟨w.heap.size, 0, none⟩ = some q0.2 := BB.cell 0
      have hq0 := (H0.out.1.mono (fun j hj => HX.out j hj)).fr FF (fun _ _ h => h)
      have hC := Crash_G hg ok (by omega) hq0 H0.out.2
      generalize hb0 : w.heap.size = b0 at BB c0 xB ⊢
      have HB0 := hid hb0
      clear hb0 hfr hg hq0 XB XF HSL HFM HW0 Z0
      go_wp2_with (first | fail)
      refine hC.mono ?_
      rintro e w4 ⟨rfl, g4, f4⟩
      have F4 := FF.trans f4 (fun j hj hlt => hj (HX.out j hlt))
      have B4 := BB.fr f4 (fun h => h xB)
      clear hC f4 FF BB c0
      generalize hm1 : m.crash q0.1 = m1 at *
      have HM1 := hid hm1
      clear hm1 ok
      obtain ⟨r, hr⟩ : ∃ r : Nat → Bytes, r = fun n : Nat => (m1.read (n : Int)).1 := ⟨_, rfl⟩
      have hrd : ∀ n : Nat, n < 4 → m1.read n = (r n, 0) := fun n hn => by
        subst hr
        exact Prod.ext rfl (e6 n hn)
      have f5 := (Fr.refl X w4).alloc (.cells (sv (wasL r 0)).toArray 57)
      have g5 := g4.own f5
      have B5 := Blk.new w4 (sv (wasL r 0)) 57
      have F5 := F4.alloc (.cells (sv (wasL r 0)).toArray 57)
      have B05 := B4.alloc (.cells (sv (wasL r 0)).toArray 57)
      have hne : b0 ≠ w4.heap.size := by have := B4.lt; omega
      have hw4 : w.heap.size ≤ w4.heap.size := F4.size
      have H5 : ∀ W, W = w4.alloc (.cells (sv (wasL r 0)).toArray 57) → G (fun j => X j ∨ (w4.heap.size ≤ j ∧ j < W.heap.size)) W d m1 ∧ Blk W w4.heap.size (sv (wasL r 0)) 57 ∧ Fr (fun _ => False) w W ∧ Blk W b0 [q0.2, q1.2] 55 ∧ w4.heap.size < W.heap.size := by
        rintro W rfl
        exact ⟨g5, B5, F5, B05, by simp⟩
      have HH5 := hid H5
      have HRD := hid hrd
      have E1 := hid e1
      have E2 := hid e2
      have E3 := hid e3
      have E4 := hid e4
      have E5 := hid e5
      clear H5 g5 B5 F5 B05 f5 g4 F4 B4 hrd hr e1 e2 e3 e4 e5 e6
      go_wp2
      obtain ⟨W, hW⟩ : ∃ W, W = w4.alloc (.cells (sv (wasL r 0)).toArray 57) := ⟨_, rfl⟩
      obtain ⟨g5, B5, F5, B05, hlt5⟩ := HH5.out W hW
      have hW2 : w4.alloc (Obj.cells #[Value.string { data := #[] }, Value.string { data := #[] }, Value.string { data := #[] }, Value.string { data := #[] }] 57) = W := hW.symm
      rw [hW2]
      clear HH5 hW hW2
      generalize w4.heap.size = bW at *
      generalize hX' : (fun j => X j ∨ (bW ≤ j ∧ j < W.heap.size)) = Y at *
      have HXY : ∀ j, X j → Y j := fun j hj => by subst hX'; exact .inl hj
      have hYW : Y bW := by subst hX'; exact .inr ⟨Nat.le_refl _, hlt5⟩
      clear hX' hlt5
      go_loopw [10] (fun i wz => ∃ k2 : Nat, k2 ≤ 4 ∧ i = .int .i64 k2 ∧ Blk wz bW (sv (wasL r k2)) 57 ∧ G Y wz d m1 ∧ Fr (fun j => j = bW) W wz) (fun i _ => 4 - (intOf i).toNat)
      case atStart => exact ⟨0, by omega, rfl, B5, g5, Fr.refl _ _⟩
      case round =>
        obtain ⟨k2, hk2, rfl, bz, gz, fz⟩ := hrel
        clear B5 g5
        by_cases hk4 : k2 < 4
        · obtain ⟨⟨x, w1s⟩, w2s, w3s⟩ := wasL_set (r := r) hk4
          have hR := Read_G gz ok1 (by omega) k2
          rw [HRD.out k2 hk4] at hR
          have W2 := hid w2s
          clear w2s w3s
          go_wp2_with (first
            | (go_at_call 20; refine hR.mono ?_; rintro e w5 ⟨rfl, g5, f5⟩; (have hold : w5.cell? ⟨bW, k2, none⟩ = some (.string (bs x)) := by rw [(bz.fr f5 (fun h => h)).cell, w1s]); (have hfz : w5.frozen? ⟨bW, k2, none⟩ = false := (bz.fr f5 (fun h => h)).frozen k2)))
          have fs := (Fr.refl (fun j => j = bW) w5).setCell ⟨bW, k2, none⟩ (.string (bs (r k2))) (fun _ => rfl)
          have bz' := (bz.fr f5 (fun h => h)).set k2 (.string (bs (r k2)))
          rw [W2.out] at bz'
          have gz' := g5.fr fs (fun j hj => hj ▸ hYW)
          have fz' := (fz.trans f5 (fun _ h _ => h.elim)).trans fs (fun _ h _ => h)
          go_roundw
          case rel => exact ⟨k2 + 1, by omega, by go_num, bz', gz', fz'⟩
          case measure => simp [intOf]; omega
        · obtain rfl : k2 = 4 := by omega
          have FF := F5.trans fz (fun j hj hlt => by subst hj; omega)
          have BB := B05.fr fz (fun h => hne h)
          have hL := Log_G gz
          have hS := Sync_G gz ok1 (by omega)
          rw [E1.out] at hS
          clear B05 F5 fz hne
          go_wp2_with (first
            | (go_at_call 22; refine hL.mono ?_; rintro e w' ⟨rfl, rfl⟩)
            | fail)
          refine hS.mono ?_
          rintro e w6 ⟨rfl, g6, f6⟩
          have F6 := FF.trans f6 (fun j hj hlt => hj (HXY _ (HX.out j hlt)))
          have B6 := BB.fr f6 (fun h => h (HXY _ xB))
          have b6 := bz.fr f6 (fun h => h hYW)
          have hF := Flush_G g6
          rw [E2.out] at hF
          clear hS hL f6 FF BB bz gz
          go_wp2_with (fail)
          refine hF.mono ?_
          rintro e w7 ⟨rfl, g7, f7⟩
          have F7 := F6.trans f7 (fun j hj hlt => hj (HXY _ (HX.out j hlt)))
          have B7 := B6.fr f7 (fun h => h (HXY _ xB))
          have b7 := b6.fr f7 (fun h => h hYW)
          have c1 : w7.cell? ⟨b0, 1, none⟩ = some q1.2 := B7.cell 1
          have hq1 := (H1.out.1.mono (fun j hj => HXY _ (HX.out j hj))).fr F7 (fun _ _ h => h)
          have hC := Crash_G g7 ok3 (by omega) hq1 H1.out.2
          clear hF f7 F6 B6 b6 g6 B7 hq1
          go_wp2_with (fail)
          refine hC.mono ?_
          rintro e w8 ⟨rfl, g8, f8⟩
          have F8 := F7.trans f8 (fun j hj hlt => hj (HXY _ (HX.out j hlt)))
          have b8 := b7.fr f8 (fun h => h hYW)
          clear hC f8 F7 b7 c1 g7
          have hls := bs_size m1.log
          go_wp2
          go_loopw [14] (fun i wz => ∃ k3 : Nat, k3 ≤ 4 ∧ i = .int .i64 k3 ∧ Fr (fun _ => False) w8 wz) (fun i _ => 4 - (intOf i).toNat)
          case atStart => exact ⟨0, by omega, rfl, Fr.refl _ _⟩
          case round =>
            obtain ⟨k3, hk3, rfl, fz⟩ := hrel
            rename_i wz _
            have gz := g8.fr fz (fun _ h => h.elim)
            by_cases hk4 : k3 < 4
            · obtain ⟨-, -, w3s⟩ := wasL_set (r := r) hk4
              have hR := Read_G gz ok4 (by omega) k3
              rw [E5.out, HRD.out k3 hk4] at hR
              have bzz := b8.fr fz (fun h => h)
              have W3 := hid w3s
              clear w3s
              go_wp2_with (first
                | (go_at_call 20; refine hR.mono ?_; rintro e w9 ⟨rfl, g9, f9⟩; (have hold : w9.cell? ⟨bW, k3, none⟩ = some (.string (bs (r k3))) := by rw [(bzz.fr f9 (fun h => h)).cell, W3.out])))
              go_roundw
              case rel => exact ⟨k3 + 1, by omega, by go_num, fz.trans f9 (fun _ h _ => h)⟩
              case measure => simp [intOf]; omega
            · obtain rfl : k3 = 4 := by omega
              have hL2 := Log_G gz
              rw [E3.out] at hL2
              have hFl := Flushed_G gz
              rw [E4.out] at hFl
              have FF := F8.trans fz (fun _ h _ => h)
              generalize bs m1.log = bl at *
              have HL2 := hid hL2
              have HFl := hid hFl
              clear hL2 hFl gz fz F8 g8 b8
              go_wp2_with (first
                | (go_at_call 22; refine HL2.out.mono ?_; rintro e w' ⟨rfl, rfl⟩)
                | (go_at_call 25; refine HFl.out.mono ?_; rintro e w' ⟨rfl, rfl⟩))
              go_ret
              exact ⟨rfl, FF⟩
end Go.Proofs.Ytfalehgngioheaa
namespace Go.Proofs.Ytfalehgngioheaa.diskSafe
open Go.ChangeShapes Go.WideShapes Go.ChangeAt Go.RowKit Go.VB Go.VB.Disk
set_option maxHeartbeats 400000 in
set_option maxRecDepth 100000 in
theorem lifted (os : Os) (started : os.Started) (H : Type) (enc : TypeId × Value → H) :
    ReturnsInHanded {} Try.checked os 10 .any (Rows.diskSafeSpec.pre6 enc Try.prog Try.f10 Rows.diskSafeRow.domain false) (Rows.diskSafeSpec.post enc Try.prog Try.f10 false true false false) := by
  refine returnsInHanded_of_change (C := Try.checked) own started (by kernel_rfl) Try.func10
    (ChangeSpec.witness6 (enc := enc) (C := Try.checked) false ⟨#[], #[.slice none 0 0, .agg #[.slice none 0 0, .slice none 0 0]], []⟩ 8 (by kernel_rfl) (by kernel_rfl) (by kernel_rfl) (by kernel_rfl)) ?_
  intro W base args ds gs before hval0 hW hcnd _
  have hval : ∀ (j : Nat) t v, Try.f10.params[j]? = some t → args[j]? = some v → Value.okWide Try.prog W .any base t v := hval0
  have hW' := hW
  obtain ⟨p, q, hA0, hV, rfl, hfz, hnd⟩ := hW
  have hA : DataW.TrodAll enc Try.prog W 0 (fun _ => true) true Try.f10.params.toList args.toList ds p := hA0
  rw [Try.params10] at hA hval
  obtain ⟨v0, vs0, d0, ds0, p0, q0, hargs, rfl, rfl, h0, r0⟩ := trodAll_cons hA
  obtain ⟨v1, vs1, d1, ds1, p1, q1, rfl, rfl, rfl, h1, r1⟩ := trodAll_cons r0
  obtain ⟨rfl, rfl, rfl⟩ := trodAll_nil r1
  obtain rfl : args = #[v0, v1] := by cases args; simp_all
  obtain ⟨rfl, rfl⟩ := trodVars_none hV
  clear hA0 hval0
  refine Calls.mono (R := fun e w' => e = .returned (.bool true) ∧ Fr (fun _ => False) W w') ?_ fun e W' ⟨he, hf⟩ => ⟨_, he, post_law sound (by decide +kernel) rfl rfl (ht := Try.underlying4) (by rfl) hW' hf⟩
  obtain ⟨L, hs, hg, hl⟩ := open_sl Try.underlying54 (k := 4) cells_call (by omega) (hval 0 54 v0 rfl rfl) h0 ccs (GoodCall W) (fun _ => rfl) (fun fuel cs r hcs h => elem_call fuel cs r hcs h)
  obtain ⟨Q, rfl, hql, hqg⟩ := open_ar Try.underlying55 (k := 1) (by kernel_rfl) (by kernel_rfl) (hval 1 55 v1 rfl rfl) h1 (fun p : List Int × Value => [p.2]) (fun p => QRep (fun j => j < W.heap.size) W p.2 p.1 ∧ p.1.length ≤ maxLen) (fun fuel cs r h => elem_ints fuel cs r h)
  obtain ⟨q0, q1, rfl⟩ := list2 hql
  exact DiskSafe_walk L q0 q1 W hl hg (hqg q0 (by simp)) (hqg q1 (by simp)) v0 hs
theorem proved : Rows.DiskSafeSaid :=
  OpenClaim.holds_of_wide 10 Try.f10 rfl rfl rfl rfl rfl rfl rfl ⟨rfl, rfl, rfl, rfl, rfl⟩ rfl rfl rfl rfl rfl (by kernel_rfl) Try.func10 (by kernel_rfl)
    (of_decide_eq_true (by kernel_rfl)) (by unfold Func.isWrapper; first | (rw [if_pos (by decide +kernel)]; kernel_rfl) | (rw [if_neg (by decide +kernel)]; exact ⟨rfl, rfl⟩))
    (fun os started H enc _ => lifted os started H enc)
end Go.Proofs.Ytfalehgngioheaa.diskSafe
