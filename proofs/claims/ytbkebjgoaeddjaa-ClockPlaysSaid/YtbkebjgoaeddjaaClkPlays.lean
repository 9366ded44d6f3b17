/- Proved: for every slice of calls and every integer the law ClockPlays of chapter 07 returns true, and its arguments read afterwards as before. Conditions: none beyond the given statement. -/
import Derived.Test.YtbkebjgoaeddjaaClkArgs
import Derived.Test.YtbkebjgoaeddjaaClkRun
import Derived.Test.YtbkebjgoaeddjaaClkS
import Derived.Test.YtbkebjgoaeddjaaFin
set_option linter.unusedVariables false
namespace Go.Proofs.Ytbkebjgoaeddjaa
open Go.RowKit Go.VB Go.VB.Clk
structure PlW (w wr : World) (c d : Nat) (m : CM) : Prop where
  rc : CRep wr c m
  rr : RRep wr d m
  ok : m.Ok
  fr : Fr (fun _ => False) w wr
theorem PlW.fre {w wr wz : World} {c d : Nat} {m : CM} (h : PlW w wr c d m) (f : Fr (fun _ => False) wr wz) : PlW w wz c d m := ⟨CRep.fr h.rc f (fun h => h), RRep.fr h.rr f (fun h => h), h.ok, h.fr.trans f (fun _ h _ => h)⟩
theorem PlW.frk {w wr wz : World} {c d kb : Nat} {m : CM} (h : PlW w wr c d m) (f : Fr (fun k => k = kb) wr wz) (hc : c ≠ kb) (hd : d ≠ kb) (hw : w.heap.size ≤ kb) : PlW w wz c d m :=
  ⟨CRep.fr h.rc f hc, RRep.fr h.rr f hd, h.ok, h.fr.trans f (fun k hk hl => by omega)⟩
set_option maxRecDepth 20000 in
set_option maxHeartbeats 16000000 in
theorem ClockPlays_walk (L : List Cl) (next : Int) (w : World) (va : Value) (hA : Sl (fun k => k < w.heap.size) w va L.length (L.flatMap ccl)) (hLl : L.length ≤ maxLen) :
    Calls Try.prog 8 #[va, .int .i64 next] w fun e w' => e = .returned (.bool true) ∧ Fr (fun _ => False) w w' := by
  have e63 : maxLen = 9223372036854775807 := rfl
  rw [e63] at hLl
  obtain ⟨aa, ac, rfl, hac, ha⟩ := hA
  have HA := hid (fun j (hj : j < L.length) => ccl_at ha hj)
  have R3 := hid (fun w => rest_any w next 3 (by omega) (by omega))
  have R125 := hid (fun w => rest_any w next 125 (by omega) (by omega))
  have hq : 0 ≤ next % 3 := by omega
  have hr : 0 ≤ next % 125 ∧ next % 125 < 125 := by omega
  generalize next % 3 = q at *
  generalize next % 125 = r at *
  clear e63 ha
  go_enter Try.func8, Try.ntmps8
  go_wp2_with (fail)
  refine (sanity_go w).mono ?_
  rintro e w1 ⟨rfl, f1⟩
  have F1 := hid f1
  clear f1
  go_wp2_with (fail)
  refine (R3.out _).mono ?_
  rintro e w' ⟨rfl, rfl⟩
  by_cases hq0 : 0 < q
  case' pos =>
    have hd : decide (0 < q) = true := by simpa using hq0
    go_wp2_with (fail)
    refine (R125.out _).mono ?_
    rintro e w' ⟨rfl, rfl⟩
    go_wp2_with (fail)
    generalize 3 + r = n at *
  case' neg =>
    have hd : decide (0 < q) = false := by simpa using hq0
    go_wp2_with (fail)
    obtain ⟨n, hnn⟩ : ∃ n : Int, n = next := ⟨_, rfl⟩
    rw [← hnn]
    clear hnn
  all_goals
    refine (New_go n w1).mono ?_
    rintro e w2 ⟨rfl, h2, f2⟩
    have H2 := hid h2
    have F2 := hid (F1.out.trans f2 (fun _ h _ => h))
    have hc1 := F1.out.size
    have hc2 := Blk.lt h2
    clear h2 f2
    generalize hc : w1.heap.size = c at *
    go_wp2_with (fail)
    refine (rNew_go n w2).mono ?_
    rintro e w3 ⟨rfl, h3, f3⟩
    have INV := hid (show PlW w w3 c w2.heap.size (CM.new n) from ⟨CRep.fr H2.out f3 (fun h => h), h3, Ok_new n, F2.out.trans f3 (fun _ h _ => h)⟩)
    clear h3 f3 H2 F2 hc
    generalize hdd : w2.heap.size = d at *
    have hcd : c ≠ d ∧ w.heap.size ≤ c ∧ w.heap.size ≤ d := by omega
    clear hdd hc1 hc2 hq0 hd R3 R125 F1
    generalize CM.new n = m0 at *
    go_wp2_with (fail)
    go_loopw [9] (fun i wr => ∃ (j : Nat) (m : CM), j ≤ 80 ∧ j ≤ L.length ∧ i = .int .i64 j ∧ PlW w wr c d m) (fun i _ => 80 - (intOf i).toNat)
    case atStart => exact ⟨0, _, by omega, by omega, rfl, INV.out⟩
    case round =>
      obtain ⟨j, m, hj, hjl, rfl, inv⟩ := hrel
      clear INV
      by_cases hg : j < L.length ∧ j < 80
      · obtain ⟨g1, g2⟩ := hg
        obtain ⟨g, o, rfl, hcell⟩ := HA.out j g1
        have hcell : wr.rangeAt g (o + j * 3) [.int .i64 L[j].kind, .int .i64 L[j].x, .int .i64 L[j].s] := range_fr hcell inv.fr (fun h => h)
        have i1 : (0 : Int) ≤ j := by omega
        have i2 : (j : Int) < L.length := by omega
        have hcl := Blk.lt inv.rc
        have hdl := Blk.lt inv.rr
        have hwl := inv.fr.size
        obtain ⟨p, hp⟩ : ∃ p, p = L[j] := ⟨_, rfl⟩
        rw [← hp] at hcell
        clear hp
        obtain ⟨kind, x, s⟩ := p
        dsimp only at hcell
        have hkb : ∃ kb, kb = wr.heap.size := ⟨_, rfl⟩
        have fk := (Fr.refl (fun _ => False) wr).alloc (.cells [Value.int .i64 kind, .int .i64 x, .int .i64 s].toArray 48)
        have bk := Blk.new wr [Value.int .i64 kind, .int .i64 x, .int .i64 s] 48
        obtain ⟨W0, hW0⟩ : ∃ W0, W0 = wr.alloc (.cells [Value.int .i64 kind, .int .i64 x, .int .i64 s].toArray 48) := ⟨_, rfl⟩
        rw [← hW0] at fk bk
        have INV := hid (inv.fre fk)
        have BK := hid bk
        have HW0 := hid hW0
        have hne : c ≠ wr.heap.size ∧ d ≠ wr.heap.size ∧ w.heap.size ≤ wr.heap.size := by omega
        clear inv fk bk hW0 hkb
        have hnx := INV.out.ok.nx
        generalize hkb : wr.heap.size = kb at *
        have HKB := hid hkb
        by_cases h3 : 0 < (j : Int) % 3
        case' pos =>
          have hd3 : decide (0 < (j : Int) % 3) = true := by simpa using h3
          have NEAR := hid (fun w => near_go kind x s m.next hnx w)
          go_upto_region 12 with (first | (refine wpList_load_mid rfl 48 _ rfl g (o + j * 3) rfl _ _ hcell Try.underlying48 rfl Try.size_call ?_))
          rw [← HW0.out]
          clear HW0 HKB hkb h3 hd3
          have g0 := BK.out.all
          have l1 := RRep.next INV.out.rr
          refine wp_region_scr (.take 0 (.take 1 (.take 2 (.take 3 (.take 4 (.op 5 (.op 6 .done))))))) (fun kz w => (kz ≤ 6 → w.rangeAt kb 0 [.int .i64 kind, .int .i64 x, .int .i64 s] ∧ w.cell? ⟨d, 1, none⟩ = some (.int .i64 m.next)) ∧ True) (by kernel_rfl) (by kernel_rfl) (by intro c a d v w h; cases d <;> exact h) ?_
          repeat
            first
            | (refine wpT_pure rfl rfl rfl ?_; apply Exists.intro; refine ⟨?_, ?_⟩; intro w; (first | (exact run_load_mid _ _ rfl kb _ rfl _ _ qa.1 Try.underlying48 rfl Try.size_call) | (go_simp <;> rfl)); simp only [Act.put, List.setIfInBounds_toArray, List.set_cons_zero, List.set_cons_succ])
            | (refine wpT_take 6 rfl rfl (by decide +kernel) ⟨fun _ => ⟨g0, l1⟩, trivial⟩ ?_; apply Exists.intro; refine ⟨?_, ?_⟩; intro w hw; (have qa := hw.1 (Nat.le_refl _); have qb := hw.2); (first | (exact run_load_mid _ _ rfl kb _ rfl _ _ qa.1 Try.underlying48 rfl Try.size_call) | (go_simp <;> rfl)); simp only [Act.put, List.setIfInBounds_toArray, List.set_cons_zero, List.set_cons_succ])
            | (refine wpT_skip rfl rfl ?_; simp only [Act.put, List.setIfInBounds_toArray, List.set_cons_zero, List.set_cons_succ])
          refine wpT_op rfl ?_
          go_wp2_with ((go_at_call 34; refine (NEAR.out _).mono ?_; rintro e w6 ⟨rfl, f6⟩))
          (refine ⟨?_, ?_⟩; focus (intro kz hk hk2; rintro ⟨qa, qb⟩; first | (exfalso; simp at hk2; omega) | exact ⟨qa, qb⟩ | (refine ⟨fun h => absurd h (by omega), ?_⟩; first | exact qb | (exact ⟨range_fr qa.1 f6 (fun h => h), cell_fr qa.2 f6 (fun h => h)⟩)) | (refine ⟨fun h => ?_, ?_⟩; (have qa := qa h); all_goals (first | exact qa | exact qb | (exact ⟨range_fr qa.1 f6 (fun h => h), cell_fr qa.2 f6 (fun h => h)⟩)))))
          generalize xat m.next (x % 125).toNat = X at *
          generalize 1 + s % 4 = S at *
          have f06 := (Fr.refl (fun _ => False) W0).drew.trans f6 (fun _ h _ => h)
          have b6 := BK.out.fr f06 (fun h => h)
          have hT := b6.there 0 3 (by simp)
          have HB := hid (show Blk (w6.setCells kb 0 [.int .i64 kind, .int .i64 (X : Nat), .int .i64 S]) kb [.int .i64 kind, .int .i64 (X : Nat), .int .i64 S] 48 from b6.put 0 [.int .i64 kind, .int .i64 (X : Nat), .int .i64 S] (by simp))
          have HI := hid ((INV.out.fre f06).frk ((Fr.refl (fun k => k = kb) w6).put kb 0 [.int .i64 kind, .int .i64 (X : Nat), .int .i64 S] (fun _ => rfl)) hne.1 hne.2.1 hne.2.2)
          clear f6 f06 b6 NEAR INV BK g0 l1
          refine wpT_op rfl ?_
          refine wpList_store_mid rfl 48 _ _ rfl kb 0 _ rfl rfl hT Try.size_call (by simp [Value.oneCell']) ?_
          rw [List.toList_toArray]
          go_wp2_with (fail)
          refine ⟨fun kz h1 h2 hh => ⟨fun h => absurd h (by omega), trivial⟩, ?_⟩
          refine wpT_nil ?_
          clear hT
          generalize w6.setCells kb 0 [.int .i64 kind, .int .i64 (X : Nat), .int .i64 S] = W at *
          generalize (X : Int) = XI at *
          go_upto_region 13 with (fail)
          clear hcell
        case' neg =>
          have hd3 : decide (0 < (j : Int) % 3) = false := by simpa using h3
          go_upto_region 13 with (first | (refine wpList_load_mid rfl 48 _ rfl g (o + j * 3) rfl _ _ hcell Try.underlying48 rfl Try.size_call ?_))
          rw [← HW0.out]
          clear HW0 HKB hkb h3 hd3
          have HB := BK
          have HI := INV
          clear BK INV hcell
          generalize W0 = W at *
          obtain ⟨XI, rfl⟩ : ∃ y : Int, y = x := ⟨_, rfl⟩
          obtain ⟨S, rfl⟩ : ∃ y : Int, y = s := ⟨_, rfl⟩
        all_goals
          have g1' := HB.out.all
          have hdo := hid (do_go HI.out.rc HI.out.ok kind XI S)
          have hok := hid (Ok_dok HI.out.ok kind XI S)
          clear hcl hdl hwl hnx
          go_wp2_with (first | (refine wpList_load_mid rfl 48 _ rfl kb 0 rfl _ _ g1' Try.underlying48 rfl Try.size_call ?_))
          refine hdo.out.mono ?_
          rintro e w7 ⟨rfl, h7, f7⟩
          have b7 := HB.out.fr f7 (fun h => hne.1 h.symm)
          have g7 := b7.all
          have R7 := hid (RRep.fr HI.out.rr f7 (fun h => hcd.1 h.symm))
          have HC7 := hid h7
          have F7 := hid (HI.out.fr.trans f7 (fun k hk hl => by omega))
          have hrdo := hid (rDo_go R7.out HI.out.ok kind XI S)
          clear hdo h7 f7 b7 g1'
          go_wp2_with (first | (refine wpList_load_mid rfl 48 _ rfl kb 0 rfl _ _ g7 Try.underlying48 rfl Try.size_call ?_))
          refine hrdo.out.mono ?_
          rintro e w8 ⟨rfl, h8, f8⟩
          have INV8 := hid (show PlW w w8 c d (m.dok kind XI S).1 from ⟨CRep.fr HC7.out f8 hcd.1, h8, hok.out, F7.out.trans f8 (fun k hk hl => by omega)⟩)
          clear hrdo h8 f8 R7 HC7 F7 g7 HB HI hok
          generalize (m.dok kind XI S).1 = m' at *
          generalize (m.dok kind XI S).2.1 = rx at *
          generalize (m.dok kind XI S).2.2 = re at *
          have INV9 := hid (INV8.out.fre ((Fr.refl (fun _ => False) w8).alloc (.cells #[.int .i64 rx, .int .i64 re] 58)))
          clear INV8
          by_cases h9 : (j : Int) % 10 = 9
          · have hd9 : ((j : Int) % 10 == 9) = true := by simpa using h9
            have hsame := hid (same_go INV9.out.rc INV9.out.rr INV9.out.ok)
            go_wp2_with (fail)
            refine hsame.out.mono ?_
            rintro e w9 ⟨rfl, f9⟩
            have INV10 := hid (INV9.out.fre f9)
            clear hsame f9 INV9
            go_wp2_with (fail)
            go_roundw
            case rel => exact ⟨j + 1, m', by omega, by omega, by go_num, INV10.out⟩
            case measure => simp [intOf]; omega
          · have hd9 : ((j : Int) % 10 == 9) = false := by simpa using h9
            go_wp2_with (fail)
            go_roundw
            case rel => exact ⟨j + 1, m', by omega, by omega, by go_num, INV9.out⟩
            case measure => simp [intOf]; omega
      · have h3 : ¬ j < L.length ∨ (j < L.length ∧ ¬ j < 80) := by omega
        have hsame := hid (same_go inv.rc inv.rr inv.ok)
        have INV := hid inv
        clear inv
        rcases h3 with h3 | ⟨h3, h4⟩
        all_goals
          go_wp2_with (fail)
          refine hsame.out.mono ?_
          rintro e w9 ⟨rfl, f9⟩
          go_wp2_with (fail)
          go_ret
          exact ⟨rfl, INV.out.fr.trans f9 (fun _ h _ => h)⟩
end Go.Proofs.Ytbkebjgoaeddjaa
namespace Go.Proofs.Ytbkebjgoaeddjaa.clockPlays
open Go.ChangeShapes Go.WideShapes Go.ChangeAt Go.RowKit Go.VB Go.VB.Clk
set_option maxHeartbeats 400000 in
set_option maxRecDepth 100000 in
theorem lifted (os : Os) (started : os.Started) (H : Type) (enc : TypeId × Value → H) :
    ReturnsInHanded {} Try.checked os 8 .any (Rows.clockPlaysSpec.pre6 enc Try.prog Try.f8 Rows.clockPlaysRow.domain false) (Rows.clockPlaysSpec.post enc Try.prog Try.f8 false true false false) := by
  refine returnsInHanded_of_change (C := Try.checked) own started (by kernel_rfl) Try.func8
    (ChangeSpec.witness6 (enc := enc) (C := Try.checked) false ⟨#[], #[.slice none 0 0, .int .i64 0], []⟩ 8 (by kernel_rfl) (by kernel_rfl) (by kernel_rfl) (by kernel_rfl)) ?_
  intro W base args ds gs before hval0 hW hcnd _
  have hval : ∀ (j : Nat) t v, Try.f8.params[j]? = some t → args[j]? = some v → Value.okWide Try.prog W .any base t v := hval0
  have hW' := hW
  obtain ⟨p, q, hA0, hV, rfl, hfz, hnd⟩ := hW
  have hA : DataW.TrodAll enc Try.prog W 0 (fun _ => true) true Try.f8.params.toList args.toList ds p := hA0
  rw [Try.params8] at hA hval
  obtain ⟨v0, vs0, d0, ds0, p0, q0, hargs, rfl, rfl, h0, r0⟩ := trodAll_cons hA
  obtain ⟨v1, vs1, d1, ds1, p1, q1, rfl, rfl, rfl, h1, r1⟩ := trodAll_cons r0
  obtain ⟨rfl, rfl, rfl⟩ := trodAll_nil r1
  obtain rfl : args = #[v0, v1] := by cases args; simp_all
  obtain ⟨rfl, rfl⟩ := trodVars_none hV
  clear hA0 hval0
  refine Calls.mono (R := fun e w' => e = .returned (.bool true) ∧ Fr (fun _ => False) W w') ?_ fun e W' ⟨he, hf⟩ => ⟨_, he, post_law sound (by decide +kernel) rfl rfl (ht := Try.underlying4) (by rfl) hW' hf⟩
  obtain ⟨L, sL, lL⟩ := open_calls (hval 0 46 v0 rfl rfl) h0
  obtain ⟨a1, rfl, -, -, w1⟩ := open_int Try.underlying3 (hval 1 3 v1 rfl rfl) h1
  exact ClockPlays_walk L a1 W v0 sL lL
theorem proved : Rows.ClockPlaysSaid :=
  OpenClaim.holds_of_wide 8 Try.f8 rfl rfl rfl rfl rfl rfl rfl ⟨rfl, rfl, rfl, rfl, rfl⟩ rfl rfl rfl rfl rfl (by kernel_rfl) Try.func8 (by kernel_rfl)
    (of_decide_eq_true (by kernel_rfl)) (by unfold Func.isWrapper; first | (rw [if_pos (by decide +kernel)]; kernel_rfl) | (rw [if_neg (by decide +kernel)]; exact ⟨rfl, rfl⟩))
    (fun os started H enc _ => lifted os started H enc)
end Go.Proofs.Ytbkebjgoaeddjaa.clockPlays
