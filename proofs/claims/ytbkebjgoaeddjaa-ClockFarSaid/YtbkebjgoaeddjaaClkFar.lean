/- Proved: for every two integers the law ClockFar of chapter 07 returns true, and its arguments read afterwards as before. Conditions: none beyond the given statement. -/
import Derived.Test.YtbkebjgoaeddjaaClkL
import Derived.Test.YtbkebjgoaeddjaaClkFarM
import Derived.Test.YtbkebjgoaeddjaaFin
set_option linter.unusedVariables false
namespace Go.Proofs.Ytbkebjgoaeddjaa
open Go.RowKit Go.VB Go.VB.Clk
set_option maxRecDepth 20000 in
set_option maxHeartbeats 4000000 in
theorem ClockFar_walk (a b : Int) (w : World) : Calls Try.prog 6 #[.int .i64 a, .int .i64 b] w fun e w' => e = .returned (.bool true) ∧ Fr (fun _ => False) w w' := by
  obtain ⟨x, hx⟩ : ∃ x : Nat, ((x : Nat) : Int) = 3 + a % 125 := ⟨(3 + a % 125).toNat, by omega⟩
  have hx1 : 3 ≤ x ∧ x ≤ 127 := by omega
  have RA := hid (fun w => rest_any w a 125 (by omega) (by omega))
  have RB := hid (fun w => rest_any w b 7 (by omega) (by omega))
  have hb7 : 0 ≤ b % 7 ∧ b % 7 < 7 := ⟨by omega, by omega⟩
  generalize b % 7 = q at *
  have HX := hid hx
  clear hx
  go_enter Try.func6, Try.ntmps6
  go_wp2_with (fail)
  refine (sanity_go w).mono ?_
  rintro e w1 ⟨rfl, f1⟩
  go_wp2_with (fail)
  refine (RA.out _).mono ?_
  rintro e w2 ⟨rfl, rfl⟩
  go_wp2_with (fail)
  rw [← HX.out]
  refine (New_go x w1).mono ?_
  rintro e w2 ⟨rfl, h2, f2⟩
  obtain ⟨far0, hnx0⟩ := far_new x hx1
  have s1 := f1.size
  generalize hc : w1.heap.size = c at *
  have F2 := hid (f1.trans f2 (fun _ h _ => h))
  have H2 := hid h2
  have FR0 := hid far0
  have HNX := hid hnx0
  clear h2 f2 f1 far0 hnx0 HX hc
  go_wp2_with (fail)
  generalize CM.new (x : Int) = m0 at *
  go_loopw [7] (fun i wr => ∃ (k : Nat) (m : CM), k ≤ 7 ∧ i = .int .i64 k ∧ CRep wr c m ∧ Far m m.next 0 ∧ Fr (fun _ => False) w wr) (fun i _ => 7 - (intOf i).toNat)
  case atStart => exact ⟨0, m0, by omega, rfl, H2.out, HNX.out.symm ▸ FR0.out, F2.out⟩
  case round =>
    obtain ⟨k, m, hk, rfl, hm, far, fr⟩ := hrel
    clear H2 FR0 HNX F2
    by_cases hkq : (k : Int) ≤ q
    · have HM := hid hm
      have FAR := hid far
      clear hm far
      go_wp2_with (fail)
      refine (RB.out _).mono ?_
      rintro e w5 ⟨rfl, rfl⟩
      go_wp2_with (fail)
      refine (Now_go HM.out).mono ?_
      rintro e w5 ⟨rfl, rfl⟩
      have hp := hid FAR.out.ok.nx
      generalize hpp : m.next = p at *
      clear hpp
      go_wp2_with (fail)
      obtain ⟨wo, rfl⟩ : ∃ wo : World, wo = wr := ⟨_, rfl⟩
      go_loopw [9] (fun i wz => ∃ (j : Nat) (mj : CM), j ≤ 60 ∧ i = .int .i64 j ∧ CRep wz c mj ∧ Far mj p j ∧ Fr (fun _ => False) w wz) (fun i _ => 60 - (intOf i).toNat)
      case atStart => exact ⟨0, m, by omega, rfl, HM.out, FAR.out, fr⟩
      case round =>
        obtain ⟨j, mj, hj, rfl, hmj, farj, frj⟩ := hrel
        clear HM FAR fr
        by_cases hj60 : j < 60
        · obtain ⟨e1, e2, e3, far', e5⟩ := far_step farj hj60
          have hB := Begin_go hmj farj.ok 0
          rw [e1] at hB
          have okA := Ok_add farj.ok (by have := farj.n; omega) 0 (.inl rfl)
          have hA := hid (fun w => e5 ▸ Age_go p mj.next w)
          have HF' := hid far'
          have HE3 := hid e3
          have OKA := hid okA
          clear e1 e2 e3 e5 far' hmj farj okA
          go_wp2_with (fail)
          refine hB.mono ?_
          rintro e w6 ⟨rfl, h6, f6⟩
          have hE := End_go h6 OKA.out mj.next 2
          rw [HE3.out] at hE
          have F6 := hid (frj.trans f6 (fun i hi hl => by omega))
          clear hB h6 f6 frj
          go_wp2_with (fail)
          refine hE.mono ?_
          rintro e w7 ⟨rfl, h7, f7⟩
          have H7 := hid h7
          have F7 := hid (F6.out.trans f7 (fun i hi hl => by omega))
          clear hE h7 f7 F6
          go_wp2_with (fail)
          refine (hA.out _).mono ?_
          rintro e w8 ⟨rfl, rfl⟩
          go_wp2_with (fail)
          go_roundw
          case rel => exact ⟨j + 1, _, by omega, by go_num, H7.out, HF'.out, F7.out⟩
          case measure => simp [intOf]; omega
        · obtain rfl : j = 60 := by omega
          obtain ⟨e1, e2, far', e4, e5, e6⟩ := far_full farj
          have okj := farj.ok
          have hB := Begin_go hmj farj.ok 0
          rw [e1] at hB
          have HE2 := hid e2
          have HE4 := hid e4
          have HE5 := hid e5
          have HE6 := hid e6
          have FF := hid far'
          clear e1 e2 e4 e5 e6 farj far' hmj
          go_wp2_with (fail)
          refine hB.mono ?_
          rintro e w6 ⟨rfl, h6, f6⟩
          have hS := State_go h6 okj p
          rw [HE2.out] at hS
          have F6 := hid (frj.trans f6 (fun i hi hl => by omega))
          have H6 := hid h6
          clear hB h6 f6 frj
          go_wp2_with (fail)
          refine hS.mono ?_
          rintro e w7 ⟨rfl, f7⟩
          have H7 := hid (CRep.fr H6.out f7 (fun h => h))
          have F7 := hid (F6.out.trans f7 (fun _ h _ => h))
          clear hS f7 H6 F6
          go_wp2_with (fail)
          refine (Now_go H7.out).mono ?_
          rintro e w8 ⟨rfl, rfl⟩
          have hZ := Freeze_go H7.out okj mj.next
          go_wp2_with (fail)
          refine hZ.mono ?_
          rintro e w8 ⟨rfl, h8, f8⟩
          have F8 := hid (F7.out.trans f8 (fun i hi hl => by omega))
          have H8 := hid h8
          have hS2 := State_go h8 FF.out.ok p
          rw [HE5.out] at hS2
          clear hZ h8 f8 F7 H7
          go_wp2_with (fail)
          refine hS2.mono ?_
          rintro e w9 ⟨rfl, f9⟩
          have H9 := hid (CRep.fr H8.out f9 (fun h => h))
          have F9 := hid (F8.out.trans f9 (fun _ h _ => h))
          have hO := Oldest_go H9.out FF.out.ok
          rw [HE6.out] at hO
          clear hS2 f9 H8 F8
          go_wp2_with (fail)
          refine hO.mono ?_
          rintro e w10 ⟨rfl, f10⟩
          have H10 := hid (CRep.fr H9.out f10 (fun h => h))
          have F10 := hid (F9.out.trans f10 (fun _ h _ => h))
          have hNw := Now_go H10.out
          rw [HE4.out] at hNw
          clear hO f10 H9 F9
          go_wp2_with (fail)
          refine hNw.mono ?_
          rintro e w11 ⟨rfl, rfl⟩
          clear hNw
          go_wp2_with (fail)
          go_roundw
          case rel => exact ⟨k + 1, _, by omega, by go_num, H10.out, by rw [HE4.out]; exact FF.out, F10.out⟩
          case measure => simp [intOf]; omega
    · go_wp2_with (fail)
      refine (RB.out _).mono ?_
      rintro e w5 ⟨rfl, rfl⟩
      go_wp2_with (fail)
      go_ret
      exact ⟨rfl, fr⟩
end Go.Proofs.Ytbkebjgoaeddjaa
namespace Go.Proofs.Ytbkebjgoaeddjaa.clockFar
open Go.ChangeShapes Go.WideShapes Go.ChangeAt Go.RowKit Go.VB Go.VB.Clk
set_option maxHeartbeats 400000 in
set_option maxRecDepth 100000 in
theorem lifted (os : Os) (started : os.Started) (H : Type) (enc : TypeId × Value → H) :
    ReturnsInHanded {} Try.checked os 6 .any (Rows.clockFarSpec.pre6 enc Try.prog Try.f6 Rows.clockFarRow.domain false) (Rows.clockFarSpec.post enc Try.prog Try.f6 false true false false) := by
  refine returnsInHanded_of_change (C := Try.checked) own started (by kernel_rfl) Try.func6
    (ChangeSpec.witness6 (enc := enc) (C := Try.checked) false ⟨#[], #[.int .i64 0, .int .i64 0], []⟩ 8 (by kernel_rfl) (by kernel_rfl) (by kernel_rfl) (by kernel_rfl)) ?_
  intro W base args ds gs before hval0 hW hcnd _
  have hval : ∀ (j : Nat) t v, Try.f6.params[j]? = some t → args[j]? = some v → Value.okWide Try.prog W .any base t v := hval0
  have hW' := hW
  obtain ⟨p, q, hA0, hV, rfl, hfz, hnd⟩ := hW
  have hA : DataW.TrodAll enc Try.prog W 0 (fun _ => true) true Try.f6.params.toList args.toList ds p := hA0
  rw [Try.params6] at hA hval
  obtain ⟨v0, vs0, d0, ds0, p0, q0, hargs, rfl, rfl, h0, r0⟩ := trodAll_cons hA
  obtain ⟨v1, vs1, d1, ds1, p1, q1, rfl, rfl, rfl, h1, r1⟩ := trodAll_cons r0
  obtain ⟨rfl, rfl, rfl⟩ := trodAll_nil r1
  obtain rfl : args = #[v0, v1] := by cases args; simp_all
  obtain ⟨rfl, rfl⟩ := trodVars_none hV
  clear hA0 hval0
  refine Calls.mono (R := fun e w' => e = .returned (.bool true) ∧ Fr (fun _ => False) W w') ?_ fun e W' ⟨he, hf⟩ => ⟨_, he, post_law sound (by decide +kernel) rfl rfl (ht := Try.underlying4) (by rfl) hW' hf⟩
  obtain ⟨a0, rfl, -, -, w0⟩ := open_int Try.underlying3 (hval 0 3 v0 rfl rfl) h0
  obtain ⟨a1, rfl, -, -, w1⟩ := open_int Try.underlying3 (hval 1 3 v1 rfl rfl) h1
  exact ClockFar_walk a0 a1 W
theorem proved : Rows.ClockFarSaid :=
  OpenClaim.holds_of_wide 6 Try.f6 rfl rfl rfl rfl rfl rfl rfl ⟨rfl, rfl, rfl, rfl, rfl⟩ rfl rfl rfl rfl rfl (by kernel_rfl) Try.func6 (by kernel_rfl)
    (of_decide_eq_true (by kernel_rfl)) (by unfold Func.isWrapper; first | (rw [if_pos (by decide +kernel)]; kernel_rfl) | (rw [if_neg (by decide +kernel)]; exact ⟨rfl, rfl⟩))
    (fun os started H enc _ => lifted os started H enc)
end Go.Proofs.Ytbkebjgoaeddjaa.clockFar
