import Derived.Test.YtgkfdlpijefgkaaDoorCtMl
import Derived.Test.YtgkfdlpijefgkaaDoorCtFr
import Derived.Test.YtgkfdlpijefgkaaDoorCards
import Derived.Test.YtgkfdlpijefgkaaDoorTie
import Derived.SevenTiedAt
import Derived.Deep.CutBlock
/-
For every two lists of integer lists a catalog that statements made reads back from its bytes, and what was read and its clone behave alike and apart from it (CatalogBack).
Conditions: none beyond the row's own.
-/
set_option linter.unusedVariables false
namespace Go.Proofs.YtgkfdlpijefgkaaDoor
open Go.RowKit Go.VB Go.VB.Oct Go.VB.Cat Go.VB.Rec
/-- blocks apart -/
def Apart (S T : Nat → Prop) : Prop := ∀ k, S k → ¬ T k
theorem Apart.symm {S T : Nat → Prop} (h : Apart S T) : Apart T S := fun k hk hs => h k hs hk
theorem Apart.ext {S T : Nat → Prop} (h : Apart S T) {W W' : World} (hS : ∀ k, S k → k < W.heap.size) : Apart S (Ext T W W') := fun k hk ht => by
  rcases ht with ht | ht
  · exact h k hk ht
  · have := hS k hk; omega
set_option maxRecDepth 20000 in
set_option maxHeartbeats 4000000 in
theorem Back_walk {w : World} (G : Gv w) {a b : Option Addr} {c1 c2 : Nat} {L M : List Arg} (HL : ArgsR w (.slice a L.length c1) L) (HM : ArgsR w (.slice b M.length c2) M) :
    Calls Tryd.prog 8 #[.slice a L.length c1, .slice b M.length c2] w fun e w' => e = .returned (.bool true) ∧ Fr (fun _ => False) w w' := by
  have HLA := hid HL
  have HMA := hid HM
  have HSA := hid (sanity_go G.kn)
  clear HL HM G
  go_enter Tryd.func8, Tryd.ntmps8
  go_upto_region 2 with (go_at_call 10; refine HSA.out.mono ?_; rintro e w1 ⟨rfl, f1⟩; have F1 := hid f1; clear f1)
  have HNW := hid (New_go w1)
  go_upto_region 5 with (go_at_call 17; refine HNW.out.mono ?_; rintro e w2 ⟨rfl, hc, f⟩; have HC2 := hid ((OS.new hc f).base F1.out); clear hc f)
  obtain ⟨c, hce⟩ : ∃ c, c = w1.heap.size := ⟨_, rfl⟩
  rw [← hce] at HC2 ⊢
  clear hce HNW HSA F1
  go_upto_block 0 with fail
  go_cut [7] (fun v7 wx => ∃ (S : Nat → Prop) (m : List Tab), OS w S wx c m)
  case first =>
    go_wp2_with (fail)
    go_loopw [7] (fun s7 wr => ∃ (i : Nat) (S : Nat → Prop) (m : List Tab), i ≤ 40 ∧ s7 = .int .i64 i ∧ OS w S wr c m) (fun s7 _ => 40 - (intOf s7).toNat)
    case atStart => exact ⟨0, _, _, by omega, rfl, HC2.out⟩
    case round =>
      obtain ⟨i, S, m, hi, rfl, hos⟩ := hrel
      have HOS := hid hos
      clear hos HC2
      have i1 : (0 : Int) ≤ (i : Int) := by omega
      by_cases hc12 : i < L.length ∧ i < 40
      · obtain ⟨hiL, h40⟩ := hc12
        have i2 : (i : Int) < L.length := by omega
        have i3 : (i : Int) < 40 := by omega
        obtain ⟨g, o, v, x, rfl, hcell, hsl, hxl⟩ := HLA.out.at_ HOS.out.fr hiL
        have HMD := hid (Made_go hsl hxl)
        obtain ⟨ax, cx, rfl, -, -⟩ := hsl
        go_upto_region 9 with (go_at_call 19; refine HMD.out.mono ?_; rintro e w3 ⟨s, vc, vn, root, rfl, hg, hcr, hnr, f⟩; obtain ⟨oc, cc, rfl, -⟩ := hcr.slice; obtain ⟨on, cn, rfl, -⟩ := hnr.slice; have HK0 := hid (MK.made hcr hnr hg f); have HO3 := hid (HOS.out.fre f); clear hcr hnr hg f; dsimp only [mcells])
        generalize hw4 : w3.alloc _ = W4
        have HK := hid (show MK wr.heap.size W4 w3.heap.size s (.slice oc s.cols.length cc) (.slice on s.names.length cn) root from by rw [← hw4]; exact HK0.out)
        have HO4 := hid (show OS w S W4 c m from by rw [← hw4]; exact HO3.out.fre ((Fr.refl (fun _ => False) w3).alloc _))
        have HG := hid HK.out.g
        generalize w3.heap.size = d at *
        clear hw4 HK0 HO3 HMD hcell HOS
        have HDO := hid (HO4.out.madeDo HK.out)
        have k15 := HK.out.at15
        have HR := hid HK.out.rng
        unfold scells at HDO HR
        go_wp2_with (first
          | (refine wpList_load_mid rfl 51 (.tmp 37) rfl d 0 rfl _ _ HR.out Tryd.underlying51 rfl size_stmt ?_)
          | (go_at_call 21; refine HDO.out.mono ?_; rintro e w5 ⟨rfl, ho, -⟩; have HO5 := hid ho; clear ho))
        go_roundw
        case rel => exact ⟨i + 1, _, _, by omega, by simp, HO5.out⟩
        case measure => simp [intOf]; omega
      · have hor : (40 : Int) ≤ (i : Int) ∨ (L.length : Int) ≤ (i : Int) := by omega
        rcases hor with h12 | h12
        all_goals
          go_wp2_with (fail)
          all_goals (go_meet; exact ⟨S, m, HOS.out⟩)
  case rest =>
  obtain ⟨S, m, hos⟩ := hcut
  have HOS := hid hos
  clear hos HC2 HLA
  have HBY := hid (Bytes_go HOS.out.cr HOS.out.ok)
  go_upto_region 11 with (go_at_call 20; refine HBY.out.mono ?_; rintro e w6 ⟨rfl, f⟩; have HO6 := hid (HOS.out.fre f); clear f)
  clear HOS HBY
  have HRD := hid (Read_go (Cat.bytes m) (by have := bytes_le HO6.out.ok; omega) w6)
  rw [readM_parse, parse_bytes HO6.out.ok] at HRD
  unfold ReadP at HRD
  dsimp only at HRD
  go_upto_region 12 with (go_at_call 26; refine HRD.out.mono ?_; rintro e w7 ⟨d, rfl, hd, f⟩; have HO7 := hid (HO6.out.fre f); have HA7 := hid (show Apart S (fun k => w6.heap.size ≤ k ∧ k < w7.heap.size) from fun k hk h => by have := HO6.out.lt hk; omega); have HD7 := hid (show OS w (fun k => w6.heap.size ≤ k ∧ k < w7.heap.size) w7 d m from ⟨HO7.out.fr, hd, fun k hk => by have := HO6.out.fr.size; omega, HO6.out.ok⟩); clear hd f)
  clear HRD HO6
  obtain ⟨D, hD⟩ : ∃ D : Nat → Prop, D = (fun k => w6.heap.size ≤ k ∧ k < w7.heap.size) := ⟨_, rfl⟩
  rw [← hD] at HA7 HD7
  clear hD
  have HCL := hid (Clone_go HO7.out.cr HO7.out.ok)
  go_upto_region 13 with (go_at_call 27; refine HCL.out.mono ?_; rintro e w8 ⟨q, rfl, hd, f⟩; have HO8 := hid (HO7.out.fre f); have HD8 := hid (HD7.out.fre f); have HA8 := hid (show Apart S (fun k => w7.heap.size ≤ k ∧ k < w8.heap.size) ∧ Apart D (fun k => w7.heap.size ≤ k ∧ k < w8.heap.size) from ⟨fun k hk h => by have := HO7.out.lt hk; omega, fun k hk h => by have := HD7.out.lt hk; omega⟩); have HE8 := hid (show OS w (fun k => w7.heap.size ≤ k ∧ k < w8.heap.size) w8 q m from ⟨HO8.out.fr, hd, fun k hk => by have := HO7.out.fr.size; omega, HO7.out.ok⟩); clear hd f)
  clear HCL HO7 HD7
  obtain ⟨E, hE⟩ : ∃ E : Nat → Prop, E = (fun k => w7.heap.size ≤ k ∧ k < w8.heap.size) := ⟨_, rfl⟩
  rw [← hE] at HA8 HE8
  clear hE
  have HB1 := hid (fun (W : World) (f : Fr (fun _ => False) w8 W) => Bytes_go (HD8.out.cr.fre f) HD8.out.ok)
  have HB2 := hid (fun (W : World) (f : Fr (fun _ => False) w8 W) => Bytes_go (HE8.out.cr.fre f) HE8.out.ok)
  have F8 := hid (Fr.refl (fun _ => False) w8)
  go_upto_region 15 with (first
    | (go_at_call 20; (with_reducible refine (HB1.out _ F8.out).mono ?_); rintro e w9 ⟨rfl, f⟩; have F9 := hid (F8.out.trans f (fun _ h _ => h)); clear f)
    | (go_at_call 20; (with_reducible refine (HB2.out _ F9.out).mono ?_); rintro e w10 ⟨rfl, f⟩; have F10 := hid (F9.out.trans f (fun _ h _ => h)); clear f))
  replace HO8 := hid (HO8.out.fre F10.out)
  replace HD8 := hid (HD8.out.fre F10.out)
  replace HE8 := hid (HE8.out.fre F10.out)
  clear F8 F9 F10 HB1 HB2
  obtain ⟨HAD, HAE⟩ := HA8.out
  replace HA8 := hid (show Apart S D ∧ Apart S E ∧ Apart D E from ⟨HA7.out, HAD, HAE⟩)
  clear HAD HAE HA7
  go_upto_block 2 with fail
  go_cut [13] (fun v13 wx => ∃ (D E : Nat → Prop) (m' : List Tab), OS w S wx c m ∧ OS w D wx d m' ∧ OS w E wx q m')
  case first =>
    go_wp2_with (fail)
    go_loopw [13] (fun s13 wr => ∃ (i : Nat) (D E : Nat → Prop) (m' : List Tab), i ≤ 10 ∧ s13 = .int .i64 i ∧ OS w S wr c m ∧ OS w D wr d m' ∧ OS w E wr q m' ∧ Apart S D ∧ Apart S E ∧ Apart D E) (fun s13 _ => 10 - (intOf s13).toNat)
    case atStart => exact ⟨0, _, _, _, by omega, rfl, HO8.out, HD8.out, HE8.out, HA8.out⟩
    case round =>
      obtain ⟨i, D, E, m', hi, rfl, ho, hd, he, ha⟩ := hrel
      have HOR := hid ho
      have HDR := hid hd
      have HER := hid he
      have HAR := hid ha
      clear ho hd he ha HO8 HD8 HE8 HA8
      have i1 : (0 : Int) ≤ (i : Int) := by omega
      by_cases hc12 : i < M.length ∧ i < 10
      · obtain ⟨hiL, h40⟩ := hc12
        have i2 : (i : Int) < M.length := by omega
        have i3 : (i : Int) < 10 := by omega
        obtain ⟨g, o, v, x, rfl, hcell, hsl, hxl⟩ := HMA.out.at_ HOR.out.fr hiL
        have HMD := hid (Made_go hsl hxl)
        obtain ⟨ax, cx, rfl, -, -⟩ := hsl
        go_upto_region 19 with (go_at_call 19; refine HMD.out.mono ?_; rintro e w11 ⟨s, vc, vn, root, rfl, hg, hcr, hnr, f⟩; obtain ⟨oc, cc, rfl, -⟩ := hcr.slice; obtain ⟨on, cn, rfl, -⟩ := hnr.slice; have HK0 := hid (MK.made hcr hnr hg f); have F11 := hid f; clear hcr hnr hg f; dsimp only [mcells])
        generalize hw12 : w11.alloc _ = W12
        have HK := hid (show MK wr.heap.size W12 w11.heap.size s (.slice oc s.cols.length cc) (.slice on s.names.length cn) root from by rw [← hw12]; exact HK0.out)
        have F12 := hid (show Fr (fun _ => False) wr W12 from by rw [← hw12]; exact F11.out.alloc _)
        have HO12 := hid (HOR.out.fre F12.out)
        have HD12 := hid (HDR.out.fre F12.out)
        have HE12 := hid (HER.out.fre F12.out)
        have HL12 := hid (show (∀ k, D k → k < wr.heap.size) ∧ (∀ k, E k → k < wr.heap.size) ∧ (∀ k, S k → k < wr.heap.size) from ⟨fun k hk => HDR.out.lt hk, fun k hk => HER.out.lt hk, fun k hk => HOR.out.lt hk⟩)
        generalize w11.heap.size = dd at *
        clear hw12 HK0 HMD hcell HOR HDR HER F11 F12
        have HDO := hid (HD12.out.madeDo HK.out)
        have k15 := HK.out.at15
        have HR := hid HK.out.rng
        unfold scells at HDO HR
        go_upto_region 20 with (first
          | (refine wpList_load_mid rfl 51 (.tmp 89) rfl dd 0 rfl _ _ HR.out Tryd.underlying51 rfl size_stmt ?_)
          | (go_at_call 21; refine HDO.out.mono ?_; rintro e w13 ⟨rfl, hd, f⟩; have HD13 := hid hd; have HK13 := hid (HK.out.fr f HL12.out.1); have HE13 := hid (HE12.out.keep f (fun k hk => ⟨HAR.out.2.2 k hk, HD12.out.ge k hk⟩)); have HO13 := hid (HO12.out.keep f (fun k hk => ⟨HAR.out.1.symm k hk, HD12.out.ge k hk⟩)); clear hd f))
        have HAP1 := hid (show Apart S (Ext D W12 w13) from HAR.out.1.ext (fun k hk => HO12.out.lt hk))
        have HAP2 := hid (show Apart E (Ext D W12 w13) from HAR.out.2.2.symm.ext (fun k hk => HE12.out.lt hk))
        clear k15 HR HDO HK HD12 HE12 HO12
        have HDO := hid (HE13.out.madeDo HK13.out)
        have k15 := HK13.out.at15
        have HR := hid HK13.out.rng
        unfold scells at HDO HR
        go_wp2_with (first
          | (refine wpList_load_mid rfl 51 (.tmp 95) rfl dd 0 rfl _ _ HR.out Tryd.underlying51 rfl size_stmt ?_)
          | (go_at_call 21; refine HDO.out.mono ?_; rintro e w14 ⟨rfl, he, f⟩; have HE14 := hid he; have HD14 := hid (HD13.out.keep f (fun k hk => ⟨HAP2.out k hk, HE13.out.ge k hk⟩)); have HO14 := hid (HO13.out.keep f (fun k hk => ⟨HAR.out.2.1.symm k hk, HE13.out.ge k hk⟩)); have HAP3 := hid (And.intro (HAR.out.2.1.ext (W := w13) (W' := w14) (fun k hk => HO13.out.lt hk)) (HAP2.out.symm.ext (W := w13) (W' := w14) (fun k hk => HD13.out.lt hk))); clear he f))
        go_roundw
        case rel => exact ⟨i + 1, _, _, _, by omega, by simp, HO14.out, HD14.out, HE14.out, HAP1.out, HAP3.out.1, HAP3.out.2⟩
        case measure => simp [intOf]; omega
      · have hor : (10 : Int) ≤ (i : Int) ∨ (M.length : Int) ≤ (i : Int) := by omega
        rcases hor with h12 | h12
        all_goals
          go_wp2_with (fail)
          all_goals (go_meet; exact ⟨D, E, m', HOR.out, HDR.out, HER.out⟩)
  case rest =>
  obtain ⟨D, E, m', ho, hd, he⟩ := hcut
  have HOZ := hid ho
  have HDZ := hid hd
  have HEZ := hid he
  clear ho hd he HO8 HD8 HE8 HA8 HMA
  have HB0 := hid (fun (W : World) (f : Fr (fun _ => False) wc W) => Bytes_go (HOZ.out.cr.fre f) HOZ.out.ok)
  have HB1 := hid (fun (W : World) (f : Fr (fun _ => False) wc W) => Bytes_go (HDZ.out.cr.fre f) HDZ.out.ok)
  have HB2 := hid (fun (W : World) (f : Fr (fun _ => False) wc W) => Bytes_go (HEZ.out.cr.fre f) HEZ.out.ok)
  have F0 := hid (Fr.refl (fun _ => False) wc)
  have FZ := hid HOZ.out.fr
  go_wp2_with (first
    | (go_at_call 20; (with_reducible refine (HB0.out _ F0.out).mono ?_); rintro e w15 ⟨rfl, f⟩; have F1 := hid (F0.out.trans f (fun _ h _ => h)); clear f)
    | (go_at_call 20; (with_reducible refine (HB1.out _ F1.out).mono ?_); rintro e w16 ⟨rfl, f⟩; have F2 := hid (F1.out.trans f (fun _ h _ => h)); clear f)
    | (go_at_call 20; (with_reducible refine (HB2.out _ F2.out).mono ?_); rintro e w17 ⟨rfl, f⟩; have F3 := hid (FZ.out.trans (F2.out.trans f (fun _ h _ => h)) (fun _ h _ => h)); clear f))
  go_ret
  exact ⟨rfl, F3.out⟩
end Go.Proofs.YtgkfdlpijefgkaaDoor
namespace Go.Proofs.YtgkfdlpijefgkaaDoor.catalogBack
open Go.ChangeShapes Go.WideShapes Go.ChangeAt Go.RowKit Go.VB Go.VB.Rec
set_option maxHeartbeats 400000 in
set_option maxRecDepth 100000 in
theorem lifted (os : Os) (started : os.Started) (H : Type) (enc : TypeId × Value → H) :
    ReturnsInHanded {} Tryd.checked os 8 .any (fun w args => (Rows.catalogBackSpec.pre enc Tryd.prog Tryd.f8 Rows.catalogBackRow.domain false w args ∧ laidMetH Tryd.prog Rows.catalogBackRow.laid w) ∧ sizedMet enc Tryd.prog Tryd.f8 (OpenSpec.ofChange Rows.catalogBackSpec) false w args) (Rows.catalogBackSpec.post enc Tryd.prog Tryd.f8 false true false false) := by
  refine handed_and_shaped (C := Tryd.checked) (X := fun w _ => laidMetH Tryd.prog Rows.catalogBackRow.laid w) (fun _ _ _ hh h => h.of_heap hh) own started (by kernel_rfl) Tryd.func8
    (ChangeSpec.witness_shaped (enc := enc) (C := Tryd.checked) (os := os) (X := fun w _ => laidMetH Tryd.prog Rows.catalogBackRow.laid w) false (startW os) #[.slice none 0 0, .slice none 0 0] 8 rfl (start_shaped os _) (by kernel_rfl) (by kernel_rfl) (by kernel_rfl) (start_met os _)) ?_
  intro W base args ds gs before hval0 hW hL hsh
  have GV : Hid (Gv W) := hid (gv_of hL hsh)
  clear hL hsh
  have hval : ∀ (j : Nat) t v, Tryd.f8.params[j]? = some t → args[j]? = some v → Value.okWide Tryd.prog W .any base t v := hval0
  have hW' := hW
  obtain ⟨p, q, hA0, hV, rfl, hfz, hnd⟩ := hW
  have hA : DataW.TrodAll enc Tryd.prog W 0 (fun _ => true) true Tryd.f8.params.toList args.toList ds p := hA0
  rw [Tryd.params8] at hA hval
  obtain ⟨v0, vs0, d0, ds0, p0, q0, hargs, rfl, rfl, h0, r0⟩ := trodAll_cons hA
  obtain ⟨v1, vs1, d1, ds1, p1, q1, rfl, rfl, rfl, h1, r1⟩ := trodAll_cons r0
  obtain ⟨rfl, rfl, rfl⟩ := trodAll_nil r1
  obtain rfl : args = #[v0, v1] := by cases args; simp_all
  obtain ⟨rfl, rfl⟩ := trodVars_none hV
  clear hA0 hval0
  refine Calls.mono (R := fun e w' => e = .returned (.bool true) ∧ Fr (fun _ => False) W w') ?_ fun e W' ⟨he, hf⟩ => ⟨_, he, post_law sound (by decide +kernel) rfl rfl (ht := Tryd.underlying4) (by rfl) hW' hf⟩
  obtain ⟨L, hL⟩ := open_ints2 (hval 0 42 v0 rfl rfl) h0
  obtain ⟨M, hM⟩ := open_ints2 (hval 1 42 v1 rfl rfl) h1
  obtain ⟨a, c1, rfl, -, -⟩ := id hL.s
  obtain ⟨b, c2, rfl, -, -⟩ := id hM.s
  exact Back_walk GV.out hL hM
theorem row_holds : Rows.CatalogBackSaid :=
  OpenClaim.holds_of_wide 8 Tryd.f8 rfl rfl rfl rfl rfl rfl rfl ⟨rfl, rfl, rfl, rfl, rfl⟩ rfl rfl rfl rfl rfl (by kernel_rfl) Tryd.func8 (by kernel_rfl)
    (of_decide_eq_true (by kernel_rfl)) (by unfold Func.isWrapper; first | (rw [if_pos (by decide +kernel)]; kernel_rfl) | (rw [if_neg (by decide +kernel)]; exact ⟨rfl, rfl⟩))
    (fun os started H enc _ => lifted os started H enc)
theorem proved : Rows.CatalogBackCardSaid :=
  Claim7.holds_tied_plain_at .later [] Rows.catalogBackCard.laidKinds true Rows.catalogBackCard.stood.harness Rows.catalogBackCard.stood.looks row_holds (fun _ h => by cases h) (by kernel_rfl) (fun _ h => by cases h) catalogBack_row_tie rfl ⟨rfl, rfl⟩ (by kernel_rfl) rfl
    (fun f fn hf hfn => by
      obtain rfl : f = 8 := Option.some.inj ((show Tryd.prog.funcNamed "vintner/vintnerlaw14.CatalogBack" = some 8 by kernel_rfl).symm.trans hf) |>.symm
      obtain rfl : fn = Tryd.f8 := (Option.some.inj (Tryd.func8.symm.trans hfn)).symm
      exact ⟨by kernel_rfl, fun j t ht => by
        rw [Tryd.params8] at ht
        have hm : t ∈ [42, 42] := by simpa using Array.mem_of_getElem? ht
        have hall : ([42, 42].all fun u => !Tryd.prog.wantsStandIn u) = true := by kernel_rfl
        exact (show Tryd.prog.wantsStandIn t = false by simpa using List.all_eq_true.1 hall t hm)⟩)
    (by kernel_rfl)
end Go.Proofs.YtgkfdlpijefgkaaDoor.catalogBack
