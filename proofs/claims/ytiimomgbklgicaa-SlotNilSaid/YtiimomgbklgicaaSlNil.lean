/- Proved: for every LSN, kind and xid the law SlotNil of chapter 16 returns true, and its arguments read afterwards as before. Conditions: none beyond the given statement. -/
import Derived.Test.YtiimomgbklgicaaSmE
import Derived.Test.YtiimomgbklgicaaFin
set_option linter.unusedVariables false
namespace Go.Proofs.Ytiimomgbklgicaa
open Go.RowKit Go.VB Go.VB.Oct Go.VB.Cat Go.VB.Rec Go.VB.Slt
set_option maxRecDepth 20000 in
set_option maxHeartbeats 4000000 in
theorem SlotNil_walk (lsn kind xid : Int) (w : World) :
    Calls Try.prog 7 #[.int .i64 lsn, .int .i64 kind, .int .i64 xid] w fun e w' => e = .returned (.bool true) ∧ Fr (fun _ => False) w w' := by
  have HS := hid (sanity_go w)
  go_enter Try.func7, Try.ntmps7
  go_upto_region 3 with (go_at_call 8; refine HS.out.mono ?_; rintro e w1 ⟨rfl, f⟩; have F1 := hid f; clear f)
  have HF := hid (Feed_nil (w := w1) lsn (.int .i64 kind) (.int .i64 xid) (.int .i64 0) (.slice none 0 0) (.slice none 0 0) (.slice none 0 0) (.slice none 0 0) (.string ⟨#[]⟩))
  go_upto_region 4 with (go_at_call 12; refine HF.out.mono ?_; rintro e w2 ⟨rfl, f⟩; have F2 := hid (F1.out.trans f (fun _ h _ => h)); clear f)
  clear HF HS F1
  have HA := hid (Ack_nil (w := w2) 0)
  go_wp2_with (first
    | (go_at_call 19; refine HA.out.mono ?_; rintro e w3 ⟨rfl, f⟩; have F3 := hid (F2.out.trans f (fun _ h _ => h)); clear f)
    | (go_at_call 11; refine (Queued_nil 3).mono ?_; rintro e w' ⟨rfl, rfl⟩)
    | (go_at_call 20; refine Name_nil.mono ?_; rintro e w' ⟨rfl, rfl⟩)
    | (go_at_call 21; refine Acked_nil.mono ?_; rintro e w' ⟨rfl, rfl⟩)
    | (go_at_call 22; refine Need_nil.mono ?_; rintro e w' ⟨rfl, rfl⟩)
    | (go_at_call 14; refine Open_nil.mono ?_; rintro e w' ⟨rfl, rfl⟩)
    | (go_at_call 15; refine Spilled_nil.mono ?_; rintro e w' ⟨rfl, rfl⟩)
    | (go_at_call 23; refine Bytes_nil.mono ?_; rintro e w' ⟨rfl, rfl⟩))
  go_ret
  exact ⟨rfl, F3.out⟩
end Go.Proofs.Ytiimomgbklgicaa
namespace Go.Proofs.Ytiimomgbklgicaa.slotNil
open Go.ChangeShapes Go.WideShapes Go.ChangeAt Go.RowKit Go.VB
set_option maxHeartbeats 400000 in
set_option maxRecDepth 100000 in
theorem lifted (os : Os) (started : os.Started) (H : Type) (enc : TypeId × Value → H) :
    ReturnsInHanded {} Try.checked os 7 .any (Rows.slotNilSpec.pre6 enc Try.prog Try.f7 Rows.slotNilRow.domain false) (Rows.slotNilSpec.post enc Try.prog Try.f7 false true false false) := by
  refine returnsInHanded_of_change (C := Try.checked) own started (by kernel_rfl) Try.func7
    (ChangeSpec.witness6 (enc := enc) (C := Try.checked) false ⟨#[], #[.int .i64 0, .int .i64 0, .int .i64 0], []⟩ 8 (by kernel_rfl) (by kernel_rfl) (by kernel_rfl) (by kernel_rfl)) ?_
  intro W base args ds gs before hval0 hW hcnd _
  have hval : ∀ (j : Nat) t v, Try.f7.params[j]? = some t → args[j]? = some v → Value.okWide Try.prog W .any base t v := hval0
  have hW' := hW
  obtain ⟨p, q, hA0, hV, rfl, hfz, hnd⟩ := hW
  have hA : DataW.TrodAll enc Try.prog W 0 (fun _ => true) true Try.f7.params.toList args.toList ds p := hA0
  rw [Try.params7] at hA hval
  obtain ⟨v0, vs0, d0, ds0, p0, q0, hargs, rfl, rfl, h0, r0⟩ := trodAll_cons hA
  obtain ⟨v1, vs1, d1, ds1, p1, q1, rfl, rfl, rfl, h1, r1⟩ := trodAll_cons r0
  obtain ⟨v2, vs2, d2, ds2, p2, q2, rfl, rfl, rfl, h2, r2⟩ := trodAll_cons r1
  obtain ⟨rfl, rfl, rfl⟩ := trodAll_nil r2
  obtain rfl : args = #[v0, v1, v2] := by cases args; simp_all
  obtain ⟨rfl, rfl⟩ := trodVars_none hV
  clear hA0 hval0
  refine Calls.mono (R := fun e w' => e = .returned (.bool true) ∧ Fr (fun _ => False) W w') ?_ fun e W' ⟨he, hf⟩ => ⟨_, he, post_law sound (by decide +kernel) rfl rfl (ht := Try.underlying4) (by rfl) hW' hf⟩
  obtain ⟨a0, rfl, -, -, -⟩ := open_int Try.underlying3 (hval 0 3 v0 rfl rfl) h0
  obtain ⟨a1, rfl, -, -, -⟩ := open_int Try.underlying3 (hval 1 3 v1 rfl rfl) h1
  obtain ⟨a2, rfl, -, -, -⟩ := open_int Try.underlying3 (hval 2 3 v2 rfl rfl) h2
  exact SlotNil_walk a0 a1 a2 W
theorem proved : Rows.SlotNilSaid :=
  OpenClaim.holds_of_wide 7 Try.f7 rfl rfl rfl rfl rfl rfl rfl ⟨rfl, rfl, rfl, rfl, rfl⟩ rfl rfl rfl rfl rfl (by kernel_rfl) Try.func7 (by kernel_rfl)
    (of_decide_eq_true (by kernel_rfl)) (by unfold Func.isWrapper; first | (rw [if_pos (by decide +kernel)]; kernel_rfl) | (rw [if_neg (by decide +kernel)]; exact ⟨rfl, rfl⟩))
    (fun os started H enc _ => lifted os started H enc)
end Go.Proofs.Ytiimomgbklgicaa.slotNil
