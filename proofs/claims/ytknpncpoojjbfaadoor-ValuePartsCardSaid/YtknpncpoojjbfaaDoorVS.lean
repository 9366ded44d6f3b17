import Derived.Test.YtknpncpoojjbfaaDoorVR
/- vintnerlaw02.sanity. -/
set_option linter.unusedVariables false
namespace Go.VB.Rec
open Go.VB.Oct
def vx0 : V := ⟨1, 1, []⟩
def vx1 : V := ⟨2, 0, [97]⟩
def vx2 : V := ⟨0, 0, []⟩
def vx : List V := [vx0, vx1, vx2]
def xb : List UInt8 := [3, 1, 0, 0, 0, 0, 0, 0, 0, 1, 2, 1, 97, 0]
def xk : List UInt8 := [2, 128, 0, 0, 0, 0, 0, 0, 1, 3, 97, 0, 1, 1]
theorem x_bytes : rowBytes vx = xb := by decide
theorem x_key : rowKey vx = xk := by decide
theorem x_read : readV xb = (vx, 0) := by decide
theorem x_short : readV [] = ([], 10) := by decide
theorem x_cmp : V.cmp vx0 vx1 = -1 := by decide
theorem x_rows : rowsCmp vx [vx0] = 1 := by decide
theorem x_fits : V.fits vx0 6 vx0 = true := by decide
theorem x_cut : xk.take 16 = xk := by decide
theorem x_right : V.right vx0 = true := by decide
theorem x_text0 : V.text vx0 = [49] := by
  unfold V.text vx0
  rw [if_neg (by decide), if_pos rfl]
  unfold Lib.itoa
  rw [if_neg (by decide)]
  unfold Lib.decDigits
  rw [dif_pos (by decide)]
  rfl
theorem x_text1 : V.text ⟨2, 0, [105, 116, 39, 115]⟩ = [39, 105, 116, 39, 39, 115, 39] := by
  unfold V.text
  rw [if_neg (by decide), if_neg (by decide), if_pos rfl]
  decide
theorem x_text2 : V.text vx2 = [110, 117, 108, 108] := rfl
theorem xb_lit : bs xb = ⟨#[3, 1, 0, 0, 0, 0, 0, 0, 0, 1, 2, 1, 97, 0]⟩ := rfl
theorem xk_lit : bs xk = ⟨#[2, 128, 0, 0, 0, 0, 0, 0, 1, 3, 97, 0, 1, 1]⟩ := rfl
end Go.VB.Rec
namespace Go.Proofs.YtknpncpoojjbfaaDoor
open Go.RowKit Go.VB Go.VB.Oct Go.VB.Rec
/-- what the laws' calls need of the variables -/
structure Gv (w : World) : Prop where
  kn : Kn w
  ml : Ml w
  tb : Tb w
theorem Gv.fre {w w' : World} (h : Gv w) (f : Fr (fun _ => False) w w') : Gv w' := ⟨h.kn.fre f, h.ml.fre f, h.tb.fre f⟩
structure SV (w0 W : World) (g : Nat) (va : Value) : Prop where
  b : Blk W g (vx.flatMap V.cells) 28
  q : Sl (fun k => k < W.heap.size) W va vx.length (vx.flatMap V.cells)
  gv : Gv W
  fr : Fr (fun _ => False) w0 W
namespace SV
variable {w0 W W' : World} {g : Nat} {va : Value}
theorem fre (h : SV w0 W g va) (f : Fr (fun _ => False) W W') : SV w0 W' g va := ⟨h.b.fr f (fun h => h), (h.q.fr f (fun _ _ h => h)).mono (fun k hk => Nat.lt_of_lt_of_le hk f.size), h.gv.fre f, h.fr.trans f (fun _ h _ => h)⟩
theorem kn (h : SV w0 W g va) : Kn W := h.gv.kn
theorem ml (h : SV w0 W g va) : Ml W := h.gv.ml
theorem slt (h : SV w0 W g va) : ∀ k, k = g → k < W.heap.size := fun k hk => by subst hk; exact h.b.lt
theorem sl (h : SV w0 W g va) : Sl (fun k => k = g) W (.slice (some ⟨g, 0, none⟩) 3 3) vx.length (vx.flatMap V.cells) := ⟨_, 3, rfl, Nat.le_refl _, fun _ => ⟨g, 0, rfl, rfl, h.b.all⟩⟩
theorem sl1 (h : SV w0 W g va) : Sl (fun k => k = g) W (.slice (some ⟨g, 0, none⟩) 1 3) [vx0].length ([vx0].flatMap V.cells) := ⟨_, 3, rfl, by decide, fun _ => ⟨g, 0, rfl, rfl, h.b.range [] (vx0.cells) (vx1.cells ++ vx2.cells) rfl⟩⟩
theorem r0 (h : SV w0 W g va) : W.rangeAt g 0 (V.cells vx0) := h.b.range [] (vx0.cells) (vx1.cells ++ vx2.cells) rfl
theorem r1 (h : SV w0 W g va) : W.rangeAt g 3 (V.cells vx1) := h.b.range vx0.cells (vx1.cells) (vx2.cells) rfl
theorem r2 (h : SV w0 W g va) : W.rangeAt g 6 (V.cells vx2) := h.b.range (vx0.cells ++ vx1.cells) (vx2.cells) [] rfl
theorem cutc (_ : SV w0 W g va) : Calls Tryd.prog 25 #[.string (bs xk)] W fun e w' => e = .returned (.string (bs (xk.take 16))) ∧ Fr (fun _ => False) W w' := VCut_go xk (by decide) W
theorem rightc (_ : SV w0 W g va) : Calls Tryd.prog 15 #[vagg vx0] W fun e w' => e = .returned (.bool vx0.right) ∧ Fr (fun _ => False) W w' := VRight_go vx0 W
end SV
set_option maxRecDepth 20000 in
set_option maxHeartbeats 4000000 in
theorem sanity_go {w : World} (G : Gv w) : Calls Tryd.prog 13 #[] w fun e w' => e = .returned (.bool true) ∧ Fr (fun _ => False) w w' := by
  have HG := hid G
  have HB := hid (Blk.new w (vx.flatMap V.cells) 28)
  have HF := hid ((Fr.refl (fun _ => False) w).alloc (.cells (vx.flatMap V.cells).toArray 28))
  have HR1 := hid (fun w => VRead_go xb (by decide) w)
  have HR2 := hid (fun w => VRead_go [] (by decide) w)
  rw [x_read] at HR1
  rw [x_short] at HR2
  clear G
  go_enter Tryd.func13, Tryd.ntmps13
  go_upto_region 5 with (go_at_call 27; refine (HR1.out _).mono ?_; rintro e w1 ⟨va, rfl, hrow, f⟩; have HS1 := hid (show SV w w1 w.heap.size va from ⟨HB.out.fr f (fun h => h), own_sl hrow.own (fun k hk => hrow.lt hk), HG.out.fre (HF.out.trans f (fun _ h _ => h)), HF.out.trans f (fun _ h _ => h)⟩); clear hrow f)
  obtain ⟨aq, cq, hva, _⟩ := (show ∃ a c, va = Value.slice a 3 c ∧ 3 ≤ c from by obtain ⟨a, c, h1, h2, _⟩ := HS1.out.q; exact ⟨a, c, h1, h2⟩)
  subst hva
  clear HB HF HG HR1
  generalize w.heap.size = g at *
  go_upto_region 6 with (go_at_call 27; refine (HR2.out _).mono ?_; rintro e w2 ⟨vb, rfl, hrow, f⟩; have HS2 := hid (HS1.out.fre f); clear hrow f HS1)
  go_cut [8] (fun v8 wx => v8 = .string ⟨#[49, 39, 105, 116, 39, 39, 115, 39, 110, 117, 108, 108]⟩ ∧ SV w wx g (.slice aq 3 cq))
  case first =>
    have HS := hid (HS2.out.fre ((Fr.refl (fun _ => False) w2).drew))
    clear HS2 HR2
    have hadd1 : ∀ w : World, (Op.stringOp .add (bs [49]) (bs [39, 105, 116, 39, 39, 115, 39])).run Tryd.prog w = .ok (.string (bs [49, 39, 105, 116, 39, 39, 115, 39])) w := fun w => run_add_bs (P := Tryd.prog) w [49] [39, 105, 116, 39, 39, 115, 39] (by decide)
    have hadd2 : ∀ w : World, (Op.stringOp .add (bs [49, 39, 105, 116, 39, 39, 115, 39]) (bs [110, 117, 108, 108])).run Tryd.prog w = .ok (.string (bs [49, 39, 105, 116, 39, 39, 115, 39, 110, 117, 108, 108])) w := fun w => run_add_bs (P := Tryd.prog) w [49, 39, 105, 116, 39, 39, 115, 39] [110, 117, 108, 108] (by decide)
    refine wp_region_scr (.take 0 (.take 1 (.take 2 (.take 7 (.take 8 (.take 9 (.two 3 4 (.op 4 (.op 5 (.take 6 (.op 10 (.take 11 (.take 12 .done)))))) (.op 3 (.op 5 (.take 6 (.op 10 (.take 11 (.take 12 .done))))))))))))) (fun kz w => (kz ≤ 13 → w.rangeAt g 0 (V.cells vx0)) ∧ w.rangeAt g 6 (V.cells vx2)) (by kernel_rfl) (by kernel_rfl) (by intro c a d v w h; cases d <;> exact h) ?_
    repeat
      first
      | (refine wpT_pure rfl rfl rfl ?_; apply Exists.intro; refine ⟨?_, ?_⟩; intro w; (first | (first | exact run_load_mid _ _ rfl g _ rfl _ _ qa Tryd.underlying28 rfl size_V | exact run_load_mid _ _ rfl g _ rfl _ _ qb Tryd.underlying28 rfl size_V | (go_simp <;> rfl)) | (go_simp <;> rfl)); simp only [Act.put, List.setIfInBounds_toArray, List.set_cons_zero, List.set_cons_succ])
      | (refine wpT_take 13 rfl rfl (by decide +kernel) ⟨fun _ => HS.out.r0, HS.out.r2⟩ ?_; apply Exists.intro; refine ⟨?_, ?_⟩; intro w hw; (have qa := hw.1 (Nat.le_refl _); have qb := hw.2); (first | (first | exact run_load_mid _ _ rfl g _ rfl _ _ qa Tryd.underlying28 rfl size_V | exact run_load_mid _ _ rfl g _ rfl _ _ qb Tryd.underlying28 rfl size_V | (go_simp <;> rfl)) | (go_simp <;> rfl)); simp only [Act.put, List.setIfInBounds_toArray, List.set_cons_zero, List.set_cons_succ])
      | (refine wpT_skip rfl rfl ?_; simp only [Act.put, List.setIfInBounds_toArray, List.set_cons_zero, List.set_cons_succ])
    refine wpT_two ?_ ?_
    focus
      have HCN := hid (VText_go vx0 (by decide) (by decide) (by decide) HS.out.gv.tb HS.out.gv.ml)
      rw [x_text0] at HCN
      refine wpT_op rfl ?_
      go_wp2_with ((go_at_call 34; refine HCN.out.mono ?_; rintro e w_ ⟨rfl, f⟩; replace HS := hid (HS.out.fre f); clear f HCN))
      (refine ⟨?_, ?_⟩; focus (intro kz hk hk2 hh; first | (exfalso; simp at hk2; omega) | exact hh | exact (fun h => absurd h (by omega)) | obtain ⟨qa, qb⟩ := hh; first | exact ⟨qa, qb⟩ | (refine ⟨fun h => absurd h (by omega), ?_⟩; first | exact qb | (first | exact HS.out.r0 | exact HS.out.r2)) | (refine ⟨fun h => ?_, ?_⟩; (have qa := qa h); all_goals (first | exact qa | exact qb | (first | exact HS.out.r0 | exact HS.out.r2)))))
      refine wpT_op rfl ?_
      go_wp2_with (fail)
      (refine ⟨?_, ?_⟩; focus (intro kz hk hk2 hh; first | (exfalso; simp at hk2; omega) | exact hh | exact (fun h => absurd h (by omega)) | obtain ⟨qa, qb⟩ := hh; first | exact ⟨qa, qb⟩ | (refine ⟨fun h => absurd h (by omega), ?_⟩; first | exact qb | (first | exact HS.out.r0 | exact HS.out.r2)) | (refine ⟨fun h => ?_, ?_⟩; (have qa := qa h); all_goals (first | exact qa | exact qb | (first | exact HS.out.r0 | exact HS.out.r2)))))
      have HCN := hid ((VText_go ⟨2, 0, [105, 116, 39, 115]⟩ (by decide) (by decide) (by decide) HS.out.gv.tb HS.out.gv.ml : Calls Tryd.prog 34 #[.agg #[.int .i64 2, .int .i64 0, .string ⟨#[105, 116, 39, 115]⟩]] _ _))
      rw [x_text1] at HCN
      refine wpT_op rfl ?_
      go_wp2_with ((go_at_call 34; refine HCN.out.mono ?_; rintro e w_ ⟨rfl, f⟩; replace HS := hid (HS.out.fre f); clear f HCN))
      (refine ⟨?_, ?_⟩; focus (intro kz hk hk2 hh; first | (exfalso; simp at hk2; omega) | exact hh | exact (fun h => absurd h (by omega)) | obtain ⟨qa, qb⟩ := hh; first | exact ⟨qa, qb⟩ | (refine ⟨fun h => absurd h (by omega), ?_⟩; first | exact qb | (first | exact HS.out.r0 | exact HS.out.r2)) | (refine ⟨fun h => ?_, ?_⟩; (have qa := qa h); all_goals (first | exact qa | exact qb | (first | exact HS.out.r0 | exact HS.out.r2)))))
      repeat
        first
        | (refine wpT_pure rfl rfl rfl ?_; apply Exists.intro; refine ⟨?_, ?_⟩; intro w; (first | (first | exact run_load_mid _ _ rfl g _ rfl _ _ qa Tryd.underlying28 rfl size_V | exact run_load_mid _ _ rfl g _ rfl _ _ qb Tryd.underlying28 rfl size_V | (go_simp <;> rfl)) | (go_simp <;> rfl)); simp only [Act.put, List.setIfInBounds_toArray, List.set_cons_zero, List.set_cons_succ])
        | (refine wpT_take 13 rfl rfl (by decide +kernel) ⟨fun _ => HS.out.r0, HS.out.r2⟩ ?_; apply Exists.intro; refine ⟨?_, ?_⟩; intro w hw; (have qa := hw.1 (Nat.le_refl _); have qb := hw.2); (first | (first | exact run_load_mid _ _ rfl g _ rfl _ _ qa Tryd.underlying28 rfl size_V | exact run_load_mid _ _ rfl g _ rfl _ _ qb Tryd.underlying28 rfl size_V | (go_simp <;> rfl)) | (go_simp <;> rfl)); simp only [Act.put, List.setIfInBounds_toArray, List.set_cons_zero, List.set_cons_succ])
        | (refine wpT_skip rfl rfl ?_; simp only [Act.put, List.setIfInBounds_toArray, List.set_cons_zero, List.set_cons_succ])
      have HCN := hid (VText_go vx2 (by decide) (by decide) (by decide) HS.out.gv.tb HS.out.gv.ml)
      rw [x_text2] at HCN
      refine wpT_op rfl ?_
      go_wp2_with ((go_at_call 34; refine HCN.out.mono ?_; rintro e w_ ⟨rfl, f⟩; replace HS := hid (HS.out.fre f); clear f HCN))
      (refine ⟨?_, ?_⟩; focus (intro kz hk hk2 hh; first | (exfalso; simp at hk2; omega) | exact hh | exact (fun h => absurd h (by omega)) | obtain ⟨qa, qb⟩ := hh; first | exact ⟨qa, qb⟩ | (refine ⟨fun h => absurd h (by omega), ?_⟩; first | exact qb | (first | exact HS.out.r0 | exact HS.out.r2)) | (refine ⟨fun h => ?_, ?_⟩; (have qa := qa h); all_goals (first | exact qa | exact qb | (first | exact HS.out.r0 | exact HS.out.r2)))))
      repeat
        first
        | (refine wpT_pure rfl rfl rfl ?_; apply Exists.intro; refine ⟨?_, ?_⟩; intro w; (first | (first | exact run_load_mid _ _ rfl g _ rfl _ _ qa Tryd.underlying28 rfl size_V | exact run_load_mid _ _ rfl g _ rfl _ _ qb Tryd.underlying28 rfl size_V | (go_simp <;> rfl)) | (go_simp <;> rfl)); simp only [Act.put, List.setIfInBounds_toArray, List.set_cons_zero, List.set_cons_succ])
        | (refine wpT_take 13 rfl rfl (by decide +kernel) ⟨fun _ => HS.out.r0, HS.out.r2⟩ ?_; apply Exists.intro; refine ⟨?_, ?_⟩; intro w hw; (have qa := hw.1 (Nat.le_refl _); have qb := hw.2); (first | (first | exact run_load_mid _ _ rfl g _ rfl _ _ qa Tryd.underlying28 rfl size_V | exact run_load_mid _ _ rfl g _ rfl _ _ qb Tryd.underlying28 rfl size_V | (go_simp <;> rfl)) | (go_simp <;> rfl)); simp only [Act.put, List.setIfInBounds_toArray, List.set_cons_zero, List.set_cons_succ])
        | (refine wpT_skip rfl rfl ?_; simp only [Act.put, List.setIfInBounds_toArray, List.set_cons_zero, List.set_cons_succ])
      refine wpT_nil ?_
      go_wp2_with (fail)
      go_meet
      exact ⟨rfl, HS.out⟩
    focus
      refine wpT_op rfl ?_
      go_wp2_with (fail)
      (refine ⟨?_, ?_⟩; focus (intro kz hk hk2 hh; first | (exfalso; simp at hk2; omega) | exact hh | exact (fun h => absurd h (by omega)) | obtain ⟨qa, qb⟩ := hh; first | exact ⟨qa, qb⟩ | (refine ⟨fun h => absurd h (by omega), ?_⟩; first | exact qb | (first | exact HS.out.r0 | exact HS.out.r2)) | (refine ⟨fun h => ?_, ?_⟩; (have qa := qa h); all_goals (first | exact qa | exact qb | (first | exact HS.out.r0 | exact HS.out.r2)))))
      have HCN := hid (VText_go vx0 (by decide) (by decide) (by decide) HS.out.gv.tb HS.out.gv.ml)
      rw [x_text0] at HCN
      refine wpT_op rfl ?_
      go_wp2_with ((go_at_call 34; refine HCN.out.mono ?_; rintro e w_ ⟨rfl, f⟩; replace HS := hid (HS.out.fre f); clear f HCN))
      (refine ⟨?_, ?_⟩; focus (intro kz hk hk2 hh; first | (exfalso; simp at hk2; omega) | exact hh | exact (fun h => absurd h (by omega)) | obtain ⟨qa, qb⟩ := hh; first | exact ⟨qa, qb⟩ | (refine ⟨fun h => absurd h (by omega), ?_⟩; first | exact qb | (first | exact HS.out.r0 | exact HS.out.r2)) | (refine ⟨fun h => ?_, ?_⟩; (have qa := qa h); all_goals (first | exact qa | exact qb | (first | exact HS.out.r0 | exact HS.out.r2)))))
      have HCN := hid ((VText_go ⟨2, 0, [105, 116, 39, 115]⟩ (by decide) (by decide) (by decide) HS.out.gv.tb HS.out.gv.ml : Calls Tryd.prog 34 #[.agg #[.int .i64 2, .int .i64 0, .string ⟨#[105, 116, 39, 115]⟩]] _ _))
      rw [x_text1] at HCN
      refine wpT_op rfl ?_
      go_wp2_with ((go_at_call 34; refine HCN.out.mono ?_; rintro e w_ ⟨rfl, f⟩; replace HS := hid (HS.out.fre f); clear f HCN))
      (refine ⟨?_, ?_⟩; focus (intro kz hk hk2 hh; first | (exfalso; simp at hk2; omega) | exact hh | exact (fun h => absurd h (by omega)) | obtain ⟨qa, qb⟩ := hh; first | exact ⟨qa, qb⟩ | (refine ⟨fun h => absurd h (by omega), ?_⟩; first | exact qb | (first | exact HS.out.r0 | exact HS.out.r2)) | (refine ⟨fun h => ?_, ?_⟩; (have qa := qa h); all_goals (first | exact qa | exact qb | (first | exact HS.out.r0 | exact HS.out.r2)))))
      repeat
        first
        | (refine wpT_pure rfl rfl rfl ?_; apply Exists.intro; refine ⟨?_, ?_⟩; intro w; (first | (first | exact run_load_mid _ _ rfl g _ rfl _ _ qa Tryd.underlying28 rfl size_V | exact run_load_mid _ _ rfl g _ rfl _ _ qb Tryd.underlying28 rfl size_V | (go_simp <;> rfl)) | (go_simp <;> rfl)); simp only [Act.put, List.setIfInBounds_toArray, List.set_cons_zero, List.set_cons_succ])
        | (refine wpT_take 13 rfl rfl (by decide +kernel) ⟨fun _ => HS.out.r0, HS.out.r2⟩ ?_; apply Exists.intro; refine ⟨?_, ?_⟩; intro w hw; (have qa := hw.1 (Nat.le_refl _); have qb := hw.2); (first | (first | exact run_load_mid _ _ rfl g _ rfl _ _ qa Tryd.underlying28 rfl size_V | exact run_load_mid _ _ rfl g _ rfl _ _ qb Tryd.underlying28 rfl size_V | (go_simp <;> rfl)) | (go_simp <;> rfl)); simp only [Act.put, List.setIfInBounds_toArray, List.set_cons_zero, List.set_cons_succ])
        | (refine wpT_skip rfl rfl ?_; simp only [Act.put, List.setIfInBounds_toArray, List.set_cons_zero, List.set_cons_succ])
      have HCN := hid (VText_go vx2 (by decide) (by decide) (by decide) HS.out.gv.tb HS.out.gv.ml)
      rw [x_text2] at HCN
      refine wpT_op rfl ?_
      go_wp2_with ((go_at_call 34; refine HCN.out.mono ?_; rintro e w_ ⟨rfl, f⟩; replace HS := hid (HS.out.fre f); clear f HCN))
      (refine ⟨?_, ?_⟩; focus (intro kz hk hk2 hh; first | (exfalso; simp at hk2; omega) | exact hh | exact (fun h => absurd h (by omega)) | obtain ⟨qa, qb⟩ := hh; first | exact ⟨qa, qb⟩ | (refine ⟨fun h => absurd h (by omega), ?_⟩; first | exact qb | (first | exact HS.out.r0 | exact HS.out.r2)) | (refine ⟨fun h => ?_, ?_⟩; (have qa := qa h); all_goals (first | exact qa | exact qb | (first | exact HS.out.r0 | exact HS.out.r2)))))
      repeat
        first
        | (refine wpT_pure rfl rfl rfl ?_; apply Exists.intro; refine ⟨?_, ?_⟩; intro w; (first | (first | exact run_load_mid _ _ rfl g _ rfl _ _ qa Tryd.underlying28 rfl size_V | exact run_load_mid _ _ rfl g _ rfl _ _ qb Tryd.underlying28 rfl size_V | (go_simp <;> rfl)) | (go_simp <;> rfl)); simp only [Act.put, List.setIfInBounds_toArray, List.set_cons_zero, List.set_cons_succ])
        | (refine wpT_take 13 rfl rfl (by decide +kernel) ⟨fun _ => HS.out.r0, HS.out.r2⟩ ?_; apply Exists.intro; refine ⟨?_, ?_⟩; intro w hw; (have qa := hw.1 (Nat.le_refl _); have qb := hw.2); (first | (first | exact run_load_mid _ _ rfl g _ rfl _ _ qa Tryd.underlying28 rfl size_V | exact run_load_mid _ _ rfl g _ rfl _ _ qb Tryd.underlying28 rfl size_V | (go_simp <;> rfl)) | (go_simp <;> rfl)); simp only [Act.put, List.setIfInBounds_toArray, List.set_cons_zero, List.set_cons_succ])
        | (refine wpT_skip rfl rfl ?_; simp only [Act.put, List.setIfInBounds_toArray, List.set_cons_zero, List.set_cons_succ])
      refine wpT_nil ?_
      go_wp2_with (fail)
      go_meet
      exact ⟨rfl, HS.out⟩
  case rest =>
    obtain ⟨rfl, hs⟩ := hcut
    have HS := hid (hs.fre ((Fr.refl (fun _ => False) wc).drew))
    clear hs HS2
    go_upto_region 7 with fail
    refine wp_region_scr (.take 0 (.take 2 (.op 1 (.take 3 (.take 4 (.take 5 (.take 7 (.op 6 (.take 8 (.take 9 (.take 10 (.take 11 (.take 12 (.take 13 (.take 14 (.take 15 (.take 16 (.op 17 (.take 18 (.take 19 (.take 20 (.take 21 (.take 22 (.take 23 (.take 24 (.take 25 (.take 26 (.take 27 (.take 28 (.take 29 (.take 30 (.take 31 (.take 32 (.take 33 (.op 34 (.take 35 (.take 36 (.take 37 (.take 38 (.take 39 (.take 40 (.op 41 (.take 42 (.take 43 (.take 44 (.take 45 (.take 46 (.take 47 (.take 48 (.take 49 (.take 50 (.op 51 (.take 52 (.take 53 (.take 54 (.take 56 (.op 55 (.take 57 (.take 58 (.take 59 (.take 60 (.take 61 (.take 62 (.op 63 (.take 64 (.take 65 .done)))))))))))))))))))))))))))))))))))))))))))))))))))))))))))))))))) (fun kz w => (kz ≤ 66 → w.rangeAt g 0 (V.cells vx0)) ∧ w.rangeAt g 3 (V.cells vx1)) (by kernel_rfl) (by kernel_rfl) (by intro c a d v w h; cases d <;> exact h) ?_
    repeat
      first
      | (refine wpT_pure rfl rfl rfl ?_; apply Exists.intro; refine ⟨?_, ?_⟩; intro w; (first | (first | exact run_load_mid _ _ rfl g _ rfl _ _ qa Tryd.underlying28 rfl size_V | exact run_load_mid _ _ rfl g _ rfl _ _ qb Tryd.underlying28 rfl size_V | (go_simp <;> rfl)) | (go_simp <;> rfl)); simp only [Act.put, List.setIfInBounds_toArray, List.set_cons_zero, List.set_cons_succ])
      | (refine wpT_take 66 rfl rfl (by decide +kernel) ⟨fun _ => HS.out.r0, HS.out.r1⟩ ?_; apply Exists.intro; refine ⟨?_, ?_⟩; intro w hw; (have qa := hw.1 (Nat.le_refl _); have qb := hw.2); (first | (first | exact run_load_mid _ _ rfl g _ rfl _ _ qa Tryd.underlying28 rfl size_V | exact run_load_mid _ _ rfl g _ rfl _ _ qb Tryd.underlying28 rfl size_V | (go_simp <;> rfl)) | (go_simp <;> rfl)); simp only [Act.put, List.setIfInBounds_toArray, List.set_cons_zero, List.set_cons_succ])
      | (refine wpT_skip rfl rfl ?_; simp only [Act.put, List.setIfInBounds_toArray, List.set_cons_zero, List.set_cons_succ])
    have HCN := hid (VBytes_go HS.out.sl HS.out.slt (by decide))
    rw [x_bytes, xb_lit] at HCN
    refine wpT_op rfl ?_
    go_wp2_with ((go_at_call 22; refine HCN.out.mono ?_; rintro e w_ ⟨rfl, f⟩; replace HS := hid (HS.out.fre f); clear f HCN))
    (refine ⟨?_, ?_⟩; focus (intro kz hk hk2 hh; first | (exfalso; simp at hk2; omega) | exact hh | exact (fun h => absurd h (by omega)) | obtain ⟨qa, qb⟩ := hh; first | exact ⟨qa, qb⟩ | (refine ⟨fun h => absurd h (by omega), ?_⟩; first | exact qb | (first | exact HS.out.r0 | exact HS.out.r1)) | (refine ⟨fun h => ?_, ?_⟩; (have qa := qa h); all_goals (first | exact qa | exact qb | (first | exact HS.out.r0 | exact HS.out.r1)))))
    repeat
      first
      | (refine wpT_pure rfl rfl rfl ?_; apply Exists.intro; refine ⟨?_, ?_⟩; intro w; (first | (first | exact run_load_mid _ _ rfl g _ rfl _ _ qa Tryd.underlying28 rfl size_V | exact run_load_mid _ _ rfl g _ rfl _ _ qb Tryd.underlying28 rfl size_V | (go_simp <;> rfl)) | (go_simp <;> rfl)); simp only [Act.put, List.setIfInBounds_toArray, List.set_cons_zero, List.set_cons_succ])
      | (refine wpT_take 66 rfl rfl (by decide +kernel) ⟨fun _ => HS.out.r0, HS.out.r1⟩ ?_; apply Exists.intro; refine ⟨?_, ?_⟩; intro w hw; (have qa := hw.1 (Nat.le_refl _); have qb := hw.2); (first | (first | exact run_load_mid _ _ rfl g _ rfl _ _ qa Tryd.underlying28 rfl size_V | exact run_load_mid _ _ rfl g _ rfl _ _ qb Tryd.underlying28 rfl size_V | (go_simp <;> rfl)) | (go_simp <;> rfl)); simp only [Act.put, List.setIfInBounds_toArray, List.set_cons_zero, List.set_cons_succ])
      | (refine wpT_skip rfl rfl ?_; simp only [Act.put, List.setIfInBounds_toArray, List.set_cons_zero, List.set_cons_succ])
    have HCN := hid (VKey_go HS.out.sl HS.out.slt (by decide) HS.out.ml)
    rw [x_key, xk_lit] at HCN
    refine wpT_op rfl ?_
    go_wp2_with ((go_at_call 24; refine HCN.out.mono ?_; rintro e w_ ⟨rfl, f⟩; replace HS := hid (HS.out.fre f); clear f HCN))
    (refine ⟨?_, ?_⟩; focus (intro kz hk hk2 hh; first | (exfalso; simp at hk2; omega) | exact hh | exact (fun h => absurd h (by omega)) | obtain ⟨qa, qb⟩ := hh; first | exact ⟨qa, qb⟩ | (refine ⟨fun h => absurd h (by omega), ?_⟩; first | exact qb | (first | exact HS.out.r0 | exact HS.out.r1)) | (refine ⟨fun h => ?_, ?_⟩; (have qa := qa h); all_goals (first | exact qa | exact qb | (first | exact HS.out.r0 | exact HS.out.r1)))))
    repeat
      first
      | (refine wpT_pure rfl rfl rfl ?_; apply Exists.intro; refine ⟨?_, ?_⟩; intro w; (first | (first | exact run_load_mid _ _ rfl g _ rfl _ _ qa Tryd.underlying28 rfl size_V | exact run_load_mid _ _ rfl g _ rfl _ _ qb Tryd.underlying28 rfl size_V | (go_simp <;> rfl)) | (go_simp <;> rfl)); simp only [Act.put, List.setIfInBounds_toArray, List.set_cons_zero, List.set_cons_succ])
      | (refine wpT_take 66 rfl rfl (by decide +kernel) ⟨fun _ => HS.out.r0, HS.out.r1⟩ ?_; apply Exists.intro; refine ⟨?_, ?_⟩; intro w hw; (have qa := hw.1 (Nat.le_refl _); have qb := hw.2); (first | (first | exact run_load_mid _ _ rfl g _ rfl _ _ qa Tryd.underlying28 rfl size_V | exact run_load_mid _ _ rfl g _ rfl _ _ qb Tryd.underlying28 rfl size_V | (go_simp <;> rfl)) | (go_simp <;> rfl)); simp only [Act.put, List.setIfInBounds_toArray, List.set_cons_zero, List.set_cons_succ])
      | (refine wpT_skip rfl rfl ?_; simp only [Act.put, List.setIfInBounds_toArray, List.set_cons_zero, List.set_cons_succ])
    have HCN := hid (rfSame_go HS.out.q HS.out.sl (by decide) (by decide))
    rw [decide_eq_true (rfl : vx = vx)] at HCN
    refine wpT_op rfl ?_
    go_wp2_with ((go_at_call 30; refine HCN.out.mono ?_; rintro e w_ ⟨rfl, f⟩; replace HS := hid (HS.out.fre f); clear f HCN))
    (refine ⟨?_, ?_⟩; focus (intro kz hk hk2 hh; first | (exfalso; simp at hk2; omega) | exact hh | exact (fun h => absurd h (by omega)) | obtain ⟨qa, qb⟩ := hh; first | exact ⟨qa, qb⟩ | (refine ⟨fun h => absurd h (by omega), ?_⟩; first | exact qb | (first | exact HS.out.r0 | exact HS.out.r1)) | (refine ⟨fun h => ?_, ?_⟩; (have qa := qa h); all_goals (first | exact qa | exact qb | (first | exact HS.out.r0 | exact HS.out.r1)))))
    repeat
      first
      | (refine wpT_pure rfl rfl rfl ?_; apply Exists.intro; refine ⟨?_, ?_⟩; intro w; (first | (first | exact run_load_mid _ _ rfl g _ rfl _ _ qa Tryd.underlying28 rfl size_V | exact run_load_mid _ _ rfl g _ rfl _ _ qb Tryd.underlying28 rfl size_V | (go_simp <;> rfl)) | (go_simp <;> rfl)); simp only [Act.put, List.setIfInBounds_toArray, List.set_cons_zero, List.set_cons_succ])
      | (refine wpT_take 66 rfl rfl (by decide +kernel) ⟨fun _ => HS.out.r0, HS.out.r1⟩ ?_; apply Exists.intro; refine ⟨?_, ?_⟩; intro w hw; (have qa := hw.1 (Nat.le_refl _); have qb := hw.2); (first | (first | exact run_load_mid _ _ rfl g _ rfl _ _ qa Tryd.underlying28 rfl size_V | exact run_load_mid _ _ rfl g _ rfl _ _ qb Tryd.underlying28 rfl size_V | (go_simp <;> rfl)) | (go_simp <;> rfl)); simp only [Act.put, List.setIfInBounds_toArray, List.set_cons_zero, List.set_cons_succ])
      | (refine wpT_skip rfl rfl ?_; simp only [Act.put, List.setIfInBounds_toArray, List.set_cons_zero, List.set_cons_succ])
    have HCN := hid (VCompare_go vx0 vx1 HS.out.kn)
    rw [x_cmp] at HCN
    refine wpT_op rfl ?_
    go_wp2_with ((go_at_call 17; refine HCN.out.mono ?_; rintro e w_ ⟨rfl, f⟩; replace HS := hid (HS.out.fre f); clear f HCN))
    (refine ⟨?_, ?_⟩; focus (intro kz hk hk2 hh; first | (exfalso; simp at hk2; omega) | exact hh | exact (fun h => absurd h (by omega)) | obtain ⟨qa, qb⟩ := hh; first | exact ⟨qa, qb⟩ | (refine ⟨fun h => absurd h (by omega), ?_⟩; first | exact qb | (first | exact HS.out.r0 | exact HS.out.r1)) | (refine ⟨fun h => ?_, ?_⟩; (have qa := qa h); all_goals (first | exact qa | exact qb | (first | exact HS.out.r0 | exact HS.out.r1)))))
    repeat
      first
      | (refine wpT_pure rfl rfl rfl ?_; apply Exists.intro; refine ⟨?_, ?_⟩; intro w; (first | (first | exact run_load_mid _ _ rfl g _ rfl _ _ qa Tryd.underlying28 rfl size_V | exact run_load_mid _ _ rfl g _ rfl _ _ qb Tryd.underlying28 rfl size_V | (go_simp <;> rfl)) | (go_simp <;> rfl)); simp only [Act.put, List.setIfInBounds_toArray, List.set_cons_zero, List.set_cons_succ])
      | (refine wpT_take 66 rfl rfl (by decide +kernel) ⟨fun _ => HS.out.r0, HS.out.r1⟩ ?_; apply Exists.intro; refine ⟨?_, ?_⟩; intro w hw; (have qa := hw.1 (Nat.le_refl _); have qb := hw.2); (first | (first | exact run_load_mid _ _ rfl g _ rfl _ _ qa Tryd.underlying28 rfl size_V | exact run_load_mid _ _ rfl g _ rfl _ _ qb Tryd.underlying28 rfl size_V | (go_simp <;> rfl)) | (go_simp <;> rfl)); simp only [Act.put, List.setIfInBounds_toArray, List.set_cons_zero, List.set_cons_succ])
      | (refine wpT_skip rfl rfl ?_; simp only [Act.put, List.setIfInBounds_toArray, List.set_cons_zero, List.set_cons_succ])
    have HCN := hid (VRows_go HS.out.sl HS.out.sl1 (by decide) (by decide) HS.out.kn)
    rw [x_rows] at HCN
    refine wpT_op rfl ?_
    go_wp2_with ((go_at_call 19; refine HCN.out.mono ?_; rintro e w_ ⟨rfl, f⟩; replace HS := hid (HS.out.fre f); clear f HCN))
    (refine ⟨?_, ?_⟩; focus (intro kz hk hk2 hh; first | (exfalso; simp at hk2; omega) | exact hh | exact (fun h => absurd h (by omega)) | obtain ⟨qa, qb⟩ := hh; first | exact ⟨qa, qb⟩ | (refine ⟨fun h => absurd h (by omega), ?_⟩; first | exact qb | (first | exact HS.out.r0 | exact HS.out.r1)) | (refine ⟨fun h => ?_, ?_⟩; (have qa := qa h); all_goals (first | exact qa | exact qb | (first | exact HS.out.r0 | exact HS.out.r1)))))
    repeat
      first
      | (refine wpT_pure rfl rfl rfl ?_; apply Exists.intro; refine ⟨?_, ?_⟩; intro w; (first | (first | exact run_load_mid _ _ rfl g _ rfl _ _ qa Tryd.underlying28 rfl size_V | exact run_load_mid _ _ rfl g _ rfl _ _ qb Tryd.underlying28 rfl size_V | (go_simp <;> rfl)) | (go_simp <;> rfl)); simp only [Act.put, List.setIfInBounds_toArray, List.set_cons_zero, List.set_cons_succ])
      | (refine wpT_take 66 rfl rfl (by decide +kernel) ⟨fun _ => HS.out.r0, HS.out.r1⟩ ?_; apply Exists.intro; refine ⟨?_, ?_⟩; intro w hw; (have qa := hw.1 (Nat.le_refl _); have qb := hw.2); (first | (first | exact run_load_mid _ _ rfl g _ rfl _ _ qa Tryd.underlying28 rfl size_V | exact run_load_mid _ _ rfl g _ rfl _ _ qb Tryd.underlying28 rfl size_V | (go_simp <;> rfl)) | (go_simp <;> rfl)); simp only [Act.put, List.setIfInBounds_toArray, List.set_cons_zero, List.set_cons_succ])
      | (refine wpT_skip rfl rfl ?_; simp only [Act.put, List.setIfInBounds_toArray, List.set_cons_zero, List.set_cons_succ])
    have HCN := hid (VFits_go vx0 6 vx0 HS.out.kn)
    rw [x_fits] at HCN
    refine wpT_op rfl ?_
    go_wp2_with ((go_at_call 32; refine HCN.out.mono ?_; rintro e w_ ⟨rfl, f⟩; replace HS := hid (HS.out.fre f); clear f HCN))
    (refine ⟨?_, ?_⟩; focus (intro kz hk hk2 hh; first | (exfalso; simp at hk2; omega) | exact hh | exact (fun h => absurd h (by omega)) | obtain ⟨qa, qb⟩ := hh; first | exact ⟨qa, qb⟩ | (refine ⟨fun h => absurd h (by omega), ?_⟩; first | exact qb | (first | exact HS.out.r0 | exact HS.out.r1)) | (refine ⟨fun h => ?_, ?_⟩; (have qa := qa h); all_goals (first | exact qa | exact qb | (first | exact HS.out.r0 | exact HS.out.r1)))))
    repeat
      first
      | (refine wpT_pure rfl rfl rfl ?_; apply Exists.intro; refine ⟨?_, ?_⟩; intro w; (first | (first | exact run_load_mid _ _ rfl g _ rfl _ _ qa Tryd.underlying28 rfl size_V | exact run_load_mid _ _ rfl g _ rfl _ _ qb Tryd.underlying28 rfl size_V | (go_simp <;> rfl)) | (go_simp <;> rfl)); simp only [Act.put, List.setIfInBounds_toArray, List.set_cons_zero, List.set_cons_succ])
      | (refine wpT_take 66 rfl rfl (by decide +kernel) ⟨fun _ => HS.out.r0, HS.out.r1⟩ ?_; apply Exists.intro; refine ⟨?_, ?_⟩; intro w hw; (have qa := hw.1 (Nat.le_refl _); have qb := hw.2); (first | (first | exact run_load_mid _ _ rfl g _ rfl _ _ qa Tryd.underlying28 rfl size_V | exact run_load_mid _ _ rfl g _ rfl _ _ qb Tryd.underlying28 rfl size_V | (go_simp <;> rfl)) | (go_simp <;> rfl)); simp only [Act.put, List.setIfInBounds_toArray, List.set_cons_zero, List.set_cons_succ])
      | (refine wpT_skip rfl rfl ?_; simp only [Act.put, List.setIfInBounds_toArray, List.set_cons_zero, List.set_cons_succ])
    have HCN := hid (HS.out.cutc)
    rw [x_cut, xk_lit] at HCN
    refine wpT_op rfl ?_
    go_wp2_with ((go_at_call 25; refine HCN.out.mono ?_; rintro e w_ ⟨rfl, f⟩; replace HS := hid (HS.out.fre f); clear f HCN))
    (refine ⟨?_, ?_⟩; focus (intro kz hk hk2 hh; first | (exfalso; simp at hk2; omega) | exact hh | exact (fun h => absurd h (by omega)) | obtain ⟨qa, qb⟩ := hh; first | exact ⟨qa, qb⟩ | (refine ⟨fun h => absurd h (by omega), ?_⟩; first | exact qb | (first | exact HS.out.r0 | exact HS.out.r1)) | (refine ⟨fun h => ?_, ?_⟩; (have qa := qa h); all_goals (first | exact qa | exact qb | (first | exact HS.out.r0 | exact HS.out.r1)))))
    repeat
      first
      | (refine wpT_pure rfl rfl rfl ?_; apply Exists.intro; refine ⟨?_, ?_⟩; intro w; (first | (first | exact run_load_mid _ _ rfl g _ rfl _ _ qa Tryd.underlying28 rfl size_V | exact run_load_mid _ _ rfl g _ rfl _ _ qb Tryd.underlying28 rfl size_V | (go_simp <;> rfl)) | (go_simp <;> rfl)); simp only [Act.put, List.setIfInBounds_toArray, List.set_cons_zero, List.set_cons_succ])
      | (refine wpT_take 66 rfl rfl (by decide +kernel) ⟨fun _ => HS.out.r0, HS.out.r1⟩ ?_; apply Exists.intro; refine ⟨?_, ?_⟩; intro w hw; (have qa := hw.1 (Nat.le_refl _); have qb := hw.2); (first | (first | exact run_load_mid _ _ rfl g _ rfl _ _ qa Tryd.underlying28 rfl size_V | exact run_load_mid _ _ rfl g _ rfl _ _ qb Tryd.underlying28 rfl size_V | (go_simp <;> rfl)) | (go_simp <;> rfl)); simp only [Act.put, List.setIfInBounds_toArray, List.set_cons_zero, List.set_cons_succ])
      | (refine wpT_skip rfl rfl ?_; simp only [Act.put, List.setIfInBounds_toArray, List.set_cons_zero, List.set_cons_succ])
    have HCN := hid (HS.out.rightc)
    rw [x_right] at HCN
    refine wpT_op rfl ?_
    go_wp2_with ((go_at_call 15; refine HCN.out.mono ?_; rintro e w_ ⟨rfl, f⟩; replace HS := hid (HS.out.fre f); clear f HCN))
    (refine ⟨?_, ?_⟩; focus (intro kz hk hk2 hh; first | (exfalso; simp at hk2; omega) | exact hh | exact (fun h => absurd h (by omega)) | obtain ⟨qa, qb⟩ := hh; first | exact ⟨qa, qb⟩ | (refine ⟨fun h => absurd h (by omega), ?_⟩; first | exact qb | (first | exact HS.out.r0 | exact HS.out.r1)) | (refine ⟨fun h => ?_, ?_⟩; (have qa := qa h); all_goals (first | exact qa | exact qb | (first | exact HS.out.r0 | exact HS.out.r1)))))
    repeat
      first
      | (refine wpT_pure rfl rfl rfl ?_; apply Exists.intro; refine ⟨?_, ?_⟩; intro w; (first | (first | exact run_load_mid _ _ rfl g _ rfl _ _ qa Tryd.underlying28 rfl size_V | exact run_load_mid _ _ rfl g _ rfl _ _ qb Tryd.underlying28 rfl size_V | (go_simp <;> rfl)) | (go_simp <;> rfl)); simp only [Act.put, List.setIfInBounds_toArray, List.set_cons_zero, List.set_cons_succ])
      | (refine wpT_take 66 rfl rfl (by decide +kernel) ⟨fun _ => HS.out.r0, HS.out.r1⟩ ?_; apply Exists.intro; refine ⟨?_, ?_⟩; intro w hw; (have qa := hw.1 (Nat.le_refl _); have qb := hw.2); (first | (first | exact run_load_mid _ _ rfl g _ rfl _ _ qa Tryd.underlying28 rfl size_V | exact run_load_mid _ _ rfl g _ rfl _ _ qb Tryd.underlying28 rfl size_V | (go_simp <;> rfl)) | (go_simp <;> rfl)); simp only [Act.put, List.setIfInBounds_toArray, List.set_cons_zero, List.set_cons_succ])
      | (refine wpT_skip rfl rfl ?_; simp only [Act.put, List.setIfInBounds_toArray, List.set_cons_zero, List.set_cons_succ])
    refine wpT_nil ?_
    go_wp2_with (fail)
    go_ret
    exact ⟨rfl, HS.out.fr⟩
end Go.Proofs.YtknpncpoojjbfaaDoor
