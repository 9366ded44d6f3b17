import Derived.Test.YtiimomgbklgicaaGreatPkRsQ
set_option linter.unusedVariables false
namespace Go.Proofs.YtiimomgbklgicaaGreat
open Go.RowKit Go.VB Go.VB.Oct Go.VB.Cat Go.VB.Rec Go.VB.Slt
theorem zero_fol (w : World) : (zeroValue 127).run Tryz.prog w = .ok (.pointer none) w := by
  kernel_rfl
theorem own_none {k : Nat} (h : (Value.slice none 0 0).ownBlock = some k) : False := by simp [Value.ownBlock] at h
/-- a list of turns grown by one -/
theorem TrnsO.grow {S T : Nat → Prop} {W wg W' : World} {v v' : Value} {ts : List TrnV} {t : TrnV} {mb n d : Nat} {g : Lit → Option Value} {ld : List Value} (h : TrnsO S W v ts) (hm : MapG Tryz.prog 3 W mb n g) (ht : ChgR 0 W t.c) (app : App 121 6 0 W wg v v' ts.length (ts.flatMap TrnV.cells) t.cells)
    (bg : Blk wg d ld 129) (fs : Fr (fun k => k = d) wg W') (hST : ∀ k, S k → T k) (htT : ∀ k, t.c.has k → T k) (hnew : ∀ k, v'.ownBlock = some k → v.ownBlock = some k ∨ T k) : TrnsO T W' v' (ts ++ [t]) := by
  have own : Own (fun k => v.ownBlock = some k) W mb := fun k hk => by
    obtain ⟨l, hl⟩ := row_blk h.r hk
    exact .inr ⟨l, _, hl, .inr (.inr (.inr (.inl rfl)))⟩
  have chg : ∀ {c : ChgV}, ChgR 0 W c → ChgR 0 W' c := fun {c} hc => by
    have h1 := hc.fr app.fr (hc.off hm own)
    exact h1.fr fs (fun k hk e => h1.ne bg (by decide) (by decide) (by rw [← e]; exact hk))
  refine ⟨?_, fun k hk => ?_, fun x hx => ?_, fun x hx k hk => ?_⟩
  · have r := app.row.cast (m := (ts ++ [t]).length) (ys := (ts ++ [t]).flatMap TrnV.cells) (by simp) (by simp)
    exact r.fr fs (fun k hk e => r.ne bg (by decide) k hk e)
  · rcases hnew k hk with e | e
    · exact hST k (h.rS k e)
    · exact e
  · rcases List.mem_append.1 hx with e | e
    · exact chg (h.c x e)
    · rw [List.mem_singleton.1 e]; exact chg ht
  · rcases List.mem_append.1 hx with e | e
    · exact hST k (h.cS x e k hk)
    · rw [List.mem_singleton.1 e] at hk; exact htT k hk
set_option maxRecDepth 20000 in
set_option maxHeartbeats 4000000 in
theorem add_go {S C : Nat → Prop} {w : World} {s : Nat} {v : SltV} (h : SlO S C w s v) (hn : v.n ≤ 1099511627776) {x : Int} (hx : -9223372036854775808 ≤ x ∧ x ≤ 9223372036854775807) {t : TrnV} (ht : ChgR 0 w t.c) (htC : ∀ k, t.c.has k → ¬ C k) (hss : ∀ f ∈ v.fs, f.ss.length ≤ 1048576) :
    Calls Tryz.prog 57 #[.pointer (some ⟨s, 0, none⟩), .int .i64 x, .agg t.cells.toArray] w fun e w' => e = .returned (.tuple #[]) ∧ ∃ v', SlO (fun k => S k ∨ t.c.has k ∨ (w.heap.size ≤ k ∧ k < w'.heap.size)) C w' s v' ∧ v'.t = addM v.t x t.t ∧ v'.n ≤ v.n + 1 ∧ Fr S w w' := by
  have H0 := hid h
  have HT := hid ht
  have HTC := hid htC
  have HSS := hid hss
  have HTL := hid (fun k (hk : t.c.has k) => ht.lt hk)
  have HXX := hid hx
  obtain ⟨a1, c1, e1, -⟩ := ht.n.slice
  obtain ⟨a2, c2, e2, -⟩ := ht.o.slice
  obtain ⟨a3, c3, e3, -⟩ := ht.w.slice
  have hce : t.cells = [.int .i64 t.lsn, .int .i64 t.c.c.kind, .string (bs t.c.c.table), .slice a1 t.c.c.names.length c1, .slice a2 t.c.c.old.length c2, .slice a3 t.c.c.new.length c3] := by
    unfold TrnV.cells ChgV.cells
    rw [e1, e2, e3]
  have HCE := hid hce
  rw [hce]
  clear h ht htC hss hx e1 e2 e3 hce
  have fa := (Fr.refl (fun _ => False) w).alloc (.cells #[.int .i64 t.lsn, .int .i64 t.c.c.kind, .string (bs t.c.c.table), .slice a1 t.c.c.names.length c1, .slice a2 t.c.c.old.length c2, .slice a3 t.c.c.new.length c3] 121)
  have D1 := hid (Blk.new w [.int .i64 t.lsn, .int .i64 t.c.c.kind, .string (bs t.c.c.table), .slice a1 t.c.c.names.length c1, .slice a2 t.c.c.old.length c2, .slice a3 t.c.c.new.length c3] 121)
  have H1 := hid (H0.out.fre fa)
  have HT1 := hid (HT.out.fre fa)
  have F1 := hid fa
  clear fa HT
  go_enter Tryz.func57, Tryz.ntmps57
  go_upto_region 1 with fail
  have HD := hid (show w.heap.size < (w.alloc (.cells #[.int .i64 t.lsn, .int .i64 t.c.c.kind, .string (bs t.c.c.table), .slice a1 t.c.c.names.length c1, .slice a2 t.c.c.old.length c2, .slice a3 t.c.c.new.length c3] 121)).heap.size from D1.out.lt)
  obtain ⟨d, hd⟩ : ∃ d, d = w.heap.size := ⟨_, rfl⟩
  rw [← hd] at D1 HD ⊢
  have HDE := hid hd
  clear hd
  generalize w.alloc _ = W1 at *
  have HM := hid H1.out.m
  have k4 : W1.cell? ⟨s, 4, none⟩ = some (.map (some v.mb)) := H1.out.b.cell 4
  rcases find_cases v.fs x with hno | ⟨i, hi, hxi⟩
  · have HNO := hid hno
    have HFI := hid (find_no hno)
    clear hno
    go_upto_region 3 with (refine wpList_lookup_G rfl (m := .tmp 10) (x := .tmp 11) rfl rfl HM.out (Go.Maps.int_keyed Tryz.underlying3) Tryz.underlying113 (zero_fol _) rfl (key_int HXX.out.1 HXX.out.2) trivial ?_; rw [HFI.out]; simp only [Option.getD_none])
    have j0 : W1.cell? ⟨d, 0, none⟩ = some (.int .i64 t.lsn) := D1.out.cell 0
    have fb := (Fr.refl (fun _ => False) W1).alloc (.cells #[.int .i64 t.lsn, .slice none 0 0, .slice none 0 0] 129)
    have B2 := hid (Blk.new W1 [.int .i64 t.lsn, .slice none 0 0, .slice none 0 0] 129)
    have H2 := hid (H1.out.fre fb)
    have HT2 := hid (HT1.out.fre fb)
    have D2 := hid (Blk.fr D1.out fb (fun h => h))
    have F2 := hid (F1.out.trans fb (fun _ h _ => h))
    have FB := hid fb
    clear fb
    go_upto_region 4 with fail
    clear j0 k4
    obtain ⟨b, hb⟩ : ∃ b, b = W1.heap.size := ⟨_, rfl⟩
    rw [← hb] at B2 ⊢
    have HBE := hid hb
    clear hb
    generalize W1.alloc _ = W2 at *
    have HM2 := hid H2.out.m
    have k4 : W2.cell? ⟨s, 4, none⟩ = some (.map (some v.mb)) := H2.out.b.cell 4
    go_upto_region 5 with (refine wpList_update_G rfl (m := .tmp 22) (x := .tmp 23) (v := .tmp 24) rfl rfl HM2.out (Go.Maps.int_keyed Tryz.underlying3) Tryz.underlying113 (by unfold maxLen; omega) rfl rfl (key_int HXX.out.1 HXX.out.2) trivial ?_; intro w3 m3 f3; have M3 := hid m3; have F3 := hid f3; clear m3 f3)
    clear k4
    have B3 := hid (Blk.fr B2.out F3.out (fun e => MapG_ne HM2.out B2.out e.symm))
    have D3 := hid (Blk.fr D2.out F3.out (fun e => MapG_ne HM2.out D2.out e.symm))
    have k1 : w3.cell? ⟨b, 1, none⟩ = some (.slice none 0 0) := B3.out.cell 1
    have HT3 := hid (HT2.out.fr F3.out (HT2.out.off HM2.out (U := fun k => k = v.mb) (fun k hk => .inl hk)))
    go_upto_region 6 with fail
    clear k1
    have fd := (Fr.refl (fun _ => False) w3).drew
    have B4 := hid (Blk.fr B3.out fd (fun h => h))
    have D4 := hid (Blk.fr D3.out fd (fun h => h))
    have M4 := hid (M3.out.fr fd (fun h => h))
    have HT4 := hid (HT3.out.fre fd)
    have F4 := hid (F3.out.trans fd (fun _ h _ => h.elim))
    clear fd B3 D3 M3 HT3 F3
    refine wp_region_scr (.take 0 (.take 1 (.take 2 (.take 3 (.take 4 (.take 5 (.op 6 (.op 7 (.take 8 (.take 9 (.op 10 .done))))))))))) (fun kz w => (kz ≤ 10 → w.cell? ⟨b, 1, none⟩ = some (.slice none 0 0) ∧ w.rangeAt d 0 [.int .i64 t.lsn, .int .i64 t.c.c.kind, .string (bs t.c.c.table), .slice a1 t.c.c.names.length c1, .slice a2 t.c.c.old.length c2, .slice a3 t.c.c.new.length c3]) ∧ Hid True) (by kernel_rfl) (by kernel_rfl) (by intro c a d v w h; cases d <;> exact h) ?_
    repeat
      first
      | (refine wpT_pure rfl rfl rfl ?_; apply Exists.intro; refine ⟨?_, ?_⟩; intro w; (first | (first | exact run_load_mid _ _ rfl d _ rfl _ _ qa.2 Tryz.underlying121 rfl size_trn | (obtain ⟨qa1, qa2⟩ := qa; go_simp <;> rfl)) | (go_simp <;> rfl)); simp only [Act.put, List.setIfInBounds_toArray, List.set_cons_zero, List.set_cons_succ])
      | (refine wpT_take 10 rfl rfl (by decide +kernel) ⟨fun _ => ⟨B4.out.cell 1, D4.out.all⟩, hid trivial⟩ ?_; apply Exists.intro; refine ⟨?_, ?_⟩; intro w hw; (have qa := hw.1 (Nat.le_refl _); have qb := hw.2); (first | (first | exact run_load_mid _ _ rfl d _ rfl _ _ qa.2 Tryz.underlying121 rfl size_trn | (obtain ⟨qa1, qa2⟩ := qa; go_simp <;> rfl)) | (go_simp <;> rfl)); simp only [Act.put, List.setIfInBounds_toArray, List.set_cons_zero, List.set_cons_succ])
      | (refine wpT_skip rfl rfl ?_; simp only [Act.put, List.setIfInBounds_toArray, List.set_cons_zero, List.set_cons_succ])
    generalize w3.drew = W4 at *
    have FA := hid (fun o => (Fr.refl (fun _ => False) W4).alloc o)
    refine wpT_op rfl ?_
    go_wp2_with (fail)
    (refine ⟨?_, ?_⟩; focus (intro kz hk hk2 hh; first | (exfalso; simp at hk2; omega) | exact hh | exact (fun h => absurd h (by omega)) | obtain ⟨qa, qb⟩ := hh; first | exact ⟨qa, qb⟩ | (refine ⟨fun h => absurd h (by omega), ?_⟩; first | exact qb | (exact ⟨(Blk.fr B4.out (FA.out _) (fun h => h)).cell 1, (Blk.fr D4.out (FA.out _) (fun h => h)).all⟩)) | (refine ⟨fun h => ?_, ?_⟩; (have qa := qa h); all_goals (first | exact qa | exact qb | (exact ⟨(Blk.fr B4.out (FA.out _) (fun h => h)).cell 1, (Blk.fr D4.out (FA.out _) (fun h => h)).all⟩)))))
    have HROW := hid (show Row 121 6 0 W4 (.slice none 0 0) 0 [] from Row.nil)
    have hcl : ([.int .i64 t.lsn, .int .i64 t.c.c.kind, .string (bs t.c.c.table), .slice a1 t.c.c.names.length c1, .slice a2 t.c.c.old.length c2, .slice a3 t.c.c.new.length c3] : List Value).length = 6 := rfl
    refine wpT_op rfl ?_
    go_wp2_with ((at_builtin; refine wpList_app1 rfl (s := .tmp 35) (x := .tmp 37) (t := 117) rfl Tryz.underlying117 info_trn rfl rfl rfl HROW.out (Nat.zero_le _) rfl (by simp [Value.oneCell']) (by omega) (by omega) ?_; intro ab ac wg APP; have HAPP := hid APP; have BG := hid (Blk.fr B4.out APP.fr (fun hk => own_none hk)); have DG := hid (Blk.fr D4.out APP.fr (fun hk => own_none hk)); clear APP))
    (refine ⟨?_, ?_⟩; focus (intro kz hk hk2 hh; first | (exfalso; simp at hk2; omega) | exact hh | exact (fun h => absurd h (by omega)) | obtain ⟨qa, qb⟩ := hh; first | exact ⟨qa, qb⟩ | (refine ⟨fun h => absurd h (by omega), ?_⟩; first | exact qb | (exact ⟨BG.out.cell 1, DG.out.all⟩)) | (refine ⟨fun h => ?_, ?_⟩; (have qa := qa h); all_goals (first | exact qa | exact qb | (exact ⟨BG.out.cell 1, DG.out.all⟩)))))
    repeat
      first
      | (refine wpT_pure rfl rfl rfl ?_; apply Exists.intro; refine ⟨?_, ?_⟩; intro w; ((go_simp <;> rfl)); simp only [Act.put, List.setIfInBounds_toArray, List.set_cons_zero, List.set_cons_succ])
      | (refine wpT_take 10 rfl rfl (by decide +kernel) ⟨fun _ => ⟨BG.out.cell 1, DG.out.all⟩, hid trivial⟩ ?_; apply Exists.intro; refine ⟨?_, ?_⟩; intro w hw; (have qa := hw.1 (Nat.le_refl _); have qb := hw.2); ((go_simp <;> rfl)); simp only [Act.put, List.setIfInBounds_toArray, List.set_cons_zero, List.set_cons_succ])
      | (refine wpT_skip rfl rfl ?_; simp only [Act.put, List.setIfInBounds_toArray, List.set_cons_zero, List.set_cons_succ])
    have k5 : wg.cell? ⟨b, 1, none⟩ = some (.slice none 0 0) := BG.out.cell 1
    have z5 : wg.frozen? ⟨b, 1, none⟩ = false := BG.out.frozen 1
    refine wpT_op rfl ?_
    go_wp2_with (fail)
    (refine ⟨?_, ?_⟩; focus (intro kz hk hk2 hh; first | (exfalso; simp at hk2; omega) | exact hh | exact (fun h => absurd h (by omega)) | obtain ⟨qa, qb⟩ := hh; first | exact ⟨qa, qb⟩ | (refine ⟨fun h => absurd h (by omega), ?_⟩; first | exact qb | (exact hid trivial)) | (refine ⟨fun h => ?_, ?_⟩; (have qa := qa h); all_goals (first | exact qa | exact qb | (exact hid trivial)))))
    refine wpT_nil ?_
    have fs := (Fr.refl (fun k => k = b) wg).setCell ⟨b, 1, none⟩ (.slice ab 1 ac) (fun _ => rfl)
    have HBF := hid (show Blk (wg.setCell ⟨b, 1, none⟩ (.slice ab 1 ac)) b [.int .i64 t.lsn, .slice ab 1 ac, .slice none 0 0] 129 from BG.out.set 1 (.slice ab 1 ac))
    have HFIN := hid (show SlO (fun k => S k ∨ t.c.has k ∨ (w.heap.size ≤ k ∧ k < (wg.setCell ⟨b, 1, none⟩ (.slice ab 1 ac)).heap.size)) C (wg.setCell ⟨b, 1, none⟩ (.slice ab 1 ac)) s { v with fs := v.fs ++ [⟨x, b, t.lsn, .slice ab 1 ac, .slice none 0 0, [t], []⟩], n := v.n + 1 } ∧ Fr S w (wg.setCell ⟨b, 1, none⟩ (.slice ab 1 ac)) from by
      have z1 := HDE.out
      have z2 := HBE.out
      have z3 := F4.out.size
      have z4 := HAPP.out.fr.size
      have z5 := fs.size
      have z6 := H2.out.b.lt
      have z7 := F2.out.size
      have z8 := B2.out.lt
      have f24 : Fr (fun k => k = v.mb ∨ k = b) W2 (wg.setCell ⟨b, 1, none⟩ (.slice ab 1 ac)) := ((F4.out.mono (fun _ h _ => .inl h)).trans HAPP.out.fr (fun k hk _ => (own_none hk).elim)).trans fs (fun k hk _ => .inr hk)
      have hT : TrnsO (fun k => S k ∨ t.c.has k ∨ (w.heap.size ≤ k ∧ k < (wg.setCell ⟨b, 1, none⟩ (.slice ab 1 ac)).heap.size)) (wg.setCell ⟨b, 1, none⟩ (.slice ab 1 ac)) (.slice ab 1 ac) [t] := by
        have h0 : TrnsO (fun _ => False) W4 (.slice none 0 0) [] := ⟨Row.nil, fun k hk => own_none hk, fun t ht => by simp at ht, fun t ht => by simp at ht⟩
        have app := HAPP.out
        rw [← HCE.out] at app
        exact h0.grow M4.out HT4.out app BG.out fs (fun _ h => h.elim) (fun k hk => .inr (.inl hk)) (fun k hk => (app.at_ k hk).elim .inl (fun e => .inr (.inr (.inr ⟨by omega, by
          have := (app.row.lt hk)
          omega⟩))))
      have z9 := FB.out.size
      have z10 := HD.out
      have f14 : Fr (fun k => k = v.mb) W1 (wg.setCell ⟨b, 1, none⟩ (.slice ab 1 ac)) := (FB.out.mono (fun _ h _ => h.elim)).trans f24 (fun k hk hl => by
        rcases hk with hk | hk
        · exact hk
        · omega)
      have z11 : w.heap.size ≤ W1.heap.size := F1.out.size
      refine ⟨SlO.newF (W := W1) H1.out ⟨x, b, t.lsn, .slice ab 1 ac, .slice none 0 0, [t], []⟩ f14 ?_ ?_ (by show W1.heap.size ≤ b; omega) ?_ HNO.out HXX.out (fun k hk => .inl hk) ?_ ?_, ?_⟩
      · have m1 := M4.out.fr HAPP.out.fr (fun hk => own_none hk)
        exact m1.fr fs (fun e => MapG_ne m1 BG.out e)
      · refine ⟨HBF.out, .inr (.inr ⟨by show w.heap.size ≤ b; omega, by show b < _; omega⟩), hT, ⟨Row.nil, fun k hk => (own_none hk).elim, fun t ht => by simp at ht, fun t ht => by simp at ht⟩, (by show 1 ≤ 16; omega), fun h => absurd rfl h, fun k _ h => own_none h, by simp, fun y hy => ?_⟩
        simp at hy
        rw [hy]
      · intro k hk
        rcases hk with hk | hk
        · rcases HAPP.out.at_ k hk with e | e
          · exact (own_none e).elim
          · omega
        · exact (own_none hk).elim
      · intro k hk
        rcases hk with hk | hk | hk
        · have := H2.out.lt k (.inl hk); omega
        · have := HTL.out k hk; omega
        · exact hk.2
      · intro k hk ht
        rcases ht with ht | ht | ht
        · exact H0.out.CS k hk ht
        · exact HTC.out k ht hk
        · have := H0.out.lt k (.inr hk); omega
      · exact (F1.out.mono (fun _ h _ => h.elim)).trans f14 (fun k hk _ => by rw [hk]; exact H0.out.mS))
    go_wp2_with (fail)
    refine bodyPost_ret (results_none rfl _ _ _) rfl ?_
    exact ⟨rfl, _, HFIN.out.1, by
      unfold SltV.t addM
      dsimp only
      rw [addF_new HNO.out, List.map_append]
      rfl, Nat.le_refl _, HFIN.out.2⟩
  · have HXI := hid hxi
    have HFI := hid (find_at H1.out.fx hi hxi)
    clear hxi
    have HF := hid (H1.out.f _ (List.getElem_mem hi))
    have HTF := hid (show v.fs[i].xid = x from HXI.out)
    have HSF := hid (HSS.out _ (List.getElem_mem hi))
    obtain ⟨f, hf⟩ : ∃ f, f = v.fs[i] := ⟨_, rfl⟩
    rw [← hf] at HF HTF HSF HFI
    have HFE := hid hf
    clear hf
    obtain ⟨ah, ch, e1, -⟩ := HF.out.h.r.slice
    obtain ⟨as_, cs, e2, -⟩ := HF.out.s.r.slice
    have HE1 := hid e1
    have HE2 := hid e2
    have hle16 : f.hs.length ≤ 16 := HF.out.le
    go_upto_region 2 with (refine wpList_lookup_G rfl (m := .tmp 10) (x := .tmp 11) rfl rfl HM.out (Go.Maps.int_keyed Tryz.underlying3) Tryz.underlying113 (zero_fol _) rfl (key_int HXX.out.1 HXX.out.2) trivial ?_; rw [HFI.out]; simp only [Option.getD_some])
    clear k4
    have k1 : W1.cell? ⟨f.b, 1, none⟩ = some (.slice ah f.hs.length ch) := by rw [← e1]; exact HF.out.b.cell 1
    clear e1 e2
    by_cases h16 : f.hs.length < 16
    · have i1 : (f.hs.length : Int) < 16 := by omega
      go_upto_region 6 with fail
      clear k1
      have fd := (Fr.refl (fun _ => False) W1).drew
      have H4 := hid (H1.out.fre fd)
      have HF4 := hid (HF.out.fr fd (fun _ _ h => h))
      have D4 := hid (Blk.fr D1.out fd (fun h => h))
      have HT4 := hid (HT1.out.fre fd)
      have F4 := hid fd
      have HKC := hid (show W1.drew.cell? ⟨f.b, 1, none⟩ = some (.slice ah f.hs.length ch) from by rw [← HE1.out]; exact HF4.out.b.cell 1)
      clear fd
      refine wp_region_scr (.take 0 (.take 1 (.take 2 (.take 3 (.take 4 (.take 5 (.op 6 (.op 7 (.take 8 (.take 9 (.op 10 .done))))))))))) (fun kz w => (kz ≤ 10 → w.cell? ⟨f.b, 1, none⟩ = some (.slice ah f.hs.length ch) ∧ w.rangeAt d 0 [.int .i64 t.lsn, .int .i64 t.c.c.kind, .string (bs t.c.c.table), .slice a1 t.c.c.names.length c1, .slice a2 t.c.c.old.length c2, .slice a3 t.c.c.new.length c3]) ∧ Hid True) (by kernel_rfl) (by kernel_rfl) (by intro c a d v w h; cases d <;> exact h) ?_
      repeat
        first
        | (refine wpT_pure rfl rfl rfl ?_; apply Exists.intro; refine ⟨?_, ?_⟩; intro w; (first | (first | exact run_load_mid _ _ rfl d _ rfl _ _ qa.2 Tryz.underlying121 rfl size_trn | (obtain ⟨qa1, qa2⟩ := qa; go_simp <;> rfl)) | (go_simp <;> rfl)); simp only [Act.put, List.setIfInBounds_toArray, List.set_cons_zero, List.set_cons_succ])
        | (refine wpT_take 10 rfl rfl (by decide +kernel) ⟨fun _ => ⟨HKC.out, D4.out.all⟩, hid trivial⟩ ?_; apply Exists.intro; refine ⟨?_, ?_⟩; intro w hw; (have qa := hw.1 (Nat.le_refl _); have qb := hw.2); (first | (first | exact run_load_mid _ _ rfl d _ rfl _ _ qa.2 Tryz.underlying121 rfl size_trn | (obtain ⟨qa1, qa2⟩ := qa; go_simp <;> rfl)) | (go_simp <;> rfl)); simp only [Act.put, List.setIfInBounds_toArray, List.set_cons_zero, List.set_cons_succ])
        | (refine wpT_skip rfl rfl ?_; simp only [Act.put, List.setIfInBounds_toArray, List.set_cons_zero, List.set_cons_succ])
      generalize W1.drew = W4 at *
      have FA := hid (fun o => (Fr.refl (fun _ => False) W4).alloc o)
      refine wpT_op rfl ?_
      go_wp2_with (fail)
      (refine ⟨?_, ?_⟩; focus (intro kz hk hk2 hh; first | (exfalso; simp at hk2; omega) | exact hh | exact (fun h => absurd h (by omega)) | obtain ⟨qa, qb⟩ := hh; first | exact ⟨qa, qb⟩ | (refine ⟨fun h => absurd h (by omega), ?_⟩; first | exact qb | (exact ⟨cell_fr HKC.out (FA.out _) (fun h => h), (Blk.fr D4.out (FA.out _) (fun h => h)).all⟩)) | (refine ⟨fun h => ?_, ?_⟩; (have qa := qa h); all_goals (first | exact qa | exact qb | (exact ⟨cell_fr HKC.out (FA.out _) (fun h => h), (Blk.fr D4.out (FA.out _) (fun h => h)).all⟩)))))
      have HROW := hid (show Row 121 6 0 W4 (.slice ah f.hs.length ch) f.hs.length (f.hs.flatMap TrnV.cells) from by rw [← HE1.out]; exact HF4.out.h.r)
      have HOFF := hid (HROW.out.ne HF4.out.b (by decide))
      have HVD := hid (show ∀ k, (Value.slice ah f.hs.length ch).ownBlock = some k → ¬ k = d from fun k hk e => by
        have h0 := H0.out.f _ (List.getElem_mem hi)
        rw [← HFE.out] at h0
        have := h0.h.r.lt (k := k) (by rw [HE1.out]; exact hk)
        have := HDE.out
        omega)
      have HSF2 := HSF.out
      refine wpT_op rfl ?_
      go_wp2_with ((at_builtin; refine wpList_app1 rfl (s := .tmp 35) (x := .tmp 37) (t := 117) rfl Tryz.underlying117 info_trn rfl rfl rfl HROW.out (Nat.zero_le _) rfl (by simp [Value.oneCell']) (by omega) (by omega) ?_; intro ab ac wg APP; have HAPP := hid APP; have BG := hid (Blk.fr HF4.out.b APP.fr (fun hk => HOFF.out _ hk rfl)); have KG := hid (cell_fr HKC.out APP.fr (fun hk => HOFF.out _ hk rfl)); have DG := hid (Blk.fr D4.out APP.fr (fun hk => HVD.out _ hk rfl)); clear APP))
      (refine ⟨?_, ?_⟩; focus (intro kz hk hk2 hh; first | (exfalso; simp at hk2; omega) | exact hh | exact (fun h => absurd h (by omega)) | obtain ⟨qa, qb⟩ := hh; first | exact ⟨qa, qb⟩ | (refine ⟨fun h => absurd h (by omega), ?_⟩; first | exact qb | (exact ⟨KG.out, DG.out.all⟩)) | (refine ⟨fun h => ?_, ?_⟩; (have qa := qa h); all_goals (first | exact qa | exact qb | (exact ⟨KG.out, DG.out.all⟩)))))
      repeat
        first
        | (refine wpT_pure rfl rfl rfl ?_; apply Exists.intro; refine ⟨?_, ?_⟩; intro w; ((go_simp <;> rfl)); simp only [Act.put, List.setIfInBounds_toArray, List.set_cons_zero, List.set_cons_succ])
        | (refine wpT_take 10 rfl rfl (by decide +kernel) ⟨fun _ => ⟨KG.out, DG.out.all⟩, hid trivial⟩ ?_; apply Exists.intro; refine ⟨?_, ?_⟩; intro w hw; (have qa := hw.1 (Nat.le_refl _); have qb := hw.2); ((go_simp <;> rfl)); simp only [Act.put, List.setIfInBounds_toArray, List.set_cons_zero, List.set_cons_succ])
        | (refine wpT_skip rfl rfl ?_; simp only [Act.put, List.setIfInBounds_toArray, List.set_cons_zero, List.set_cons_succ])
      have k5 := KG.out
      have z5 : wg.frozen? ⟨f.b, 1, none⟩ = false := BG.out.frozen 1
      refine wpT_op rfl ?_
      go_wp2_with (fail)
      (refine ⟨?_, ?_⟩; focus (intro kz hk hk2 hh; first | (exfalso; simp at hk2; omega) | exact hh | exact (fun h => absurd h (by omega)) | obtain ⟨qa, qb⟩ := hh; first | exact ⟨qa, qb⟩ | (refine ⟨fun h => absurd h (by omega), ?_⟩; first | exact qb | (exact hid trivial)) | (refine ⟨fun h => ?_, ?_⟩; (have qa := qa h); all_goals (first | exact qa | exact qb | (exact hid trivial)))))
      refine wpT_nil ?_
      have fs := (Fr.refl (fun k => k = f.b) wg).setCell ⟨f.b, 1, none⟩ (.slice ab (f.hs.length + 1) ac) (fun _ => rfl)
      have HBF := hid (show Blk (wg.setCell ⟨f.b, 1, none⟩ (.slice ab (f.hs.length + 1) ac)) f.b [.int .i64 f.first, .slice ab (f.hs.length + 1) ac, f.vs] 129 from BG.out.set 1 (.slice ab (f.hs.length + 1) ac))
      have HFIN := hid (show SlO (fun k => S k ∨ t.c.has k ∨ (w.heap.size ≤ k ∧ k < (wg.setCell ⟨f.b, 1, none⟩ (.slice ab (f.hs.length + 1) ac)).heap.size)) C (wg.setCell ⟨f.b, 1, none⟩ (.slice ab (f.hs.length + 1) ac)) s { v with fs := v.fs.set i { f with vh := .slice ab (f.hs.length + 1) ac, hs := f.hs ++ [t] } } ∧ Fr S w (wg.setCell ⟨f.b, 1, none⟩ (.slice ab (f.hs.length + 1) ac)) from by
        have z1 := HDE.out
        have z2 := F1.out.size
        have z3 := F4.out.size
        have z4 := HAPP.out.fr.size
        have z5 := fs.size
        have own : Own (fun k => (Value.slice ah f.hs.length ch).ownBlock = some k) W4 v.mb := fun k hk => by
          obtain ⟨l, hl⟩ := row_blk HROW.out hk
          exact .inr ⟨l, _, hl, .inr (.inr (.inr (.inl rfl)))⟩
        have ownG : Own (fun k => k = f.b) wg v.mb := fun k hk => by
          subst hk
          exact .inr ⟨_, _, BG.out, .inr (.inr (.inl rfl))⟩
        have m1 := H4.out.m.fr HAPP.out.fr (fun hk => Row_ne_map HROW.out H4.out.m _ hk rfl)
        have app := HAPP.out
        rw [← HCE.out] at app
        have hST : ∀ k, S k → (fun k => S k ∨ t.c.has k ∨ (w.heap.size ≤ k ∧ k < (wg.setCell ⟨f.b, 1, none⟩ (.slice ab (f.hs.length + 1) ac)).heap.size)) k := fun k hk => .inl hk
        have h0 : TrnsO S W4 (.slice ah f.hs.length ch) f.hs := by rw [← HE1.out]; exact HF4.out.h
        have hG := h0.grow H4.out.m HT4.out app BG.out fs hST (fun k hk => .inr (.inl hk)) (fun k hk => (app.at_ k hk).elim .inl (fun e => .inr (.inr (.inr ⟨by omega, by
          have := app.row.lt hk
          omega⟩))))
        have hO1 := HF4.out.s.off H4.out.m own HAPP.out.fr (fun k hk e => by
          rw [← HE1.out] at e
          exact HF4.out.ne k e hk)
        have hO : TrnsO (fun k => S k ∨ t.c.has k ∨ (w.heap.size ≤ k ∧ k < (wg.setCell ⟨f.b, 1, none⟩ (.slice ab (f.hs.length + 1) ac)).heap.size)) (wg.setCell ⟨f.b, 1, none⟩ (.slice ab (f.hs.length + 1) ac)) f.vs f.ss := (hO1.off m1 ownG fs (fun k hk e => hO1.r.ne BG.out (by decide) k hk e)).mono hST
        have f14 : Fr (fun k => k = f.b ∨ (Value.slice ah f.hs.length ch).ownBlock = some k) W1 (wg.setCell ⟨f.b, 1, none⟩ (.slice ab (f.hs.length + 1) ac)) := ((F4.out.mono (fun _ h _ => h.elim)).trans HAPP.out.fr (fun k hk _ => .inr hk)).trans fs (fun k hk _ => .inl hk)
        have hb0 : f.b < W1.heap.size := HF.out.b.lt
        refine ⟨SlO.putF (W := W1) H1.out hi { f with vh := .slice ab (f.hs.length + 1) ac, hs := f.hs ++ [t] } f14 (fun k hk => ?_) ⟨HBF.out, .inl HF4.out.bS, hG, hO, by show (f.hs ++ [t]).length ≤ 16; rw [List.length_append, List.length_singleton]; omega, fun h => absurd (HF4.out.full h) (by omega), fun k hk e => (HAPP.out.at_ k hk).elim (fun g => HF4.out.ne k (by rw [HE1.out]; exact g) e) (fun g => by have := HF4.out.s.r.lt e; omega), by show f.hs ++ [t] ≠ []; simp, fun y hy => HF4.out.first y (by
            have hy : y ∈ (f.hs ++ [t]).head? := hy
            have hp := HF4.out.pos
            cases hh : f.hs with
            | nil => exact absurd hh hp
            | cons a l => rw [hh] at hy; exact hy)⟩ (by rw [← HFE.out]) (by rw [← HFE.out]) (fun k hk => ?_) hST ?_ ?_, ?_⟩
        · rw [← HFE.out]
          rcases hk with hk | hk
          · exact .inl hk
          · exact .inr (.inl (by rw [HE1.out]; exact hk))
        · rw [← HFE.out]
          rcases hk with hk | hk
          · rcases HAPP.out.at_ k hk with e | e
            · exact .inl (.inl (by rw [HE1.out]; exact e))
            · exact .inr (by omega)
          · exact .inl (.inr hk)
        · intro k hk
          rcases hk with hk | hk | hk
          · have := H1.out.lt k (.inl hk); omega
          · have := HTL.out k hk; omega
          · exact hk.2
        · intro k hk ht
          rcases ht with ht | ht | ht
          · exact H0.out.CS k hk ht
          · exact HTC.out k ht hk
          · have := H0.out.lt k (.inr hk); omega
        · refine (F1.out.mono (fun _ h _ => h.elim)).trans f14 (fun k hk _ => ?_)
          rcases hk with hk | hk
          · rw [hk]; exact HF.out.bS
          · rw [← HE1.out] at hk
            exact HF.out.h.rS k hk)
      go_wp2_with (fail)
      refine bodyPost_ret (results_none rfl _ _ _) rfl ?_
      exact ⟨rfl, _, HFIN.out.1, by
        unfold SltV.t addM
        dsimp only
        rw [addF_old H0.out.fx hi HXI.out (f := { f with vh := .slice ab (f.hs.length + 1) ac, hs := f.hs ++ [t] }) (t := t.t) (by
                show (⟨f.xid, ((f.hs ++ [t]) ++ f.ss).map TrnV.t⟩ : Fol) = ⟨x, v.fs[i].t.turns ++ [t.t]⟩
                rw [← HFE.out, HTF.out]
                have hs0 : f.ss = [] := by
                  by_cases h : f.ss = []
                  · exact h
                  · exact absurd (HF.out.full h) (by omega)
                show (⟨x, _⟩ : Fol) = ⟨x, (f.hs ++ f.ss).map TrnV.t ++ [t.t]⟩
                rw [hs0]
                simp)], Nat.le_succ _, HFIN.out.2⟩
    · have i1 : ¬ (f.hs.length : Int) < 16 := by omega
      go_upto_region 7 with fail
      clear k1
      have fd := (Fr.refl (fun _ => False) W1).drew
      have H4 := hid (H1.out.fre fd)
      have HF4 := hid (HF.out.fr fd (fun _ _ h => h))
      have D4 := hid (Blk.fr D1.out fd (fun h => h))
      have HT4 := hid (HT1.out.fre fd)
      have F4 := hid fd
      have HKC := hid (show W1.drew.cell? ⟨f.b, 2, none⟩ = some (.slice as_ f.ss.length cs) from by rw [← HE2.out]; exact HF4.out.b.cell 2)
      clear fd
      refine wp_region_scr (.take 0 (.take 1 (.take 2 (.take 3 (.take 4 (.take 5 (.op 6 (.op 7 (.take 8 (.take 9 (.op 10 .done))))))))))) (fun kz w => (kz ≤ 10 → w.cell? ⟨f.b, 2, none⟩ = some (.slice as_ f.ss.length cs) ∧ w.rangeAt d 0 [.int .i64 t.lsn, .int .i64 t.c.c.kind, .string (bs t.c.c.table), .slice a1 t.c.c.names.length c1, .slice a2 t.c.c.old.length c2, .slice a3 t.c.c.new.length c3]) ∧ Hid True) (by kernel_rfl) (by kernel_rfl) (by intro c a d v w h; cases d <;> exact h) ?_
      repeat
        first
        | (refine wpT_pure rfl rfl rfl ?_; apply Exists.intro; refine ⟨?_, ?_⟩; intro w; (first | (first | exact run_load_mid _ _ rfl d _ rfl _ _ qa.2 Tryz.underlying121 rfl size_trn | (obtain ⟨qa1, qa2⟩ := qa; go_simp <;> rfl)) | (go_simp <;> rfl)); simp only [Act.put, List.setIfInBounds_toArray, List.set_cons_zero, List.set_cons_succ])
        | (refine wpT_take 10 rfl rfl (by decide +kernel) ⟨fun _ => ⟨HKC.out, D4.out.all⟩, hid trivial⟩ ?_; apply Exists.intro; refine ⟨?_, ?_⟩; intro w hw; (have qa := hw.1 (Nat.le_refl _); have qb := hw.2); (first | (first | exact run_load_mid _ _ rfl d _ rfl _ _ qa.2 Tryz.underlying121 rfl size_trn | (obtain ⟨qa1, qa2⟩ := qa; go_simp <;> rfl)) | (go_simp <;> rfl)); simp only [Act.put, List.setIfInBounds_toArray, List.set_cons_zero, List.set_cons_succ])
        | (refine wpT_skip rfl rfl ?_; simp only [Act.put, List.setIfInBounds_toArray, List.set_cons_zero, List.set_cons_succ])
      generalize W1.drew = W4 at *
      have FA := hid (fun o => (Fr.refl (fun _ => False) W4).alloc o)
      refine wpT_op rfl ?_
      go_wp2_with (fail)
      (refine ⟨?_, ?_⟩; focus (intro kz hk hk2 hh; first | (exfalso; simp at hk2; omega) | exact hh | exact (fun h => absurd h (by omega)) | obtain ⟨qa, qb⟩ := hh; first | exact ⟨qa, qb⟩ | (refine ⟨fun h => absurd h (by omega), ?_⟩; first | exact qb | (exact ⟨cell_fr HKC.out (FA.out _) (fun h => h), (Blk.fr D4.out (FA.out _) (fun h => h)).all⟩)) | (refine ⟨fun h => ?_, ?_⟩; (have qa := qa h); all_goals (first | exact qa | exact qb | (exact ⟨cell_fr HKC.out (FA.out _) (fun h => h), (Blk.fr D4.out (FA.out _) (fun h => h)).all⟩)))))
      have HROW := hid (show Row 121 6 0 W4 (.slice as_ f.ss.length cs) f.ss.length (f.ss.flatMap TrnV.cells) from by rw [← HE2.out]; exact HF4.out.s.r)
      have HOFF := hid (HROW.out.ne HF4.out.b (by decide))
      have HVD := hid (show ∀ k, (Value.slice as_ f.ss.length cs).ownBlock = some k → ¬ k = d from fun k hk e => by
        have h0 := H0.out.f _ (List.getElem_mem hi)
        rw [← HFE.out] at h0
        have := h0.s.r.lt (k := k) (by rw [HE2.out]; exact hk)
        have := HDE.out
        omega)
      have HSF2 := HSF.out
      refine wpT_op rfl ?_
      go_wp2_with ((at_builtin; refine wpList_app1 rfl (s := .tmp 45) (x := .tmp 47) (t := 117) rfl Tryz.underlying117 info_trn rfl rfl rfl HROW.out (Nat.zero_le _) rfl (by simp [Value.oneCell']) (by omega) (by omega) ?_; intro ab ac wg APP; have HAPP := hid APP; have BG := hid (Blk.fr HF4.out.b APP.fr (fun hk => HOFF.out _ hk rfl)); have KG := hid (cell_fr HKC.out APP.fr (fun hk => HOFF.out _ hk rfl)); have DG := hid (Blk.fr D4.out APP.fr (fun hk => HVD.out _ hk rfl)); clear APP))
      (refine ⟨?_, ?_⟩; focus (intro kz hk hk2 hh; first | (exfalso; simp at hk2; omega) | exact hh | exact (fun h => absurd h (by omega)) | obtain ⟨qa, qb⟩ := hh; first | exact ⟨qa, qb⟩ | (refine ⟨fun h => absurd h (by omega), ?_⟩; first | exact qb | (exact ⟨KG.out, DG.out.all⟩)) | (refine ⟨fun h => ?_, ?_⟩; (have qa := qa h); all_goals (first | exact qa | exact qb | (exact ⟨KG.out, DG.out.all⟩)))))
      repeat
        first
        | (refine wpT_pure rfl rfl rfl ?_; apply Exists.intro; refine ⟨?_, ?_⟩; intro w; ((go_simp <;> rfl)); simp only [Act.put, List.setIfInBounds_toArray, List.set_cons_zero, List.set_cons_succ])
        | (refine wpT_take 10 rfl rfl (by decide +kernel) ⟨fun _ => ⟨KG.out, DG.out.all⟩, hid trivial⟩ ?_; apply Exists.intro; refine ⟨?_, ?_⟩; intro w hw; (have qa := hw.1 (Nat.le_refl _); have qb := hw.2); ((go_simp <;> rfl)); simp only [Act.put, List.setIfInBounds_toArray, List.set_cons_zero, List.set_cons_succ])
        | (refine wpT_skip rfl rfl ?_; simp only [Act.put, List.setIfInBounds_toArray, List.set_cons_zero, List.set_cons_succ])
      have k5 := KG.out
      have z5 : wg.frozen? ⟨f.b, 2, none⟩ = false := BG.out.frozen 2
      refine wpT_op rfl ?_
      go_wp2_with (fail)
      (refine ⟨?_, ?_⟩; focus (intro kz hk hk2 hh; first | (exfalso; simp at hk2; omega) | exact hh | exact (fun h => absurd h (by omega)) | obtain ⟨qa, qb⟩ := hh; first | exact ⟨qa, qb⟩ | (refine ⟨fun h => absurd h (by omega), ?_⟩; first | exact qb | (exact hid trivial)) | (refine ⟨fun h => ?_, ?_⟩; (have qa := qa h); all_goals (first | exact qa | exact qb | (exact hid trivial)))))
      refine wpT_nil ?_
      have fs := (Fr.refl (fun k => k = f.b) wg).setCell ⟨f.b, 2, none⟩ (.slice ab (f.ss.length + 1) ac) (fun _ => rfl)
      have HBF := hid (show Blk (wg.setCell ⟨f.b, 2, none⟩ (.slice ab (f.ss.length + 1) ac)) f.b [.int .i64 f.first, f.vh, .slice ab (f.ss.length + 1) ac] 129 from BG.out.set 2 (.slice ab (f.ss.length + 1) ac))
      have HFIN := hid (show SlO (fun k => S k ∨ t.c.has k ∨ (w.heap.size ≤ k ∧ k < (wg.setCell ⟨f.b, 2, none⟩ (.slice ab (f.ss.length + 1) ac)).heap.size)) C (wg.setCell ⟨f.b, 2, none⟩ (.slice ab (f.ss.length + 1) ac)) s { v with fs := v.fs.set i { f with vs := .slice ab (f.ss.length + 1) ac, ss := f.ss ++ [t] } } ∧ Fr S w (wg.setCell ⟨f.b, 2, none⟩ (.slice ab (f.ss.length + 1) ac)) from by
        have z1 := HDE.out
        have z2 := F1.out.size
        have z3 := F4.out.size
        have z4 := HAPP.out.fr.size
        have z5 := fs.size
        have own : Own (fun k => (Value.slice as_ f.ss.length cs).ownBlock = some k) W4 v.mb := fun k hk => by
          obtain ⟨l, hl⟩ := row_blk HROW.out hk
          exact .inr ⟨l, _, hl, .inr (.inr (.inr (.inl rfl)))⟩
        have ownG : Own (fun k => k = f.b) wg v.mb := fun k hk => by
          subst hk
          exact .inr ⟨_, _, BG.out, .inr (.inr (.inl rfl))⟩
        have m1 := H4.out.m.fr HAPP.out.fr (fun hk => Row_ne_map HROW.out H4.out.m _ hk rfl)
        have app := HAPP.out
        rw [← HCE.out] at app
        have hST : ∀ k, S k → (fun k => S k ∨ t.c.has k ∨ (w.heap.size ≤ k ∧ k < (wg.setCell ⟨f.b, 2, none⟩ (.slice ab (f.ss.length + 1) ac)).heap.size)) k := fun k hk => .inl hk
        have h0 : TrnsO S W4 (.slice as_ f.ss.length cs) f.ss := by rw [← HE2.out]; exact HF4.out.s
        have hG := h0.grow H4.out.m HT4.out app BG.out fs hST (fun k hk => .inr (.inl hk)) (fun k hk => (app.at_ k hk).elim .inl (fun e => .inr (.inr (.inr ⟨by omega, by
          have := app.row.lt hk
          omega⟩))))
        have hO1 := HF4.out.h.off H4.out.m own HAPP.out.fr (fun k hk e => by
          rw [← HE2.out] at e
          exact HF4.out.ne k hk e)
        have hO : TrnsO (fun k => S k ∨ t.c.has k ∨ (w.heap.size ≤ k ∧ k < (wg.setCell ⟨f.b, 2, none⟩ (.slice ab (f.ss.length + 1) ac)).heap.size)) (wg.setCell ⟨f.b, 2, none⟩ (.slice ab (f.ss.length + 1) ac)) f.vh f.hs := (hO1.off m1 ownG fs (fun k hk e => hO1.r.ne BG.out (by decide) k hk e)).mono hST
        have f14 : Fr (fun k => k = f.b ∨ (Value.slice as_ f.ss.length cs).ownBlock = some k) W1 (wg.setCell ⟨f.b, 2, none⟩ (.slice ab (f.ss.length + 1) ac)) := ((F4.out.mono (fun _ h _ => h.elim)).trans HAPP.out.fr (fun k hk _ => .inr hk)).trans fs (fun k hk _ => .inl hk)
        have hb0 : f.b < W1.heap.size := HF.out.b.lt
        refine ⟨SlO.putF (W := W1) H1.out hi { f with vs := .slice ab (f.ss.length + 1) ac, ss := f.ss ++ [t] } f14 (fun k hk => ?_) ⟨HBF.out, .inl HF4.out.bS, hO, hG, HF4.out.le, fun _ => by show f.hs.length = 16; omega, fun k hk e => (HAPP.out.at_ k e).elim (fun g => HF4.out.ne k hk (by rw [HE2.out]; exact g)) (fun g => by have := HF4.out.h.r.lt hk; omega), HF4.out.pos, HF4.out.first⟩ (by rw [← HFE.out]) (by rw [← HFE.out]) (fun k hk => ?_) hST ?_ ?_, ?_⟩
        · rw [← HFE.out]
          rcases hk with hk | hk
          · exact .inl hk
          · exact .inr (.inr (by rw [HE2.out]; exact hk))
        · rw [← HFE.out]
          rcases hk with hk | hk
          · exact .inl (.inl hk)
          · rcases HAPP.out.at_ k hk with e | e
            · exact .inl (.inr (by rw [HE2.out]; exact e))
            · exact .inr (by omega)
        · intro k hk
          rcases hk with hk | hk | hk
          · have := H1.out.lt k (.inl hk); omega
          · have := HTL.out k hk; omega
          · exact hk.2
        · intro k hk ht
          rcases ht with ht | ht | ht
          · exact H0.out.CS k hk ht
          · exact HTC.out k ht hk
          · have := H0.out.lt k (.inr hk); omega
        · refine (F1.out.mono (fun _ h _ => h.elim)).trans f14 (fun k hk _ => ?_)
          rcases hk with hk | hk
          · rw [hk]; exact HF.out.bS
          · rw [← HE2.out] at hk
            exact HF.out.s.rS k hk)
      go_wp2_with (fail)
      go_end0
      exact ⟨rfl, _, HFIN.out.1, by
        unfold SltV.t addM
        dsimp only
        rw [addF_old H0.out.fx hi HXI.out (f := { f with vs := .slice ab (f.ss.length + 1) ac, ss := f.ss ++ [t] }) (t := t.t) (by
                show (⟨f.xid, (f.hs ++ (f.ss ++ [t])).map TrnV.t⟩ : Fol) = ⟨x, v.fs[i].t.turns ++ [t.t]⟩
                rw [← HFE.out, HTF.out]
                show (⟨x, _⟩ : Fol) = ⟨x, (f.hs ++ f.ss).map TrnV.t ++ [t.t]⟩
                simp)], Nat.le_succ _, HFIN.out.2⟩
end Go.Proofs.YtiimomgbklgicaaGreat
