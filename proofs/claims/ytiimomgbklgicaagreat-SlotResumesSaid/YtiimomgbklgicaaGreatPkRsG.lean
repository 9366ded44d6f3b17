import Derived.Test.YtiimomgbklgicaaGreatPkRsF
set_option linter.unusedVariables false
namespace Go.Proofs.YtiimomgbklgicaaGreat
open Go.RowKit Go.VB Go.VB.Oct Go.VB.Cat Go.VB.Rec
attribute [local go_sem] Oper.semAt_some
/-- a handler of the catalog c -/
def doer (f c : Nat) : Value := .func (.func f) #[.pointer (some ⟨c, 0, none⟩)] #[]
/-- the handlers of a catalog, by a statement's kind -/
noncomputable def doerF (c : Nat) : Lit → Option Value := updG (updG (updG (fun _ => none) (.int .i64 1) (some (doer 167 c))) (.int .i64 2) (some (doer 168 c))) (.int .i64 3) (some (doer 169 c))
theorem lit_ne {a b : Int} (h : a ≠ b) : Lit.int .i64 a ≠ Lit.int .i64 b := fun e => h (by cases e; rfl)
theorem doer_1 (c : Nat) : doerF c (.int .i64 1) = some (doer 167 c) := by unfold doerF; rw [updG_ne _ _ (lit_ne (by decide)), updG_ne _ _ (lit_ne (by decide)), updG_same]
theorem doer_2 (c : Nat) : doerF c (.int .i64 2) = some (doer 168 c) := by unfold doerF; rw [updG_ne _ _ (lit_ne (by decide)), updG_same]
theorem doer_3 (c : Nat) : doerF c (.int .i64 3) = some (doer 169 c) := by unfold doerF; rw [updG_same]
theorem doer_no (c : Nat) {k : Int} (h1 : k ≠ 1) (h2 : k ≠ 2) (h3 : k ≠ 3) : doerF c (.int .i64 k) = none := by unfold doerF; rw [updG_ne _ _ (lit_ne h3), updG_ne _ _ (lit_ne h2), updG_ne _ _ (lit_ne h1)]
theorem key_int {n : Int} (h1 : -9223372036854775808 ≤ n) (h2 : n ≤ 9223372036854775807) : keyOf Tryz.prog 3 (.int .i64 n) = some (.int .i64 n) := Go.Maps.keyOf_int_mk Tryz.underlying3 (WalkArith.wf_i64 ⟨by omega, by omega⟩)
theorem doers_go (c : Nat) (w : World) : Calls Tryz.prog 146 #[.pointer (some ⟨c, 0, none⟩)] w fun e w' => e = .returned (.map (some w.heap.size)) ∧ MapG Tryz.prog 3 w' w.heap.size 3 (doerF c) ∧ Fr (fun _ => False) w w' := by
  have hmm := @run_makeMap Tryz.prog
  have hmf : ∀ (fn : Fn) (first cap : Array Value) (w : World), (Instr.makeFunc fn first cap).run Tryz.prog w = .ok (.func fn first cap) w := fun _ _ _ _ => rfl
  have M0 := hid (MapG.new Tryz.prog 3 w)
  have F0 := hid ((Fr.refl (fun k => k = w.heap.size) w).alloc (.map #[] 0))
  have HSZ := hid (show w.heap.size < (w.alloc (.map #[] 0)).heap.size from by simp)
  have HK := hid (fun n (h : 1 ≤ n ∧ n ≤ 3) => key_int (n := n) (by omega) (by omega))
  go_enter Tryz.func146, Tryz.ntmps146
  go_wp2_with (first
    | (refine wpList_insert_G rfl (m := .tmp 3) (x := .const (.int .i64 1)) (v := .tmp 5) rfl rfl M0.out (Go.Maps.int_keyed Tryz.underlying3) Tryz.underlying231 (by decide) rfl rfl (HK.out 1 (by decide)) trivial ?_; intro w1 m1 f1; have M1 := hid m1; have F1 := hid (F0.out.trans f1 (fun _ h _ => h)); clear m1 f1)
    | (refine wpList_insert_G rfl (m := .tmp 3) (x := .const (.int .i64 2)) (v := .tmp 7) rfl rfl M1.out (Go.Maps.int_keyed Tryz.underlying3) Tryz.underlying231 (by decide) rfl rfl (HK.out 2 (by decide)) trivial ?_; intro w2 m2 f2; have M2 := hid m2; have F2 := hid (F1.out.trans f2 (fun _ h _ => h)); clear m2 f2)
    | (refine wpList_insert_G rfl (m := .tmp 3) (x := .const (.int .i64 3)) (v := .tmp 9) rfl rfl M2.out (Go.Maps.int_keyed Tryz.underlying3) Tryz.underlying231 (by decide) rfl rfl (HK.out 3 (by decide)) trivial ?_; intro w3 m3 f3; have M3 := hid m3; have F3 := hid (F2.out.trans f3 (fun _ h _ => h)); clear m3 f3))
  go_ret
  exact ⟨rfl, M3.out, F3.out.mono (fun k hk hl => by omega)⟩
theorem zero_do (w : World) : (zeroValue 94).run Tryz.prog w = .ok .nilFunc w := by kernel_rfl
theorem StV.eta (t : StV) : t.cells = [.int .i64 t.s.kind, .string (bs t.s.table), .string (bs t.s.name), .slice t.oc t.s.cols.length t.cc, .slice t.on t.s.names.length t.cn, .slice t.a5 t.n5 t.c5, .slice t.a6 t.n6 t.c6, .slice t.a7 t.n7 t.c7, .string (bs t.s.join), .string t.y9, .string t.y10, .int .i64 t.i11, .slice t.a12 t.n12 t.c12, .int .i64 t.i13, .int .i64 t.i14] := rfl
theorem size_st : (Tryz.prog.info? 90).map (·.size) = some 15 := by kernel_rfl
/-- what a statement does, by its kind -/
theorem doers_do {S P : Nat → Prop} {w : World} {c : Nat} {m : List Tab} (h : CR 225 S w c m) (ok : Ok m) {t : StV} (hs : StR P w t) (root : Int) :
    (t.s.kind = 1 → Calls Tryz.prog 167 #[.pointer (some ⟨c, 0, none⟩), .agg t.cells.toArray, .int .i64 root] w fun e w' => e = .returned (.int .i64 (doM m t.s root).2) ∧ CR 225 (Ext S w w') w' c (doM m t.s root).1 ∧ Fr S w w')
    ∧ (t.s.kind = 2 → Calls Tryz.prog 168 #[.pointer (some ⟨c, 0, none⟩), .agg t.cells.toArray, .int .i64 root] w fun e w' => e = .returned (.int .i64 (doM m t.s root).2) ∧ CR 225 (Ext S w w') w' c (doM m t.s root).1 ∧ Fr S w w')
    ∧ (t.s.kind = 3 → Calls Tryz.prog 169 #[.pointer (some ⟨c, 0, none⟩), .agg t.cells.toArray, .int .i64 root] w fun e w' => e = .returned (.int .i64 (doM m t.s root).2) ∧ CR 225 (Ext S w w') w' c (doM m t.s root).1 ∧ Fr S w w') := by
  obtain ⟨v, ts, h, rfl⟩ := h
  have hl : ts.length ≤ 8 := by simpa using ok.len
  have hc : ∀ t ∈ ts, t.t.cols.length ≤ 6 := fun t ht => (ok.tab t.t (List.mem_map_of_mem ht)).le
  have hi : ∀ t ∈ ts, t.ix.length ≤ 4 := fun t ht => by
    have := (ok.tab t.t (List.mem_map_of_mem ht)).ixs
    rw [(h.t t ht).e, List.length_map] at this
    exact this
  refine ⟨fun hk => ?_, fun hk => ?_, fun hk => ?_⟩
  · unfold doM; rw [if_pos hk]; exact create_go h hl hs root
  · unfold doM; rw [if_neg (by omega), if_pos hk]; exact index_go h hl hc hi hs root
  · unfold doM; rw [if_neg (by omega), if_neg (by omega), if_pos hk]; exact rename_go h hl hc t root
theorem Ext.trans {S : Nat → Prop} {w w1 w2 : World} (h : w.heap.size ≤ w1.heap.size) (h' : w1.heap.size ≤ w2.heap.size) (k : Nat) : Ext S w1 w2 k → Ext S w w2 k := by
  rintro (g | g)
  · exact .inl g
  · exact .inr ⟨by omega, g.2⟩
theorem CR.mono {tc : TypeId} {S T : Nat → Prop} {W : World} {c : Nat} {m : List Tab} (h : CR tc S W c m) (hT : ∀ k, S k → T k) (hl : ∀ k, T k → k < W.heap.size) : CR tc T W c m := by
  obtain ⟨v, ts, h, e⟩ := h
  exact ⟨v, ts, h.mono hT hl, e⟩
theorem CR.lt {tc : TypeId} {S : Nat → Prop} {W : World} {c : Nat} {m : List Tab} (h : CR tc S W c m) {k : Nat} (hk : S k) : k < W.heap.size := by
  obtain ⟨v, ts, h, e⟩ := h
  exact h.lt k hk
theorem CR.blk {tc : TypeId} {S : Nat → Prop} {W : World} {c : Nat} {m : List Tab} (h : CR tc S W c m) : S c := by
  obtain ⟨v, ts, h, e⟩ := h
  exact h.bS
/-- the end of a call that reaches the catalog behind some steps that only make memory -/
theorem ext_fin {tc : TypeId} {S : Nat → Prop} {w w1 w2 : World} {c : Nat} {m : List Tab} (hS : ∀ k, S k → k < w.heap.size) (f : Fr (fun _ => False) w w1) (h : CR tc (Ext S w1 w2) w2 c m) (g : Fr S w1 w2) : CR tc (Ext S w w2) w2 c m ∧ Fr S w w2 := by
  have z1 := f.size
  have z2 := g.size
  refine ⟨h.mono (Ext.trans z1 z2) (fun k hk => ?_), (f.mono (fun _ h _ => h.elim)).trans g (fun k hk _ => hk)⟩
  rcases hk with hk | hk
  · have := hS k hk; omega
  · exact hk.2
set_option maxRecDepth 20000 in
theorem Do_go {S P : Nat → Prop} {w : World} {c : Nat} {m : List Tab} (h : CR 225 S w c m) (ok : Ok m) {t : StV} (hs : StR P w t) (hk : -9223372036854775808 ≤ t.s.kind ∧ t.s.kind ≤ 9223372036854775807) (root : Int) :
    Calls Tryz.prog 116 #[.pointer (some ⟨c, 0, none⟩), .agg t.cells.toArray, .int .i64 root] w fun e w' => e = .returned (.int .i64 (doM m t.s root).2) ∧ CR 225 (Ext S w w') w' c (doM m t.s root).1 ∧ Fr S w w' := by
  have HD := hid (fun (W : World) (f : Fr (fun _ => False) w W) => doers_do (h.fre f) ok (hs.fre f) root)
  have HS := hid (fun w1 w2 m (f : Fr (fun _ => False) w w1) (hc : CR 225 (Ext S w1 w2) w2 c m) (g : Fr S w1 w2) => ext_fin (fun k hk => h.lt hk) f hc g)
  have HC := hid h
  have HZ := hid zero_do
  have HKEY := hid (key_int hk.1 hk.2)
  have HNO := hid (show ¬ t.s.kind = 1 → ¬ t.s.kind = 2 → ¬ t.s.kind = 3 → doM m t.s root = (m, 1) from fun h1 h2 h3 => by unfold doM; rw [if_neg h1, if_neg h2, if_neg h3])
  have HN := hid (fun c => doer_no c (k := t.s.kind))
  obtain ⟨p, hp⟩ : ∃ p, doM m t.s root = p := ⟨_, rfl⟩
  rw [hp] at HD HNO ⊢
  have HP := hid hp
  clear hp h hs hk ok
  rw [StV.eta] at HD ⊢
  obtain ⟨⟨kind, table, name, cols, names, join⟩, oc, cc, on, cn, a5, n5, c5, a6, n6, c6, a7, n7, c7, y9, y10, i11, a12, n12, c12, i13, i14⟩ := t
  dsimp only at HD HKEY HNO HN ⊢
  generalize cols.length = lcs at *
  generalize names.length = lns at *
  have F1 := hid ((Fr.refl (fun _ => False) w).alloc (.cells #[.int .i64 kind, .string (bs table), .string (bs name), .slice oc lcs cc, .slice on lns cn, .slice a5 n5 c5, .slice a6 n6 c6, .slice a7 n7 c7, .string (bs join), .string y9, .string y10, .int .i64 i11, .slice a12 n12 c12, .int .i64 i13, .int .i64 i14] 90))
  have B1 := hid (Blk.new w [.int .i64 kind, .string (bs table), .string (bs name), .slice oc lcs cc, .slice on lns cn, .slice a5 n5 c5, .slice a6 n6 c6, .slice a7 n7 c7, .string (bs join), .string y9, .string y10, .int .i64 i11, .slice a12 n12 c12, .int .i64 i13, .int .i64 i14] 90)
  go_enter Tryz.func116, Tryz.ntmps116
  go_upto_region 3 with fail
  generalize w.heap.size = d at *
  generalize w.alloc _ = W1 at *
  have fd := (Fr.refl (fun _ => False) W1).drew
  replace F1 := hid (F1.out.trans fd (fun _ h _ => h))
  replace B1 := hid (Blk.fr B1.out fd (fun h => h))
  clear fd
  have HDO := hid (doers_go c W1.drew)
  refine wp_region_scr (.take 0 (.take 2 (.take 3 (.op 1 (.op 4 (.take 5 (.take 6 (.take 7 (.take 8 (.take 9 .done)))))))))) (fun kz w => (kz ≤ 10 → w.cell? ⟨d, 0, none⟩ = some (.int .i64 kind)) ∧ True) (by kernel_rfl) (by kernel_rfl) (by intro c a d v w h; cases d <;> exact h) ?_
  repeat
    first
    | (refine wpT_pure rfl rfl rfl ?_; apply Exists.intro; refine ⟨?_, ?_⟩; intro w; ((go_simp <;> rfl)); simp only [Act.put, List.setIfInBounds_toArray, List.set_cons_zero, List.set_cons_succ])
    | (refine wpT_take 10 rfl rfl (by decide +kernel) ⟨fun _ => B1.out.cell 0, trivial⟩ ?_; apply Exists.intro; refine ⟨?_, ?_⟩; intro w hw; (have qa := hw.1 (Nat.le_refl _); have qb := hw.2); ((go_simp <;> rfl)); simp only [Act.put, List.setIfInBounds_toArray, List.set_cons_zero, List.set_cons_succ])
    | (refine wpT_skip rfl rfl ?_; simp only [Act.put, List.setIfInBounds_toArray, List.set_cons_zero, List.set_cons_succ])
  generalize W1.drew = W2 at *
  refine wpT_op rfl ?_
  go_wp2_with ((go_at_call 146; refine HDO.out.mono ?_; rintro e w3 ⟨rfl, hm, f⟩; have F3 := hid (F1.out.trans f (fun _ h _ => h)); have B3 := hid (Blk.fr B1.out f (fun h => h)); have HM := hid hm; clear hm f))
  (refine ⟨?_, ?_⟩; focus (intro kz hk hk2 hh; first | (exfalso; simp at hk2; omega) | exact hh | exact (fun h => absurd h (by omega)) | obtain ⟨qa, qb⟩ := hh; first | exact ⟨qa, qb⟩ | (refine ⟨fun h => absurd h (by omega), ?_⟩; first | exact qb | (exact B3.out.cell 0)) | (refine ⟨fun h => ?_, ?_⟩; (have qa := qa h); all_goals (first | exact qa | exact qb | (exact B3.out.cell 0)))))
  generalize W2.heap.size = b at *
  have HX := hid (HD.out w3 F3.out)
  by_cases h1 : kind = 1
  · subst h1
    have HCALL := hid (HX.out.1 rfl)
    have R3 := hid B3.out.all
    clear HX HD HNO HN
    refine wpT_op rfl ?_
    go_wp2_with ((refine wpList_lookok_G rfl (m := .tmp 13) (x := .tmp 15) rfl rfl HM.out (Go.Maps.int_keyed Tryz.underlying3) Tryz.underlying231 (HZ.out w3) rfl HKEY.out trivial ?_; rw [doer_1]; simp only [Option.getD_some, Option.isSome_some, doer]))
    (refine ⟨?_, ?_⟩; focus (intro kz hk hk2 hh; first | (exfalso; simp at hk2; omega) | exact hh | exact (fun h => absurd h (by omega)) | obtain ⟨qa, qb⟩ := hh; first | exact ⟨qa, qb⟩ | (refine ⟨fun h => absurd h (by omega), ?_⟩; first | exact qb | (exact B3.out.cell 0)) | (refine ⟨fun h => ?_, ?_⟩; (have qa := qa h); all_goals (first | exact qa | exact qb | (exact B3.out.cell 0)))))
    repeat
      first
      | (refine wpT_pure rfl rfl rfl ?_; apply Exists.intro; refine ⟨?_, ?_⟩; intro w; ((go_simp <;> rfl)); simp only [Act.put, List.setIfInBounds_toArray, List.set_cons_zero, List.set_cons_succ])
      | (refine wpT_take 10 rfl rfl (by decide +kernel) ⟨fun _ => B3.out.cell 0, trivial⟩ ?_; apply Exists.intro; refine ⟨?_, ?_⟩; intro w hw; (have qa := hw.1 (Nat.le_refl _); have qb := hw.2); ((go_simp <;> rfl)); simp only [Act.put, List.setIfInBounds_toArray, List.set_cons_zero, List.set_cons_succ])
      | (refine wpT_skip rfl rfl ?_; simp only [Act.put, List.setIfInBounds_toArray, List.set_cons_zero, List.set_cons_succ])
    refine wpT_nil ?_
    go_wp2_with (first
      | (refine wpList_load_mid rfl 90 (.tmp 4) rfl d 0 rfl _ _ R3.out Tryz.underlying90 rfl size_st ?_)
      | (go_at_call 167; refine HCALL.out.mono ?_; rintro e w4 ⟨rfl, hc, f⟩; have HR := hid (HS.out _ _ _ F3.out hc f); clear hc f))
    go_ret
    exact ⟨rfl, HR.out.1, HR.out.2⟩
  · by_cases h2 : kind = 2
    · subst h2
      have HCALL := hid (HX.out.2.1 rfl)
      have R3 := hid B3.out.all
      clear HX HD HNO HN
      refine wpT_op rfl ?_
      go_wp2_with ((refine wpList_lookok_G rfl (m := .tmp 13) (x := .tmp 15) rfl rfl HM.out (Go.Maps.int_keyed Tryz.underlying3) Tryz.underlying231 (HZ.out w3) rfl HKEY.out trivial ?_; rw [doer_2]; simp only [Option.getD_some, Option.isSome_some, doer]))
      (refine ⟨?_, ?_⟩; focus (intro kz hk hk2 hh; first | (exfalso; simp at hk2; omega) | exact hh | exact (fun h => absurd h (by omega)) | obtain ⟨qa, qb⟩ := hh; first | exact ⟨qa, qb⟩ | (refine ⟨fun h => absurd h (by omega), ?_⟩; first | exact qb | (exact B3.out.cell 0)) | (refine ⟨fun h => ?_, ?_⟩; (have qa := qa h); all_goals (first | exact qa | exact qb | (exact B3.out.cell 0)))))
      repeat
        first
        | (refine wpT_pure rfl rfl rfl ?_; apply Exists.intro; refine ⟨?_, ?_⟩; intro w; ((go_simp <;> rfl)); simp only [Act.put, List.setIfInBounds_toArray, List.set_cons_zero, List.set_cons_succ])
        | (refine wpT_take 10 rfl rfl (by decide +kernel) ⟨fun _ => B3.out.cell 0, trivial⟩ ?_; apply Exists.intro; refine ⟨?_, ?_⟩; intro w hw; (have qa := hw.1 (Nat.le_refl _); have qb := hw.2); ((go_simp <;> rfl)); simp only [Act.put, List.setIfInBounds_toArray, List.set_cons_zero, List.set_cons_succ])
        | (refine wpT_skip rfl rfl ?_; simp only [Act.put, List.setIfInBounds_toArray, List.set_cons_zero, List.set_cons_succ])
      refine wpT_nil ?_
      go_wp2_with (first
        | (refine wpList_load_mid rfl 90 (.tmp 4) rfl d 0 rfl _ _ R3.out Tryz.underlying90 rfl size_st ?_)
        | (go_at_call 168; refine HCALL.out.mono ?_; rintro e w4 ⟨rfl, hc, f⟩; have HR := hid (HS.out _ _ _ F3.out hc f); clear hc f))
      go_ret
      exact ⟨rfl, HR.out.1, HR.out.2⟩
    · by_cases h3 : kind = 3
      · subst h3
        have HCALL := hid (HX.out.2.2 rfl)
        have R3 := hid B3.out.all
        clear HX HD HNO HN
        refine wpT_op rfl ?_
        go_wp2_with ((refine wpList_lookok_G rfl (m := .tmp 13) (x := .tmp 15) rfl rfl HM.out (Go.Maps.int_keyed Tryz.underlying3) Tryz.underlying231 (HZ.out w3) rfl HKEY.out trivial ?_; rw [doer_3]; simp only [Option.getD_some, Option.isSome_some, doer]))
        (refine ⟨?_, ?_⟩; focus (intro kz hk hk2 hh; first | (exfalso; simp at hk2; omega) | exact hh | exact (fun h => absurd h (by omega)) | obtain ⟨qa, qb⟩ := hh; first | exact ⟨qa, qb⟩ | (refine ⟨fun h => absurd h (by omega), ?_⟩; first | exact qb | (exact B3.out.cell 0)) | (refine ⟨fun h => ?_, ?_⟩; (have qa := qa h); all_goals (first | exact qa | exact qb | (exact B3.out.cell 0)))))
        repeat
          first
          | (refine wpT_pure rfl rfl rfl ?_; apply Exists.intro; refine ⟨?_, ?_⟩; intro w; ((go_simp <;> rfl)); simp only [Act.put, List.setIfInBounds_toArray, List.set_cons_zero, List.set_cons_succ])
          | (refine wpT_take 10 rfl rfl (by decide +kernel) ⟨fun _ => B3.out.cell 0, trivial⟩ ?_; apply Exists.intro; refine ⟨?_, ?_⟩; intro w hw; (have qa := hw.1 (Nat.le_refl _); have qb := hw.2); ((go_simp <;> rfl)); simp only [Act.put, List.setIfInBounds_toArray, List.set_cons_zero, List.set_cons_succ])
          | (refine wpT_skip rfl rfl ?_; simp only [Act.put, List.setIfInBounds_toArray, List.set_cons_zero, List.set_cons_succ])
        refine wpT_nil ?_
        go_wp2_with (first
          | (refine wpList_load_mid rfl 90 (.tmp 4) rfl d 0 rfl _ _ R3.out Tryz.underlying90 rfl size_st ?_)
          | (go_at_call 169; refine HCALL.out.mono ?_; rintro e w4 ⟨rfl, hc, f⟩; have HR := hid (HS.out _ _ _ F3.out hc f); clear hc f))
        go_ret
        exact ⟨rfl, HR.out.1, HR.out.2⟩
      · have HV := hid (HN.out c h1 h2 h3)
        have HP1 := hid (HNO.out h1 h2 h3)
        clear h1 h2 h3 HNO HN HD HX
        refine wpT_op rfl ?_
        go_wp2_with ((refine wpList_lookok_G rfl (m := .tmp 13) (x := .tmp 15) rfl rfl HM.out (Go.Maps.int_keyed Tryz.underlying3) Tryz.underlying231 (HZ.out w3) rfl HKEY.out trivial ?_; rw [HV.out]; simp only [Option.getD_none, Option.isSome_none]))
        (refine ⟨?_, ?_⟩; focus (intro kz hk hk2 hh; first | (exfalso; simp at hk2; omega) | exact hh | exact (fun h => absurd h (by omega)) | obtain ⟨qa, qb⟩ := hh; first | exact ⟨qa, qb⟩ | (refine ⟨fun h => absurd h (by omega), ?_⟩; first | exact qb | (exact B3.out.cell 0)) | (refine ⟨fun h => ?_, ?_⟩; (have qa := qa h); all_goals (first | exact qa | exact qb | (exact B3.out.cell 0)))))
        repeat
          first
          | (refine wpT_pure rfl rfl rfl ?_; apply Exists.intro; refine ⟨?_, ?_⟩; intro w; ((go_simp <;> rfl)); simp only [Act.put, List.setIfInBounds_toArray, List.set_cons_zero, List.set_cons_succ])
          | (refine wpT_take 10 rfl rfl (by decide +kernel) ⟨fun _ => B3.out.cell 0, trivial⟩ ?_; apply Exists.intro; refine ⟨?_, ?_⟩; intro w hw; (have qa := hw.1 (Nat.le_refl _); have qb := hw.2); ((go_simp <;> rfl)); simp only [Act.put, List.setIfInBounds_toArray, List.set_cons_zero, List.set_cons_succ])
          | (refine wpT_skip rfl rfl ?_; simp only [Act.put, List.setIfInBounds_toArray, List.set_cons_zero, List.set_cons_succ])
        refine wpT_nil ?_
        go_wp2_with (fail)
        go_ret
        rw [HP1.out]
        exact ⟨rfl, (HC.out.ext F3.out), F3.out.mono (fun _ h _ => h.elim)⟩
end Go.Proofs.YtiimomgbklgicaaGreat
namespace Go.Proofs.YtiimomgbklgicaaGreat
open Go.RowKit Go.VB Go.VB.Oct Go.VB.Cat Go.VB.Rec
theorem size_ix2 : (Tryz.prog.info? 177).map (·.size) = some 3 := by kernel_rfl
/-- a struct's result, in a block -/
theorem agg_ret {fn : Func} {p : Tmp} {ty : TypeId} {d : TypeDesc} {l : List Value} (hf : fn.results = #[.cell p ty]) {tmps : Array Value} {W : World} {b : Nat} (hp : tmps.getD p undef = .pointer (some ⟨b, 0, none⟩)) (hb : Blk W b l ty) (hu : Tryz.prog.underlying ty = some d) (hd : d.isRow = true) (hs : (Tryz.prog.info? ty).map (·.size) = some l.length) :
    (results fn tmps).run Tryz.prog W = .ok (.agg l.toArray) W := results_cell_mid (b := b) (o := 0) hf _ _ hp (cs := l) (Blk.all _ hb) hu hd hs
set_option maxRecDepth 20000 in
theorem copied1_go {R : Nat → Prop} {w : World} (x : IxV) (h : Sl R w x.v x.x.cols.length (x.x.cols.flatMap icell)) (hn : x.x.cols.length ≤ 1048576) :
    Calls Tryz.prog 166 #[x.agg] w fun e w' => ∃ v, e = .returned (IxV.agg ⟨x.x, v⟩) ∧ Row 3 1 w.heap.size w' v x.x.cols.length (x.x.cols.flatMap icell) ∧ Fr (fun _ => False) w w' := by
  obtain ⟨⟨name, cols, root⟩, v⟩ := x
  unfold IxV.agg IxV.cells
  dsimp only at h hn ⊢
  have F1 := hid (((Fr.refl (fun _ => False) w).alloc (.cells #[.string (bs name), v, .int .i64 root] 177)).alloc (.cells #[.string ⟨#[]⟩, .slice none 0 0, .int .i64 0] 177))
  have B0 := hid ((Blk.new w [.string (bs name), v, .int .i64 root] 177).alloc (.cells #[.string ⟨#[]⟩, .slice none 0 0, .int .i64 0] 177))
  have B1 := hid (Blk.new (w.alloc (.cells #[.string (bs name), v, .int .i64 root] 177)) [.string ⟨#[]⟩, .slice none 0 0, .int .i64 0] 177)
  simp only [World.size_alloc] at B1
  have HCL := hid (Clone_int (h.fr F1.out (fun _ _ h => h)) hn)
  have HW := hid (Nat.le_of_lt (show w.heap.size < ((w.alloc (.cells #[.string (bs name), v, .int .i64 root] 177)).alloc (.cells #[.string ⟨#[]⟩, .slice none 0 0, .int .i64 0] 177)).heap.size from by simp; omega))
  go_enter Tryz.func166, Tryz.ntmps166
  go_upto_region 1 with fail
  generalize (w.alloc (.cells #[.string (bs name), v, .int .i64 root] 177)).alloc _ = W1 at *
  generalize hd : w.heap.size = d at *
  have HD := hid hd
  have q1 : W1.cell? ⟨d, 1, none⟩ = some v := B0.out.cell 1
  clear hd
  go_upto_region 2 with (go_at_call 60; refine HCL.out.mono ?_; rintro e w2 ⟨v2, rfl, hr, f⟩; obtain ⟨a2, c2, rfl, _⟩ := hr.slice; have HR2 := hid (hr.low HW.out); have F2 := hid (F1.out.trans f (fun _ h _ => h)); have C0 := hid (Blk.fr B0.out f (fun h => h)); have C1 := hid (Blk.fr B1.out f (fun h => h)); have k1 : w2.cell? ⟨d, 1, none⟩ = some v := C0.out.cell 1; have z1 : w2.frozen? ⟨d, 1, none⟩ = false := C0.out.frozen 1; clear hr f)
  have HNE := hid (HR2.out.ne C0.out (by decide))
  have HNE1 := hid (HR2.out.ne C1.out (by decide))
  have F3 := hid (((F2.out).mono (T := fun k => k = d ∨ k = d + 1) (fun _ h _ => h.elim)).setCell ⟨d, 1, none⟩ (.slice a2 cols.length c2) (fun _ => .inl rfl))
  have D0 := hid (C0.out.set 1 (.slice a2 cols.length c2))
  have D1 := hid (C1.out.set_ne ⟨d, 1, none⟩ (.slice a2 cols.length c2) (by simp))
  have HR3 := hid (HR2.out.fr ((Fr.refl (fun k => k = d) w2).setCell ⟨d, 1, none⟩ (.slice a2 cols.length c2) (fun _ => rfl)) (fun k hk e => HNE.out k hk e))
  clear k1 z1 q1 HCL B0 B1 C0 C1 F1 F2 HR2
  generalize w2.setCell ⟨d, 1, none⟩ (.slice a2 cols.length c2) = W3 at *
  have q0 : W3.cell? ⟨d, 0, none⟩ = some (.string (bs name)) := D0.out.cell 0
  have q1 : W3.cell? ⟨d, 1, none⟩ = some (.slice a2 cols.length c2) := D0.out.cell 1
  have q2 : W3.cell? ⟨d, 2, none⟩ = some (.int .i64 root) := D0.out.cell 2
  have r0 : W3.cell? ⟨d + 1, 0, none⟩ = some (.string ⟨#[]⟩) := D1.out.cell 0
  have r1 : W3.cell? ⟨d + 1, 1, none⟩ = some (.slice none 0 0) := D1.out.cell 1
  have r2 : W3.cell? ⟨d + 1, 2, none⟩ = some (.int .i64 0) := D1.out.cell 2
  have z0 : W3.frozen? ⟨d + 1, 0, none⟩ = false := D1.out.frozen 0
  have z1 : W3.frozen? ⟨d + 1, 1, none⟩ = false := D1.out.frozen 1
  have z2 : W3.frozen? ⟨d + 1, 2, none⟩ = false := D1.out.frozen 2
  have B4 := hid (((D1.out.set 0 (.string (bs name))).set 1 (.slice a2 cols.length c2)).set 2 (.int .i64 root))
  have f4 := (((Fr.refl (fun k => k = d ∨ k = d + 1) W3).setCell ⟨d + 1, 0, none⟩ (.string (bs name)) (fun _ => .inr rfl)).setCell ⟨d + 1, 1, none⟩ (.slice a2 cols.length c2) (fun _ => .inr rfl)).setCell ⟨d + 1, 2, none⟩ (.int .i64 root) (fun _ => .inr rfl)
  have HE := hid (And.intro (HR3.out.fr f4 (fun k hk e => e.elim (HNE.out k hk) (HNE1.out k hk))) (F3.out.trans f4 (fun _ h _ => h)))
  clear D0 D1 F3 HR3 f4 HNE HNE1
  go_wp2_with (fail)
  rw [HD.out]
  exact bodyPost_ret (agg_ret rfl rfl B4.out Tryz.underlying177 rfl size_ix2) rfl ⟨_, rfl, HE.out.1, HE.out.2.mono (fun k hk hl => by have := HD.out; omega)⟩
theorem info_ix2 : (Tryz.prog.info? 177).map (fun i => (i.zero, i.size, i.bytes)) = some (some (.agg #[.string .empty, .slice none 0 0, .int .i64 0]), 3, 48) := by kernel_rfl
set_option maxRecDepth 20000 in
theorem each_ix_go {R : Nat → Prop} {w : World} {vi : Value} {xs : List IxV} (h : Sl R w vi xs.length (xs.flatMap IxV.cells)) (hx : ∀ x ∈ xs, Sl R w x.v x.x.cols.length (x.x.cols.flatMap icell)) (hxl : ∀ x ∈ xs, x.x.cols.length ≤ 1048576) (hn : xs.length ≤ 1048576) :
    Calls Tryz.prog 165 #[vi, .func (.func 166) #[] #[]] w fun e w' => ∃ (v : Value) (ys : List IxV), e = .returned v ∧ ys.map IxV.x = xs.map IxV.x ∧ Row 177 3 w.heap.size w' v ys.length (ys.flatMap IxV.cells) ∧
      (∀ y ∈ ys, Row 3 1 w.heap.size w' y.v y.x.cols.length (y.x.cols.flatMap icell)) ∧ Fr (fun _ => False) w w' := by
  obtain ⟨a, c, rfl, hc, hxx⟩ := h
  have HX := hid (show Sl R w (.slice a xs.length c) xs.length (xs.flatMap IxV.cells) from ⟨a, c, rfl, hc, hxx⟩)
  clear hxx
  have HXC := hid hx
  have HXL := hid hxl
  have F0 := hid (Fr.refl (fun _ => False) w)
  clear hx hxl
  go_enter Tryz.func165, Tryz.ntmps165
  go_wp2_with (fail)
  go_loopw [5, 10] (fun v i wr => ∃ (j : Nat) (ys : List IxV), j ≤ xs.length ∧ i = .int .i64 j ∧ ys.length = j ∧ ys.map IxV.x = (xs.take j).map IxV.x ∧ Row 177 3 w.heap.size wr v j (ys.flatMap IxV.cells) ∧
      (∀ y ∈ ys, Row 3 1 w.heap.size wr y.v y.x.cols.length (y.x.cols.flatMap icell)) ∧ Fr (fun _ => False) w wr) (fun _ i _ => xs.length - (intOf i).toNat)
  case atStart => exact ⟨0, [], by omega, rfl, rfl, rfl, Row.nil, fun y hy => by simp at hy, F0.out⟩
  case round =>
    obtain ⟨j, ys, hj, rfl, hyl, hys, hrow, hyr, fr⟩ := hrel
    have HROW := hid hrow
    have HYR := hid hyr
    have HYS := hid hys
    have HYL := hid hyl
    have FR := hid fr
    obtain ⟨vx, cc, rfl, _⟩ := hrow.slice
    clear hrow fr F0 hyr hys hyl
    by_cases hjl : j < xs.length
    · obtain ⟨g, o, rfl, hg, q⟩ := slK (k := 3) (f := IxV.cells) (by decide) ix_len (HX.out.fr FR.out (fun _ _ h => h)) hjl
      have q0 := q 0 (by decide)
      have q1 := q 1 (by decide)
      have q2 := q 2 (by decide)
      have i1 : (0 : Int) ≤ (j : Int) := by omega
      have i2 : (j : Int) < xs.length := by omega
      have HXJ := hid (HXC.out _ (List.getElem_mem hjl))
      have HXLJ := hid (HXL.out _ (List.getElem_mem hjl))
      have HT := hid (show (xs.take (j + 1)).map IxV.x = (xs.take j).map IxV.x ++ [xs[j].x] from by
        rw [List.take_succ_eq_append_getElem hjl, List.map_append]
        rfl)
      obtain ⟨x, hxe⟩ : ∃ x, x = xs[j] := ⟨_, rfl⟩
      rw [← hxe] at q0 q1 q2 HT HXJ HXLJ
      clear hxe q
      obtain ⟨⟨name, cols, root⟩, vv⟩ := x
      simp only [IxV.cells, Nat.add_zero, List.getElem?_cons_zero, List.getElem?_cons_succ] at q0 q1 q2
      dsimp only at HT HXJ HXLJ
      obtain ⟨av, cv, hvv, _, _⟩ := HXJ.out
      subst hvv
      go_upto_region 5 with fail
      have fa := (Fr.refl (fun _ => False) wr).alloc (.cells #[.string (bs name), .slice av cols.length cv, .int .i64 root] 177)
      have HB := hid (Blk.new wr [.string (bs name), .slice av cols.length cv, .int .i64 root] 177)
      replace HROW := hid (HROW.out.fre fa)
      replace HYR := hid (fun y hy => (HYR.out y hy).fre fa)
      replace FR := hid (FR.out.trans fa (fun _ h _ => h))
      have HSZ := FR.out.size
      clear fa q0 q1 q2
      generalize wr.heap.size = d at *
      generalize wr.alloc _ = W1 at *
      have c0 : W1.cell? ⟨d, 0, none⟩ = some (.string (bs name)) := HB.out.cell 0
      have c1 : W1.cell? ⟨d, 1, none⟩ = some (.slice av cols.length cv) := HB.out.cell 1
      have c2 : W1.cell? ⟨d, 2, none⟩ = some (.int .i64 root) := HB.out.cell 2
      have HCO := hid (copied1_go (w := W1) ⟨⟨name, cols, root⟩, .slice av cols.length cv⟩ (HXJ.out.fr FR.out (fun _ _ h => h)) HXLJ.out)
      unfold IxV.agg IxV.cells at HCO
      dsimp only at HCO
      go_wp2_with (first
        | (go_at_call 166; refine HCO.out.mono ?_; rintro e w2 ⟨v2, rfl, hr, f⟩; obtain ⟨a2, cc2, rfl, _⟩ := hr.slice; have HR2 := hid (hr.low HSZ); have F2 := hid (FR.out.trans f (fun _ h _ => h)); have HROW2 := hid (HROW.out.fre f); have HYR2 := hid (fun y hy => (HYR.out y hy).fre f); have HSZ2 := F2.out.size; clear hr f)
        | (at_builtin; refine wpList_app1 rfl (s := .tmp 14) (x := .tmp 18) (t := 173) rfl Tryz.underlying173 info_ix2 rfl rfl rfl HROW2.out HSZ2 rfl (by simp [Value.oneCell']) (by omega) (by omega) ?_; intro ab ac wg APP
           have HG := hid (And.intro APP.row (And.intro (F2.out.trans APP.fr (fun k hk hl => by have := HROW2.out.new k hk; omega)) (And.intro (HR2.out.fr APP.fr (rows_ne HR2.out HROW2.out (by decide))) (fun y hy => (HYR2.out y hy).fr APP.fr (rows_ne (HYR2.out y hy) HROW2.out (by decide)))))); clear APP))
      go_roundw
      case rel => exact ⟨j + 1, ys ++ [⟨⟨name, cols, root⟩, .slice a2 cols.length cc2⟩], by omega, by go_num, by rw [List.length_append, HYL.out]; rfl, by rw [List.map_append, HYS.out, HT.out]; rfl, HG.out.1.cast rfl (by rw [List.flatMap_append]; rfl), fun y hy => by
        rcases List.mem_append.1 hy with g | g
        · exact HG.out.2.2.2 y g
        · rw [List.mem_singleton.1 g]; exact HG.out.2.2.1, HG.out.2.1⟩
      case measure => simp [intOf]; omega
    · obtain rfl : j = xs.length := by omega
      rw [List.take_length] at HYS
      go_wp2_with (fail)
      go_ret
      exact ⟨_, ys, rfl, HYS.out, HROW.out.cast HYL.out.symm rfl, HYR.out, FR.out⟩
/-- bounds of a table's lists -/
structure TabB (t : TabV) : Prop where
  c : t.t.cols.length ≤ 1048576
  i : t.ix.length ≤ 1048576
  x : ∀ x ∈ t.ix, x.x.cols.length ≤ 1048576
theorem size_tab2 : (Tryz.prog.info? 175).map (·.size) = some 4 := by kernel_rfl
set_option maxRecDepth 20000 in
theorem copied_go {S : Nat → Prop} {w : World} (t : TabV) (h : TabO S w t) (hb : TabB t) :
    Calls Tryz.prog 144 #[t.agg] w fun e w' => ∃ t' : TabV, e = .returned t'.agg ∧ t'.t = t.t ∧ TabO (fun k => w.heap.size ≤ k) w' t' ∧ Fr (fun _ => False) w w' := by
  obtain ⟨⟨id, name, cols, ixs⟩, vc, vi, ix⟩ := t
  have HCS := hid (h.c.sl' (R := fun _ => True) (fun _ _ => trivial))
  have HIS := hid (h.i.sl' (R := fun _ => True) (fun _ _ => trivial))
  have HXS := hid (fun x hx => (h.x x hx).1.sl' (R := fun _ => True) (fun _ _ => trivial))
  have HE := hid h.e
  obtain ⟨bc, bi, bx⟩ := hb
  have HBX := hid bx
  obtain ⟨ac, cc, hvc, _⟩ := h.c.slice
  obtain ⟨ai, ci, hvi, _⟩ := h.i.slice
  clear h bx
  dsimp only at HCS HIS HXS HE bc bi HBX hvc hvi
  subst hvc hvi
  unfold TabV.agg TabV.cells
  dsimp only
  have F1 := hid (((Fr.refl (fun _ => False) w).alloc (.cells #[.int .i64 id, .string (bs name), .slice ac cols.length cc, .slice ai ix.length ci] 175)).alloc (.cells #[.int .i64 0, .string ⟨#[]⟩, .slice none 0 0, .slice none 0 0] 175))
  have B0 := hid ((Blk.new w [.int .i64 id, .string (bs name), .slice ac cols.length cc, .slice ai ix.length ci] 175).alloc (.cells #[.int .i64 0, .string ⟨#[]⟩, .slice none 0 0, .slice none 0 0] 175))
  have B1 := hid (Blk.new (w.alloc (.cells #[.int .i64 id, .string (bs name), .slice ac cols.length cc, .slice ai ix.length ci] 175)) [.int .i64 0, .string ⟨#[]⟩, .slice none 0 0, .slice none 0 0] 175)
  simp only [World.size_alloc] at B1
  have HW := hid (show w.heap.size + 1 < ((w.alloc (.cells #[.int .i64 id, .string (bs name), .slice ac cols.length cc, .slice ai ix.length ci] 175)).alloc (.cells #[.int .i64 0, .string ⟨#[]⟩, .slice none 0 0, .slice none 0 0] 175)).heap.size from by simp)
  go_enter Tryz.func144, Tryz.ntmps144
  go_upto_region 1 with fail
  generalize (w.alloc (.cells #[.int .i64 id, .string (bs name), .slice ac cols.length cc, .slice ai ix.length ci] 175)).alloc _ = W1 at *
  generalize hd : w.heap.size = d at *
  have HD := hid hd
  clear hd
  have HCL := hid (Clone_col (HCS.out.fr F1.out (fun _ _ h => h)) bc)
  have q1 : W1.cell? ⟨d, 2, none⟩ = some (.slice ac cols.length cc) := B0.out.cell 2
  go_upto_region 2 with (go_at_call 164; refine HCL.out.mono ?_; rintro e w2 ⟨v2, rfl, hr, f⟩; obtain ⟨a2, c2, rfl, _⟩ := hr.slice; have HR2 := hid (hr.low (A := d) (Nat.le_trans (by have := HW.out; omega) (Nat.le_refl _))); have F2 := hid (F1.out.trans f (fun _ h _ => h)); have C0 := hid (Blk.fr B0.out f (fun h => h)); have C1 := hid (Blk.fr B1.out f (fun h => h)); have k1 : w2.cell? ⟨d, 2, none⟩ = some (.slice ac cols.length cc) := C0.out.cell 2; have z1 : w2.frozen? ⟨d, 2, none⟩ = false := C0.out.frozen 2; have HW2 := hid (Nat.lt_of_lt_of_le HW.out f.size); clear hr f)
  have HNE := hid (HR2.out.ne C0.out (by decide))
  have HNE1 := hid (HR2.out.ne C1.out (by decide))
  have F3 := hid (((F2.out).mono (T := fun k => k = d ∨ k = d + 1) (fun _ h _ => h.elim)).setCell ⟨d, 2, none⟩ (.slice a2 cols.length c2) (fun _ => .inl rfl))
  have D0 := hid (C0.out.set 2 (.slice a2 cols.length c2))
  have D1 := hid (C1.out.set_ne ⟨d, 2, none⟩ (.slice a2 cols.length c2) (by simp))
  have HR3 := hid (HR2.out.fr ((Fr.refl (fun k => k = d) w2).setCell ⟨d, 2, none⟩ (.slice a2 cols.length c2) (fun _ => rfl)) (fun k hk e => HNE.out k hk e))
  have HW3 := hid (Nat.lt_of_lt_of_le HW2.out ((Fr.refl (fun k => k = d) w2).setCell ⟨d, 2, none⟩ (.slice a2 cols.length c2) (fun _ => rfl)).size)
  clear k1 z1 q1 HCL B0 B1 C0 C1 F1 F2 HR2 HW HW2
  generalize w2.setCell ⟨d, 2, none⟩ (.slice a2 cols.length c2) = W3 at *
  have FZ := hid (fun k hk (e : k = d ∨ k = d + 1) (hl : k < w.heap.size) => (by have := HD.out; omega : False))
  have HEI := hid (each_ix_go (R := fun k => k < w.heap.size) (w := W3) (vi := .slice ai ix.length ci) (xs := ix) (by
    obtain ⟨a, c, e, h1, h2⟩ := HIS.out
    refine ⟨a, c, e, h1, fun hne => ?_⟩
    obtain ⟨g, o, rfl, -, hr⟩ := h2 hne
    have hl := lt_of_range hne hr
    exact ⟨g, o, rfl, hl, range_fr hr F3.out (by have := HD.out; omega)⟩) (fun x hx => by
    obtain ⟨a, c, e, h1, h2⟩ := HXS.out x hx
    refine ⟨a, c, e, h1, fun hne => ?_⟩
    obtain ⟨g, o, rfl, -, hr⟩ := h2 hne
    have hl := lt_of_range hne hr
    exact ⟨g, o, rfl, hl, range_fr hr F3.out (by have := HD.out; omega)⟩) HBX.out bi)
  have q1 : W3.cell? ⟨d, 3, none⟩ = some (.slice ai ix.length ci) := D0.out.cell 3
  go_upto_region 3 with (go_at_call 165; refine HEI.out.mono ?_; rintro e w4 ⟨v4, ys, rfl, hys, hr, hyr, f⟩; obtain ⟨a4, c4, rfl, _⟩ := hr.slice; have HR4 := hid (hr.low (A := d) (by have := HW3.out; omega)); have HYS := hid hys; have HYR := hid (fun y hy => (hyr y hy).low (A := d) (by have := HW3.out; omega)); have HR5 := hid (HR3.out.fre f); have F4 := hid (F3.out.trans f (fun _ h _ => h.elim)); have C0 := hid (Blk.fr D0.out f (fun h => h)); have C1 := hid (Blk.fr D1.out f (fun h => h)); have k1 : w4.cell? ⟨d, 3, none⟩ = some (.slice ai ix.length ci) := C0.out.cell 3; have z1 : w4.frozen? ⟨d, 3, none⟩ = false := C0.out.frozen 3; clear hr f hyr hys)
  have fs := ((((Fr.refl (fun k => k = d ∨ k = d + 1) w4).setCell ⟨d, 3, none⟩ (.slice a4 ys.length c4) (fun _ => .inl rfl))))
  have E0 := hid (C0.out.set 3 (.slice a4 ys.length c4))
  have E1 := hid (C1.out.set_ne ⟨d, 3, none⟩ (.slice a4 ys.length c4) (by simp))
  have HY : ∀ y ∈ ys, ∀ k, y.v.ownBlock = some k → ¬ (k = d ∨ k = d + 1) := fun y hy k hk e => e.elim ((HYR.out y hy).ne C0.out (by decide) k hk) ((HYR.out y hy).ne C1.out (by decide) k hk)
  have HN4 : ∀ k, (Value.slice a4 ys.length c4).ownBlock = some k → ¬ (k = d ∨ k = d + 1) := fun k hk e => e.elim (HR4.out.ne C0.out (by decide) k hk) (HR4.out.ne C1.out (by decide) k hk)
  have HN5 : ∀ k, (Value.slice a2 cols.length c2).ownBlock = some k → ¬ (k = d ∨ k = d + 1) := fun k hk e => e.elim (HR5.out.ne C0.out (by decide) k hk) (HR5.out.ne C1.out (by decide) k hk)
  have HR6 := hid (And.intro (HR4.out.fr fs HN4) (And.intro (HR5.out.fr fs HN5) (And.intro (fun y hy => (HYR.out y hy).fr fs (HY y hy)) (F4.out.trans fs (fun _ h _ => h)))))
  have HYH := hid HY
  have HNH := hid (And.intro HN4 HN5)
  clear fs HY HN4 HN5 k1 z1 q1 C0 C1 F3 F4 HR4 HR5 HR3 HYR HEI D0 D1 HNE HNE1
  generalize w4.setCell ⟨d, 3, none⟩ (.slice a4 ys.length c4) = W5 at *
  have q0 : W5.cell? ⟨d, 0, none⟩ = some (.int .i64 id) := E0.out.cell 0
  have q1 : W5.cell? ⟨d, 1, none⟩ = some (.string (bs name)) := E0.out.cell 1
  have q2 : W5.cell? ⟨d, 2, none⟩ = some (.slice a2 cols.length c2) := E0.out.cell 2
  have q3 : W5.cell? ⟨d, 3, none⟩ = some (.slice a4 ys.length c4) := E0.out.cell 3
  have r0 : W5.cell? ⟨d + 1, 0, none⟩ = some (.int .i64 0) := E1.out.cell 0
  have r1 : W5.cell? ⟨d + 1, 1, none⟩ = some (.string ⟨#[]⟩) := E1.out.cell 1
  have r2 : W5.cell? ⟨d + 1, 2, none⟩ = some (.slice none 0 0) := E1.out.cell 2
  have r3 : W5.cell? ⟨d + 1, 3, none⟩ = some (.slice none 0 0) := E1.out.cell 3
  have z0 : W5.frozen? ⟨d + 1, 0, none⟩ = false := E1.out.frozen 0
  have z1 : W5.frozen? ⟨d + 1, 1, none⟩ = false := E1.out.frozen 1
  have z2 : W5.frozen? ⟨d + 1, 2, none⟩ = false := E1.out.frozen 2
  have z3 : W5.frozen? ⟨d + 1, 3, none⟩ = false := E1.out.frozen 3
  have B6 := hid ((((E1.out.set 0 (.int .i64 id)).set 1 (.string (bs name))).set 2 (.slice a2 cols.length c2)).set 3 (.slice a4 ys.length c4))
  have f4 := ((((Fr.refl (fun k => k = d ∨ k = d + 1) W5).setCell ⟨d + 1, 0, none⟩ (.int .i64 id) (fun _ => .inr rfl)).setCell ⟨d + 1, 1, none⟩ (.string (bs name)) (fun _ => .inr rfl)).setCell ⟨d + 1, 2, none⟩ (.slice a2 cols.length c2) (fun _ => .inr rfl)).setCell ⟨d + 1, 3, none⟩ (.slice a4 ys.length c4) (fun _ => .inr rfl)
  have HF := hid (And.intro (HR6.out.1.fr f4 HNH.out.1) (And.intro (HR6.out.2.1.fr f4 HNH.out.2) (And.intro (fun y hy => (HR6.out.2.2.1 y hy).fr f4 (HYH.out y hy)) (HR6.out.2.2.2.trans f4 (fun _ h _ => h)))))
  clear f4 HR6 HNH HYH E0 E1
  go_wp2_with (fail)
  obtain ⟨hf1, hf2, hf3, hf4⟩ := HF.out
  refine bodyPost_ret (agg_ret rfl rfl B6.out Tryz.underlying175 rfl size_tab2) rfl ⟨⟨⟨id, name, cols, ixs⟩, .slice a2 cols.length c2, .slice a4 ys.length c4, ys⟩, rfl, rfl, ⟨hf2.low (Nat.zero_le _), fun k hk => ?_, hf1.low (Nat.zero_le _), fun k hk => ?_, HE.out.trans HYS.out.symm, fun y hy => ⟨(hf3 y hy).low (Nat.zero_le _), fun k hk => ?_⟩⟩, hf4.mono (fun k hk hl => by have := HD.out; omega)⟩
  · rw [HD.out]; exact hf2.new k hk
  · rw [HD.out]; exact hf1.new k hk
  · rw [HD.out]; exact (hf3 y hy).new k hk
/-- tables of the call's own -/
structure TabsR (B : Nat) (W : World) (v : Value) (ts : List TabV) : Prop where
  r : Row 175 4 B W v ts.length (ts.flatMap TabV.cells)
  t : ∀ t ∈ ts, TabO (fun k => B ≤ k) W t
  dc : ts.Pairwise fun a b => ∀ k, a.vc.ownBlock = some k → b.vc.ownBlock ≠ some k
  di : ts.Pairwise fun a b => ∀ k, a.vi.ownBlock = some k → b.vi.ownBlock ≠ some k
theorem TabsR.fr {B : Nat} {U : Nat → Prop} {W W' : World} {v : Value} {ts : List TabV} (h : TabsR B W v ts) (f : Fr U W W') (hU : ∀ k, B ≤ k → ¬ U k) : TabsR B W' v ts :=
  ⟨h.r.fr f (fun k hk => hU k (h.r.new k hk)), fun t ht => (h.t t ht).fr f hU, h.dc, h.di⟩
theorem TabsR.fre {B : Nat} {W W' : World} {v : Value} {ts : List TabV} (h : TabsR B W v ts) (f : Fr (fun _ => False) W W') : TabsR B W' v ts := h.fr f (fun _ _ h => h)
theorem TabsR.nil {B : Nat} {W : World} : TabsR B W (.slice none 0 0) [] := ⟨Row.nil, fun t ht => by simp at ht, List.Pairwise.nil, List.Pairwise.nil⟩
theorem TabO.low {A B : Nat} {W : World} {t : TabV} (h : TabO (fun k => B ≤ k) W t) (hA : A ≤ B) : TabO (fun k => A ≤ k) W t := h.mono (fun _ hk => Nat.le_trans hA hk)
/-- a table's blocks behind an append to tables -/
theorem TabO.app {S : Nat → Prop} {W Wg : World} {n B : Nat} {v : Value} {xs : List Value} {t : TabV} (h : TabO S W t) (rv : Row 175 4 B W v n xs) (fg : Fr (fun k => v.ownBlock = some k) W Wg) : TabO S Wg t :=
  ⟨h.c.fr fg (rows_ne h.c rv (by decide)), h.cS, h.i.fr fg (rows_ne h.i rv (by decide)), h.iS, h.e, fun x hx => ⟨(h.x x hx).1.fr fg (rows_ne (h.x x hx).1 rv (by decide)), (h.x x hx).2⟩⟩
theorem TabsR.snoc {B : Nat} {W Wg : World} {w : World} {v v' : Value} {ts : List TabV} {t : TabV} (h : TabsR B w v ts) (f : Fr (fun _ => False) w W) (hB : B ≤ w.heap.size) (ht : TabO (fun k => w.heap.size ≤ k) W t) (app : App 175 4 B W Wg v v' ts.length (ts.flatMap TabV.cells) t.cells) : TabsR B Wg v' (ts ++ [t]) := by
  have h' := h.fre f
  refine ⟨app.row.cast (by simp) (by simp), fun x hx => ?_, ?_, ?_⟩
  · rcases List.mem_append.1 hx with g | g
    · exact (h'.t x g).app h'.r app.fr
    · rw [List.mem_singleton.1 g]; exact (ht.low hB).app h'.r app.fr
  · rw [List.pairwise_append]
    refine ⟨h.dc, List.pairwise_singleton _ _, fun a ha b hb k hk hk2 => ?_⟩
    rw [List.mem_singleton.1 hb] at hk2
    have h1 := (h.t a ha).c.lt hk
    have h2 : w.heap.size ≤ k := ht.cS k hk2
    omega
  · rw [List.pairwise_append]
    refine ⟨h.di, List.pairwise_singleton _ _, fun a ha b hb k hk hk2 => ?_⟩
    rw [List.mem_singleton.1 hb] at hk2
    have h1 := (h.t a ha).i.lt hk
    have h2 : w.heap.size ≤ k := ht.iS k hk2
    omega
set_option maxRecDepth 20000 in
theorem each_tab_go {R S : Nat → Prop} {w : World} {vi : Value} {ts : List TabV} (h : Sl R w vi ts.length (ts.flatMap TabV.cells)) (hx : ∀ t ∈ ts, TabO S w t) (hxl : ∀ t ∈ ts, TabB t) (hn : ts.length ≤ 1048576) :
    Calls Tryz.prog 162 #[vi, .func (.func 144) #[] #[]] w fun e w' => ∃ (v : Value) (ys : List TabV), e = .returned v ∧ ys.map TabV.t = ts.map TabV.t ∧ TabsR w.heap.size w' v ys ∧ Fr (fun _ => False) w w' := by
  obtain ⟨a, c, rfl, hc, hxx⟩ := h
  have HX := hid (show Sl R w (.slice a ts.length c) ts.length (ts.flatMap TabV.cells) from ⟨a, c, rfl, hc, hxx⟩)
  clear hxx
  have HXC := hid hx
  have HXL := hid hxl
  have F0 := hid (Fr.refl (fun _ => False) w)
  clear hx hxl
  go_enter Tryz.func162, Tryz.ntmps162
  go_wp2_with (fail)
  go_loopw [5, 10] (fun v i wr => ∃ (j : Nat) (ys : List TabV), j ≤ ts.length ∧ i = .int .i64 j ∧ ys.length = j ∧ ys.map TabV.t = (ts.take j).map TabV.t ∧ TabsR w.heap.size wr v ys ∧ Fr (fun _ => False) w wr) (fun _ i _ => ts.length - (intOf i).toNat)
  case atStart => exact ⟨0, [], by omega, rfl, rfl, rfl, TabsR.nil, F0.out⟩
  case round =>
    obtain ⟨j, ys, hj, rfl, rfl, hys, hrow, fr⟩ := hrel
    have HROW := hid hrow
    have HYS := hid hys
    have FR := hid fr
    obtain ⟨vx, cc, rfl, _⟩ := hrow.r.slice
    clear hrow fr F0 hys
    by_cases hjl : ys.length < ts.length
    · obtain ⟨g, o, rfl, hg, q⟩ := slK (k := 4) (f := TabV.cells) (by decide) tab_len (HX.out.fr FR.out (fun _ _ h => h)) hjl
      have q0 := q 0 (by decide)
      have q1 := q 1 (by decide)
      have q2 := q 2 (by decide)
      have q3 := q 3 (by decide)
      have i1 : (0 : Int) ≤ (ys.length : Int) := by omega
      have i2 : (ys.length : Int) < ts.length := by omega
      have HXJ := hid (HXC.out _ (List.getElem_mem hjl))
      have HXLJ := hid (HXL.out _ (List.getElem_mem hjl))
      have HT := hid (show (ts.take (ys.length + 1)).map TabV.t = (ts.take ys.length).map TabV.t ++ [ts[ys.length].t] from by
        rw [List.take_succ_eq_append_getElem hjl, List.map_append]
        rfl)
      obtain ⟨x, hxe⟩ : ∃ x, x = ts[ys.length] := ⟨_, rfl⟩
      rw [← hxe] at q0 q1 q2 q3 HT HXJ HXLJ
      clear hxe q
      obtain ⟨ac, c3, hvc, _⟩ := HXJ.out.c.slice
      obtain ⟨ai, c4, hvi, _⟩ := HXJ.out.i.slice
      obtain ⟨⟨id, name, cols, ixs⟩, vc, vi, ix⟩ := x
      dsimp only at hvc hvi
      subst hvc hvi
      simp only [TabV.cells, Nat.add_zero, List.getElem?_cons_zero, List.getElem?_cons_succ] at q0 q1 q2 q3
      dsimp only at HT
      go_upto_region 5 with fail
      have fa := (Fr.refl (fun _ => False) wr).alloc (.cells #[.int .i64 id, .string (bs name), .slice ac cols.length c3, .slice ai ix.length c4] 175)
      have HB := hid (Blk.new wr [.int .i64 id, .string (bs name), .slice ac cols.length c3, .slice ai ix.length c4] 175)
      replace HROW := hid (HROW.out.fre fa)
      replace FR := hid (FR.out.trans fa (fun _ h _ => h))
      have HSZ := FR.out.size
      clear fa q0 q1 q2 q3
      generalize wr.heap.size = d at *
      generalize wr.alloc _ = W1 at *
      have c0 : W1.cell? ⟨d, 0, none⟩ = some (.int .i64 id) := HB.out.cell 0
      have c1 : W1.cell? ⟨d, 1, none⟩ = some (.string (bs name)) := HB.out.cell 1
      have c2 : W1.cell? ⟨d, 2, none⟩ = some (.slice ac cols.length c3) := HB.out.cell 2
      have c3' : W1.cell? ⟨d, 3, none⟩ = some (.slice ai ix.length c4) := HB.out.cell 3
      have HCO := hid (copied_go (w := W1) ⟨⟨id, name, cols, ixs⟩, .slice ac cols.length c3, .slice ai ix.length c4, ix⟩ (HXJ.out.fr FR.out (fun _ _ h => h)) HXLJ.out)
      unfold TabV.agg TabV.cells at HCO
      dsimp only at HCO
      go_wp2_with (first
        | (go_at_call 144; refine HCO.out.mono ?_; rintro e w2 ⟨⟨t2, vc2, vi2, ix2⟩, rfl, rfl, hr, f⟩; obtain ⟨a6, c6, e6, _⟩ := hr.c.slice; obtain ⟨a7, c7, e7, _⟩ := hr.i.slice; dsimp only at e6 e7; subst e6 e7; have HR2 := hid hr; have F1 := hid f; have F2 := hid (FR.out.trans f (fun _ h _ => h)); have HROW2 := hid (HROW.out.fre f); have HSZ2 := F2.out.size; clear hr f)
        | (at_builtin; refine wpList_app1 rfl (s := .tmp 14) (x := .tmp 18) (t := 81) rfl Tryz.underlying81 info_tab rfl rfl rfl HROW2.out.r HSZ2 rfl (by simp [Value.oneCell']) (by omega) (by omega) ?_; intro ab ac wg APP
           have HG := hid (And.intro (HROW.out.snoc F1.out HSZ HR2.out APP) (F2.out.trans APP.fr (fun k hk hl => by have := HROW2.out.r.new k hk; omega))); clear APP))
      go_roundw
      case rel => exact ⟨ys.length + 1, ys ++ [_], by omega, by go_num, by rw [List.length_append]; rfl, by rw [List.map_append, HYS.out, HT.out]; rfl, HG.out.1, HG.out.2⟩
      case measure => simp [intOf]; omega
    · have hje : ys.length = ts.length := by omega
      rw [hje, List.take_length] at HYS
      have i3 : ¬ (ys.length : Int) < ts.length := by omega
      clear hje
      go_wp2_with (fail)
      go_ret
      exact ⟨_, rfl, ys, HYS.out, HROW.out, FR.out⟩
theorem CRv.bound {S : Nat → Prop} {w : World} {c : Nat} {v : Value} {ts : List TabV} (h : CRv 225 S w c v ts) (ok : Ok (ts.map TabV.t)) : ∀ t ∈ ts, TabB t := by
  intro t ht
  have T := ok.tab t.t (List.mem_map_of_mem ht)
  have e := (h.t t ht).e
  have hl : t.ix.length = t.t.ixs.length := by rw [e, List.length_map]
  refine ⟨by have := T.le; omega, by have := T.ixs; omega, fun x hx => ?_⟩
  have := (T.ix x.x (by rw [e]; exact List.mem_map_of_mem hx)).le
  omega
theorem CRv.rowSl {S : Nat → Prop} {w : World} {c : Nat} {v : Value} {ts : List TabV} (h : CRv 225 S w c v ts) : Sl (fun _ => True) w v ts.length (ts.flatMap TabV.cells) := h.r.sl' (fun _ _ => trivial)
set_option maxRecDepth 20000 in
theorem All_go {S : Nat → Prop} {w : World} {c : Nat} {m : List Tab} (h : CR 225 S w c m) (ok : Ok m) :
    Calls Tryz.prog 127 #[.pointer (some ⟨c, 0, none⟩)] w fun e w' => ∃ (v : Value) (ys : List TabV), e = .returned v ∧ ys.map TabV.t = m ∧ TabsR w.heap.size w' v ys ∧ Fr (fun _ => False) w w' := by
  obtain ⟨v, ts, h, rfl⟩ := h
  have c0 : w.cell? ⟨c, 0, none⟩ = some v := h.b.cell 0
  have HE := hid (each_tab_go h.rowSl h.t (h.bound ok) (by have := ok.len; rw [List.length_map] at this; omega))
  obtain ⟨a, cc, rfl, _⟩ := h.r.slice
  clear h ok
  go_enter Tryz.func127, Tryz.ntmps127
  go_wp2_with (go_at_call 162; refine HE.out.mono ?_; rintro e w1 ⟨v1, ys, rfl, hys, hr, f⟩; have HR := hid (And.intro hys (And.intro hr f)); clear hys hr f)
  go_ret
  exact ⟨_, ys, rfl, HR.out.1, HR.out.2.1, HR.out.2.2⟩
theorem All_nil_go (w : World) : Calls Tryz.prog 127 #[.pointer none] w fun e w' => e = .returned (.slice none 0 0) ∧ w' = w := by
  go_enter Tryz.func127, Tryz.ntmps127
  go_wp2_with (fail)
  go_ret
  exact ⟨rfl, rfl⟩
def zeroT : TabV := ⟨⟨0, [], [], []⟩, .slice none 0 0, .slice none 0 0, []⟩
theorem TabO.zero {S : Nat → Prop} {W : World} : TabO S W zeroT := ⟨Row.nil, fun k hk => by simp [zeroT, Value.ownBlock] at hk, Row.nil, fun k hk => by simp [zeroT, Value.ownBlock] at hk, rfl, fun x hx => by simp [zeroT] at hx⟩
def atM (m : List Tab) (id : Int) : Tab × Bool := if 1 ≤ id then (match m[(id - 1).toNat]? with | some t => (t, true) | none => (zeroT.t, false)) else (zeroT.t, false)
theorem res_tab_ok {fn : Func} {p q : Tmp} {ty : TypeId} {d : TypeDesc} {l : List Value} (hf : fn.results = #[.cell p ty, .tmp q]) {tmps : Array Value} {W : World} {b : Nat} {u : Value} (hp : tmps.getD p undef = .pointer (some ⟨b, 0, none⟩)) (hq : tmps.getD q undef = u) (hb : Blk W b l ty) (hu : Tryz.prog.underlying ty = some d) (hd : d.isRow = true) (hs : (Tryz.prog.info? ty).map (·.size) = some l.length) :
    (results fn tmps).run Tryz.prog W = .ok (.tuple #[.agg l.toArray, u]) W := by
  have := run_loadVar_mid (P := Tryz.prog) W b 0 ty l d (Blk.all _ hb) hu hd hs
  rw [Array.getD_eq_getD_getElem?] at hp hq
  simp [results, hf, hp, hq, asAddr, this]
set_option maxRecDepth 20000 in
theorem At_go {S : Nat → Prop} {w : World} {c : Nat} {m : List Tab} (h : CR 225 S w c m) (ok : Ok m) (id : Int) (hid0 : -9223372036854775808 ≤ id ∧ id ≤ 9223372036854775807) :
    Calls Tryz.prog 112 #[.pointer (some ⟨c, 0, none⟩), .int .i64 id] w fun e w' => ∃ t : TabV, e = .returned (.tuple #[t.agg, .bool (atM m id).2]) ∧ t.t = (atM m id).1 ∧ TabO (fun k => w.heap.size ≤ k) w' t ∧ Fr (fun _ => False) w w' := by
  obtain ⟨v, ts, h, rfl⟩ := h
  have hlen := ok.len
  rw [List.length_map] at hlen
  have F1 := hid ((Fr.refl (fun _ => False) w).alloc (.cells #[.int .i64 0, .string ⟨#[]⟩, .slice none 0 0, .slice none 0 0] 175))
  have B1 := hid (Blk.new w [.int .i64 0, .string ⟨#[]⟩, .slice none 0 0, .slice none 0 0] 175)
  have HC := hid (h.fre F1.out)
  have HB := hid (h.bound ok)
  obtain ⟨a, cc, rfl, _⟩ := h.r.slice
  clear h ok
  have HLOW : ∀ (_ : id < 1 ∨ (ts.length : Int) < id), atM (ts.map TabV.t) id = (zeroT.t, false) := by
    rintro (h1 | h1)
    · unfold atM; rw [if_neg (by omega)]
    · unfold atM; rw [if_pos (by omega), List.getElem?_eq_none (by rw [List.length_map]; omega)]
  by_cases h1 : id < 1
  · rw [HLOW (.inl h1)]
    clear HLOW
    go_enter Tryz.func112, Tryz.ntmps112
    go_upto_region 1 with fail
    generalize hd : w.heap.size = d at *
    have HD := hid hd
    clear hd
    generalize w.alloc _ = W1 at *
    have q0 : W1.cell? ⟨c, 0, none⟩ = some (.slice a ts.length cc) := HC.out.b.cell 0
    have r0 : W1.cell? ⟨d, 0, none⟩ = some (.int .i64 0) := B1.out.cell 0
    have r1 : W1.cell? ⟨d, 1, none⟩ = some (.string ⟨#[]⟩) := B1.out.cell 1
    have r2 : W1.cell? ⟨d, 2, none⟩ = some (.slice none 0 0) := B1.out.cell 2
    have r3 : W1.cell? ⟨d, 3, none⟩ = some (.slice none 0 0) := B1.out.cell 3
    have z0 : W1.frozen? ⟨d, 0, none⟩ = false := B1.out.frozen 0
    have z1 : W1.frozen? ⟨d, 1, none⟩ = false := B1.out.frozen 1
    have z2 : W1.frozen? ⟨d, 2, none⟩ = false := B1.out.frozen 2
    have z3 : W1.frozen? ⟨d, 3, none⟩ = false := B1.out.frozen 3
    have B2 := hid ((((B1.out.set 0 (.int .i64 0)).set 1 (.string ⟨#[]⟩)).set 2 (.slice none 0 0)).set 3 (.slice none 0 0))
    have F2 := hid (((((Fr.refl (fun k => k = d) W1).setCell ⟨d, 0, none⟩ (.int .i64 0) (fun _ => rfl)).setCell ⟨d, 1, none⟩ (.string ⟨#[]⟩) (fun _ => rfl)).setCell ⟨d, 2, none⟩ (.slice none 0 0) (fun _ => rfl)).setCell ⟨d, 3, none⟩ (.slice none 0 0) (fun _ => rfl))
    go_wp2_with (fail)
    exact bodyPost_ret (res_tab_ok rfl rfl rfl B2.out Tryz.underlying175 rfl size_tab2) rfl ⟨zeroT, rfl, rfl, TabO.zero, F1.out.trans F2.out (fun k hk hl => by have := HD.out; omega)⟩
  · by_cases h2 : (ts.length : Int) < id
    · rw [HLOW (.inr h2)]
      clear HLOW
      go_enter Tryz.func112, Tryz.ntmps112
      go_upto_region 1 with fail
      generalize hd : w.heap.size = d at *
      have HD := hid hd
      clear hd
      generalize w.alloc _ = W1 at *
      have q0 : W1.cell? ⟨c, 0, none⟩ = some (.slice a ts.length cc) := HC.out.b.cell 0
      have r0 : W1.cell? ⟨d, 0, none⟩ = some (.int .i64 0) := B1.out.cell 0
      have r1 : W1.cell? ⟨d, 1, none⟩ = some (.string ⟨#[]⟩) := B1.out.cell 1
      have r2 : W1.cell? ⟨d, 2, none⟩ = some (.slice none 0 0) := B1.out.cell 2
      have r3 : W1.cell? ⟨d, 3, none⟩ = some (.slice none 0 0) := B1.out.cell 3
      have z0 : W1.frozen? ⟨d, 0, none⟩ = false := B1.out.frozen 0
      have z1 : W1.frozen? ⟨d, 1, none⟩ = false := B1.out.frozen 1
      have z2 : W1.frozen? ⟨d, 2, none⟩ = false := B1.out.frozen 2
      have z3 : W1.frozen? ⟨d, 3, none⟩ = false := B1.out.frozen 3
      have B2 := hid ((((B1.out.set 0 (.int .i64 0)).set 1 (.string ⟨#[]⟩)).set 2 (.slice none 0 0)).set 3 (.slice none 0 0))
      have F2 := hid (((((Fr.refl (fun k => k = d) W1).setCell ⟨d, 0, none⟩ (.int .i64 0) (fun _ => rfl)).setCell ⟨d, 1, none⟩ (.string ⟨#[]⟩) (fun _ => rfl)).setCell ⟨d, 2, none⟩ (.slice none 0 0) (fun _ => rfl)).setCell ⟨d, 3, none⟩ (.slice none 0 0) (fun _ => rfl))
      go_wp2_with (fail)
      exact bodyPost_ret (res_tab_ok rfl rfl rfl B2.out Tryz.underlying175 rfl size_tab2) rfl ⟨zeroT, rfl, rfl, TabO.zero, F1.out.trans F2.out (fun k hk hl => by have := HD.out; omega)⟩
    · clear HLOW
      obtain ⟨i, hi, rfl⟩ : ∃ i : Nat, i < ts.length ∧ id = (i : Int) + 1 := ⟨(id - 1).toNat, by omega, by omega⟩
      have ha : atM (ts.map TabV.t) ((i : Int) + 1) = (ts[i].t, true) := by
        unfold atM
        rw [if_pos (by omega), show ((i : Int) + 1 - 1).toNat = i by omega, List.getElem?_map, List.getElem?_eq_getElem hi]
        rfl
      rw [ha]
      clear ha h1 h2
      obtain ⟨g, rfl, -, hr⟩ := tab_at HC.out.r hi
      have HT := hid (HC.out.t _ (List.getElem_mem hi))
      have HBT := hid (HB.out _ (List.getElem_mem hi))
      obtain ⟨x, hx⟩ : ∃ x, x = ts[i] := ⟨_, rfl⟩
      rw [← hx] at hr HT HBT ⊢
      clear hx
      obtain ⟨ac, c3, hvc, _⟩ := HT.out.c.slice
      obtain ⟨ai, c4, hvi, _⟩ := HT.out.i.slice
      obtain ⟨⟨id, name, cols, ixs⟩, vc, vi, ix⟩ := x
      dsimp only at hvc hvi
      subst hvc hvi
      dsimp only
      have i1 : ¬ ((i : Int) + 1 < 1) := by omega
      have i2 : ¬ ((ts.length : Int) < (i : Int) + 1) := by omega
      have i3 : (i : Int) < ts.length := by omega
      have i4 : IntKind.i64.wrap ((i : Int) + 1 - 1) = (i : Int) := by rw [IntWalk.i64_in _ (by omega)]; omega
      have HR := hid hr
      clear hr
      go_enter Tryz.func112, Tryz.ntmps112
      go_upto_region 1 with fail
      generalize hd : w.heap.size = d at *
      have HD := hid hd
      clear hd
      generalize w.alloc _ = W1 at *
      have q0 : W1.cell? ⟨c, 0, none⟩ = some (.slice (some ⟨g, 0, none⟩) ts.length cc) := HC.out.b.cell 0
      have t0 : W1.cell? ⟨g, i * 4, none⟩ = some (.int .i64 id) := HR.out 0 _ rfl
      have t1 : W1.cell? ⟨g, i * 4 + 1, none⟩ = some (.string (bs name)) := HR.out 1 _ rfl
      have t2 : W1.cell? ⟨g, i * 4 + 2, none⟩ = some (.slice ac cols.length c3) := HR.out 2 _ rfl
      have t3 : W1.cell? ⟨g, i * 4 + 3, none⟩ = some (.slice ai ix.length c4) := HR.out 3 _ rfl
      have HCO := hid (copied_go (w := W1) ⟨⟨id, name, cols, ixs⟩, .slice ac cols.length c3, .slice ai ix.length c4, ix⟩ HT.out HBT.out)
      unfold TabV.agg TabV.cells at HCO
      dsimp only at HCO
      have HSZ := hid F1.out.size
      have HBL := hid B1.out.lt
      clear HC HT HBT HR HB
      go_wp2_with (go_at_call 144; refine HCO.out.mono ?_; rintro e w2 ⟨⟨t2', vc2, vi2, ix2⟩, rfl, rfl, hr, f⟩; obtain ⟨a6, c6, e6, _⟩ := hr.c.slice; obtain ⟨a7, c7, e7, _⟩ := hr.i.slice; dsimp only at e6 e7; subst e6 e7; have HR2 := hid hr; have C1 := hid (Blk.fr B1.out f (fun h => h)); have r0 : w2.cell? ⟨d, 0, none⟩ = some (.int .i64 0) := C1.out.cell 0; have r1 : w2.cell? ⟨d, 1, none⟩ = some (.string ⟨#[]⟩) := C1.out.cell 1; have r2 : w2.cell? ⟨d, 2, none⟩ = some (.slice none 0 0) := C1.out.cell 2; have r3 : w2.cell? ⟨d, 3, none⟩ = some (.slice none 0 0) := C1.out.cell 3; have z0 : w2.frozen? ⟨d, 0, none⟩ = false := C1.out.frozen 0; have z1 : w2.frozen? ⟨d, 1, none⟩ = false := C1.out.frozen 1; have z2 : w2.frozen? ⟨d, 2, none⟩ = false := C1.out.frozen 2; have z3 : w2.frozen? ⟨d, 3, none⟩ = false := C1.out.frozen 3; have F2 := hid (F1.out.trans f (fun _ h _ => h)); clear hr f t0 t1 t2 t3 q0)
      have B2 := hid ((((C1.out.set 0 (.int .i64 id)).set 1 (.string (bs name))).set 2 (.slice a6 cols.length c6)).set 3 (.slice a7 ix2.length c7))
      have F3 := hid (((((Fr.refl (fun k => k = d) w2).setCell ⟨d, 0, none⟩ (.int .i64 id) (fun _ => rfl)).setCell ⟨d, 1, none⟩ (.string (bs name)) (fun _ => rfl)).setCell ⟨d, 2, none⟩ (.slice a6 cols.length c6) (fun _ => rfl)).setCell ⟨d, 3, none⟩ (.slice a7 ix2.length c7) (fun _ => rfl))
      refine bodyPost_ret (res_tab_ok rfl rfl rfl B2.out Tryz.underlying175 rfl size_tab2) rfl ⟨⟨⟨id, name, cols, ixs⟩, .slice a6 cols.length c6, .slice a7 ix2.length c7, ix2⟩, rfl, rfl, ?_, F2.out.trans F3.out (fun k hk hl => by have := HD.out; omega)⟩
      have hl := HSZ.out
      rw [← HD.out] at HBL
      refine (HR2.out.fr F3.out (fun k hk e => ?_)).low hl
      have := HBL.out
      have := HD.out
      omega
/-- a catalog of the call's own -/
theorem CR.of_tabs {A : Nat} {w1 : World} {v : Value} {ys : List TabV} (h : TabsR A w1 v ys) (hA : A ≤ w1.heap.size) : CR 225 (fun k => A ≤ k ∧ k < (w1.alloc (.cells #[v] 225)).heap.size) (w1.alloc (.cells #[v] 225)) w1.heap.size (ys.map TabV.t) := by
  have h' := h.fre ((Fr.refl (fun _ => False) w1).alloc (.cells #[v] 225))
  have B := Blk.new w1 [v] 225
  refine ⟨v, ys, ⟨B, ⟨hA, B.lt⟩, h'.r.low (Nat.zero_le _), fun k hk => ⟨h'.r.new k hk, h'.r.lt hk⟩, fun t ht => ?_, h'.dc, h'.di, fun k hk => hk.2⟩, rfl⟩
  have H := h'.t t ht
  exact ⟨H.c, fun k hk => ⟨H.cS k hk, H.c.lt hk⟩, H.i, fun k hk => ⟨H.iS k hk, H.i.lt hk⟩, H.e, fun x hx => ⟨(H.x x hx).1, fun k hk => ⟨(H.x x hx).2 k hk, (H.x x hx).1.lt hk⟩⟩⟩
theorem Clone_go {S : Nat → Prop} {w : World} {c : Nat} {m : List Tab} (h : CR 225 S w c m) (ok : Ok m) :
    Calls Tryz.prog 99 #[.pointer (some ⟨c, 0, none⟩)] w fun e w' => ∃ d, e = .returned (.pointer (some ⟨d, 0, none⟩)) ∧ CR 225 (fun k => w.heap.size ≤ k ∧ k < w'.heap.size) w' d m ∧ Fr (fun _ => False) w w' := by
  have HA := hid (All_go h ok)
  clear h ok
  go_enter Tryz.func99, Tryz.ntmps99
  go_wp2_with (go_at_call 127; refine HA.out.mono ?_; rintro e w1 ⟨v, ys, rfl, rfl, hr, f⟩; have HR := hid (CR.of_tabs hr f.size); have F1 := hid (f.alloc (.cells #[v] 225)); obtain ⟨a, cc, rfl, _⟩ := hr.r.slice; clear hr f)
  go_ret
  exact ⟨_, rfl, HR.out, F1.out⟩
theorem Clone_nil_go (w : World) : Calls Tryz.prog 99 #[.pointer none] w fun e w' => ∃ d, e = .returned (.pointer (some ⟨d, 0, none⟩)) ∧ CR 225 (fun k => w.heap.size ≤ k ∧ k < w'.heap.size) w' d [] ∧ Fr (fun _ => False) w w' := by
  have HA := hid (fun w => All_nil_go w)
  have HR := hid (CR.of_tabs (w1 := w) (A := w.heap.size) TabsR.nil (Nat.le_refl _))
  have F1 := hid ((Fr.refl (fun _ => False) w).alloc (.cells #[.slice none 0 0] 225))
  go_enter Tryz.func99, Tryz.ntmps99
  go_wp2_with (go_at_call 127; refine (HA.out _).mono ?_; rintro e w1 ⟨rfl, rfl⟩)
  go_ret
  exact ⟨_, rfl, HR.out, F1.out⟩
end Go.Proofs.YtiimomgbklgicaaGreat
