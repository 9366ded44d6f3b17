import Derived.Test.YtiimomgbklgicaaCtI
import Derived.Test.YtiimomgbklgicaaMapG
/- Do: the table of handlers, and the handler that is called. -/
set_option linter.unusedVariables false
namespace Go.Proofs.Ytiimomgbklgicaa
open Go.RowKit Go.VB Go.VB.Oct Go.VB.Cat Go.VB.Rec
attribute [local go_sem] Oper.semAt_some
/-- a handler of the catalog c -/
def doer (f c : Nat) : Value := .func (.func f) #[.pointer (some ⟨c, 0, none⟩)] #[]
/-- the handlers of a catalog, by a statement's kind -/
noncomputable def doerF (c : Nat) : Lit → Option Value := updG (updG (updG (fun _ => none) (.int .i64 1) (some (doer 57 c))) (.int .i64 2) (some (doer 58 c))) (.int .i64 3) (some (doer 59 c))
theorem lit_ne {a b : Int} (h : a ≠ b) : Lit.int .i64 a ≠ Lit.int .i64 b := fun e => h (by cases e; rfl)
theorem doer_1 (c : Nat) : doerF c (.int .i64 1) = some (doer 57 c) := by unfold doerF; rw [updG_ne _ _ (lit_ne (by decide)), updG_ne _ _ (lit_ne (by decide)), updG_same]
theorem doer_2 (c : Nat) : doerF c (.int .i64 2) = some (doer 58 c) := by unfold doerF; rw [updG_ne _ _ (lit_ne (by decide)), updG_same]
theorem doer_3 (c : Nat) : doerF c (.int .i64 3) = some (doer 59 c) := by unfold doerF; rw [updG_same]
theorem doer_no (c : Nat) {k : Int} (h1 : k ≠ 1) (h2 : k ≠ 2) (h3 : k ≠ 3) : doerF c (.int .i64 k) = none := by unfold doerF; rw [updG_ne _ _ (lit_ne h3), updG_ne _ _ (lit_ne h2), updG_ne _ _ (lit_ne h1)]
theorem key_int {n : Int} (h1 : -9223372036854775808 ≤ n) (h2 : n ≤ 9223372036854775807) : keyOf Try.prog 3 (.int .i64 n) = some (.int .i64 n) := Go.Maps.keyOf_int_mk Try.underlying3 (WalkArith.wf_i64 ⟨by omega, by omega⟩)
theorem doers_go (c : Nat) (w : World) : Calls Try.prog 35 #[.pointer (some ⟨c, 0, none⟩)] w fun e w' => e = .returned (.map (some w.heap.size)) ∧ MapG Try.prog 3 w' w.heap.size 3 (doerF c) ∧ Fr (fun _ => False) w w' := by
  have hmm := @run_makeMap Try.prog
  have hmf : ∀ (fn : Fn) (first cap : Array Value) (w : World), (Instr.makeFunc fn first cap).run Try.prog w = .ok (.func fn first cap) w := fun _ _ _ _ => rfl
  have M0 := hid (MapG.new Try.prog 3 w)
  have F0 := hid ((Fr.refl (fun k => k = w.heap.size) w).alloc (.map #[] 0))
  have HSZ := hid (show w.heap.size < (w.alloc (.map #[] 0)).heap.size from by simp)
  have HK := hid (fun n (h : 1 ≤ n ∧ n ≤ 3) => key_int (n := n) (by omega) (by omega))
  go_enter Try.func35, Try.ntmps35
  go_wp2_with (first
    | (refine wpList_insert_G rfl (m := .tmp 3) (x := .const (.int .i64 1)) (v := .tmp 5) rfl rfl M0.out (Go.Maps.int_keyed Try.underlying3) Try.underlying95 (by decide) rfl rfl (HK.out 1 (by decide)) trivial ?_; intro w1 m1 f1; have M1 := hid m1; have F1 := hid (F0.out.trans f1 (fun _ h _ => h)); clear m1 f1)
    | (refine wpList_insert_G rfl (m := .tmp 3) (x := .const (.int .i64 2)) (v := .tmp 7) rfl rfl M1.out (Go.Maps.int_keyed Try.underlying3) Try.underlying95 (by decide) rfl rfl (HK.out 2 (by decide)) trivial ?_; intro w2 m2 f2; have M2 := hid m2; have F2 := hid (F1.out.trans f2 (fun _ h _ => h)); clear m2 f2)
    | (refine wpList_insert_G rfl (m := .tmp 3) (x := .const (.int .i64 3)) (v := .tmp 9) rfl rfl M2.out (Go.Maps.int_keyed Try.underlying3) Try.underlying95 (by decide) rfl rfl (HK.out 3 (by decide)) trivial ?_; intro w3 m3 f3; have M3 := hid m3; have F3 := hid (F2.out.trans f3 (fun _ h _ => h)); clear m3 f3))
  go_ret
  exact ⟨rfl, M3.out, F3.out.mono (fun k hk hl => by omega)⟩
theorem zero_do (w : World) : (zeroValue 53).run Try.prog w = .ok .nilFunc w := by kernel_rfl
theorem StV.eta (t : StV) : t.cells = [.int .i64 t.s.kind, .string (bs t.s.table), .string (bs t.s.name), .slice t.oc t.s.cols.length t.cc, .slice t.on t.s.names.length t.cn, .slice t.a5 t.n5 t.c5, .slice t.a6 t.n6 t.c6, .slice t.a7 t.n7 t.c7, .string (bs t.s.join), .string t.y9, .string t.y10, .int .i64 t.i11, .slice t.a12 t.n12 t.c12, .int .i64 t.i13, .int .i64 t.i14] := rfl
theorem size_st : (Try.prog.info? 60).map (·.size) = some 15 := by kernel_rfl
/-- what a statement does, by its kind -/
theorem doers_do {S P : Nat → Prop} {w : World} {c : Nat} {m : List Tab} (h : CR 93 S w c m) (ok : Ok m) {t : StV} (hs : StR P w t) (root : Int) :
    (t.s.kind = 1 → Calls Try.prog 57 #[.pointer (some ⟨c, 0, none⟩), .agg t.cells.toArray, .int .i64 root] w fun e w' => e = .returned (.int .i64 (doM m t.s root).2) ∧ CR 93 (Ext S w w') w' c (doM m t.s root).1 ∧ Fr S w w')
    ∧ (t.s.kind = 2 → Calls Try.prog 58 #[.pointer (some ⟨c, 0, none⟩), .agg t.cells.toArray, .int .i64 root] w fun e w' => e = .returned (.int .i64 (doM m t.s root).2) ∧ CR 93 (Ext S w w') w' c (doM m t.s root).1 ∧ Fr S w w')
    ∧ (t.s.kind = 3 → Calls Try.prog 59 #[.pointer (some ⟨c, 0, none⟩), .agg t.cells.toArray, .int .i64 root] w fun e w' => e = .returned (.int .i64 (doM m t.s root).2) ∧ CR 93 (Ext S w w') w' c (doM m t.s root).1 ∧ Fr S w w') := by
  obtain ⟨v, ts, h, rfl⟩ := h
  have hl : ts.length ≤ 8 := by simpa using ok.len
  have hc : ∀ t ∈ ts, t.t.cols.length ≤ 6 := fun t ht => (ok.tab t.t (List.mem_map_of_mem ht)).le
  have hi : ∀ t ∈ ts, t.ix.length ≤ 4 := fun t ht => by
    have := (ok.tab t.t (List.mem_map_of_mem ht)).ixs
    rw [(h.t t ht).e, List.length_map] at this
    exact this
  refine ⟨fun hk => ?_, fun hk => ?_, fun hk => ?_⟩
  · unfold doM; rw [if_pos hk]; exact create_go h hl hs root
  · unfold doM; rw [if_neg (by omega), if_pos hk]; exact index_go h hl hc hi hs root
  · unfold doM; rw [if_neg (by omega), if_neg (by omega), if_pos hk]; exact rename_go h hl hc t root
theorem Ext.trans {S : Nat → Prop} {w w1 w2 : World} (h : w.heap.size ≤ w1.heap.size) (h' : w1.heap.size ≤ w2.heap.size) (k : Nat) : Ext S w1 w2 k → Ext S w w2 k := by
  rintro (g | g)
  · exact .inl g
  · exact .inr ⟨by omega, g.2⟩
theorem CR.mono {tc : TypeId} {S T : Nat → Prop} {W : World} {c : Nat} {m : List Tab} (h : CR tc S W c m) (hT : ∀ k, S k → T k) (hl : ∀ k, T k → k < W.heap.size) : CR tc T W c m := by
  obtain ⟨v, ts, h, e⟩ := h
  exact ⟨v, ts, h.mono hT hl, e⟩
theorem CR.lt {tc : TypeId} {S : Nat → Prop} {W : World} {c : Nat} {m : List Tab} (h : CR tc S W c m) {k : Nat} (hk : S k) : k < W.heap.size := by
  obtain ⟨v, ts, h, e⟩ := h
  exact h.lt k hk
theorem CR.blk {tc : TypeId} {S : Nat → Prop} {W : World} {c : Nat} {m : List Tab} (h : CR tc S W c m) : S c := by
  obtain ⟨v, ts, h, e⟩ := h
  exact h.bS
/-- the end of a call that reaches the catalog behind some steps that only make memory -/
theorem ext_fin {tc : TypeId} {S : Nat → Prop} {w w1 w2 : World} {c : Nat} {m : List Tab} (hS : ∀ k, S k → k < w.heap.size) (f : Fr (fun _ => False) w w1) (h : CR tc (Ext S w1 w2) w2 c m) (g : Fr S w1 w2) : CR tc (Ext S w w2) w2 c m ∧ Fr S w w2 := by
  have z1 := f.size
  have z2 := g.size
  refine ⟨h.mono (Ext.trans z1 z2) (fun k hk => ?_), (f.mono (fun _ h _ => h.elim)).trans g (fun k hk _ => hk)⟩
  rcases hk with hk | hk
  · have := hS k hk; omega
  · exact hk.2
set_option maxRecDepth 20000 in
theorem Do_go {S P : Nat → Prop} {w : World} {c : Nat} {m : List Tab} (h : CR 93 S w c m) (ok : Ok m) {t : StV} (hs : StR P w t) (hk : -9223372036854775808 ≤ t.s.kind ∧ t.s.kind ≤ 9223372036854775807) (root : Int) :
    Calls Try.prog 17 #[.pointer (some ⟨c, 0, none⟩), .agg t.cells.toArray, .int .i64 root] w fun e w' => e = .returned (.int .i64 (doM m t.s root).2) ∧ CR 93 (Ext S w w') w' c (doM m t.s root).1 ∧ Fr S w w' := by
  have HD := hid (fun (W : World) (f : Fr (fun _ => False) w W) => doers_do (h.fre f) ok (hs.fre f) root)
  have HS := hid (fun w1 w2 m (f : Fr (fun _ => False) w w1) (hc : CR 93 (Ext S w1 w2) w2 c m) (g : Fr S w1 w2) => ext_fin (fun k hk => h.lt hk) f hc g)
  have HC := hid h
  have HZ := hid zero_do
  have HKEY := hid (key_int hk.1 hk.2)
  have HNO := hid (show ¬ t.s.kind = 1 → ¬ t.s.kind = 2 → ¬ t.s.kind = 3 → doM m t.s root = (m, 1) from fun h1 h2 h3 => by unfold doM; rw [if_neg h1, if_neg h2, if_neg h3])
  have HN := hid (fun c => doer_no c (k := t.s.kind))
  obtain ⟨p, hp⟩ : ∃ p, doM m t.s root = p := ⟨_, rfl⟩
  rw [hp] at HD HNO ⊢
  have HP := hid hp
  clear hp h hs hk ok
  rw [StV.eta] at HD ⊢
  obtain ⟨⟨kind, table, name, cols, names, join⟩, oc, cc, on, cn, a5, n5, c5, a6, n6, c6, a7, n7, c7, y9, y10, i11, a12, n12, c12, i13, i14⟩ := t
  dsimp only at HD HKEY HNO HN ⊢
  generalize cols.length = lcs at *
  generalize names.length = lns at *
  have F1 := hid ((Fr.refl (fun _ => False) w).alloc (.cells #[.int .i64 kind, .string (bs table), .string (bs name), .slice oc lcs cc, .slice on lns cn, .slice a5 n5 c5, .slice a6 n6 c6, .slice a7 n7 c7, .string (bs join), .string y9, .string y10, .int .i64 i11, .slice a12 n12 c12, .int .i64 i13, .int .i64 i14] 60))
  have B1 := hid (Blk.new w [.int .i64 kind, .string (bs table), .string (bs name), .slice oc lcs cc, .slice on lns cn, .slice a5 n5 c5, .slice a6 n6 c6, .slice a7 n7 c7, .string (bs join), .string y9, .string y10, .int .i64 i11, .slice a12 n12 c12, .int .i64 i13, .int .i64 i14] 60)
  go_enter Try.func17, Try.ntmps17
  go_upto_region 3 with fail
  generalize w.heap.size = d at *
  generalize w.alloc _ = W1 at *
  have fd := (Fr.refl (fun _ => False) W1).drew
  replace F1 := hid (F1.out.trans fd (fun _ h _ => h))
  replace B1 := hid (Blk.fr B1.out fd (fun h => h))
  clear fd
  have HDO := hid (doers_go c W1.drew)
  refine wp_region_scr (.take 0 (.take 2 (.take 3 (.op 1 (.op 4 (.take 5 (.take 6 (.take 7 (.take 8 (.take 9 .done)))))))))) (fun kz w => (kz ≤ 10 → w.cell? ⟨d, 0, none⟩ = some (.int .i64 kind)) ∧ True) (by kernel_rfl) (by kernel_rfl) (by intro c a d v w h; cases d <;> exact h) ?_
  repeat
    first
    | (refine wpT_pure rfl rfl rfl ?_; apply Exists.intro; refine ⟨?_, ?_⟩; intro w; ((go_simp <;> rfl)); simp only [Act.put, List.setIfInBounds_toArray, List.set_cons_zero, List.set_cons_succ])
    | (refine wpT_take 10 rfl rfl (by decide +kernel) ⟨fun _ => B1.out.cell 0, trivial⟩ ?_; apply Exists.intro; refine ⟨?_, ?_⟩; intro w hw; (have qa := hw.1 (Nat.le_refl _); have qb := hw.2); ((go_simp <;> rfl)); simp only [Act.put, List.setIfInBounds_toArray, List.set_cons_zero, List.set_cons_succ])
    | (refine wpT_skip rfl rfl ?_; simp only [Act.put, List.setIfInBounds_toArray, List.set_cons_zero, List.set_cons_succ])
  generalize W1.drew = W2 at *
  refine wpT_op rfl ?_
  go_wp2_with ((go_at_call 35; refine HDO.out.mono ?_; rintro e w3 ⟨rfl, hm, f⟩; have F3 := hid (F1.out.trans f (fun _ h _ => h)); have B3 := hid (Blk.fr B1.out f (fun h => h)); have HM := hid hm; clear hm f))
  (refine ⟨?_, ?_⟩; focus (intro kz hk hk2 hh; first | (exfalso; simp at hk2; omega) | exact hh | exact (fun h => absurd h (by omega)) | obtain ⟨qa, qb⟩ := hh; first | exact ⟨qa, qb⟩ | (refine ⟨fun h => absurd h (by omega), ?_⟩; first | exact qb | (exact B3.out.cell 0)) | (refine ⟨fun h => ?_, ?_⟩; (have qa := qa h); all_goals (first | exact qa | exact qb | (exact B3.out.cell 0)))))
  generalize W2.heap.size = b at *
  have HX := hid (HD.out w3 F3.out)
  by_cases h1 : kind = 1
  · subst h1
    have HCALL := hid (HX.out.1 rfl)
    have R3 := hid B3.out.all
    clear HX HD HNO HN
    refine wpT_op rfl ?_
    go_wp2_with ((refine wpList_lookok_G rfl (m := .tmp 13) (x := .tmp 15) rfl rfl HM.out (Go.Maps.int_keyed Try.underlying3) Try.underlying95 (HZ.out w3) rfl HKEY.out trivial ?_; rw [doer_1]; simp only [Option.getD_some, Option.isSome_some, doer]))
    (refine ⟨?_, ?_⟩; focus (intro kz hk hk2 hh; first | (exfalso; simp at hk2; omega) | exact hh | exact (fun h => absurd h (by omega)) | obtain ⟨qa, qb⟩ := hh; first | exact ⟨qa, qb⟩ | (refine ⟨fun h => absurd h (by omega), ?_⟩; first | exact qb | (exact B3.out.cell 0)) | (refine ⟨fun h => ?_, ?_⟩; (have qa := qa h); all_goals (first | exact qa | exact qb | (exact B3.out.cell 0)))))
    repeat
      first
      | (refine wpT_pure rfl rfl rfl ?_; apply Exists.intro; refine ⟨?_, ?_⟩; intro w; ((go_simp <;> rfl)); simp only [Act.put, List.setIfInBounds_toArray, List.set_cons_zero, List.set_cons_succ])
      | (refine wpT_take 10 rfl rfl (by decide +kernel) ⟨fun _ => B3.out.cell 0, trivial⟩ ?_; apply Exists.intro; refine ⟨?_, ?_⟩; intro w hw; (have qa := hw.1 (Nat.le_refl _); have qb := hw.2); ((go_simp <;> rfl)); simp only [Act.put, List.setIfInBounds_toArray, List.set_cons_zero, List.set_cons_succ])
      | (refine wpT_skip rfl rfl ?_; simp only [Act.put, List.setIfInBounds_toArray, List.set_cons_zero, List.set_cons_succ])
    refine wpT_nil ?_
    go_wp2_with (first
      | (refine wpList_load_mid rfl 60 (.tmp 4) rfl d 0 rfl _ _ R3.out Try.underlying60 rfl size_st ?_)
      | (go_at_call 57; refine HCALL.out.mono ?_; rintro e w4 ⟨rfl, hc, f⟩; have HR := hid (HS.out _ _ _ F3.out hc f); clear hc f))
    go_ret
    exact ⟨rfl, HR.out.1, HR.out.2⟩
  · by_cases h2 : kind = 2
    · subst h2
      have HCALL := hid (HX.out.2.1 rfl)
      have R3 := hid B3.out.all
      clear HX HD HNO HN
      refine wpT_op rfl ?_
      go_wp2_with ((refine wpList_lookok_G rfl (m := .tmp 13) (x := .tmp 15) rfl rfl HM.out (Go.Maps.int_keyed Try.underlying3) Try.underlying95 (HZ.out w3) rfl HKEY.out trivial ?_; rw [doer_2]; simp only [Option.getD_some, Option.isSome_some, doer]))
      (refine ⟨?_, ?_⟩; focus (intro kz hk hk2 hh; first | (exfalso; simp at hk2; omega) | exact hh | exact (fun h => absurd h (by omega)) | obtain ⟨qa, qb⟩ := hh; first | exact ⟨qa, qb⟩ | (refine ⟨fun h => absurd h (by omega), ?_⟩; first | exact qb | (exact B3.out.cell 0)) | (refine ⟨fun h => ?_, ?_⟩; (have qa := qa h); all_goals (first | exact qa | exact qb | (exact B3.out.cell 0)))))
      repeat
        first
        | (refine wpT_pure rfl rfl rfl ?_; apply Exists.intro; refine ⟨?_, ?_⟩; intro w; ((go_simp <;> rfl)); simp only [Act.put, List.setIfInBounds_toArray, List.set_cons_zero, List.set_cons_succ])
        | (refine wpT_take 10 rfl rfl (by decide +kernel) ⟨fun _ => B3.out.cell 0, trivial⟩ ?_; apply Exists.intro; refine ⟨?_, ?_⟩; intro w hw; (have qa := hw.1 (Nat.le_refl _); have qb := hw.2); ((go_simp <;> rfl)); simp only [Act.put, List.setIfInBounds_toArray, List.set_cons_zero, List.set_cons_succ])
        | (refine wpT_skip rfl rfl ?_; simp only [Act.put, List.setIfInBounds_toArray, List.set_cons_zero, List.set_cons_succ])
      refine wpT_nil ?_
      go_wp2_with (first
        | (refine wpList_load_mid rfl 60 (.tmp 4) rfl d 0 rfl _ _ R3.out Try.underlying60 rfl size_st ?_)
        | (go_at_call 58; refine HCALL.out.mono ?_; rintro e w4 ⟨rfl, hc, f⟩; have HR := hid (HS.out _ _ _ F3.out hc f); clear hc f))
      go_ret
      exact ⟨rfl, HR.out.1, HR.out.2⟩
    · by_cases h3 : kind = 3
      · subst h3
        have HCALL := hid (HX.out.2.2 rfl)
        have R3 := hid B3.out.all
        clear HX HD HNO HN
        refine wpT_op rfl ?_
        go_wp2_with ((refine wpList_lookok_G rfl (m := .tmp 13) (x := .tmp 15) rfl rfl HM.out (Go.Maps.int_keyed Try.underlying3) Try.underlying95 (HZ.out w3) rfl HKEY.out trivial ?_; rw [doer_3]; simp only [Option.getD_some, Option.isSome_some, doer]))
        (refine ⟨?_, ?_⟩; focus (intro kz hk hk2 hh; first | (exfalso; simp at hk2; omega) | exact hh | exact (fun h => absurd h (by omega)) | obtain ⟨qa, qb⟩ := hh; first | exact ⟨qa, qb⟩ | (refine ⟨fun h => absurd h (by omega), ?_⟩; first | exact qb | (exact B3.out.cell 0)) | (refine ⟨fun h => ?_, ?_⟩; (have qa := qa h); all_goals (first | exact qa | exact qb | (exact B3.out.cell 0)))))
        repeat
          first
          | (refine wpT_pure rfl rfl rfl ?_; apply Exists.intro; refine ⟨?_, ?_⟩; intro w; ((go_simp <;> rfl)); simp only [Act.put, List.setIfInBounds_toArray, List.set_cons_zero, List.set_cons_succ])
          | (refine wpT_take 10 rfl rfl (by decide +kernel) ⟨fun _ => B3.out.cell 0, trivial⟩ ?_; apply Exists.intro; refine ⟨?_, ?_⟩; intro w hw; (have qa := hw.1 (Nat.le_refl _); have qb := hw.2); ((go_simp <;> rfl)); simp only [Act.put, List.setIfInBounds_toArray, List.set_cons_zero, List.set_cons_succ])
          | (refine wpT_skip rfl rfl ?_; simp only [Act.put, List.setIfInBounds_toArray, List.set_cons_zero, List.set_cons_succ])
        refine wpT_nil ?_
        go_wp2_with (first
          | (refine wpList_load_mid rfl 60 (.tmp 4) rfl d 0 rfl _ _ R3.out Try.underlying60 rfl size_st ?_)
          | (go_at_call 59; refine HCALL.out.mono ?_; rintro e w4 ⟨rfl, hc, f⟩; have HR := hid (HS.out _ _ _ F3.out hc f); clear hc f))
        go_ret
        exact ⟨rfl, HR.out.1, HR.out.2⟩
      · have HV := hid (HN.out c h1 h2 h3)
        have HP1 := hid (HNO.out h1 h2 h3)
        clear h1 h2 h3 HNO HN HD HX
        refine wpT_op rfl ?_
        go_wp2_with ((refine wpList_lookok_G rfl (m := .tmp 13) (x := .tmp 15) rfl rfl HM.out (Go.Maps.int_keyed Try.underlying3) Try.underlying95 (HZ.out w3) rfl HKEY.out trivial ?_; rw [HV.out]; simp only [Option.getD_none, Option.isSome_none]))
        (refine ⟨?_, ?_⟩; focus (intro kz hk hk2 hh; first | (exfalso; simp at hk2; omega) | exact hh | exact (fun h => absurd h (by omega)) | obtain ⟨qa, qb⟩ := hh; first | exact ⟨qa, qb⟩ | (refine ⟨fun h => absurd h (by omega), ?_⟩; first | exact qb | (exact B3.out.cell 0)) | (refine ⟨fun h => ?_, ?_⟩; (have qa := qa h); all_goals (first | exact qa | exact qb | (exact B3.out.cell 0)))))
        repeat
          first
          | (refine wpT_pure rfl rfl rfl ?_; apply Exists.intro; refine ⟨?_, ?_⟩; intro w; ((go_simp <;> rfl)); simp only [Act.put, List.setIfInBounds_toArray, List.set_cons_zero, List.set_cons_succ])
          | (refine wpT_take 10 rfl rfl (by decide +kernel) ⟨fun _ => B3.out.cell 0, trivial⟩ ?_; apply Exists.intro; refine ⟨?_, ?_⟩; intro w hw; (have qa := hw.1 (Nat.le_refl _); have qb := hw.2); ((go_simp <;> rfl)); simp only [Act.put, List.setIfInBounds_toArray, List.set_cons_zero, List.set_cons_succ])
          | (refine wpT_skip rfl rfl ?_; simp only [Act.put, List.setIfInBounds_toArray, List.set_cons_zero, List.set_cons_succ])
        refine wpT_nil ?_
        go_wp2_with (fail)
        go_ret
        rw [HP1.out]
        exact ⟨rfl, (HC.out.ext F3.out), F3.out.mono (fun _ h _ => h.elim)⟩
end Go.Proofs.Ytiimomgbklgicaa
