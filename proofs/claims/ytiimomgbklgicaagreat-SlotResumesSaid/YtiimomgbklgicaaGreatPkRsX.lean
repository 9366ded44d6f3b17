import Derived.Deep.CutBlock
import Derived.Test.YtiimomgbklgicaaGreatPkRsW
set_option linter.unusedVariables false
namespace Go.Proofs.YtiimomgbklgicaaGreat
open Go.RowKit Go.VB Go.VB.Oct Go.VB.Cat Go.VB.Rec Go.VB.Slt
/-- i64 -/
abbrev I64 (x : Int) : Prop := -9223372036854775808 ≤ x ∧ x ≤ 9223372036854775807
/-- a slot and the changes that were collected: x is the slice of the latter -/
def MidO (S C : Nat → Prop) (w0 W : World) (s N : Nat) (m : Slt) (tt : List Trn) (x : Value) : Prop :=
  ∃ (T D : Nat → Prop) (v1 : SltV) (ts : List TrnV) (a : Option Addr) (c : Nat), x = .slice a ts.length c ∧ SlO T D W s v1 ∧ v1.t = m ∧ Row 121 6 w0.heap.size W (.slice a ts.length c) ts.length (ts.flatMap TrnV.cells) ∧
    (∀ t ∈ ts, ChgR 0 W t.c ∧ ∀ k, t.c.has k → T k) ∧ (ts.map TrnV.t).Perm tt ∧ (∀ k, (Value.slice a ts.length c).ownBlock = some k → ¬ T k ∧ ¬ D k) ∧ v1.n ≤ N + 1 ∧ (∀ k, T k → S k ∨ w0.heap.size ≤ k) ∧ (∀ k, D k → C k ∨ w0.heap.size ≤ k) ∧ Fr S w0 W
/-- no changes collected -/
theorem MidO.none {S C T D : Nat → Prop} {w0 W : World} {s N : Nat} {v1 : SltV} {m : Slt} (h : SlO T D W s v1) (e : v1.t = m) (hn : v1.n ≤ N + 1) (hT : ∀ k, T k → S k ∨ w0.heap.size ≤ k) (hD : ∀ k, D k → C k ∨ w0.heap.size ≤ k) (f : Fr S w0 W) : MidO S C w0 W s N m [] (.slice none 0 0) :=
  ⟨T, D, v1, [], Option.none, 0, rfl, h, e, Row.nil, fun t ht => by simp at ht, List.Perm.refl _, fun k hk => (own_none hk).elim, hn, hT, hD, f⟩
theorem now_last {v : SltV} {tl : TimV} (h : v.ts.getLast? = some tl) : v.t.now = tl.m := by
  show ((v.ts.map TimV.t).getLast?.map Prod.snd).getD [] = tl.m
  rw [List.getLast?_map, h]
  rfl
theorem ss_le {v : SltV} {N : Nat} (h : FewM v.t N) {f : FolV} (hf : f ∈ v.fs) : f.hs.length + f.ss.length ≤ N := by
  have h1 : (f.hs ++ f.ss).map TrnV.t = f.t.turns := rfl
  have h2 := (mem_turns.2 ⟨f.t, List.mem_map_of_mem hf, ·⟩ : ∀ {t}, t ∈ f.t.turns → t ∈ turnsOf v.t.fols)
  have h3 : (f.t.turns).length ≤ (turnsOf v.t.fols).length := by
    have : [f.t].Sublist v.t.fols := List.singleton_sublist.2 (List.mem_map_of_mem hf)
    have := sub_len this
    simpa [turnsOf] using this
  rw [← h1, List.length_map, List.length_append] at h3
  exact Nat.le_trans h3 h.tot
theorem size_rec : (Tryz.prog.info? 35).map (·.size) = some 8 := by kernel_rfl
theorem info_tim : (Tryz.prog.info? 125).map (fun i => (i.zero, i.size, i.bytes)) = some (some (.agg #[.int .i64 0, .pointer none]), 2, 16) := by kernel_rfl
theorem info_dn : (Tryz.prog.info? 133).map (fun i => (i.zero, i.size, i.bytes)) = some (some (.agg #[.int .i64 0, .int .i64 0, .slice none 0 0]), 3, 40) := by kernel_rfl
theorem ok_read {s : Bs} {m : List Tab} (h : readM s = some m) : Ok m := (parse_back ((readM_parse s).symm.trans h)).1
theorem CR.wide {tc : TypeId} {S T : Nat → Prop} {W : World} {c : Nat} {m : List Tab} (h : CR tc S W c m) (hT : ∀ k, S k → T k) (hl : ∀ k, T k → k < W.heap.size) : CR tc T W c m := by
  obtain ⟨v, ts, h, e⟩ := h
  exact ⟨v, ts, h.mono hT hl, e⟩
theorem trns_one {B : Nat} {w : World} {l : List TrnV} (h : ∀ t ∈ l, ChgR B w t.c) : ∀ u ∈ l.flatMap TrnV.cells, u.oneCell' = true := by
  intro u hu
  obtain ⟨t, ht, hu⟩ := List.mem_flatMap.1 hu
  rcases List.mem_cons.1 hu with e | e
  · rw [e]; rfl
  · exact ChgV_one (h t ht) u e
theorem row_at {α : Type} {e : TypeId} {size B n g c : Nat} {W : World} {f : α → List Value} {l : List α} (hf : ∀ x, (f x).length = size) (h : Row e size B W (.slice (some ⟨g, 0, none⟩) n c) n (l.flatMap f)) {j : Nat} (hj : j < l.length) : W.rangeAt g (j * size) (f l[j]) := by
  by_cases h0 : l.flatMap f = []
  · have e := congrArg List.length h0
    rw [flat_len hf, List.length_nil] at e
    intro q u hu
    have hq : q < size := by rw [← hf l[j]]; exact (List.getElem?_eq_some_iff.1 hu).1
    rcases Nat.mul_eq_zero.1 e with e | e <;> omega
  · obtain ⟨g', h1, _, h3⟩ := row_cells h h0
    cases h1
    intro q u hu
    have hq : q < size := by rw [← hf l[j]]; exact (List.getElem?_eq_some_iff.1 hu).1
    exact h3 _ u (by rw [flatK (k := size) f hf l j hj q hq]; exact hu)
set_option maxRecDepth 20000 in
set_option maxHeartbeats 16000000 in
theorem Feed_go {S C P : Nat → Prop} {w : World} {s N : Nat} {v : SltV} (h : SlO S C w s v) (ok : SOk v.t) (few : FewM v.t N) (hvn : v.n ≤ N) (hN : N ≤ 1000000) {r : RecV} (hr : RecS P w r) (hP : ∀ k, P k → ¬ S k ∧ k < w.heap.size) {lsn : Int} (hx : I64 r.r.xid) (ht : I64 r.r.table) (hxs : ∀ x ∈ r.r.xids, I64 x) (hnote : r.r.note.length ≤ 1099511627776) :
    Calls Tryz.prog 15 #[.pointer (some ⟨s, 0, none⟩), .int .i64 lsn, .agg r.cells.toArray] w fun e w' => e = .returned (.tuple #[]) ∧ ∃ (v' : SltV) (T D : Nat → Prop), SlO T D w' s v' ∧ v'.t = feedM v.t lsn r.r ∧ v'.n ≤ N + 1 ∧ (∀ k, T k → S k ∨ w.heap.size ≤ k) ∧ (∀ k, D k → C k ∨ w.heap.size ≤ k) ∧ Fr S w w' := by
  have H := hid h
  have HOK := hid ok
  have HFW := hid few
  have HVN := hid hvn
  have HN := hid hN
  have HXX := hid hx
  have HTT := hid ht
  have HXS := hid hxs
  have HNO := hid hnote
  obtain ⟨⟨kind, xid, table, old, new, xids, note⟩, vo, vn, ve, vx⟩ := r
  obtain ⟨ao, co, e1, -, -⟩ := hr.o
  obtain ⟨an, cn, e2, -, -⟩ := hr.n
  obtain ⟨ax, cx, e3, -, -⟩ := hr.x
  obtain ⟨ae, ne, ce, e4⟩ := hr.e
  dsimp only at e1 e2 e3 e4
  subst e1 e2 e3 e4
  have HR := hid hr
  have HPS := hid hP
  clear h ok few hvn hN hx ht hxs hnote hr hP
  dsimp only at HXX HTT HXS HNO
  unfold RecV.cells
  dsimp only
  have fa := (Fr.refl (fun _ => False) w).alloc (.cells #[.int .i64 kind, .int .i64 xid, .int .i64 table, .slice ao old.length co, .slice an new.length cn, .slice ae ne ce, .slice ax xids.length cx, .string (bs note)] 35)
  have D0 := hid (Blk.new w [.int .i64 kind, .int .i64 xid, .int .i64 table, .slice ao old.length co, .slice an new.length cn, .slice ae ne ce, .slice ax xids.length cx, .string (bs note)] 35)
  have F0 := hid fa
  have HDS := hid (show ¬ w.heap.size = s from fun e => by have := H.out.b.lt; omega)
  go_enter Tryz.func15, Tryz.ntmps15
  go_upto_region 1 with fail
  have HDE := hid (show w.heap.size = w.heap.size from rfl)
  generalize hd : w.heap.size = d at D0 HDS ⊢
  replace HDE := hid hd
  clear hd
  generalize w.alloc _ = W0 at *
  have H1 := hid (H.out.fre F0.out)
  have k2 : W0.cell? ⟨s, 2, none⟩ = some (.int .i64 v.last) := H1.out.b.cell 2
  by_cases hle : lsn ≤ v.last
  · have HLE := hid hle
    go_wp2_with (fail)
    refine bodyPost_ret (results_none rfl _ _ _) rfl ?_
    exact ⟨rfl, v, S, C, H1.out, by unfold feedM; rw [if_pos (show lsn ≤ v.t.last from HLE.out)], by have := HVN.out; omega, fun k hk => .inl hk, fun k hk => .inl hk, F0.out.mono (fun _ h _ => h.elim)⟩
  have HLE := hid hle
  have z2 : W0.frozen? ⟨s, 2, none⟩ = false := H1.out.b.frozen 2
  have fs := (Fr.refl (fun k => k = s) W0).setCell ⟨s, 2, none⟩ (.int .i64 lsn) (fun _ => rfl)
  have H2 := hid (SlO.nums H1.out v.acked lsn fs (show Blk (W0.setCell ⟨s, 2, none⟩ (.int .i64 lsn)) s [.string (bs v.name), .int .i64 v.acked, .int .i64 lsn, v.vt, .map (some v.mb), v.vq] 116 from H1.out.b.set 2 (.int .i64 lsn)))
  have D1 := hid (Blk.fr D0.out fs (fun e => HDS.out e))
  have HR1 := hid ((HR.out.fre F0.out).fr fs (fun k hk e => (HPS.out k hk).1 (by rw [e]; exact H.out.bS)))
  have F1 := hid ((F0.out.mono (fun _ h _ => h.elim)).trans fs (fun k hk _ => hk))
  clear fs
  go_upto_region 3 with fail
  clear k2 z2 H1 D0 HR F0
  generalize W0.setCell _ _ = W1 at *
  have HNW := hid (show ({ v with acked := v.acked, last := lsn } : SltV).t = { v.t with last := lsn } from rfl)
  have HVB := hid (show ({ v with acked := v.acked, last := lsn } : SltV).n ≤ N + 1 ∧ ({ v with acked := v.acked, last := lsn } : SltV).n ≤ N from ⟨by have := HVN.out; exact Nat.le_succ_of_le this, HVN.out⟩)
  have HFM := hid (show FewM ({ v with acked := v.acked, last := lsn } : SltV).t N from ⟨HFW.out.ts, HFW.out.qs, HFW.out.tot, HFW.out.q⟩)
  have HSL := hid (show Fr S w W1 from F1.out.mono (fun k hk _ => by rw [hk]; exact H.out.bS))
  have HWS := hid (show w.heap.size ≤ W1.heap.size from F1.out.size)
  obtain ⟨u, hu⟩ : ∃ u : SltV, u = { v with acked := v.acked, last := lsn } := ⟨_, rfl⟩
  rw [← hu] at H2 HNW HVB HFM
  have HUE := hid hu
  clear hu
  have k0 : W1.cell? ⟨d, 0, none⟩ = some (.int .i64 kind) := D1.out.cell 0
  go_upto_block 0 with fail
  clear k0
  go_cut [6] (fun s6 wx => MidO S C w wx s N (midM v.t lsn ⟨kind, xid, table, old, new, xids, note⟩) (if kind = 5 then turnsOf (mine v.t.fols (xids ++ [xid])) else []) s6)
  case first =>
    go_upto_block 4 with fail
    go_cut [6] (fun s6 wx => ∃ (fs' : List FolV) (ts : List TrnV) (a : Option Addr) (c : Nat), s6 = .slice a ts.length c ∧ (kind = 5 ∨ kind = 6) ∧ outs fs' (xids ++ [xid]) = outs v.fs (xids ++ [xid]) ∧ SlO S C wx s { u with fs := fs' } ∧ Row 121 6 w.heap.size wx (.slice a ts.length c) ts.length (ts.flatMap TrnV.cells) ∧ (∀ t ∈ ts, ChgR 0 wx t.c ∧ ∀ k, t.c.has k → S k) ∧ (ts.map TrnV.t).Perm (if kind = 5 then turnsOf (mine v.t.fols (xids ++ [xid])) else []) ∧ Blk wx d [.int .i64 kind, .int .i64 xid, .int .i64 table, .slice ao old.length co, .slice an new.length cn, .slice ae ne ce, .slice ax xids.length cx, .string (bs note)] 35 ∧ RecS P wx ⟨⟨kind, xid, table, old, new, xids, note⟩, .slice ao old.length co, .slice an new.length cn, .slice ae ne ce, .slice ax xids.length cx⟩ ∧ Fr S w wx)
    case first =>
      by_cases hk5 : kind = 5
      · subst hk5
        go_upto_region 15 with fail
        go_cut [78, 79, 80] (fun s78 s79 s80 wx => ∃ (b : Option Addr) (c : Nat), s78 = .slice b (xids.length + 1) c ∧ s79 = .int .i64 ((xids.length + 1 : Nat) : Int) ∧ s80 = .int .i64 0 ∧ Row 3 1 w.heap.size wx (.slice b (xids.length + 1) c) (xids.length + 1) ((xids ++ [xid]).flatMap icell) ∧ Fr (fun _ => False) W1 wx)
        case first =>
          have fd := (Fr.refl (fun _ => False) W1).drew
          have D3 := hid (Blk.fr D1.out fd (fun h => h))
          have HR3 := hid (HR1.out.fre fd)
          have F3 := hid fd
          have HWW := hid (Nat.le_trans HWS.out fd.size)
          clear fd
          refine wp_region_scr (.take 0 (.take 1 (.take 3 (.take 4 (.take 8 (.two 2 5 (.op 5 (.op 6 (.take 7 .done))) (.op 2 (.op 6 (.take 7 .done))))))))) (fun kz w => (kz ≤ 9 → w.cell? ⟨d, 6, none⟩ = some (.slice ax xids.length cx) ∧ w.cell? ⟨d, 1, none⟩ = some (.int .i64 xid)) ∧ Hid True) (by kernel_rfl) (by kernel_rfl) (by intro c a d v w h; cases d <;> exact h) ?_
          repeat
            first
            | (refine wpT_pure rfl rfl rfl ?_; apply Exists.intro; refine ⟨?_, ?_⟩; intro w; (first | (first | (obtain ⟨qa1, qa2⟩ := qa; go_simp <;> rfl)) | (go_simp <;> rfl)); simp only [Act.put, List.setIfInBounds_toArray, List.set_cons_zero, List.set_cons_succ])
            | (refine wpT_take 9 rfl rfl (by decide +kernel) ⟨fun _ => ⟨D3.out.cell 6, D3.out.cell 1⟩, hid trivial⟩ ?_; apply Exists.intro; refine ⟨?_, ?_⟩; intro w hw; (have qa := hw.1 (Nat.le_refl _); have qb := hw.2); (first | (first | (obtain ⟨qa1, qa2⟩ := qa; go_simp <;> rfl)) | (go_simp <;> rfl)); simp only [Act.put, List.setIfInBounds_toArray, List.set_cons_zero, List.set_cons_succ])
            | (refine wpT_skip rfl rfl ?_; simp only [Act.put, List.setIfInBounds_toArray, List.set_cons_zero, List.set_cons_succ])
          generalize W1.drew = W3 at *
          have HLX := hid HR3.out.lx
          dsimp only at HLX
          refine wpT_two ?_ ?_
          focus
            have HCL := hid (Clone_int HR3.out.x HR3.out.lx)
            dsimp only at HCL
            refine wpT_op rfl ?_
            go_wp2_with ((go_at_call 60; refine HCL.out.mono ?_; rintro e w4 ⟨v4, rfl, hr, f⟩; obtain ⟨b4, c4, rfl, _⟩ := hr.slice; have HR4 := hid hr; have HSF := hid f.size; have D4 := hid (Blk.fr D3.out f (fun h => h)); have F4 := hid (F3.out.trans f (fun _ h _ => h)); clear hr f))
            (refine ⟨?_, ?_⟩; focus (intro kz hk hk2 hh; first | (exfalso; simp at hk2; omega) | exact hh | exact (fun h => absurd h (by omega)) | obtain ⟨qa, qb⟩ := hh; first | exact ⟨qa, qb⟩ | (refine ⟨fun h => absurd h (by omega), ?_⟩; first | exact qb | (exact ⟨D4.out.cell 6, D4.out.cell 1⟩)) | (refine ⟨fun h => ?_, ?_⟩; (have qa := qa h); all_goals (first | exact qa | exact qb | (exact ⟨D4.out.cell 6, D4.out.cell 1⟩)))))
            clear HCL
            repeat
              first
              | (refine wpT_pure rfl rfl rfl ?_; apply Exists.intro; refine ⟨?_, ?_⟩; intro w; ((go_simp <;> rfl)); simp only [Act.put, List.setIfInBounds_toArray, List.set_cons_zero, List.set_cons_succ])
              | (refine wpT_take 9 rfl rfl (by decide +kernel) ⟨fun _ => ⟨D4.out.cell 6, D4.out.cell 1⟩, hid trivial⟩ ?_; apply Exists.intro; refine ⟨?_, ?_⟩; intro w hw; (have qa := hw.1 (Nat.le_refl _); have qb := hw.2); ((go_simp <;> rfl)); simp only [Act.put, List.setIfInBounds_toArray, List.set_cons_zero, List.set_cons_succ])
              | (refine wpT_skip rfl rfl ?_; simp only [Act.put, List.setIfInBounds_toArray, List.set_cons_zero, List.set_cons_succ])
            have FA := hid (fun o => (Fr.refl (fun _ => False) w4).alloc o)
            refine wpT_op rfl ?_
            go_wp2_with (fail)
            (refine ⟨?_, ?_⟩; focus (intro kz hk hk2 hh; first | (exfalso; simp at hk2; omega) | exact hh | exact (fun h => absurd h (by omega)) | obtain ⟨qa, qb⟩ := hh; first | exact ⟨qa, qb⟩ | (refine ⟨fun h => absurd h (by omega), ?_⟩; first | exact qb | (exact ⟨(Blk.fr D4.out (FA.out _) (fun h => h)).cell 6, (Blk.fr D4.out (FA.out _) (fun h => h)).cell 1⟩)) | (refine ⟨fun h => ?_, ?_⟩; (have qa := qa h); all_goals (first | exact qa | exact qb | (exact ⟨(Blk.fr D4.out (FA.out _) (fun h => h)).cell 6, (Blk.fr D4.out (FA.out _) (fun h => h)).cell 1⟩)))))
            refine wpT_op rfl ?_
            go_wp2_with ((at_builtin; refine wpList_app1 rfl (s := .tmp 74) (x := .tmp 77) (t := 22) rfl Tryz.underlying22 info_int rfl rfl rfl HR4.out HSF.out rfl (by simp [Value.oneCell']) (by have := HLX.out; omega) (by have := HLX.out; omega) ?_; intro ab ac wg APP; have HAPP := hid (APP.row.cast (m := xids.length + 1) (ys := (xids ++ [xid]).flatMap icell) rfl (by rw [List.flatMap_append]; rfl)); have FG := hid (F4.out.trans APP.fr (fun k hk hl => by have h1 := HR4.out.new k hk; have h2 := F3.out.size; omega)); have D6 := hid (Blk.fr D4.out APP.fr (fun hk => HR4.out.ne D4.out (by decide) _ hk rfl)); clear APP))
            (refine ⟨?_, ?_⟩; focus (intro kz hk hk2 hh; first | (exfalso; simp at hk2; omega) | exact hh | exact (fun h => absurd h (by omega)) | obtain ⟨qa, qb⟩ := hh; first | exact ⟨qa, qb⟩ | (refine ⟨fun h => absurd h (by omega), ?_⟩; first | exact qb | (exact ⟨D6.out.cell 6, D6.out.cell 1⟩)) | (refine ⟨fun h => ?_, ?_⟩; (have qa := qa h); all_goals (first | exact qa | exact qb | (exact ⟨D6.out.cell 6, D6.out.cell 1⟩)))))
            repeat
              first
              | (refine wpT_pure rfl rfl rfl ?_; apply Exists.intro; refine ⟨?_, ?_⟩; intro w; ((go_simp <;> rfl)); simp only [Act.put, List.setIfInBounds_toArray, List.set_cons_zero, List.set_cons_succ])
              | (refine wpT_take 9 rfl rfl (by decide +kernel) ⟨fun _ => ⟨D6.out.cell 6, D6.out.cell 1⟩, hid trivial⟩ ?_; apply Exists.intro; refine ⟨?_, ?_⟩; intro w hw; (have qa := hw.1 (Nat.le_refl _); have qb := hw.2); ((go_simp <;> rfl)); simp only [Act.put, List.setIfInBounds_toArray, List.set_cons_zero, List.set_cons_succ])
              | (refine wpT_skip rfl rfl ?_; simp only [Act.put, List.setIfInBounds_toArray, List.set_cons_zero, List.set_cons_succ])
            refine wpT_nil ?_
            go_wp2_with (fail)
            go_meet
            exact ⟨ab, ac, rfl, by go_num, rfl, HAPP.out.low HWW.out, FG.out⟩
          focus
            have fa := (Fr.refl (fun _ => False) W3).alloc (.cells #[.int .i64 xid] 3)
            have RB := hid (Row.built (e := 3) (n := 1) (size := 1) (B := W3.heap.size) W3 (l := [.int .i64 xid]) rfl (by decide) (Nat.le_refl _))
            have D4 := hid (Blk.fr D3.out fa (fun h => h))
            have HR4 := hid (HR3.out.fre fa)
            have F4 := hid (F3.out.trans fa (fun _ h _ => h))
            have HWX := hid (Nat.le_trans HWW.out fa.size)
            clear fa
            refine wpT_op rfl ?_
            go_wp2_with (fail)
            (refine ⟨?_, ?_⟩; focus (intro kz hk hk2 hh; first | (exfalso; simp at hk2; omega) | exact hh | exact (fun h => absurd h (by omega)) | obtain ⟨qa, qb⟩ := hh; first | exact ⟨qa, qb⟩ | (refine ⟨fun h => absurd h (by omega), ?_⟩; first | exact qb | (exact ⟨D4.out.cell 6, D4.out.cell 1⟩)) | (refine ⟨fun h => ?_, ?_⟩; (have qa := qa h); all_goals (first | exact qa | exact qb | (exact ⟨D4.out.cell 6, D4.out.cell 1⟩)))))
            clear D3 HR3 F3 HWW
            generalize W3.heap.size = gx at *
            generalize W3.alloc _ = W4 at *
            have HCL := hid (Clone_int HR4.out.x HR4.out.lx)
            dsimp only at HCL
            refine wpT_op rfl ?_
            go_wp2_with ((go_at_call 60; refine HCL.out.mono ?_; rintro e w5 ⟨v5, rfl, hr, f⟩; obtain ⟨b5, c5, rfl, _⟩ := hr.slice; have HR5 := hid hr; have HSF := hid f.size; have D5 := hid (Blk.fr D4.out f (fun h => h)); have F5 := hid (F4.out.trans f (fun _ h _ => h)); have RB5 := hid (RB.out.fre f); clear hr f))
            (refine ⟨?_, ?_⟩; focus (intro kz hk hk2 hh; first | (exfalso; simp at hk2; omega) | exact hh | exact (fun h => absurd h (by omega)) | obtain ⟨qa, qb⟩ := hh; first | exact ⟨qa, qb⟩ | (refine ⟨fun h => absurd h (by omega), ?_⟩; first | exact qb | (exact ⟨D5.out.cell 6, D5.out.cell 1⟩)) | (refine ⟨fun h => ?_, ?_⟩; (have qa := qa h); all_goals (first | exact qa | exact qb | (exact ⟨D5.out.cell 6, D5.out.cell 1⟩)))))
            clear HCL
            repeat
              first
              | (refine wpT_pure rfl rfl rfl ?_; apply Exists.intro; refine ⟨?_, ?_⟩; intro w; ((go_simp <;> rfl)); simp only [Act.put, List.setIfInBounds_toArray, List.set_cons_zero, List.set_cons_succ])
              | (refine wpT_take 9 rfl rfl (by decide +kernel) ⟨fun _ => ⟨D5.out.cell 6, D5.out.cell 1⟩, hid trivial⟩ ?_; apply Exists.intro; refine ⟨?_, ?_⟩; intro w hw; (have qa := hw.1 (Nat.le_refl _); have qb := hw.2); ((go_simp <;> rfl)); simp only [Act.put, List.setIfInBounds_toArray, List.set_cons_zero, List.set_cons_succ])
              | (refine wpT_skip rfl rfl ?_; simp only [Act.put, List.setIfInBounds_toArray, List.set_cons_zero, List.set_cons_succ])
            have SRC := hid (Row.src (P := Tryz.prog) RB5.out (by simp [Value.oneCell']))
            refine wpT_op rfl ?_
            go_wp2_with ((at_builtin; refine wpList_appS rfl (s := .tmp 74) (x := .tmp 77) (t := 22) (tx := 22) rfl Tryz.underlying22 Tryz.underlying22 (.inr ⟨_, rfl⟩) info_int rfl rfl rfl HR5.out HSF.out SRC.out (by have := HLX.out; omega) (by have := HLX.out; omega) ?_; intro ab ac wg APP; have HAPP := hid (APP.row.cast (m := xids.length + 1) (ys := (xids ++ [xid]).flatMap icell) rfl (by rw [List.flatMap_append]; rfl)); have FG := hid (F5.out.trans APP.fr (fun k hk hl => by have h1 := HR5.out.new k hk; have h2 := F4.out.size; omega)); have D6 := hid (Blk.fr D5.out APP.fr (fun hk => HR5.out.ne D5.out (by decide) _ hk rfl)); clear APP))
            (refine ⟨?_, ?_⟩; focus (intro kz hk hk2 hh; first | (exfalso; simp at hk2; omega) | exact hh | exact (fun h => absurd h (by omega)) | obtain ⟨qa, qb⟩ := hh; first | exact ⟨qa, qb⟩ | (refine ⟨fun h => absurd h (by omega), ?_⟩; first | exact qb | (exact ⟨D6.out.cell 6, D6.out.cell 1⟩)) | (refine ⟨fun h => ?_, ?_⟩; (have qa := qa h); all_goals (first | exact qa | exact qb | (exact ⟨D6.out.cell 6, D6.out.cell 1⟩)))))
            repeat
              first
              | (refine wpT_pure rfl rfl rfl ?_; apply Exists.intro; refine ⟨?_, ?_⟩; intro w; ((go_simp <;> rfl)); simp only [Act.put, List.setIfInBounds_toArray, List.set_cons_zero, List.set_cons_succ])
              | (refine wpT_take 9 rfl rfl (by decide +kernel) ⟨fun _ => ⟨D6.out.cell 6, D6.out.cell 1⟩, hid trivial⟩ ?_; apply Exists.intro; refine ⟨?_, ?_⟩; intro w hw; (have qa := hw.1 (Nat.le_refl _); have qb := hw.2); ((go_simp <;> rfl)); simp only [Act.put, List.setIfInBounds_toArray, List.set_cons_zero, List.set_cons_succ])
              | (refine wpT_skip rfl rfl ?_; simp only [Act.put, List.setIfInBounds_toArray, List.set_cons_zero, List.set_cons_succ])
            refine wpT_nil ?_
            go_wp2_with (fail)
            go_meet
            exact ⟨ab, ac, rfl, by go_num, rfl, HAPP.out.low HWX.out, FG.out⟩
        case rest =>
          obtain ⟨bx, cx2, rfl, rfl, rfl, hxr, hf⟩ := hcut
          have HU := hid (H2.out.fre hf)
          have HXR := hid hxr
          have HDX := hid (Blk.fr D1.out hf (fun h => h))
          have HRX := hid (HR1.out.fre hf)
          have HFX := hid (HSL.out.trans hf (fun _ h _ => h.elim))
          clear hxr hf D1 HR1
          obtain ⟨X, hX⟩ : ∃ X, X = xids ++ [xid] := ⟨_, rfl⟩
          have hXl : X.length = xids.length + 1 := by rw [hX, List.length_append]; rfl
          have HXI := hid (show ∀ x ∈ X, I64 x from fun x hx => by
            rw [hX] at hx
            rcases List.mem_append.1 hx with g | g
            · exact HXS.out x g
            · rw [List.mem_singleton.1 g]; exact HXX.out)
          have HXL := hid (show xids.length ≤ 1048576 from HRX.out.lx)
          have HXD := hid hX
          rw [← hX] at HXR
          obtain ⟨n, hn⟩ : ∃ n, n = xids.length + 1 := ⟨_, rfl⟩
          rw [← hn] at HXR ⊢
          rw [← hn] at hXl
          have HNX := hid hXl
          have HNE := hid hn
          clear hX hXl hn
          go_upto_region 16 with fail
          go_loopw [6, 80] (fun s6 s80 wr => ∃ (j : Nat) (ts : List TrnV) (a : Option Addr) (c : Nat), j ≤ n ∧ s80 = .int .i64 j ∧ s6 = .slice a ts.length c ∧ SlO S C wr s { u with fs := outs v.fs (X.take j) } ∧ Row 121 6 w.heap.size wr (.slice a ts.length c) ts.length (ts.flatMap TrnV.cells) ∧ (∀ t ∈ ts, ChgR 0 wr t.c ∧ ∀ k, t.c.has k → S k) ∧ (ts.map TrnV.t ++ turnsOf ((outs v.fs (X.take j)).map FolV.t)).Perm (turnsOf (v.fs.map FolV.t)) ∧ Row 3 1 w.heap.size wr (.slice bx n cx2) n (X.flatMap icell) ∧ Blk wr d [.int .i64 5, .int .i64 xid, .int .i64 table, .slice ao old.length co, .slice an new.length cn, .slice ae ne ce, .slice ax xids.length cx, .string (bs note)] 35 ∧ RecS P wr ⟨⟨5, xid, table, old, new, xids, note⟩, .slice ao old.length co, .slice an new.length cn, .slice ae ne ce, .slice ax xids.length cx⟩ ∧ Fr S w wr) (fun _ s80 _ => n - (intOf s80).toNat)
          case atStart =>
            refine ⟨0, [], none, 0, by omega, rfl, rfl, ?_, Row.nil, fun t ht => by simp at ht, ?_, HXR.out, HDX.out, HRX.out, HFX.out⟩
            · have := HU.out
              rw [List.take_zero, outs_nil]
              have e : ({ u with fs := v.fs } : SltV) = u := by rw [HUE.out]
              rw [e]; exact this
            · rw [List.take_zero, outs_nil]
              exact List.Perm.refl _
          case round =>
            obtain ⟨j, ts, a, c, hj, rfl, rfl, hs, hrow, hch, hperm, hxr, hd, hrs, hf⟩ := hrel
            have HS := hid hs
            have HROW := hid hrow
            have HCH := hid hch
            have HPM := hid hperm
            have HXR2 := hid hxr
            have HD2 := hid hd
            have HR2 := hid hrs
            have FR := hid hf
            clear hs hrow hch hperm hxr hd hrs hf HU HXR HDX HRX HFX
            rename World => WR
            by_cases hjn : j < n
            · have hjx : j < X.length := by rw [HNX.out]; exact hjn
              have HTK := hid (outs_take (fs := v.fs) hjx)
              obtain ⟨gx, ex, -, qx⟩ := row_cells HXR2.out (by
                intro e
                have := congrArg List.length e
                rw [flat_len icell_len, List.length_nil] at this
                omega)
              have q0 := qx j (.int .i64 X[j]) (by
                have := flatK (k := 1) icell icell_len X j hjx 0 (by decide)
                rw [Nat.mul_one, Nat.add_zero] at this
                exact this)
              have HEX := hid ex
              have HIX := hid (HXI.out _ (List.getElem_mem hjx))
              clear qx
              subst ex
              obtain ⟨x, hx⟩ : ∃ x, x = X[j] := ⟨_, rfl⟩
              rw [← hx] at q0 HTK HIX
              clear hx HEX
              have j1 : (0 : Int) ≤ (j : Int) := by omega
              have j2 : (j : Int) < (n : Int) := by omega
              have i9 : IntKind.i64.wrap ((j : Int) + 1) = (j : Int) + 1 := IntWalk.i64_in _ (by have := HXL.out; have := HNE.out; omega)
              have HM := hid HS.out.m
              go_upto_region 18 with fail
              clear q0
              have k4 : WR.cell? ⟨s, 4, none⟩ = some (.map (some u.mb)) := HS.out.b.cell 4
              rcases find_cases (outs v.fs (X.take j)) x with hno | ⟨i, hi, hxi⟩
              · have HFI := hid (find_no hno)
                have HSM := hid (outs_out hno)
                clear hno
                go_wp2_with (refine wpList_lookup_G rfl (m := .tmp 87) (x := .tmp 88) rfl rfl HM.out (Go.Maps.int_keyed Tryz.underlying3) Tryz.underlying113 (zero_fol _) rfl (key_int HIX.out.1 HIX.out.2) trivial ?_; rw [HFI.out]; simp only [Option.getD_none])
                go_roundw
                case rel => exact ⟨j + 1, ts, a, c, by omega, by go_num, rfl, by rw [HTK.out, HSM.out]; exact HS.out, HROW.out, HCH.out, by rw [HTK.out, HSM.out]; exact HPM.out, HXR2.out, HD2.out, HR2.out, FR.out⟩
                case measure => simp [intOf]; omega
              · have HFI := hid (find_at (fs := outs v.fs (X.take j)) HS.out.fx hi hxi)
                have HF := hid (HS.out.f _ (List.getElem_mem hi))
                have HTO := hid (turns_out (fs := outs v.fs (X.take j)) HS.out.fx (List.getElem_mem hi))
                have HXE := hid hxi
                have HLE2 := hid (ss_le HFW.out ((outs_sub v.fs (X.take j)).subset (List.getElem_mem hi)))
                rw [hxi] at HTO
                clear hxi
                obtain ⟨f, hf⟩ : ∃ f, f = (outs v.fs (X.take j))[i] := ⟨_, rfl⟩
                rw [← hf] at HFI HF HTO HLE2
                clear hf HXE
                obtain ⟨ah, ch, e1, -⟩ := HF.out.h.r.slice
                obtain ⟨as_, cs, e2, -⟩ := HF.out.s.r.slice
                have HE1 := hid e1
                have HE2 := hid e2
                have k1 : WR.cell? ⟨f.b, 1, none⟩ = some (.slice ah f.hs.length ch) := by rw [← e1]; exact HF.out.b.cell 1
                have k2 : WR.cell? ⟨f.b, 2, none⟩ = some (.slice as_ f.ss.length cs) := by rw [← e2]; exact HF.out.b.cell 2
                have HK1 := hid k1
                have HK2 := hid k2
                clear e1 e2 k1 k2
                have HLT := hid (show ts.length + f.hs.length + f.ss.length ≤ 1000000 from by
                  have h1 := HPM.out.length_eq
                  have h2 := HTO.out.length_eq
                  have h3 : f.t.turns.length = f.hs.length + f.ss.length := by
                    show ((f.hs ++ f.ss).map TrnV.t).length = _
                    rw [List.length_map, List.length_append]
                  have h4 := HFW.out.tot
                  have h5 : v.t.fols = v.fs.map FolV.t := rfl
                  rw [h5] at h4
                  rw [List.length_append, List.length_map] at h1
                  rw [List.length_append] at h2
                  have := HN.out
                  omega)
                go_upto_region 20 with (refine wpList_lookup_G rfl (m := .tmp 87) (x := .tmp 88) rfl rfl HM.out (Go.Maps.int_keyed Tryz.underlying3) Tryz.underlying113 (zero_fol _) rfl (key_int HIX.out.1 HIX.out.2) trivial ?_; rw [HFI.out]; simp only [Option.getD_some])
                clear k4
                have fd := (Fr.refl (fun _ => False) WR).drew
                have HSd := hid (HS.out.fre fd)
                have HROWd := hid (HROW.out.fre fd)
                have HFd := hid (HF.out.fr fd (fun _ _ h => h))
                have HCHd := hid (fun t (ht : t ∈ ts) => (HCH.out t ht).1.fre fd)
                have HXd := hid (HXR2.out.fre fd)
                have HDd := hid (Blk.fr HD2.out fd (fun h => h))
                have HRd := hid (HR2.out.fre fd)
                have FRd := hid (FR.out.trans fd (fun _ h _ => h.elim))
                have HK1d := hid (cell_fr HK1.out fd (fun h => h))
                have HK2d := hid (cell_fr HK2.out fd (fun h => h))
                have HSC := hid (fun t (ht : t ∈ ts) => (HCH.out t ht).2)
                clear fd HS HROW HF HCH HXR2 HD2 HR2 FR HK1 HK2 HM
                refine wp_region_scr (.take 0 (.take 1 (.take 2 (.take 3 (.take 4 (.take 6 (.take 7 (.take 8 (.take 9 (.op 5 (.op 10 (.take 11 .done)))))))))))) (fun kz w => (kz ≤ 12 → w.cell? ⟨f.b, 1, none⟩ = some (.slice ah f.hs.length ch) ∧ w.cell? ⟨f.b, 2, none⟩ = some (.slice as_ f.ss.length cs)) ∧ Hid True) (by kernel_rfl) (by kernel_rfl) (by intro c a d v w h; cases d <;> exact h) ?_
                repeat
                  first
                  | (refine wpT_pure rfl rfl rfl ?_; apply Exists.intro; refine ⟨?_, ?_⟩; intro w; (first | (first | (obtain ⟨qa1, qa2⟩ := qa; go_simp <;> rfl)) | (go_simp <;> rfl)); simp only [Act.put, List.setIfInBounds_toArray, List.set_cons_zero, List.set_cons_succ])
                  | (refine wpT_take 12 rfl rfl (by decide +kernel) ⟨fun _ => ⟨HK1d.out, HK2d.out⟩, hid trivial⟩ ?_; apply Exists.intro; refine ⟨?_, ?_⟩; intro w hw; (have qa := hw.1 (Nat.le_refl _); have qb := hw.2); (first | (first | (obtain ⟨qa1, qa2⟩ := qa; go_simp <;> rfl)) | (go_simp <;> rfl)); simp only [Act.put, List.setIfInBounds_toArray, List.set_cons_zero, List.set_cons_succ])
                  | (refine wpT_skip rfl rfl ?_; simp only [Act.put, List.setIfInBounds_toArray, List.set_cons_zero, List.set_cons_succ])
                generalize WR.drew = W4 at *
                have HSRC1 := hid (show Src Tryz.prog W4 6 (.slice ah f.hs.length ch) f.hs.length (f.hs.flatMap TrnV.cells) from by
                  have := Row.src (P := Tryz.prog) HFd.out.h.r (trns_one HFd.out.h.c)
                  rw [HE1.out] at this; exact this)
                have HOFF := hid (fun k (hk : (Value.slice a ts.length c).ownBlock = some k) => HROWd.out.new k hk)
                have HSZ := hid (show w.heap.size ≤ W4.heap.size from FRd.out.size)
                refine wpT_op rfl ?_
                go_wp2_with ((at_builtin; refine wpList_appS rfl (s := .tmp 92) (x := .tmp 96) (t := 117) (tx := 117) rfl Tryz.underlying117 Tryz.underlying117 (.inr ⟨_, rfl⟩) info_trn rfl rfl rfl HROWd.out HSZ.out HSRC1.out (by have := HLT.out; omega) (by have := HLT.out; omega) ?_; intro ab ac wg APP; have HAPP := hid APP; have HK1g := hid (cell_fr HK1d.out APP.fr (fun hk => by have h1 := HOFF.out _ hk; have h2 := H.out.lt f.b (.inl HFd.out.bS); omega)); have HK2g := hid (cell_fr HK2d.out APP.fr (fun hk => by have h1 := HOFF.out _ hk; have h2 := H.out.lt f.b (.inl HFd.out.bS); omega)); clear APP))
                (refine ⟨?_, ?_⟩; focus (intro kz hk hk2 hh; first | (exfalso; simp at hk2; omega) | exact hh | exact (fun h => absurd h (by omega)) | obtain ⟨qa, qb⟩ := hh; first | exact ⟨qa, qb⟩ | (refine ⟨fun h => absurd h (by omega), ?_⟩; first | exact qb | (exact ⟨HK1g.out, HK2g.out⟩)) | (refine ⟨fun h => ?_, ?_⟩; (have qa := qa h); all_goals (first | exact qa | exact qb | (exact ⟨HK1g.out, HK2g.out⟩)))))
                have HSg := hid (HSd.out.fr HAPP.out.fr (fun k hk hu => by have h1 := HOFF.out k hu; have h2 := H.out.lt k hk; omega))
                have HFg := hid (HFd.out.fr HAPP.out.fr (fun k hk hu => by have h1 := HOFF.out k hu; have h2 := H.out.lt k (.inl hk); omega))
                have HCHg := hid (fun t (ht : t ∈ ts) => (HCHd.out t ht).fr HAPP.out.fr (fun k hk hu => by have h1 := HOFF.out k hu; have h2 := H.out.lt k (.inl (HSC.out t ht k hk)); omega))
                have HXg := hid (HXd.out.fr HAPP.out.fr (rows_ne HXd.out HROWd.out (by decide)))
                have HDg := hid (Blk.fr HDd.out HAPP.out.fr (fun hu => HROWd.out.ne HDd.out (by decide) _ hu rfl))
                have HRg := hid (HRd.out.fr HAPP.out.fr (fun k hk hu => by have h1 := HOFF.out k hu; have h2 := (HPS.out k hk).2; omega))
                have FRg := hid (FRd.out.trans HAPP.out.fr (fun k hk hl => by have h1 := HOFF.out k hk; omega))
                have HSRC2 := hid (show Src Tryz.prog wg 6 (.slice as_ f.ss.length cs) f.ss.length (f.ss.flatMap TrnV.cells) from by
                  have := Row.src (P := Tryz.prog) HFg.out.s.r (trns_one HFg.out.s.c)
                  rw [HE2.out] at this; exact this)
                have HSZ2 := hid (show w.heap.size ≤ wg.heap.size from FRg.out.size)
                clear HSd HFd HCHd HXd HDd HRd FRd HSRC1 HROWd
                repeat
                  first
                  | (refine wpT_pure rfl rfl rfl ?_; apply Exists.intro; refine ⟨?_, ?_⟩; intro w; ((go_simp <;> rfl)); simp only [Act.put, List.setIfInBounds_toArray, List.set_cons_zero, List.set_cons_succ])
                  | (refine wpT_take 12 rfl rfl (by decide +kernel) ⟨fun _ => ⟨HK1g.out, HK2g.out⟩, hid trivial⟩ ?_; apply Exists.intro; refine ⟨?_, ?_⟩; intro w hw; (have qa := hw.1 (Nat.le_refl _); have qb := hw.2); ((go_simp <;> rfl)); simp only [Act.put, List.setIfInBounds_toArray, List.set_cons_zero, List.set_cons_succ])
                  | (refine wpT_skip rfl rfl ?_; simp only [Act.put, List.setIfInBounds_toArray, List.set_cons_zero, List.set_cons_succ])
                refine wpT_op rfl ?_
                go_wp2_with ((at_builtin; refine wpList_appS rfl (s := .tmp 97) (x := .tmp 101) (t := 117) (tx := 117) rfl Tryz.underlying117 Tryz.underlying117 (.inr ⟨_, rfl⟩) info_trn rfl rfl rfl HAPP.out.row HSZ2.out HSRC2.out (by have := HLT.out; omega) (by have := HLT.out; omega) ?_; intro ab2 ac2 wh APP; have HAPP2 := hid APP; clear APP))
                (refine ⟨?_, ?_⟩; focus (intro kz hk hk2 hh; first | (exfalso; simp at hk2; omega) | exact hh | exact (fun h => absurd h (by omega)) | obtain ⟨qa, qb⟩ := hh; first | exact ⟨qa, qb⟩ | (refine ⟨fun h => absurd h (by omega), ?_⟩; first | exact qb | (exact ⟨cell_fr HK1g.out HAPP2.out.fr (fun hk => by have h1 := HAPP.out.row.new _ hk; have h2 := H.out.lt f.b (.inl HFg.out.bS); omega), cell_fr HK2g.out HAPP2.out.fr (fun hk => by have h1 := HAPP.out.row.new _ hk; have h2 := H.out.lt f.b (.inl HFg.out.bS); omega)⟩)) | (refine ⟨fun h => ?_, ?_⟩; (have qa := qa h); all_goals (first | exact qa | exact qb | (exact ⟨cell_fr HK1g.out HAPP2.out.fr (fun hk => by have h1 := HAPP.out.row.new _ hk; have h2 := H.out.lt f.b (.inl HFg.out.bS); omega), cell_fr HK2g.out HAPP2.out.fr (fun hk => by have h1 := HAPP.out.row.new _ hk; have h2 := H.out.lt f.b (.inl HFg.out.bS); omega)⟩)))))
                have HOF2 := hid (fun k (hk : (Value.slice ab (ts.length + f.hs.length) ac).ownBlock = some k) => HAPP.out.row.new k hk)
                have HSh := hid (HSg.out.fr HAPP2.out.fr (fun k hk hu => by have h1 := HOF2.out k hu; have h2 := H.out.lt k hk; omega))
                have HFh := hid (HFg.out.fr HAPP2.out.fr (fun k hk hu => by have h1 := HOF2.out k hu; have h2 := H.out.lt k (.inl hk); omega))
                have HCHh := hid (fun t (ht : t ∈ ts) => (HCHg.out t ht).fr HAPP2.out.fr (fun k hk hu => by have h1 := HOF2.out k hu; have h2 := H.out.lt k (.inl (HSC.out t ht k hk)); omega))
                have HXh := hid (HXg.out.fr HAPP2.out.fr (rows_ne HXg.out HAPP.out.row (by decide)))
                have HDh := hid (Blk.fr HDg.out HAPP2.out.fr (fun hu => HAPP.out.row.ne HDg.out (by decide) _ hu rfl))
                have HRh := hid (HRg.out.fr HAPP2.out.fr (fun k hk hu => by have h1 := HOF2.out k hu; have h2 := (HPS.out k hk).2; omega))
                have FRh := hid (FRg.out.trans HAPP2.out.fr (fun k hk hl => by have h1 := HOF2.out k hk; omega))
                have HNN := hid (show (ts ++ f.hs ++ f.ss).length = ts.length + f.hs.length + f.ss.length from by rw [List.length_append, List.length_append])
                have HROWh := hid (show Row 121 6 w.heap.size wh (.slice ab2 (ts ++ f.hs ++ f.ss).length ac2) (ts ++ f.hs ++ f.ss).length ((ts ++ f.hs ++ f.ss).flatMap TrnV.cells) from by
                  rw [HNN.out]
                  exact HAPP2.out.row.cast rfl (by rw [List.flatMap_append, List.flatMap_append]))
                clear HSg HFg HCHg HXg HDg HRg FRg HSRC2 HK1d HK2d
                repeat
                  first
                  | (refine wpT_pure rfl rfl rfl ?_; apply Exists.intro; refine ⟨?_, ?_⟩; intro w; ((go_simp <;> rfl)); simp only [Act.put, List.setIfInBounds_toArray, List.set_cons_zero, List.set_cons_succ])
                  | (refine wpT_take 12 rfl rfl (by decide +kernel) ⟨fun h => absurd h (by omega), hid trivial⟩ ?_; apply Exists.intro; refine ⟨?_, ?_⟩; intro w hw; (have qa := hw.1 (Nat.le_refl _); have qb := hw.2); ((go_simp <;> rfl)); simp only [Act.put, List.setIfInBounds_toArray, List.set_cons_zero, List.set_cons_succ])
                  | (refine wpT_skip rfl rfl ?_; simp only [Act.put, List.setIfInBounds_toArray, List.set_cons_zero, List.set_cons_succ])
                refine wpT_nil ?_
                have HPA := hid (show ((ts ++ f.hs ++ f.ss).map TrnV.t ++ turnsOf ((outs v.fs (X.take (j + 1))).map FolV.t)).Perm (turnsOf (v.fs.map FolV.t)) from by
                  refine List.Perm.trans ?_ HPM.out
                  rw [HTK.out]
                  have e1 : (ts ++ f.hs ++ f.ss).map TrnV.t = ts.map TrnV.t ++ f.t.turns := by
                    show _ = ts.map TrnV.t ++ (f.hs ++ f.ss).map TrnV.t
                    rw [List.append_assoc, List.map_append]
                  rw [e1, List.append_assoc]
                  exact HTO.out.symm.append_left _)
                clear HPM HTO HAPP HAPP2 HOFF HOF2 HK1g HK2g
                go_upto_region 21 with fail
                have k4 : wh.cell? ⟨s, 4, none⟩ = some (.map (some u.mb)) := HSh.out.b.cell 4
                have HMh := hid HSh.out.m
                go_wp2_with (refine wpList_delete_G rfl (m := .tmp 106) (x := .tmp 107) (t := 113) rfl rfl HMh.out keyed_int Tryz.underlying113 rfl (key_int HIX.out.1 HIX.out.2) ?_; intro wz hmz fz; have HMZ := hid hmz; have FZ := hid fz; clear hmz fz k4)
                go_roundw
                case rel =>
                  have own : Own (fun k => k = u.mb) wh u.mb := fun k hk => .inl hk
                  refine ⟨j + 1, ts ++ f.hs ++ f.ss, ab2, ac2, by omega, by go_num, by rw [HNN.out], ?_, HROWh.out.fr FZ.out (fun k hk e => Row_ne_map HROWh.out HMh.out k hk e), fun t ht => ?_, HPA.out, HXh.out.fr FZ.out (fun k hk e => Row_ne_map HXh.out HMh.out k hk e), Blk.fr HDh.out FZ.out (fun e => MapG_ne HMh.out HDh.out e.symm), HRh.out.fr FZ.out (fun k hk e => (HPS.out k hk).1 (by rw [e]; exact HSh.out.mS)), FRh.out.trans FZ.out (fun k hk _ => by rw [hk]; exact HSh.out.mS)⟩
                  · have := SlO.delF HSh.out x FZ.out HMZ.out
                    rw [HTK.out]
                    exact this
                  · rcases List.mem_append.1 ht with g | g
                    · rcases List.mem_append.1 g with g | g
                      · exact ⟨(HCHh.out t g).fr FZ.out ((HCHh.out t g).off HMh.out own), HSC.out t g⟩
                      · exact ⟨(HFh.out.h.c t g).fr FZ.out ((HFh.out.h.c t g).off HMh.out own), HFh.out.h.cS t g⟩
                    · exact ⟨(HFh.out.s.c t g).fr FZ.out ((HFh.out.s.c t g).off HMh.out own), HFh.out.s.cS t g⟩
                case measure => simp [intOf]; omega
            · obtain rfl : j = n := by omega
              have j2 : ¬ (j : Int) < (j : Int) := by omega
              go_wp2_with (fail)
              go_meet
              have hx := HXD.out
              subst hx
              have e1 : (xids ++ [xid]).take j = xids ++ [xid] := List.take_of_length_le (by rw [HNX.out]; exact Nat.le_refl _)
              have hpm := HPM.out
              have hs := HS.out
              rw [e1] at hpm hs
              exact ⟨outs v.fs (xids ++ [xid]), ts, a, c, rfl, by simp, outs_twice _ _, hs, HROW.out, HCH.out, by rw [if_pos (by simp)]; exact collected hpm, HD2.out, HR2.out, FR.out⟩
      by_cases hk6 : kind = 6
      · subst hk6
        go_wp2_with (fail)
        go_meet
        exact ⟨u.fs, [], none, 0, rfl, by simp, by rw [HUE.out], H2.out, Row.nil, fun t ht => by simp at ht, by rw [if_neg (by decide)]; exact List.Perm.refl _, D1.out, HR1.out, HSL.out⟩
      by_cases hk10 : kind = 10
      · subst hk10
        have k7 : W1.cell? ⟨d, 7, none⟩ = some (.string (bs note)) := D1.out.cell 7
        have HRD := hid (Read_go note HNO.out W1)
        have HRE := hid (show readM note = readM note from rfl)
        cases hrd : readM note with
        | none =>
          replace HRE := hid hrd
          rw [hrd] at HRD
          unfold ReadP at HRD
          dsimp only at HRD
          clear hrd
          go_wp2_with (go_at_call 59; refine HRD.out.mono ?_; rintro e w2 ⟨rfl, f⟩; have F2 := hid f; clear f)
          go_meet
          have e1 : midM v.t lsn ⟨10, xid, table, old, new, xids, note⟩ = { v.t with last := lsn } := by
            unfold midM
            rw [if_neg (by simp), if_pos rfl]
            dsimp only
            rw [HRE.out]
          rw [e1, if_neg (by decide)]
          exact MidO.none (H2.out.fre F2.out) HNW.out HVB.out.1 (fun k hk => .inl hk) (fun k hk => .inl hk) (HSL.out.trans F2.out (fun _ h _ => h.elim))
        | some m =>
          replace HRE := hid hrd
          rw [hrd] at HRD
          unfold ReadP at HRD
          dsimp only at HRD
          clear hrd
          go_upto_region 14 with (go_at_call 59; refine HRD.out.mono ?_; rintro e w2 ⟨cc, rfl, hc, f⟩; have F2 := hid f; have HC2 := hid hc; clear f hc)
          clear k7 HRD
          have HOM := hid (show Ok m from ok_read HRE.out)
          have H3 := hid (H2.out.fre F2.out)
          obtain ⟨at_, ct, et, -⟩ := H3.out.t.slice
          have HROW := hid (show Row 125 2 0 w2 (.slice at_ u.ts.length ct) u.ts.length (u.ts.flatMap TimV.cells) from by rw [← et]; exact H3.out.t)
          have HET := hid et
          have k3 : w2.cell? ⟨s, 3, none⟩ = some (.slice at_ u.ts.length ct) := by rw [← et]; exact H3.out.b.cell 3
          have HTL := hid (show u.ts.length ≤ 1000000 from by have h1 := HFM.out.ts; have h2 : u.t.times.length = u.ts.length := List.length_map ..; have := HN.out; omega)
          have HTS := hid (HROW.out.ne H3.out.b (by decide))
          clear et
          go_wp2_with (at_builtin; refine wpList_app1 rfl (s := .tmp 64) (x := .tmp 68) (t := 112) rfl Tryz.underlying112 info_tim rfl rfl rfl HROW.out (Nat.zero_le _) rfl (by simp [Value.oneCell']) (by have := HTL.out; omega) (by have := HTL.out; omega) ?_; intro ab ac wg APP; have HAPP := hid APP; have BG := hid (Blk.fr H3.out.b APP.fr (fun hk => HTS.out _ hk rfl)); clear APP k3; have k3 : wg.cell? ⟨s, 3, none⟩ = some (.slice at_ u.ts.length ct) := (by rw [← HET.out]; exact BG.out.cell 3); have z3 : wg.frozen? ⟨s, 3, none⟩ = false := BG.out.frozen 3)
          go_meet
          have fs := (Fr.refl (fun k => k = s) wg).setCell ⟨s, 3, none⟩ (.slice ab (u.ts.length + 1) ac) (fun _ => rfl)
          have e1 : midM v.t lsn ⟨10, xid, table, old, new, xids, note⟩ = { v.t with last := lsn, times := v.t.times ++ [(lsn, m)] } := by
            unfold midM
            rw [if_neg (by simp), if_pos rfl]
            dsimp only
            rw [HRE.out]
          rw [e1, if_neg (by decide)]
          have app := HAPP.out
          rw [← HET.out] at app
          have g1 := F2.out.size
          have g2 := HAPP.out.fr.size
          have g3 := HWS.out
          have hb : Blk (wg.setCell ⟨s, 3, none⟩ (.slice ab (u.ts.length + 1) ac)) s ({ u with vt := .slice ab (u.ts.length + 1) ac, ts := u.ts ++ [(⟨lsn, cc, m⟩ : TimV)] } : SltV).cells 116 := BG.out.set 3 (.slice ab (u.ts.length + 1) ac)
          have hcr : CR 225 (fun k => W1.heap.size ≤ k ∧ k < w2.heap.size) (wg.setCell ⟨s, 3, none⟩ (.slice ab (u.ts.length + 1) ac)) cc m := (HC2.out.fr HAPP.out.fr (fun k hk hu => by have := H2.out.lt k (.inl (H2.out.tS k (by rw [HET.out]; exact hu))); omega)).fr fs (fun k hk e => by have := H2.out.b.lt; omega)
          have hfin := SlO.timeF (T := fun k => S k ∨ (.slice ab (u.ts.length + 1) ac : Value).ownBlock = some k) (D := fun k => C k ∨ (W1.heap.size ≤ k ∧ k < w2.heap.size)) H3.out (x := ⟨lsn, cc, m⟩) app fs hb ⟨_, BG.out⟩ ⟨CR.wide hcr (fun k hk => .inr hk) (fun k hk => by
              rw [World.size_setCell]
              rcases hk with hk | hk
              · have := H2.out.lt k (.inr hk); omega
              · omega), HOM.out⟩ (fun k hk => .inl hk) (fun k hk => .inr hk) (fun k hk => .inl hk) (fun k hk ht => by
              rcases hk with hk | hk
              · rcases ht with ht | ht
                · exact H2.out.CS k hk ht
                · rcases HAPP.out.at_ k ht with e | e
                  · exact H2.out.CS k hk (H2.out.tS k (by rw [HET.out]; exact e))
                  · have := H2.out.lt k (.inr hk); omega
              · rcases ht with ht | ht
                · have := H2.out.lt k (.inl ht); omega
                · rcases HAPP.out.at_ k ht with e | e
                  · have := H2.out.lt k (.inl (H2.out.tS k (by rw [HET.out]; exact e))); omega
                  · omega) (fun k hk => by
              rw [World.size_setCell]
              rcases hk with (hk | hk) | hk | hk
              · have := H2.out.lt k (.inl hk); omega
              · have := HAPP.out.row.lt hk; omega
              · have := H2.out.lt k (.inr hk); omega
              · omega)
          refine MidO.none hfin ?_ HVB.out.1 (fun k hk => ?_) (fun k hk => ?_) ?_
          · show ({ u.t with times := (u.ts ++ [(⟨lsn, cc, m⟩ : TimV)]).map TimV.t } : Slt) = _
            rw [List.map_append, HNW.out]
            show ({ v.t with last := lsn, times := u.t.times ++ [(lsn, m)] } : Slt) = _
            rw [HNW.out]
          · rcases hk with hk | hk
            · exact .inl hk
            · rcases HAPP.out.at_ k hk with e | e
              · exact .inl (H2.out.tS k (by rw [HET.out]; exact e))
              · exact .inr (by omega)
          · rcases hk with hk | hk
            · exact .inl hk
            · exact .inr (by omega)
          · exact ((HSL.out.trans F2.out (fun _ h _ => h.elim)).trans HAPP.out.fr (fun k hk _ => H2.out.tS k (by rw [HET.out]; exact hk))).trans fs (fun k hk _ => by rw [hk]; exact H2.out.bS)
      by_cases hk2 : kind = 2
      · subst hk2
        go_upto_region 11 with fail
        have fd := (Fr.refl (fun _ => False) W1).drew
        have H3 := hid (H2.out.fre fd)
        have D3 := hid (Blk.fr D1.out fd (fun h => h))
        have HR3 := hid (HR1.out.fre fd)
        have F3 := hid (HSL.out.trans fd (fun _ h _ => h.elim))
        have HW3 := hid (show w.heap.size ≤ W1.drew.heap.size from Nat.le_trans HWS.out fd.size)
        clear fd
        obtain ⟨nt, tl, hnt, -, hlast, -⟩ := last_at H3.out.tne
        have HLS := hid hlast
        have HTL := hid (show u.ts.length ≤ 1099511627776 from by have h1 := HFM.out.ts; have h2 : u.t.times.length = u.ts.length := List.length_map ..; have := HN.out; omega)
        clear hnt hlast
        refine wp_region_scr (.take 0 (.take 1 (.take 2 (.take 3 (.take 4 (.take 5 (.op 6 (.op 7 (.op 8 .done))))))))) (fun kz w => (kz ≤ 9 → w.cell? ⟨d, 1, none⟩ = some (.int .i64 xid) ∧ w.rangeAt d 0 [.int .i64 2, .int .i64 xid, .int .i64 table, .slice ao old.length co, .slice an new.length cn, .slice ae ne ce, .slice ax xids.length cx, .string (bs note)]) ∧ Hid True) (by kernel_rfl) (by kernel_rfl) (by intro c a d v w h; cases d <;> exact h) ?_
        repeat
          first
          | (refine wpT_pure rfl rfl rfl ?_; apply Exists.intro; refine ⟨?_, ?_⟩; intro w; (first | (first | exact run_load_mid _ _ rfl d _ rfl _ _ qa.2 Tryz.underlying35 rfl size_rec | (obtain ⟨qa1, qa2⟩ := qa; go_simp <;> rfl)) | (go_simp <;> rfl)); simp only [Act.put, List.setIfInBounds_toArray, List.set_cons_zero, List.set_cons_succ])
          | (refine wpT_take 9 rfl rfl (by decide +kernel) ⟨fun _ => ⟨D3.out.cell 1, D3.out.all⟩, hid trivial⟩ ?_; apply Exists.intro; refine ⟨?_, ?_⟩; intro w hw; (have qa := hw.1 (Nat.le_refl _); have qb := hw.2); (first | (first | exact run_load_mid _ _ rfl d _ rfl _ _ qa.2 Tryz.underlying35 rfl size_rec | (obtain ⟨qa1, qa2⟩ := qa; go_simp <;> rfl)) | (go_simp <;> rfl)); simp only [Act.put, List.setIfInBounds_toArray, List.set_cons_zero, List.set_cons_succ])
          | (refine wpT_skip rfl rfl ?_; simp only [Act.put, List.setIfInBounds_toArray, List.set_cons_zero, List.set_cons_succ])
        generalize W1.drew = W3 at *
        have HCH := hid (change_go H3.out HTL.out HR3.out HTT.out HLS.out)
        have HCE := hid (show chgM (atM tl.m table).1 ⟨2, xid, table, old, new, xids, note⟩ = chgM (atM tl.m table).1 ⟨2, xid, table, old, new, xids, note⟩ from rfl)
        dsimp only at HCH
        generalize hcm : chgM (atM tl.m table).1 ⟨2, xid, table, old, new, xids, note⟩ = cm at HCH
        replace HCE := hid hcm
        clear hcm
        obtain ⟨ck, ct, cnn, cno, cnw⟩ := cm
        unfold RecV.cells ChgV.cells at HCH
        dsimp only at HCH
        refine wpT_op rfl ?_
        go_wp2_with ((go_at_call 58; refine HCH.out.mono ?_; rintro e w4 ⟨vn1, vo1, vw1, rfl, hr, f⟩; obtain ⟨o1, e1, h1, _⟩ := hr.n.slice; obtain ⟨o2, e2, h2, _⟩ := hr.o.slice; obtain ⟨o3, e3, h3, _⟩ := hr.w.slice; dsimp only at h1 h2 h3; subst h1 h2 h3; have H4 := hid (H3.out.fre f); have D4 := hid (Blk.fr D3.out f (fun h => h)); have F4 := hid (F3.out.trans f (fun _ h _ => h.elim)); have HC4 := hid (hr.low (Nat.zero_le _)); have HGE := hid (fun k (hk : (ChgV.mk ⟨ck, ct, cnn, cno, cnw⟩ (.slice o1 cnn.length e1) (.slice o2 cno.length e2) (.slice o3 cnw.length e3)).has k) => Nat.le_trans HW3.out (hr.ge hk)); have HW4 := hid (Nat.le_trans HW3.out f.size); clear hr f))
        (refine ⟨?_, ?_⟩; focus (intro kz hk hk2 hh; first | (exfalso; simp at hk2; omega) | exact hh | exact (fun h => absurd h (by omega)) | obtain ⟨qa, qb⟩ := hh; first | exact ⟨qa, qb⟩ | (refine ⟨fun h => absurd h (by omega), ?_⟩; first | exact qb | (exact ⟨D4.out.cell 1, D4.out.all⟩)) | (refine ⟨fun h => ?_, ?_⟩; (have qa := qa h); all_goals (first | exact qa | exact qb | (exact ⟨D4.out.cell 1, D4.out.all⟩)))))
        clear HCH D3 HR3 F3 HW3
        repeat
          first
          | (refine wpT_pure rfl rfl rfl ?_; apply Exists.intro; refine ⟨?_, ?_⟩; intro w; ((go_simp <;> rfl)); simp only [Act.put, List.setIfInBounds_toArray, List.set_cons_zero, List.set_cons_succ])
          | (refine wpT_take 9 rfl rfl (by decide +kernel) ⟨fun _ => ⟨D4.out.cell 1, D4.out.all⟩, hid trivial⟩ ?_; apply Exists.intro; refine ⟨?_, ?_⟩; intro w hw; (have qa := hw.1 (Nat.le_refl _); have qb := hw.2); ((go_simp <;> rfl)); simp only [Act.put, List.setIfInBounds_toArray, List.set_cons_zero, List.set_cons_succ])
          | (refine wpT_skip rfl rfl ?_; simp only [Act.put, List.setIfInBounds_toArray, List.set_cons_zero, List.set_cons_succ])
        have HADD := hid (add_go H4.out (by have := HVB.out.2; have := HN.out; omega) HXX.out (t := ⟨lsn, ⟨⟨ck, ct, cnn, cno, cnw⟩, .slice o1 cnn.length e1, .slice o2 cno.length e2, .slice o3 cnw.length e3⟩⟩) HC4.out (fun k hk hc => by have h1 := H.out.lt k (.inr hc); have h2 := HGE.out k hk; omega) (fun f hf => by have h1 := ss_le HFM.out hf; have := HN.out; omega))
        unfold TrnV.cells ChgV.cells TrnV.t at HADD
        dsimp only at HADD
        refine wpT_op rfl ?_
        go_wp2_with (fail)
        (refine ⟨?_, ?_⟩; focus (intro kz hk hk2 hh; first | (exfalso; simp at hk2; omega) | exact hh | exact (fun h => absurd h (by omega)) | obtain ⟨qa, qb⟩ := hh; first | exact ⟨qa, qb⟩ | (refine ⟨fun h => absurd h (by omega), ?_⟩; first | exact qb | (exact ⟨D4.out.cell 1, D4.out.all⟩)) | (refine ⟨fun h => ?_, ?_⟩; (have qa := qa h); all_goals (first | exact qa | exact qb | (exact ⟨D4.out.cell 1, D4.out.all⟩)))))
        refine wpT_op rfl ?_
        go_wp2_with ((go_at_call 57; refine HADD.out.mono ?_; rintro e w5 ⟨rfl, v5, h5, e5, n5, f5⟩; have H5 := hid h5; have E5 := hid e5; have N5 := hid n5; have F5 := hid (F4.out.trans f5 (fun k hk _ => hk)); have D5 := hid (Blk.fr D4.out f5 (fun hk => by have h1 := H.out.lt d (.inl hk); have h2 := HDE.out; omega)); clear h5 e5 n5 f5))
        (refine ⟨?_, ?_⟩; focus (intro kz hk hk2 hh; first | (exfalso; simp at hk2; omega) | exact hh | exact (fun h => absurd h (by omega)) | obtain ⟨qa, qb⟩ := hh; first | exact ⟨qa, qb⟩ | (refine ⟨fun h => absurd h (by omega), ?_⟩; first | exact qb | (exact ⟨D5.out.cell 1, D5.out.all⟩)) | (refine ⟨fun h => ?_, ?_⟩; (have qa := qa h); all_goals (first | exact qa | exact qb | (exact ⟨D5.out.cell 1, D5.out.all⟩)))))
        refine wpT_nil ?_
        go_wp2_with (fail)
        go_meet
        have e1 : midM v.t lsn ⟨2, xid, table, old, new, xids, note⟩ = addM { v.t with last := lsn } xid ⟨lsn, chgM (atM v.t.now table).1 ⟨2, xid, table, old, new, xids, note⟩⟩ := by
          unfold midM
          rw [if_pos (by simp)]
        have e2 : v.t.now = tl.m := by
          rw [← now_last HLS.out, HNW.out]
          rfl
        rw [e1, if_neg (by decide), e2, HCE.out]
        refine MidO.none H5.out ?_ (by have := N5.out; have := HVB.out.2; omega) (fun k hk => ?_) (fun k hk => .inl hk) F5.out
        · rw [E5.out, HNW.out]
        · rcases hk with hk | hk | hk
          · exact .inl hk
          · exact .inr (HGE.out k hk)
          · exact .inr (Nat.le_trans HW4.out hk.1)
      by_cases hk3 : kind = 3
      · subst hk3
        go_upto_region 11 with fail
        have fd := (Fr.refl (fun _ => False) W1).drew
        have H3 := hid (H2.out.fre fd)
        have D3 := hid (Blk.fr D1.out fd (fun h => h))
        have HR3 := hid (HR1.out.fre fd)
        have F3 := hid (HSL.out.trans fd (fun _ h _ => h.elim))
        have HW3 := hid (show w.heap.size ≤ W1.drew.heap.size from Nat.le_trans HWS.out fd.size)
        clear fd
        obtain ⟨nt, tl, hnt, -, hlast, -⟩ := last_at H3.out.tne
        have HLS := hid hlast
        have HTL := hid (show u.ts.length ≤ 1099511627776 from by have h1 := HFM.out.ts; have h2 : u.t.times.length = u.ts.length := List.length_map ..; have := HN.out; omega)
        clear hnt hlast
        refine wp_region_scr (.take 0 (.take 1 (.take 2 (.take 3 (.take 4 (.take 5 (.op 6 (.op 7 (.op 8 .done))))))))) (fun kz w => (kz ≤ 9 → w.cell? ⟨d, 1, none⟩ = some (.int .i64 xid) ∧ w.rangeAt d 0 [.int .i64 3, .int .i64 xid, .int .i64 table, .slice ao old.length co, .slice an new.length cn, .slice ae ne ce, .slice ax xids.length cx, .string (bs note)]) ∧ Hid True) (by kernel_rfl) (by kernel_rfl) (by intro c a d v w h; cases d <;> exact h) ?_
        repeat
          first
          | (refine wpT_pure rfl rfl rfl ?_; apply Exists.intro; refine ⟨?_, ?_⟩; intro w; (first | (first | exact run_load_mid _ _ rfl d _ rfl _ _ qa.2 Tryz.underlying35 rfl size_rec | (obtain ⟨qa1, qa2⟩ := qa; go_simp <;> rfl)) | (go_simp <;> rfl)); simp only [Act.put, List.setIfInBounds_toArray, List.set_cons_zero, List.set_cons_succ])
          | (refine wpT_take 9 rfl rfl (by decide +kernel) ⟨fun _ => ⟨D3.out.cell 1, D3.out.all⟩, hid trivial⟩ ?_; apply Exists.intro; refine ⟨?_, ?_⟩; intro w hw; (have qa := hw.1 (Nat.le_refl _); have qb := hw.2); (first | (first | exact run_load_mid _ _ rfl d _ rfl _ _ qa.2 Tryz.underlying35 rfl size_rec | (obtain ⟨qa1, qa2⟩ := qa; go_simp <;> rfl)) | (go_simp <;> rfl)); simp only [Act.put, List.setIfInBounds_toArray, List.set_cons_zero, List.set_cons_succ])
          | (refine wpT_skip rfl rfl ?_; simp only [Act.put, List.setIfInBounds_toArray, List.set_cons_zero, List.set_cons_succ])
        generalize W1.drew = W3 at *
        have HCH := hid (change_go H3.out HTL.out HR3.out HTT.out HLS.out)
        have HCE := hid (show chgM (atM tl.m table).1 ⟨3, xid, table, old, new, xids, note⟩ = chgM (atM tl.m table).1 ⟨3, xid, table, old, new, xids, note⟩ from rfl)
        dsimp only at HCH
        generalize hcm : chgM (atM tl.m table).1 ⟨3, xid, table, old, new, xids, note⟩ = cm at HCH
        replace HCE := hid hcm
        clear hcm
        obtain ⟨ck, ct, cnn, cno, cnw⟩ := cm
        unfold RecV.cells ChgV.cells at HCH
        dsimp only at HCH
        refine wpT_op rfl ?_
        go_wp2_with ((go_at_call 58; refine HCH.out.mono ?_; rintro e w4 ⟨vn1, vo1, vw1, rfl, hr, f⟩; obtain ⟨o1, e1, h1, _⟩ := hr.n.slice; obtain ⟨o2, e2, h2, _⟩ := hr.o.slice; obtain ⟨o3, e3, h3, _⟩ := hr.w.slice; dsimp only at h1 h2 h3; subst h1 h2 h3; have H4 := hid (H3.out.fre f); have D4 := hid (Blk.fr D3.out f (fun h => h)); have F4 := hid (F3.out.trans f (fun _ h _ => h.elim)); have HC4 := hid (hr.low (Nat.zero_le _)); have HGE := hid (fun k (hk : (ChgV.mk ⟨ck, ct, cnn, cno, cnw⟩ (.slice o1 cnn.length e1) (.slice o2 cno.length e2) (.slice o3 cnw.length e3)).has k) => Nat.le_trans HW3.out (hr.ge hk)); have HW4 := hid (Nat.le_trans HW3.out f.size); clear hr f))
        (refine ⟨?_, ?_⟩; focus (intro kz hk hk2 hh; first | (exfalso; simp at hk2; omega) | exact hh | exact (fun h => absurd h (by omega)) | obtain ⟨qa, qb⟩ := hh; first | exact ⟨qa, qb⟩ | (refine ⟨fun h => absurd h (by omega), ?_⟩; first | exact qb | (exact ⟨D4.out.cell 1, D4.out.all⟩)) | (refine ⟨fun h => ?_, ?_⟩; (have qa := qa h); all_goals (first | exact qa | exact qb | (exact ⟨D4.out.cell 1, D4.out.all⟩)))))
        clear HCH D3 HR3 F3 HW3
        repeat
          first
          | (refine wpT_pure rfl rfl rfl ?_; apply Exists.intro; refine ⟨?_, ?_⟩; intro w; ((go_simp <;> rfl)); simp only [Act.put, List.setIfInBounds_toArray, List.set_cons_zero, List.set_cons_succ])
          | (refine wpT_take 9 rfl rfl (by decide +kernel) ⟨fun _ => ⟨D4.out.cell 1, D4.out.all⟩, hid trivial⟩ ?_; apply Exists.intro; refine ⟨?_, ?_⟩; intro w hw; (have qa := hw.1 (Nat.le_refl _); have qb := hw.2); ((go_simp <;> rfl)); simp only [Act.put, List.setIfInBounds_toArray, List.set_cons_zero, List.set_cons_succ])
          | (refine wpT_skip rfl rfl ?_; simp only [Act.put, List.setIfInBounds_toArray, List.set_cons_zero, List.set_cons_succ])
        have HADD := hid (add_go H4.out (by have := HVB.out.2; have := HN.out; omega) HXX.out (t := ⟨lsn, ⟨⟨ck, ct, cnn, cno, cnw⟩, .slice o1 cnn.length e1, .slice o2 cno.length e2, .slice o3 cnw.length e3⟩⟩) HC4.out (fun k hk hc => by have h1 := H.out.lt k (.inr hc); have h2 := HGE.out k hk; omega) (fun f hf => by have h1 := ss_le HFM.out hf; have := HN.out; omega))
        unfold TrnV.cells ChgV.cells TrnV.t at HADD
        dsimp only at HADD
        refine wpT_op rfl ?_
        go_wp2_with (fail)
        (refine ⟨?_, ?_⟩; focus (intro kz hk hk2 hh; first | (exfalso; simp at hk2; omega) | exact hh | exact (fun h => absurd h (by omega)) | obtain ⟨qa, qb⟩ := hh; first | exact ⟨qa, qb⟩ | (refine ⟨fun h => absurd h (by omega), ?_⟩; first | exact qb | (exact ⟨D4.out.cell 1, D4.out.all⟩)) | (refine ⟨fun h => ?_, ?_⟩; (have qa := qa h); all_goals (first | exact qa | exact qb | (exact ⟨D4.out.cell 1, D4.out.all⟩)))))
        refine wpT_op rfl ?_
        go_wp2_with ((go_at_call 57; refine HADD.out.mono ?_; rintro e w5 ⟨rfl, v5, h5, e5, n5, f5⟩; have H5 := hid h5; have E5 := hid e5; have N5 := hid n5; have F5 := hid (F4.out.trans f5 (fun k hk _ => hk)); have D5 := hid (Blk.fr D4.out f5 (fun hk => by have h1 := H.out.lt d (.inl hk); have h2 := HDE.out; omega)); clear h5 e5 n5 f5))
        (refine ⟨?_, ?_⟩; focus (intro kz hk hk2 hh; first | (exfalso; simp at hk2; omega) | exact hh | exact (fun h => absurd h (by omega)) | obtain ⟨qa, qb⟩ := hh; first | exact ⟨qa, qb⟩ | (refine ⟨fun h => absurd h (by omega), ?_⟩; first | exact qb | (exact ⟨D5.out.cell 1, D5.out.all⟩)) | (refine ⟨fun h => ?_, ?_⟩; (have qa := qa h); all_goals (first | exact qa | exact qb | (exact ⟨D5.out.cell 1, D5.out.all⟩)))))
        refine wpT_nil ?_
        go_wp2_with (fail)
        go_meet
        have e1 : midM v.t lsn ⟨3, xid, table, old, new, xids, note⟩ = addM { v.t with last := lsn } xid ⟨lsn, chgM (atM v.t.now table).1 ⟨3, xid, table, old, new, xids, note⟩⟩ := by
          unfold midM
          rw [if_pos (by simp)]
        have e2 : v.t.now = tl.m := by
          rw [← now_last HLS.out, HNW.out]
          rfl
        rw [e1, if_neg (by decide), e2, HCE.out]
        refine MidO.none H5.out ?_ (by have := N5.out; have := HVB.out.2; omega) (fun k hk => ?_) (fun k hk => .inl hk) F5.out
        · rw [E5.out, HNW.out]
        · rcases hk with hk | hk | hk
          · exact .inl hk
          · exact .inr (HGE.out k hk)
          · exact .inr (Nat.le_trans HW4.out hk.1)
      by_cases hk4 : kind = 4
      · subst hk4
        go_upto_region 11 with fail
        have fd := (Fr.refl (fun _ => False) W1).drew
        have H3 := hid (H2.out.fre fd)
        have D3 := hid (Blk.fr D1.out fd (fun h => h))
        have HR3 := hid (HR1.out.fre fd)
        have F3 := hid (HSL.out.trans fd (fun _ h _ => h.elim))
        have HW3 := hid (show w.heap.size ≤ W1.drew.heap.size from Nat.le_trans HWS.out fd.size)
        clear fd
        obtain ⟨nt, tl, hnt, -, hlast, -⟩ := last_at H3.out.tne
        have HLS := hid hlast
        have HTL := hid (show u.ts.length ≤ 1099511627776 from by have h1 := HFM.out.ts; have h2 : u.t.times.length = u.ts.length := List.length_map ..; have := HN.out; omega)
        clear hnt hlast
        refine wp_region_scr (.take 0 (.take 1 (.take 2 (.take 3 (.take 4 (.take 5 (.op 6 (.op 7 (.op 8 .done))))))))) (fun kz w => (kz ≤ 9 → w.cell? ⟨d, 1, none⟩ = some (.int .i64 xid) ∧ w.rangeAt d 0 [.int .i64 4, .int .i64 xid, .int .i64 table, .slice ao old.length co, .slice an new.length cn, .slice ae ne ce, .slice ax xids.length cx, .string (bs note)]) ∧ Hid True) (by kernel_rfl) (by kernel_rfl) (by intro c a d v w h; cases d <;> exact h) ?_
        repeat
          first
          | (refine wpT_pure rfl rfl rfl ?_; apply Exists.intro; refine ⟨?_, ?_⟩; intro w; (first | (first | exact run_load_mid _ _ rfl d _ rfl _ _ qa.2 Tryz.underlying35 rfl size_rec | (obtain ⟨qa1, qa2⟩ := qa; go_simp <;> rfl)) | (go_simp <;> rfl)); simp only [Act.put, List.setIfInBounds_toArray, List.set_cons_zero, List.set_cons_succ])
          | (refine wpT_take 9 rfl rfl (by decide +kernel) ⟨fun _ => ⟨D3.out.cell 1, D3.out.all⟩, hid trivial⟩ ?_; apply Exists.intro; refine ⟨?_, ?_⟩; intro w hw; (have qa := hw.1 (Nat.le_refl _); have qb := hw.2); (first | (first | exact run_load_mid _ _ rfl d _ rfl _ _ qa.2 Tryz.underlying35 rfl size_rec | (obtain ⟨qa1, qa2⟩ := qa; go_simp <;> rfl)) | (go_simp <;> rfl)); simp only [Act.put, List.setIfInBounds_toArray, List.set_cons_zero, List.set_cons_succ])
          | (refine wpT_skip rfl rfl ?_; simp only [Act.put, List.setIfInBounds_toArray, List.set_cons_zero, List.set_cons_succ])
        generalize W1.drew = W3 at *
        have HCH := hid (change_go H3.out HTL.out HR3.out HTT.out HLS.out)
        have HCE := hid (show chgM (atM tl.m table).1 ⟨4, xid, table, old, new, xids, note⟩ = chgM (atM tl.m table).1 ⟨4, xid, table, old, new, xids, note⟩ from rfl)
        dsimp only at HCH
        generalize hcm : chgM (atM tl.m table).1 ⟨4, xid, table, old, new, xids, note⟩ = cm at HCH
        replace HCE := hid hcm
        clear hcm
        obtain ⟨ck, ct, cnn, cno, cnw⟩ := cm
        unfold RecV.cells ChgV.cells at HCH
        dsimp only at HCH
        refine wpT_op rfl ?_
        go_wp2_with ((go_at_call 58; refine HCH.out.mono ?_; rintro e w4 ⟨vn1, vo1, vw1, rfl, hr, f⟩; obtain ⟨o1, e1, h1, _⟩ := hr.n.slice; obtain ⟨o2, e2, h2, _⟩ := hr.o.slice; obtain ⟨o3, e3, h3, _⟩ := hr.w.slice; dsimp only at h1 h2 h3; subst h1 h2 h3; have H4 := hid (H3.out.fre f); have D4 := hid (Blk.fr D3.out f (fun h => h)); have F4 := hid (F3.out.trans f (fun _ h _ => h.elim)); have HC4 := hid (hr.low (Nat.zero_le _)); have HGE := hid (fun k (hk : (ChgV.mk ⟨ck, ct, cnn, cno, cnw⟩ (.slice o1 cnn.length e1) (.slice o2 cno.length e2) (.slice o3 cnw.length e3)).has k) => Nat.le_trans HW3.out (hr.ge hk)); have HW4 := hid (Nat.le_trans HW3.out f.size); clear hr f))
        (refine ⟨?_, ?_⟩; focus (intro kz hk hk2 hh; first | (exfalso; simp at hk2; omega) | exact hh | exact (fun h => absurd h (by omega)) | obtain ⟨qa, qb⟩ := hh; first | exact ⟨qa, qb⟩ | (refine ⟨fun h => absurd h (by omega), ?_⟩; first | exact qb | (exact ⟨D4.out.cell 1, D4.out.all⟩)) | (refine ⟨fun h => ?_, ?_⟩; (have qa := qa h); all_goals (first | exact qa | exact qb | (exact ⟨D4.out.cell 1, D4.out.all⟩)))))
        clear HCH D3 HR3 F3 HW3
        repeat
          first
          | (refine wpT_pure rfl rfl rfl ?_; apply Exists.intro; refine ⟨?_, ?_⟩; intro w; ((go_simp <;> rfl)); simp only [Act.put, List.setIfInBounds_toArray, List.set_cons_zero, List.set_cons_succ])
          | (refine wpT_take 9 rfl rfl (by decide +kernel) ⟨fun _ => ⟨D4.out.cell 1, D4.out.all⟩, hid trivial⟩ ?_; apply Exists.intro; refine ⟨?_, ?_⟩; intro w hw; (have qa := hw.1 (Nat.le_refl _); have qb := hw.2); ((go_simp <;> rfl)); simp only [Act.put, List.setIfInBounds_toArray, List.set_cons_zero, List.set_cons_succ])
          | (refine wpT_skip rfl rfl ?_; simp only [Act.put, List.setIfInBounds_toArray, List.set_cons_zero, List.set_cons_succ])
        have HADD := hid (add_go H4.out (by have := HVB.out.2; have := HN.out; omega) HXX.out (t := ⟨lsn, ⟨⟨ck, ct, cnn, cno, cnw⟩, .slice o1 cnn.length e1, .slice o2 cno.length e2, .slice o3 cnw.length e3⟩⟩) HC4.out (fun k hk hc => by have h1 := H.out.lt k (.inr hc); have h2 := HGE.out k hk; omega) (fun f hf => by have h1 := ss_le HFM.out hf; have := HN.out; omega))
        unfold TrnV.cells ChgV.cells TrnV.t at HADD
        dsimp only at HADD
        refine wpT_op rfl ?_
        go_wp2_with (fail)
        (refine ⟨?_, ?_⟩; focus (intro kz hk hk2 hh; first | (exfalso; simp at hk2; omega) | exact hh | exact (fun h => absurd h (by omega)) | obtain ⟨qa, qb⟩ := hh; first | exact ⟨qa, qb⟩ | (refine ⟨fun h => absurd h (by omega), ?_⟩; first | exact qb | (exact ⟨D4.out.cell 1, D4.out.all⟩)) | (refine ⟨fun h => ?_, ?_⟩; (have qa := qa h); all_goals (first | exact qa | exact qb | (exact ⟨D4.out.cell 1, D4.out.all⟩)))))
        refine wpT_op rfl ?_
        go_wp2_with ((go_at_call 57; refine HADD.out.mono ?_; rintro e w5 ⟨rfl, v5, h5, e5, n5, f5⟩; have H5 := hid h5; have E5 := hid e5; have N5 := hid n5; have F5 := hid (F4.out.trans f5 (fun k hk _ => hk)); have D5 := hid (Blk.fr D4.out f5 (fun hk => by have h1 := H.out.lt d (.inl hk); have h2 := HDE.out; omega)); clear h5 e5 n5 f5))
        (refine ⟨?_, ?_⟩; focus (intro kz hk hk2 hh; first | (exfalso; simp at hk2; omega) | exact hh | exact (fun h => absurd h (by omega)) | obtain ⟨qa, qb⟩ := hh; first | exact ⟨qa, qb⟩ | (refine ⟨fun h => absurd h (by omega), ?_⟩; first | exact qb | (exact ⟨D5.out.cell 1, D5.out.all⟩)) | (refine ⟨fun h => ?_, ?_⟩; (have qa := qa h); all_goals (first | exact qa | exact qb | (exact ⟨D5.out.cell 1, D5.out.all⟩)))))
        refine wpT_nil ?_
        go_wp2_with (fail)
        go_meet
        have e1 : midM v.t lsn ⟨4, xid, table, old, new, xids, note⟩ = addM { v.t with last := lsn } xid ⟨lsn, chgM (atM v.t.now table).1 ⟨4, xid, table, old, new, xids, note⟩⟩ := by
          unfold midM
          rw [if_pos (by simp)]
        have e2 : v.t.now = tl.m := by
          rw [← now_last HLS.out, HNW.out]
          rfl
        rw [e1, if_neg (by decide), e2, HCE.out]
        refine MidO.none H5.out ?_ (by have := N5.out; have := HVB.out.2; omega) (fun k hk => ?_) (fun k hk => .inl hk) F5.out
        · rw [E5.out, HNW.out]
        · rcases hk with hk | hk | hk
          · exact .inl hk
          · exact .inr (HGE.out k hk)
          · exact .inr (Nat.le_trans HW4.out hk.1)
      have b2 : ((kind : Int) == 2) = false := beq_eq_false_iff_ne.2 hk2
      have b3 : ((kind : Int) == 3) = false := beq_eq_false_iff_ne.2 hk3
      have b4 : ((kind : Int) == 4) = false := beq_eq_false_iff_ne.2 hk4
      have b5 : ((kind : Int) == 5) = false := beq_eq_false_iff_ne.2 hk5
      have b6 : ((kind : Int) == 6) = false := beq_eq_false_iff_ne.2 hk6
      have b10 : ((kind : Int) == 10) = false := beq_eq_false_iff_ne.2 hk10
      have HE1 := hid (show midM v.t lsn ⟨kind, xid, table, old, new, xids, note⟩ = { v.t with last := lsn } from by
        unfold midM
        rw [if_neg (by simp [hk2, hk3, hk4]), if_neg hk10, if_neg (by simp [hk5, hk6])])
      have HK5 := hid hk5
      clear hk2 hk3 hk4 hk5 hk6 hk10
      go_wp2_with (fail)
      go_meet
      rw [HE1.out, if_neg HK5.out]
      exact MidO.none H2.out HNW.out HVB.out.1 (fun k hk => .inl hk) (fun k hk => .inl hk) HSL.out
    case rest =>
      obtain ⟨fs', ts, a, c, rfl, hk, hou, hs, hrow, hch, hpm, hd, hrs, hf⟩ := hcut
      generalize wc = WB at *
      have HKK := hid hk
      have HOU := hid hou
      have HSB := hid hs
      have HROWB := hid hrow
      have HCHB := hid hch
      have HPMB := hid hpm
      have HDB := hid hd
      have HRB := hid hrs
      have FB := hid hf
      clear hk hou hs hrow hch hpm hd hrs hf H2 D1 HR1
      go_upto_region 23 with fail
      go_cut [115, 116, 117] (fun s78 s79 s80 wx => ∃ (b : Option Addr) (c : Nat), s78 = .slice b (xids.length + 1) c ∧ s79 = .int .i64 ((xids.length + 1 : Nat) : Int) ∧ s80 = .int .i64 0 ∧ Row 3 1 w.heap.size wx (.slice b (xids.length + 1) c) (xids.length + 1) ((xids ++ [xid]).flatMap icell) ∧ Fr (fun _ => False) WB wx)
      case first =>
        have fd := (Fr.refl (fun _ => False) WB).drew
        have D3 := hid (Blk.fr HDB.out fd (fun h => h))
        have HR3 := hid (HRB.out.fre fd)
        have F3 := hid fd
        have HWW := hid (Nat.le_trans FB.out.size fd.size)
        clear fd
        refine wp_region_scr (.take 0 (.take 1 (.take 3 (.take 4 (.take 8 (.two 2 5 (.op 5 (.op 6 (.take 7 .done))) (.op 2 (.op 6 (.take 7 .done))))))))) (fun kz w => (kz ≤ 9 → w.cell? ⟨d, 6, none⟩ = some (.slice ax xids.length cx) ∧ w.cell? ⟨d, 1, none⟩ = some (.int .i64 xid)) ∧ Hid True) (by kernel_rfl) (by kernel_rfl) (by intro c a d v w h; cases d <;> exact h) ?_
        repeat
          first
          | (refine wpT_pure rfl rfl rfl ?_; apply Exists.intro; refine ⟨?_, ?_⟩; intro w; (first | (first | (obtain ⟨qa1, qa2⟩ := qa; go_simp <;> rfl)) | (go_simp <;> rfl)); simp only [Act.put, List.setIfInBounds_toArray, List.set_cons_zero, List.set_cons_succ])
          | (refine wpT_take 9 rfl rfl (by decide +kernel) ⟨fun _ => ⟨D3.out.cell 6, D3.out.cell 1⟩, hid trivial⟩ ?_; apply Exists.intro; refine ⟨?_, ?_⟩; intro w hw; (have qa := hw.1 (Nat.le_refl _); have qb := hw.2); (first | (first | (obtain ⟨qa1, qa2⟩ := qa; go_simp <;> rfl)) | (go_simp <;> rfl)); simp only [Act.put, List.setIfInBounds_toArray, List.set_cons_zero, List.set_cons_succ])
          | (refine wpT_skip rfl rfl ?_; simp only [Act.put, List.setIfInBounds_toArray, List.set_cons_zero, List.set_cons_succ])
        generalize WB.drew = W3 at *
        have HLX := hid HR3.out.lx
        dsimp only at HLX
        refine wpT_two ?_ ?_
        focus
          have HCL := hid (Clone_int HR3.out.x HR3.out.lx)
          dsimp only at HCL
          refine wpT_op rfl ?_
          go_wp2_with ((go_at_call 60; refine HCL.out.mono ?_; rintro e w4 ⟨v4, rfl, hr, f⟩; obtain ⟨b4, c4, rfl, _⟩ := hr.slice; have HR4 := hid hr; have HSF := hid f.size; have D4 := hid (Blk.fr D3.out f (fun h => h)); have F4 := hid (F3.out.trans f (fun _ h _ => h)); clear hr f))
          (refine ⟨?_, ?_⟩; focus (intro kz hk hk2 hh; first | (exfalso; simp at hk2; omega) | exact hh | exact (fun h => absurd h (by omega)) | obtain ⟨qa, qb⟩ := hh; first | exact ⟨qa, qb⟩ | (refine ⟨fun h => absurd h (by omega), ?_⟩; first | exact qb | (exact ⟨D4.out.cell 6, D4.out.cell 1⟩)) | (refine ⟨fun h => ?_, ?_⟩; (have qa := qa h); all_goals (first | exact qa | exact qb | (exact ⟨D4.out.cell 6, D4.out.cell 1⟩)))))
          clear HCL
          repeat
            first
            | (refine wpT_pure rfl rfl rfl ?_; apply Exists.intro; refine ⟨?_, ?_⟩; intro w; ((go_simp <;> rfl)); simp only [Act.put, List.setIfInBounds_toArray, List.set_cons_zero, List.set_cons_succ])
            | (refine wpT_take 9 rfl rfl (by decide +kernel) ⟨fun _ => ⟨D4.out.cell 6, D4.out.cell 1⟩, hid trivial⟩ ?_; apply Exists.intro; refine ⟨?_, ?_⟩; intro w hw; (have qa := hw.1 (Nat.le_refl _); have qb := hw.2); ((go_simp <;> rfl)); simp only [Act.put, List.setIfInBounds_toArray, List.set_cons_zero, List.set_cons_succ])
            | (refine wpT_skip rfl rfl ?_; simp only [Act.put, List.setIfInBounds_toArray, List.set_cons_zero, List.set_cons_succ])
          have FA := hid (fun o => (Fr.refl (fun _ => False) w4).alloc o)
          refine wpT_op rfl ?_
          go_wp2_with (fail)
          (refine ⟨?_, ?_⟩; focus (intro kz hk hk2 hh; first | (exfalso; simp at hk2; omega) | exact hh | exact (fun h => absurd h (by omega)) | obtain ⟨qa, qb⟩ := hh; first | exact ⟨qa, qb⟩ | (refine ⟨fun h => absurd h (by omega), ?_⟩; first | exact qb | (exact ⟨(Blk.fr D4.out (FA.out _) (fun h => h)).cell 6, (Blk.fr D4.out (FA.out _) (fun h => h)).cell 1⟩)) | (refine ⟨fun h => ?_, ?_⟩; (have qa := qa h); all_goals (first | exact qa | exact qb | (exact ⟨(Blk.fr D4.out (FA.out _) (fun h => h)).cell 6, (Blk.fr D4.out (FA.out _) (fun h => h)).cell 1⟩)))))
          refine wpT_op rfl ?_
          go_wp2_with ((at_builtin; refine wpList_app1 rfl (s := .tmp 111) (x := .tmp 114) (t := 22) rfl Tryz.underlying22 info_int rfl rfl rfl HR4.out HSF.out rfl (by simp [Value.oneCell']) (by have := HLX.out; omega) (by have := HLX.out; omega) ?_; intro ab ac wg APP; have HAPP := hid (APP.row.cast (m := xids.length + 1) (ys := (xids ++ [xid]).flatMap icell) rfl (by rw [List.flatMap_append]; rfl)); have FG := hid (F4.out.trans APP.fr (fun k hk hl => by have h1 := HR4.out.new k hk; have h2 := F3.out.size; omega)); have D6 := hid (Blk.fr D4.out APP.fr (fun hk => HR4.out.ne D4.out (by decide) _ hk rfl)); clear APP))
          (refine ⟨?_, ?_⟩; focus (intro kz hk hk2 hh; first | (exfalso; simp at hk2; omega) | exact hh | exact (fun h => absurd h (by omega)) | obtain ⟨qa, qb⟩ := hh; first | exact ⟨qa, qb⟩ | (refine ⟨fun h => absurd h (by omega), ?_⟩; first | exact qb | (exact ⟨D6.out.cell 6, D6.out.cell 1⟩)) | (refine ⟨fun h => ?_, ?_⟩; (have qa := qa h); all_goals (first | exact qa | exact qb | (exact ⟨D6.out.cell 6, D6.out.cell 1⟩)))))
          repeat
            first
            | (refine wpT_pure rfl rfl rfl ?_; apply Exists.intro; refine ⟨?_, ?_⟩; intro w; ((go_simp <;> rfl)); simp only [Act.put, List.setIfInBounds_toArray, List.set_cons_zero, List.set_cons_succ])
            | (refine wpT_take 9 rfl rfl (by decide +kernel) ⟨fun _ => ⟨D6.out.cell 6, D6.out.cell 1⟩, hid trivial⟩ ?_; apply Exists.intro; refine ⟨?_, ?_⟩; intro w hw; (have qa := hw.1 (Nat.le_refl _); have qb := hw.2); ((go_simp <;> rfl)); simp only [Act.put, List.setIfInBounds_toArray, List.set_cons_zero, List.set_cons_succ])
            | (refine wpT_skip rfl rfl ?_; simp only [Act.put, List.setIfInBounds_toArray, List.set_cons_zero, List.set_cons_succ])
          refine wpT_nil ?_
          go_wp2_with (fail)
          go_meet
          exact ⟨ab, ac, rfl, by go_num, rfl, HAPP.out.low HWW.out, FG.out⟩
        focus
          have fa := (Fr.refl (fun _ => False) W3).alloc (.cells #[.int .i64 xid] 3)
          have RB := hid (Row.built (e := 3) (n := 1) (size := 1) (B := W3.heap.size) W3 (l := [.int .i64 xid]) rfl (by decide) (Nat.le_refl _))
          have D4 := hid (Blk.fr D3.out fa (fun h => h))
          have HR4 := hid (HR3.out.fre fa)
          have F4 := hid (F3.out.trans fa (fun _ h _ => h))
          have HWX := hid (Nat.le_trans HWW.out fa.size)
          clear fa
          refine wpT_op rfl ?_
          go_wp2_with (fail)
          (refine ⟨?_, ?_⟩; focus (intro kz hk hk2 hh; first | (exfalso; simp at hk2; omega) | exact hh | exact (fun h => absurd h (by omega)) | obtain ⟨qa, qb⟩ := hh; first | exact ⟨qa, qb⟩ | (refine ⟨fun h => absurd h (by omega), ?_⟩; first | exact qb | (exact ⟨D4.out.cell 6, D4.out.cell 1⟩)) | (refine ⟨fun h => ?_, ?_⟩; (have qa := qa h); all_goals (first | exact qa | exact qb | (exact ⟨D4.out.cell 6, D4.out.cell 1⟩)))))
          clear D3 HR3 F3 HWW
          generalize W3.heap.size = gx at *
          generalize W3.alloc _ = W4 at *
          have HCL := hid (Clone_int HR4.out.x HR4.out.lx)
          dsimp only at HCL
          refine wpT_op rfl ?_
          go_wp2_with ((go_at_call 60; refine HCL.out.mono ?_; rintro e w5 ⟨v5, rfl, hr, f⟩; obtain ⟨b5, c5, rfl, _⟩ := hr.slice; have HR5 := hid hr; have HSF := hid f.size; have D5 := hid (Blk.fr D4.out f (fun h => h)); have F5 := hid (F4.out.trans f (fun _ h _ => h)); have RB5 := hid (RB.out.fre f); clear hr f))
          (refine ⟨?_, ?_⟩; focus (intro kz hk hk2 hh; first | (exfalso; simp at hk2; omega) | exact hh | exact (fun h => absurd h (by omega)) | obtain ⟨qa, qb⟩ := hh; first | exact ⟨qa, qb⟩ | (refine ⟨fun h => absurd h (by omega), ?_⟩; first | exact qb | (exact ⟨D5.out.cell 6, D5.out.cell 1⟩)) | (refine ⟨fun h => ?_, ?_⟩; (have qa := qa h); all_goals (first | exact qa | exact qb | (exact ⟨D5.out.cell 6, D5.out.cell 1⟩)))))
          clear HCL
          repeat
            first
            | (refine wpT_pure rfl rfl rfl ?_; apply Exists.intro; refine ⟨?_, ?_⟩; intro w; ((go_simp <;> rfl)); simp only [Act.put, List.setIfInBounds_toArray, List.set_cons_zero, List.set_cons_succ])
            | (refine wpT_take 9 rfl rfl (by decide +kernel) ⟨fun _ => ⟨D5.out.cell 6, D5.out.cell 1⟩, hid trivial⟩ ?_; apply Exists.intro; refine ⟨?_, ?_⟩; intro w hw; (have qa := hw.1 (Nat.le_refl _); have qb := hw.2); ((go_simp <;> rfl)); simp only [Act.put, List.setIfInBounds_toArray, List.set_cons_zero, List.set_cons_succ])
            | (refine wpT_skip rfl rfl ?_; simp only [Act.put, List.setIfInBounds_toArray, List.set_cons_zero, List.set_cons_succ])
          have SRC := hid (Row.src (P := Tryz.prog) RB5.out (by simp [Value.oneCell']))
          refine wpT_op rfl ?_
          go_wp2_with ((at_builtin; refine wpList_appS rfl (s := .tmp 111) (x := .tmp 114) (t := 22) (tx := 22) rfl Tryz.underlying22 Tryz.underlying22 (.inr ⟨_, rfl⟩) info_int rfl rfl rfl HR5.out HSF.out SRC.out (by have := HLX.out; omega) (by have := HLX.out; omega) ?_; intro ab ac wg APP; have HAPP := hid (APP.row.cast (m := xids.length + 1) (ys := (xids ++ [xid]).flatMap icell) rfl (by rw [List.flatMap_append]; rfl)); have FG := hid (F5.out.trans APP.fr (fun k hk hl => by have h1 := HR5.out.new k hk; have h2 := F4.out.size; omega)); have D6 := hid (Blk.fr D5.out APP.fr (fun hk => HR5.out.ne D5.out (by decide) _ hk rfl)); clear APP))
          (refine ⟨?_, ?_⟩; focus (intro kz hk hk2 hh; first | (exfalso; simp at hk2; omega) | exact hh | exact (fun h => absurd h (by omega)) | obtain ⟨qa, qb⟩ := hh; first | exact ⟨qa, qb⟩ | (refine ⟨fun h => absurd h (by omega), ?_⟩; first | exact qb | (exact ⟨D6.out.cell 6, D6.out.cell 1⟩)) | (refine ⟨fun h => ?_, ?_⟩; (have qa := qa h); all_goals (first | exact qa | exact qb | (exact ⟨D6.out.cell 6, D6.out.cell 1⟩)))))
          repeat
            first
            | (refine wpT_pure rfl rfl rfl ?_; apply Exists.intro; refine ⟨?_, ?_⟩; intro w; ((go_simp <;> rfl)); simp only [Act.put, List.setIfInBounds_toArray, List.set_cons_zero, List.set_cons_succ])
            | (refine wpT_take 9 rfl rfl (by decide +kernel) ⟨fun _ => ⟨D6.out.cell 6, D6.out.cell 1⟩, hid trivial⟩ ?_; apply Exists.intro; refine ⟨?_, ?_⟩; intro w hw; (have qa := hw.1 (Nat.le_refl _); have qb := hw.2); ((go_simp <;> rfl)); simp only [Act.put, List.setIfInBounds_toArray, List.set_cons_zero, List.set_cons_succ])
            | (refine wpT_skip rfl rfl ?_; simp only [Act.put, List.setIfInBounds_toArray, List.set_cons_zero, List.set_cons_succ])
          refine wpT_nil ?_
          go_wp2_with (fail)
          go_meet
          exact ⟨ab, ac, rfl, by go_num, rfl, HAPP.out.low HWX.out, FG.out⟩
      case rest =>
        obtain ⟨bx, cx2, rfl, rfl, rfl, hxr, hf⟩ := hcut
        have HXR := hid hxr
        have HSX := hid (HSB.out.fre hf)
        have HFX := hid hf
        clear hxr hf
        have HXL := hid (show xids.length ≤ 1048576 from HRB.out.lx)
        obtain ⟨X, hX⟩ : ∃ X, X = xids ++ [xid] := ⟨_, rfl⟩
        have hXl : X.length = xids.length + 1 := by rw [hX, List.length_append]; rfl
        have HXI := hid (show ∀ x ∈ X, I64 x from fun x hx => by
          rw [hX] at hx
          rcases List.mem_append.1 hx with g | g
          · exact HXS.out x g
          · rw [List.mem_singleton.1 g]; exact HXX.out)
        have HXD := hid hX
        rw [← hX] at HXR
        obtain ⟨n, hn⟩ : ∃ n, n = xids.length + 1 := ⟨_, rfl⟩
        rw [← hn] at HXR ⊢
        rw [← hn] at hXl
        have HNX := hid hXl
        have HNE := hid hn
        clear hX hXl hn
        go_upto_region 24 with fail
        go_loopw [117] (fun s117 wr => ∃ j : Nat, j ≤ n ∧ s117 = .int .i64 j ∧ SlO S C wr s { u with fs := outs fs' (X.take j) } ∧ Row 3 1 w.heap.size wr (.slice bx n cx2) n (X.flatMap icell) ∧ Fr (fun k => k = u.mb) WB wr) (fun s117 _ => n - (intOf s117).toNat)
        case atStart =>
          refine ⟨0, by omega, rfl, ?_, HXR.out, HFX.out.mono (fun _ h _ => h.elim)⟩
          rw [List.take_zero, outs_nil]
          exact HSX.out
        case round =>
          obtain ⟨j, hj, rfl, hs, hxr, hf⟩ := hrel
          have HS := hid hs
          have HXR2 := hid hxr
          have FR := hid hf
          clear hs hxr hf HXR HSX HFX
          rename World => WR
          by_cases hjn : j < n
          · have hjx : j < X.length := by rw [HNX.out]; exact hjn
            have HTK := hid (outs_take (fs := fs') hjx)
            obtain ⟨gx, ex, -, qx⟩ := row_cells HXR2.out (by
              intro e
              have := congrArg List.length e
              rw [flat_len icell_len, List.length_nil] at this
              omega)
            have q0 := qx j (.int .i64 X[j]) (by
              have := flatK (k := 1) icell icell_len X j hjx 0 (by decide)
              rw [Nat.mul_one, Nat.add_zero] at this
              exact this)
            have HIX := hid (HXI.out _ (List.getElem_mem hjx))
            clear qx
            subst ex
            obtain ⟨x, hx⟩ : ∃ x, x = X[j] := ⟨_, rfl⟩
            rw [← hx] at q0 HTK HIX
            clear hx
            have j1 : (0 : Int) ≤ (j : Int) := by omega
            have j2 : (j : Int) < (n : Int) := by omega
            have i9 : IntKind.i64.wrap ((j : Int) + 1) = (j : Int) + 1 := IntWalk.i64_in _ (by have := HXL.out; have := HNE.out; omega)
            have HM := hid HS.out.m
            have HMB := hid HS.out.mS
            go_upto_region 26 with fail
            clear q0
            have k4 : WR.cell? ⟨s, 4, none⟩ = some (.map (some u.mb)) := HS.out.b.cell 4
            go_wp2_with (refine wpList_delete_G rfl (m := .tmp 124) (x := .tmp 125) (t := 113) rfl rfl HM.out keyed_int Tryz.underlying113 rfl (key_int HIX.out.1 HIX.out.2) ?_; intro wz hmz fz; have HMZ := hid hmz; have FZ := hid fz; clear hmz fz k4)
            go_roundw
            case rel =>
              refine ⟨j + 1, by omega, by go_num, ?_, HXR2.out.fr FZ.out (fun k hk e => Row_ne_map HXR2.out HM.out k hk e), FR.out.trans FZ.out (fun _ h _ => h)⟩
              have := SlO.delF HS.out x FZ.out HMZ.out
              rw [HTK.out]
              exact this
            case measure => simp [intOf]; omega
          · obtain rfl : j = n := by omega
            have j2 : ¬ (j : Int) < (j : Int) := by omega
            go_wp2_with (fail)
            go_meet
            have hx := HXD.out
            subst hx
            have e1 : (xids ++ [xid]).take j = xids ++ [xid] := List.take_of_length_le (by rw [HNX.out]; exact Nat.le_refl _)
            have hs := HS.out
            rw [e1, HOU.out] at hs
            have own : Own (fun k => k = u.mb) WB u.mb := fun k hk => .inl hk
            have hm := HSB.out.m
            have e2 : midM v.t lsn ⟨kind, xid, table, old, new, xids, note⟩ = { v.t with last := lsn, fols := others v.t.fols (xids ++ [xid]) } := by
              unfold midM
              rw [if_neg (by rcases HKK.out with e | e <;> simp [e]), if_neg (by rcases HKK.out with e | e <;> simp [e]), if_pos HKK.out]
              rfl
            rw [e2]
            refine ⟨S, C, { u with fs := outs v.fs (xids ++ [xid]) }, ts, a, c, rfl, hs, ?_, HROWB.out.fr FR.out (fun k hk e => Row_ne_map HROWB.out hm k hk e), fun t ht => ⟨(HCHB.out t ht).1.fr FR.out ((HCHB.out t ht).1.off hm own), (HCHB.out t ht).2⟩, HPMB.out, fun k hk => ?_, HVB.out.1, fun k hk => .inl hk, fun k hk => .inl hk, FB.out.trans FR.out (fun k hk _ => by rw [hk]; exact HSB.out.mS)⟩
            · show ({ u.t with fols := (outs v.fs (xids ++ [xid])).map FolV.t } : Slt) = _
              rw [HNW.out, outs_t]
              rfl
            · have h1 := HROWB.out.new k hk
              exact ⟨fun h => by have := H.out.lt k (.inl h); omega, fun h => by have := H.out.lt k (.inr h); omega⟩
  case rest =>
    obtain ⟨T, D, v1, ts, a, c, rfl, hs, he, hrow, hch, hpm, hoff, hn, hT, hD, hf⟩ := hcut
    generalize wc = WC at *
    have HS := hid hs
    have HE := hid he
    have HROW := hid hrow
    have HCH := hid hch
    have HOFF := hid hoff
    have HNL := hid hn
    have HTB := hid hT
    have HDB := hid hD
    have FC := hid hf
    have HTL := hid (show toldM v.t ⟨kind, xid, table, old, new, xids, note⟩ = sortT (if kind = 5 then turnsOf (mine v.t.fols (xids ++ [xid])) else []) from by
      unfold toldM
      by_cases hk : kind = 5
      · rw [if_pos hk, if_pos hk]; rfl
      · rw [if_neg hk, if_neg hk]; exact (sortT_of List.Pairwise.nil).symm)
    have HND := hid (show ((if kind = 5 then turnsOf (mine v.t.fols (xids ++ [xid])) else []).map Trn.lsn).Nodup from by
      by_cases hk : kind = 5
      · rw [if_pos hk]; exact mine_nodup HOK.out _
      · rw [if_neg hk]; exact List.nodup_nil)
    have HFE := hid (show feedM v.t lsn ⟨kind, xid, table, old, new, xids, note⟩ = queueM v1.t lsn (sortT (if kind = 5 then turnsOf (mine v.t.fols (xids ++ [xid])) else [])) from by
      unfold feedM
      rw [if_neg (show ¬ lsn ≤ v.t.last from HLE.out), HTL.out, HE.out])
    have HTLN := hid (show (if kind = 5 then turnsOf (mine v.t.fols (xids ++ [xid])) else []).length ≤ N from by
      by_cases hk : kind = 5
      · rw [if_pos hk]; exact Nat.le_trans (sub_len List.filter_sublist) HFW.out.tot
      · rw [if_neg hk]; exact Nat.zero_le _)
    have HQN := hid (show v1.qs.length ≤ N from by
      have h1 : v1.t.queue.length = v1.qs.length := List.length_map ..
      have h2 : v1.t.queue = v.t.queue := by rw [HE.out, mid_queue]
      rw [← h1, h2]
      exact HFW.out.qs)
    generalize (if kind = 5 then turnsOf (mine v.t.fols (xids ++ [xid])) else []) = tt at *
    have HPM := hid hpm
    clear hs he hrow hch hoff hn hT hD hf hpm H2 D1 HR1
    have HTN := hid (show ts.length ≤ N from by have h1 := HPM.out.length_eq; rw [List.length_map] at h1; have := HTLN.out; omega)
    have HNN := HN.out
    by_cases hts : ts = []
    · subst hts
      have HQ := hid (show queueM v1.t lsn (sortT tt) = v1.t from by
        have e : tt = [] := (List.nil_perm.1 (show ([] : List Trn).Perm tt from HPM.out))
        unfold queueM
        rw [if_pos (.inl (by rw [e]; exact sortT_of List.Pairwise.nil))])
      go_wp2_with (fail)
      refine bodyPost_ret (results_none rfl _ _ _) rfl ?_
      exact ⟨rfl, v1, T, D, HS.out, by rw [HFE.out, HQ.out], HNL.out, HTB.out, HDB.out, FC.out⟩
    have hn0 : ¬ ((ts.length : Nat) : Int) = 0 := by
      intro e
      exact hts (List.eq_nil_of_length_eq_zero (by omega))
    have k1 : WC.cell? ⟨s, 1, none⟩ = some (.int .i64 v1.acked) := HS.out.b.cell 1
    have HTS := hid hts
    clear hts
    by_cases hac : lsn ≤ v1.acked
    · have HQ := hid (show queueM v1.t lsn (sortT tt) = v1.t from by
        unfold queueM
        rw [if_pos (.inr hac)])
      go_wp2_with (fail)
      refine bodyPost_ret (results_none rfl _ _ _) rfl ?_
      exact ⟨rfl, v1, T, D, HS.out, by rw [HFE.out, HQ.out], HNL.out, HTB.out, HDB.out, FC.out⟩
    have HAC := hid hac
    have HSO := hid (SortT_go HROW.out (fun t ht => (HCH.out t ht).1) rfl (by have := HTN.out; omega))
    go_upto_region 30 with (go_at_call 61; refine HSO.out.mono ?_; rintro e w2 ⟨rfl, us, hp, has, hr, f⟩; have HPU := hid hp; have HAS := hid has; have HRU := hid hr; have F2 := hid f; clear hp has hr f)
    clear k1 hac HSO
    have HS2 := hid (HS.out.fr F2.out (fun k hk hu => hk.elim (HOFF.out k hu).1 (HOFF.out k hu).2))
    have HCU := hid (fun t (ht : t ∈ us) => (HCH.out t (HPU.out.mem_iff.1 ht)).1.fr F2.out (fun k hk hu => (HOFF.out k hu).1 ((HCH.out t (HPU.out.mem_iff.1 ht)).2 k hk)))
    have HCT := hid (fun t (ht : t ∈ us) => (HCH.out t (HPU.out.mem_iff.1 ht)).2)
    have HUN := hid (show us.length = ts.length from HPU.out.length_eq)
    have HUE2 := hid (show us.map TrnV.t = sortT tt from sortT_uniq ((HPU.out.map TrnV.t).trans HPM.out) (List.pairwise_map.2 HAS.out) HND.out)
    have FW2 := hid (FC.out.trans F2.out (fun k hk hl => by have := HROW.out.new k hk; omega))
    rw [← HUN.out] at HRU ⊢
    obtain ⟨g, rfl, hgw, -⟩ := row_range HRU.out (by
      intro e
      have h1 := congrArg List.length e
      rw [flat_len trn_len] at h1
      simp only [List.length_nil] at h1
      have h2 : us.length ≠ 0 := by rw [HUN.out]; omega
      omega)
    have HUA := hid (fun (w' : World) (hr : Row 121 6 w.heap.size w' (.slice (some ⟨g, 0, none⟩) us.length c) us.length (us.flatMap TrnV.cells)) j (hj : j < us.length) => row_at (f := TrnV.cells) trn_len hr hj)
    have HNU := hid (show us.length ≤ 1000000 from by rw [HUN.out]; have := HTN.out; omega)
    have hn1 : (0 : Int) < (us.length : Int) := by rw [HUN.out]; omega
    obtain ⟨l0, hl0⟩ : ∃ l0, us.head?.map TrnV.lsn = some l0 ∧ w2.cell? ⟨g, 0, none⟩ = some (.int .i64 l0) := by
      have hpos : 0 < us.length := by omega
      have := HUA.out w2 HRU.out 0 hpos
      have h0 := this 0 (.int .i64 us[0].lsn) rfl
      refine ⟨us[0].lsn, ?_, by simpa using h0⟩
      cases us with
      | nil => simp at hpos
      | cons x l => rfl
    have HL0 := hid hl0.1
    have q0 := hl0.2
    clear hl0 hgw hn0 HS HROW HCH HOFF HTS HPU HAS F2 FC HND HPM HTN HTLN
    have fa := (Fr.refl (fun _ => False) w2).alloc (.cells #[.int .i64 l0, .int .i64 lsn, .slice none 0 0] 133)
    have BD := hid (Blk.new w2 [.int .i64 l0, .int .i64 lsn, .slice none 0 0] 133)
    have FA2 := hid fa
    clear fa
    go_upto_region 31 with fail
    clear q0
    obtain ⟨dt, hdt⟩ : ∃ dt, dt = w2.heap.size := ⟨_, rfl⟩
    rw [← hdt] at BD ⊢
    have HDT := hid hdt
    clear hdt
    generalize w2.alloc _ = W4 at *
    go_wp2_with (fail)
    go_loopw [149] (fun s149 wr => ∃ (j : Nat) (ay : Option Addr) (cy : Nat), j ≤ us.length ∧ s149 = .int .i64 j ∧ Blk wr dt [.int .i64 l0, .int .i64 lsn, .slice ay j cy] 133 ∧ Row 80 5 dt wr (.slice ay j cy) j (((us.take j).map TrnV.c).flatMap ChgV.cells) ∧ Fr (fun _ => False) w2 wr) (fun s149 _ => us.length - (intOf s149).toNat)
    case atStart => exact ⟨0, none, 0, by omega, rfl, BD.out, Row.nil, FA2.out⟩
    case round =>
      obtain ⟨j, ay, cy, hj, rfl, hb, hr, hf⟩ := hrel
      have B5 := hid hb
      have R5 := hid hr
      have F5 := hid hf
      clear hb hr hf BD FA2
      rename World => WR
      by_cases hju : j < us.length
      · have HX := hid (HUA.out WR (HRU.out.fre F5.out) j hju)
        have HCX := hid (HCU.out _ (List.getElem_mem hju))
        have HTK := hid (show (us.take (j + 1)).map TrnV.c = (us.take j).map TrnV.c ++ [us[j].c] from by rw [List.take_succ_eq_append_getElem hju, List.map_append]; rfl)
        obtain ⟨x, hx⟩ : ∃ x, x = us[j] := ⟨_, rfl⟩
        rw [← hx] at HX HCX HTK
        clear hx
        obtain ⟨lx, ⟨⟨ck, ct, cnn, cno, cnw⟩, vn1, vo1, vw1⟩⟩ := x
        obtain ⟨o1, e1, h1, _⟩ := HCX.out.n.slice
        obtain ⟨o2, e2, h2, _⟩ := HCX.out.o.slice
        obtain ⟨o3, e3, h3, _⟩ := HCX.out.w.slice
        dsimp only at h1 h2 h3
        subst h1 h2 h3
        have q0 : WR.cell? ⟨g, j * 6, none⟩ = some (.int .i64 lx) := by have := HX.out 0 (.int .i64 lx) rfl; simpa using this
        have q1 : WR.cell? ⟨g, j * 6 + 1, none⟩ = some (.int .i64 ck) := HX.out 1 (.int .i64 ck) rfl
        have q2 : WR.cell? ⟨g, j * 6 + 2, none⟩ = some (.string (bs ct)) := HX.out 2 (.string (bs ct)) rfl
        have q3 : WR.cell? ⟨g, j * 6 + 3, none⟩ = some (.slice o1 cnn.length e1) := HX.out 3 (.slice o1 cnn.length e1) rfl
        have q4 : WR.cell? ⟨g, j * 6 + 4, none⟩ = some (.slice o2 cno.length e2) := HX.out 4 (.slice o2 cno.length e2) rfl
        have q5 : WR.cell? ⟨g, j * 6 + 5, none⟩ = some (.slice o3 cnw.length e3) := HX.out 5 (.slice o3 cnw.length e3) rfl
        have j1 : (0 : Int) ≤ (j : Int) := by omega
        have j2 : (j : Int) < (us.length : Int) := by omega
        have i9 : IntKind.i64.wrap ((j : Int) + 1) = (j : Int) + 1 := IntWalk.i64_in _ (by have := HNU.out; omega)
        have fa := (Fr.refl (fun _ => False) WR).alloc (.cells #[.int .i64 lx, .int .i64 ck, .string (bs ct), .slice o1 cnn.length e1, .slice o2 cno.length e2, .slice o3 cnw.length e3] 121)
        have L6 := hid (Blk.new WR [.int .i64 lx, .int .i64 ck, .string (bs ct), .slice o1 cnn.length e1, .slice o2 cno.length e2, .slice o3 cnw.length e3] 121)
        have B6 := hid (Blk.fr B5.out fa (fun h => h))
        have R6 := hid (R5.out.fre fa)
        have F6 := hid (F5.out.trans fa (fun _ h _ => h))
        clear fa
        go_upto_region 34 with fail
        clear q0 q1 q2 q3 q4 q5 HX B5 R5 F5
        generalize WR.heap.size = dl at *
        generalize WR.alloc _ = W6 at *
        have HRG := hid (show W6.rangeAt dl 1 [.int .i64 ck, .string (bs ct), .slice o1 cnn.length e1, .slice o2 cno.length e2, .slice o3 cnw.length e3] from L6.out.range [.int .i64 lx] [.int .i64 ck, .string (bs ct), .slice o1 cnn.length e1, .slice o2 cno.length e2, .slice o3 cnw.length e3] [] rfl)
        have k2 : W6.cell? ⟨dt, 2, none⟩ = some (.slice ay j cy) := B6.out.cell 2
        have HSZ := hid (show dt ≤ W6.heap.size from by have := B6.out.lt; omega)
        have HJL := hid (show j ≤ 1000000 from by have := HNU.out; omega)
        go_upto_region 35 with (first
          | (refine wpList_load_mid rfl 80 (.tmp 156) rfl dl 1 rfl _ _ HRG.out Tryz.underlying80 rfl size_chg ?_)
          | (at_builtin; refine wpList_app1 rfl (s := .tmp 155) (x := .tmp 158) (t := 51) rfl Tryz.underlying51 info_chg rfl rfl rfl R6.out HSZ.out rfl (by simp [Value.oneCell']) (by have := HJL.out; omega) (by have := HJL.out; omega) ?_; intro ab ac wg APP; have HAPP := hid (show App 80 5 dt W6 wg (.slice ay j cy) (.slice ab (j + 1) ac) j (((us.take j).map TrnV.c).flatMap ChgV.cells) [.int .i64 ck, .string (bs ct), .slice o1 cnn.length e1, .slice o2 cno.length e2, .slice o3 cnw.length e3] from APP); have B7 := hid (Blk.fr B6.out APP.fr (fun hk => R6.out.ne B6.out (by decide) _ hk rfl)); clear APP k2; have k3 : wg.cell? ⟨dt, 2, none⟩ = some (.slice ay j cy) := B7.out.cell 2; have z3 : wg.frozen? ⟨dt, 2, none⟩ = false := B7.out.frozen 2))
        have fs := (Fr.refl (fun k => k = dt) wg).setCell ⟨dt, 2, none⟩ (.slice ab (j + 1) ac) (fun _ => rfl)
        have B8 := hid (B7.out.set 2 (.slice ab (j + 1) ac))
        have R8 := hid (HAPP.out.row.fr fs (fun k hk e => HAPP.out.row.ne B7.out (by decide) k hk e))
        have F8 := hid ((F6.out.trans HAPP.out.fr (fun k hk hl => by have h1 := R6.out.new k hk; have h2 := HDT.out; omega)).trans fs (fun k hk hl => by have h2 := HDT.out; omega))
        clear fs k3 z3
        generalize wg.setCell ⟨dt, 2, none⟩ (.slice ab (j + 1) ac) = W8 at *
        go_wp2_with (fail)
        go_roundw
        case rel => exact ⟨j + 1, ab, ac, by omega, by go_num, B8.out, R8.out.cast rfl (by rw [HTK.out, List.flatMap_append]; rfl), F8.out⟩
        case measure => simp [intOf]; omega
      · obtain rfl : j = us.length := by omega
        have j2 : ¬ (us.length : Int) < (us.length : Int) := by omega
        go_upto_region 36 with fail
        have fd := (Fr.refl (fun _ => False) WR).drew
        have F6 := hid (F5.out.trans fd (fun _ h _ => h))
        have B6 := hid (Blk.fr B5.out fd (fun h => h))
        have R6 := hid (show Row 80 5 dt WR.drew (.slice ay us.length cy) us.length ((us.map TrnV.c).flatMap ChgV.cells) from (R5.out.fre fd).cast rfl (by rw [List.take_length]))
        have H6 := hid (HS2.out.fre F6.out)
        clear fd B5 R5 F5
        obtain ⟨aq, cq, eq, -⟩ := H6.out.q.slice
        have HEQ := hid eq
        have K6 := hid (show WR.drew.cell? ⟨s, 5, none⟩ = some (.slice aq v1.qs.length cq) from by rw [← eq]; exact H6.out.b.cell 5)
        clear eq
        refine wp_region_scr (.take 0 (.take 1 (.take 2 (.take 3 (.take 4 (.take 5 (.op 6 (.op 7 (.take 8 (.take 9 (.op 10 .done))))))))))) (fun kz w => (kz ≤ 10 → w.cell? ⟨s, 5, none⟩ = some (.slice aq v1.qs.length cq) ∧ w.rangeAt dt 0 [.int .i64 l0, .int .i64 lsn, .slice ay us.length cy]) ∧ Hid True) (by kernel_rfl) (by kernel_rfl) (by intro c a d v w h; cases d <;> exact h) ?_
        repeat
          first
          | (refine wpT_pure rfl rfl rfl ?_; apply Exists.intro; refine ⟨?_, ?_⟩; intro w; (first | (first | exact run_load_mid _ _ rfl dt _ rfl _ _ qa.2 Tryz.underlying133 rfl size_dn | (obtain ⟨qa1, qa2⟩ := qa; go_simp <;> rfl)) | (go_simp <;> rfl)); simp only [Act.put, List.setIfInBounds_toArray, List.set_cons_zero, List.set_cons_succ])
          | (refine wpT_take 10 rfl rfl (by decide +kernel) ⟨fun _ => ⟨K6.out, B6.out.all⟩, hid trivial⟩ ?_; apply Exists.intro; refine ⟨?_, ?_⟩; intro w hw; (have qa := hw.1 (Nat.le_refl _); have qb := hw.2); (first | (first | exact run_load_mid _ _ rfl dt _ rfl _ _ qa.2 Tryz.underlying133 rfl size_dn | (obtain ⟨qa1, qa2⟩ := qa; go_simp <;> rfl)) | (go_simp <;> rfl)); simp only [Act.put, List.setIfInBounds_toArray, List.set_cons_zero, List.set_cons_succ])
          | (refine wpT_skip rfl rfl ?_; simp only [Act.put, List.setIfInBounds_toArray, List.set_cons_zero, List.set_cons_succ])
        generalize WR.drew = W7 at *
        have FA := hid (fun o => (Fr.refl (fun _ => False) W7).alloc o)
        refine wpT_op rfl ?_
        go_wp2_with (fail)
        (refine ⟨?_, ?_⟩; focus (intro kz hk hk2 hh; first | (exfalso; simp at hk2; omega) | exact hh | exact (fun h => absurd h (by omega)) | obtain ⟨qa, qb⟩ := hh; first | exact ⟨qa, qb⟩ | (refine ⟨fun h => absurd h (by omega), ?_⟩; first | exact qb | (exact ⟨cell_fr K6.out (FA.out _) (fun h => h), (Blk.fr B6.out (FA.out _) (fun h => h)).all⟩)) | (refine ⟨fun h => ?_, ?_⟩; (have qa := qa h); all_goals (first | exact qa | exact qb | (exact ⟨cell_fr K6.out (FA.out _) (fun h => h), (Blk.fr B6.out (FA.out _) (fun h => h)).all⟩)))))
        have HROQ := hid (show Row 133 3 0 W7 (.slice aq v1.qs.length cq) v1.qs.length (v1.qs.flatMap DnV.cells) from by rw [← HEQ.out]; exact H6.out.q)
        refine wpT_op rfl ?_
        go_wp2_with ((at_builtin; refine wpList_app1 rfl (s := .tmp 167) (x := .tmp 169) (t := 114) rfl Tryz.underlying114 info_dn rfl rfl rfl HROQ.out (Nat.zero_le _) rfl (by simp [Value.oneCell']) (by have := HQN.out; omega) (by have := HQN.out; omega) ?_; intro ab ac wg APP; have HAPP := hid APP; have KG := hid (cell_fr K6.out APP.fr (fun hk => HROQ.out.ne H6.out.b (by decide) _ hk rfl)); have BG := hid (Blk.fr B6.out APP.fr (fun hk => by have h1 := H6.out.lt dt (.inl (H6.out.qS _ (by rw [HEQ.out]; exact hk))); have h2 := HS2.out.lt dt (.inl (H6.out.qS _ (by rw [HEQ.out]; exact hk))); have h3 := HDT.out; omega)); have SG := hid (Blk.fr H6.out.b APP.fr (fun hk => HROQ.out.ne H6.out.b (by decide) _ hk rfl)); clear APP))
        (refine ⟨?_, ?_⟩; focus (intro kz hk hk2 hh; first | (exfalso; simp at hk2; omega) | exact hh | exact (fun h => absurd h (by omega)) | obtain ⟨qa, qb⟩ := hh; first | exact ⟨qa, qb⟩ | (refine ⟨fun h => absurd h (by omega), ?_⟩; first | exact qb | (exact ⟨KG.out, BG.out.all⟩)) | (refine ⟨fun h => ?_, ?_⟩; (have qa := qa h); all_goals (first | exact qa | exact qb | (exact ⟨KG.out, BG.out.all⟩)))))
        repeat
          first
          | (refine wpT_pure rfl rfl rfl ?_; apply Exists.intro; refine ⟨?_, ?_⟩; intro w; ((go_simp <;> rfl)); simp only [Act.put, List.setIfInBounds_toArray, List.set_cons_zero, List.set_cons_succ])
          | (refine wpT_take 10 rfl rfl (by decide +kernel) ⟨fun _ => ⟨KG.out, BG.out.all⟩, hid trivial⟩ ?_; apply Exists.intro; refine ⟨?_, ?_⟩; intro w hw; (have qa := hw.1 (Nat.le_refl _); have qb := hw.2); ((go_simp <;> rfl)); simp only [Act.put, List.setIfInBounds_toArray, List.set_cons_zero, List.set_cons_succ])
          | (refine wpT_skip rfl rfl ?_; simp only [Act.put, List.setIfInBounds_toArray, List.set_cons_zero, List.set_cons_succ])
        have k5 := KG.out
        have z5 : wg.frozen? ⟨s, 5, none⟩ = false := SG.out.frozen 5
        refine wpT_op rfl ?_
        go_wp2_with (fail)
        (refine ⟨?_, ?_⟩; focus (intro kz hk hk2 hh; first | (exfalso; simp at hk2; omega) | exact hh | exact (fun h => absurd h (by omega)) | obtain ⟨qa, qb⟩ := hh; first | exact ⟨qa, qb⟩ | (refine ⟨fun h => absurd h (by omega), ?_⟩; first | exact qb | (exact hid trivial)) | (refine ⟨fun h => ?_, ?_⟩; (have qa := qa h); all_goals (first | exact qa | exact qb | (exact hid trivial)))))
        refine wpT_nil ?_
        have fs := (Fr.refl (fun k => k = s) wg).setCell ⟨s, 5, none⟩ (.slice ab (v1.qs.length + 1) ac) (fun _ => rfl)
        have HFIN := hid (show SlO (fun k => T k ∨ (w2.heap.size ≤ k ∧ k < (wg.setCell ⟨s, 5, none⟩ (.slice ab (v1.qs.length + 1) ac)).heap.size)) D (wg.setCell ⟨s, 5, none⟩ (.slice ab (v1.qs.length + 1) ac)) s { v1 with vq := .slice ab (v1.qs.length + 1) ac, qs := v1.qs ++ [⟨l0, lsn, .slice ay us.length cy, us.map TrnV.c⟩] } from by
          have app := HAPP.out
          rw [← HEQ.out] at app
          have g1 := F6.out.size
          have g2 := HAPP.out.fr.size
          have g3 := fs.size
          have g4 := HDT.out
          have g5 := B6.out.lt
          have rr := R6.out.fr HAPP.out.fr (rows_ne R6.out HROQ.out (by decide))
          refine SlO.queueF H6.out (x := ⟨l0, lsn, .slice ay us.length cy, us.map TrnV.c⟩) app fs (SG.out.set 5 (.slice ab (v1.qs.length + 1) ac)) ⟨_, SG.out⟩ ⟨?_, fun k hk => ?_, fun ch hch => ?_, fun ch hch k hk => ?_⟩ (fun k hk => .inl hk) (fun k hk => ?_) (fun k hk ht => ?_) (fun k hk => ?_)
          · exact ((rr.fr fs (fun k hk e => rr.ne SG.out (by decide) k hk e)).low (Nat.zero_le _)).cast (List.length_map ..).symm rfl
          · have h1 := rr.new k hk
            have h2 := rr.lt hk
            exact .inr ⟨by omega, by omega⟩
          · obtain ⟨t, ht, rfl⟩ := List.mem_map.1 hch
            have c0 := (HCU.out t ht).fre F6.out
            have c1 := c0.fr HAPP.out.fr (c0.offRow HROQ.out (by decide) (by decide))
            exact c1.fr fs (fun k hk e => c1.ne SG.out (by decide) (by decide) (by rw [← e]; exact hk))
          · obtain ⟨t, ht, rfl⟩ := List.mem_map.1 hch
            exact .inl (HCT.out t ht k hk)
          · rcases HAPP.out.at_ k hk with e | e
            · exact .inl (H6.out.qS k (by rw [HEQ.out]; exact e))
            · have := HAPP.out.row.lt hk
              exact .inr ⟨by omega, by omega⟩
          · rcases ht with ht | ht
            · exact H6.out.CS k hk ht
            · have := HS2.out.lt k (.inr hk); omega
          · rcases hk with hk | hk
            · have := HS2.out.lt k (.inl hk); omega
            · exact hk.2)
        have HFR := hid (show Fr S w (wg.setCell ⟨s, 5, none⟩ (.slice ab (v1.qs.length + 1) ac)) from
          ((FW2.out.trans F6.out (fun _ h _ => h.elim)).trans HAPP.out.fr (fun k hk hl => (HTB.out k (H6.out.qS k (by rw [HEQ.out]; exact hk))).elim id (fun h => by omega))).trans fs (fun k hk _ => by rw [hk]; exact H.out.bS))
        go_wp2_with (fail)
        go_end0
        refine ⟨rfl, _, _, D, HFIN.out, ?_, HNL.out, fun k hk => ?_, HDB.out, HFR.out⟩
        · rw [HFE.out, ← HUE2.out]
          unfold queueM
          rw [if_neg (fun h => h.elim (fun h => by
            have h1 := congrArg List.length h
            rw [List.length_map, List.length_nil] at h1
            omega) (fun h => by have h1 : lsn ≤ v1.acked := h; have := HAC.out; omega))]
          show ({ v1.t with queue := (v1.qs ++ [(⟨l0, lsn, .slice ay us.length cy, us.map TrnV.c⟩ : DnV)]).map DnV.t } : Slt) = _
          rw [List.map_append, List.head?_map, Option.map_map, List.map_map]
          have e : us.head?.map (Trn.lsn ∘ TrnV.t) = some l0 := HL0.out
          rw [e]
          show ({ v1.t with queue := v1.qs.map DnV.t ++ [⟨l0, lsn, (us.map TrnV.c).map ChgV.c⟩] } : Slt) = _
          rw [List.map_map]
          rfl
        · rcases hk with hk | hk
          · exact HTB.out k hk
          · have := FW2.out.size
            exact .inr (by omega)
end Go.Proofs.YtiimomgbklgicaaGreat
