import Derived.Test.YtfalehgngioheaaRefC
import Derived.Test.YtfalehgngioheaaScript
/- The reference's disk: Write. -/
set_option linter.unusedVariables false
namespace Go.Proofs.Ytfalehgngioheaa
open Go.RowKit Go.VB Go.VB.Disk
theorem own_set {w : World} {e : TypeId} {size n c g : Nat} {xs : List Value} (h : w.ownsRow 0 e size (.slice (some ⟨g, 0, none⟩) n c) n xs) (i : Nat) (v : Value) (hi : i < xs.length) : (w.setCell ⟨g, i, none⟩ v).ownsRow 0 e size (.slice (some ⟨g, 0, none⟩) n c) n (xs.set i v) := by
  refine ⟨by rw [List.length_set]; exact h.1, ?_⟩
  rcases h.2 with ⟨hv, h0⟩ | ⟨g', cap, cur, hv, hb, hgg, h1, h2, h3, h4⟩
  · cases hv
  · obtain ⟨rfl, rfl⟩ : g = g' ∧ c = cap := by simpa using hv
    have B : Blk w g cur.toList e := by unfold Blk; simpa using hgg
    have B2 := B.set i v
    refine .inr ⟨g, c, (cur.toList.set i v).toArray, rfl, hb, B2, h1, h2, by simpa using h3, ?_⟩
    rw [List.toList_toArray, ← h4, List.take_set]
theorem rcells_length (ps : List Pg) (wv : List Value) (hl : wv.length = ps.length) : (rcells ps wv).length = ps.length * 2 := by
  induction ps generalizing wv with
  | nil => rfl
  | cons p ps ih =>
    cases wv with
    | nil => simp at hl
    | cons v wv =>
      have := ih wv (by simpa using hl)
      simp only [rcells, List.zip_cons_cons, List.flatMap_cons, List.length_append, List.length_cons, List.length_nil] at this ⊢
      omega
theorem rcells_ext {ps : List Pg} {wv xs : List Value} (hl : wv.length = ps.length) (hx : xs.length = ps.length * 2) (h : ∀ (k : Nat) (hk : k < ps.length), xs[k * 2]? = some (.string (bs ps[k].safe)) ∧ xs[k * 2 + 1]? = some (wv[k]'(by omega))) : xs = rcells ps wv := by
  apply List.ext_getElem?
  intro i
  by_cases hi : i < ps.length * 2
  · have hk : i / 2 < ps.length := by omega
    rcases (show i = i / 2 * 2 ∨ i = i / 2 * 2 + 1 by omega) with e | e
    · have h1 := (h (i / 2) hk).1
      have h2 := rcells_at ps wv hl (i / 2) hk 0 (by omega)
      rw [Nat.add_zero] at h2
      rw [e, h1, h2]
      rfl
    · have h1 := (h (i / 2) hk).2
      have h2 := rcells_at ps wv hl (i / 2) hk 1 (by omega)
      rw [e, h1, h2]
      rfl
  · rw [List.getElem?_eq_none (by omega), List.getElem?_eq_none (by rw [rcells_length ps wv hl]; omega)]
/-- a page's writes turn -/
theorem rcells_write (ps : List Pg) (wv : List Value) (hl : wv.length = ps.length) (k : Nat) (hk : k < ps.length) (l : Bytes) (v : Value) : (rcells ps wv).set (k * 2 + 1) v = rcells (ps.modify k (Pg.write l)) (wv.set k v) := by
  refine rcells_ext (by simpa using hl) (by rw [List.length_set, rcells_length ps wv hl]; simp) fun i hi => ?_
  have hi' : i < ps.length := by simpa using hi
  have a0 := rcells_at ps wv hl i hi' 0 (by omega)
  have a1 := rcells_at ps wv hl i hi' 1 (by omega)
  have hr := rcells_length ps wv hl
  rw [Nat.add_zero] at a0
  refine ⟨?_, ?_⟩
  · rw [List.getElem?_set_ne (by omega), a0]
    simp only [List.getElem?_cons_zero, List.getElem_modify]
    split <;> rfl
  · by_cases e : k = i
    · subst e
      rw [List.getElem?_set_self (by omega)]
      simp
    · rw [List.getElem?_set_ne (by omega), a1]
      simp [e]
theorem Try.info_string : (Try.prog.info? 9).map (fun i => (i.zero, i.size, i.bytes)) = some (some (.string ⟨#[]⟩), 1, 16) := by kernel_rfl
def RR (S : Nat → Prop) (w : World) (d : Nat) (m : DM) : Prop := ∃ pv wv, RRep S w d m pv wv
theorem RRep.ext {S : Nat → Prop} {w w' : World} {d : Nat} {m : DM} {pv : Value} {wv : List Value} (h : RRep S w' d m pv wv) : RRep (Ext S w w') w' d m pv wv :=
  ⟨.inl h.sd, fun k hk => hk.elim (h.lt k) (·.2), h.b, h.own, fun k hk => .inl (h.reg k hk), h.len, fun i p v hp hv => ⟨(h.ws i p v hp hv).1, fun k hk => .inl ((h.ws i p v hp hv).2 k hk)⟩, h.ne⟩
/-- what an operation of the reference's disk leaves -/
structure ROut (S : Nat → Prop) (w w' : World) (d : Nat) (m : DM) : Prop where
  rep : RR (Ext S w w') w' d m
  fr : Fr S w w'
theorem ROut.of {S : Nat → Prop} {w w' : World} {d : Nat} {m : DM} {pv : Value} {wv : List Value} (h : RRep S w' d m pv wv) (f : Fr (fun j => j = d) w w') : ROut S w w' d m :=
  ⟨⟨pv, wv, h.ext⟩, f.mono (fun j hj _ => hj ▸ h.sd)⟩
theorem ROut.same {S : Nat → Prop} {w w' : World} {d : Nat} {m : DM} {pv : Value} {wv : List Value} (h : RRep S w d m pv wv) (f : Fr (fun _ => False) w w') : ROut S w w' d m :=
  ⟨⟨pv, wv, (h.fr f (fun _ _ h => h)).ext⟩, f.mono (fun _ h _ => h.elim)⟩
variable {S : Nat → Prop} {w : World} {d : Nat} {m : DM} {pv : Value} {wv : List Value}
set_option maxHeartbeats 2000000 in
theorem Write_ref (h : RRep S w d m pv wv) (n : Int) (l : Bytes) (hlen : m.pages.length ≤ 400) {kk : Nat} (ok : m.Ok kk) (hkk : kk ≤ 1000000) :
    Calls Try.prog 51 #[.pointer (some ⟨d, 0, none⟩), .int .i64 n, .string (bs l)] w fun e w' => e = .returned (.int .i64 (m.write n l).2) ∧ ROut S w w' d (m.write n l).1 := by
  have c3 : w.cell? ⟨d, 3, none⟩ = some (.bool (!m.off)) := h.b.cell 3
  have sl := bs_size l
  have hI := is_ref h n
  cases ho : m.off with
  | true =>
    have hr : m.write n l = (m, 24) := operate_off' ho
    rw [ho] at c3
    rw [hr]
    have hH := hid h
    clear hr ho h hI
    go_enter Try.func51, Try.ntmps51
    go_wp2
    go_ret
    exact ⟨rfl, ROut.same hH.out (Fr.refl _ _)⟩
  | false =>
    rw [ho] at c3
    cases hi : m.is n with
    | false =>
      have hr : m.write n l = (m, 22) := by
        unfold DM.write
        rw [hi]
        simp only [Bool.false_eq_true, if_false]
        exact operate_wrong' ho (by decide)
      rw [hr]
      rw [hi] at hI
      have hH := hid h
      have HI := hid hI
      clear hr ho h hI hi
      go_enter Try.func51, Try.ntmps51
      go_wp2_with (go_at_call 61; refine HI.out.mono ?_; rintro e w' ⟨rfl, rfl⟩)
      go_ret
      exact ⟨rfl, ROut.same hH.out (Fr.refl _ _)⟩
    | true =>
      rw [hi] at hI
      by_cases hz : l.length = 512
      · have hn : 0 ≤ n ∧ n < (m.pages.length : Int) := by simpa [DM.is] using hi
        obtain ⟨k, rfl⟩ : ∃ k : Nat, n = k := ⟨n.toNat, by omega⟩
        have hk : k < m.pages.length := by omega
        have hm := may_rep h ho
        have hr : m.write k l = if m.armed && decide (m.left ≤ 0) then (mayM m, 24) else ({ mayM m with pages := m.pages.modify k (Pg.write l) }, 0) := by
          unfold DM.write
          rw [hi, if_pos rfl, if_pos hz, operate_may m 0 _ ho rfl]
          split
          · rfl
          · rename_i hc
            rw [may_on m (by simpa using hc)]
            rfl
        have HI := hid hI
        cases hb : (m.armed && decide (m.left ≤ 0)) with
        | true =>
          rw [hb] at hm hr
          rw [if_pos rfl] at hr
          rw [hr]
          have hM := hid hm
          clear h ho hr hb hm hi hI hn
          go_enter Try.func51, Try.ntmps51
          go_wp2_with (first
            | (go_at_call 61; refine HI.out.mono ?_; rintro e w' ⟨rfl, rfl⟩)
            | (go_at_call 62; refine hM.out.mono ?_; rintro e w1 ⟨rfl, h1, f1⟩))
          go_ret
          exact ⟨rfl, ROut.of h1 f1⟩
        | false =>
          rw [hb] at hm hr
          rw [if_neg (by simp)] at hr
          have hpg : (mayM m).pages = m.pages := by rw [may_on m hb]
          rw [hr]
          have hM := hid hm
          have few := ok.few _ (List.getElem_mem hk)
          have HP := hid hpg
          clear h ho hr hb hm hi hI hn hpg
          go_enter Try.func51, Try.ntmps51
          go_wp2_with (first
            | (go_at_call 61; refine HI.out.mono ?_; rintro e w' ⟨rfl, rfl⟩)
            | (go_at_call 62; refine hM.out.mono ?_; rintro e w1 ⟨rfl, h1, f1⟩)
            | fail)
          have hk1 : k < (mayM m).pages.length := by rw [HP.out]; exact hk
          have few1 : (mayM m).pages[k].ws.length ≤ kk := by
            have e : (mayM m).pages[k] = m.pages[k] := by simp only [HP.out]
            rw [e]; exact few
          rw [← HP.out] at hlen
          clear hM HI few ok c3
          generalize hm1 : mayM m = m1 at *
          have HM1 := hid hm1
          clear hm1
          obtain ⟨g, c, rfl, hSg, k0, k1⟩ := h1.page hk1
          have hw := h1.write hk1
          have hvr := (h1.ws k _ _ (List.getElem?_eq_getElem hk1) (List.getElem?_eq_getElem (by rw [h1.len]; exact hk1))).2
          have hv : wv[k]? = some (wv[k]'(by rw [h1.len]; exact hk1)) := List.getElem?_eq_getElem _
          generalize wv[k]'(by rw [h1.len]; exact hk1) = v at *
          have d0 : w1.cell? ⟨d, 0, none⟩ = some (.slice (some ⟨g, 0, none⟩) m1.pages.length c) := h1.b.cell 0
          have dg : g ≠ d := ownsRow_ne h1.b (by decide) h1.own g rfl
          have vg : ∀ j, v.ownBlock = some j → j ≠ g := by
            intro j hj e
            subst e
            rcases h1.own.2 with ⟨hn, _⟩ | ⟨g', cap, cur, hn, -, hgg, -⟩
            · cases hn
            · obtain ⟨rfl, rfl⟩ : j = g' ∧ c = cap := by simpa using hn
              exact ownsRow_ne (show Blk w1 j cur.toList 89 by unfold Blk; simpa using hgg) (by decide) hw j hj rfl
          have vd : ∀ j, v.ownBlock = some j → j ≠ d := ownsRow_ne h1.b (by decide) hw
          have hfz : w1.frozen? ⟨g, k * 2 + 1, none⟩ = false := by
            rcases h1.own.2 with ⟨hn, _⟩ | ⟨g', cap, cur, hn, -, hgg, -⟩
            · cases hn
            · obtain ⟨rfl, rfl⟩ : g = g' ∧ c = cap := by simpa using hn
              exact (show Blk w1 g cur.toList 89 by unfold Blk; simpa using hgg).frozen _
          have ld := lt_of_cell d0
          have lg := lt_of_cell k1
          refine wp_region_script [(true, 0), (true, 1), (true, 2), (true, 3), (true, 4), (true, 5), (true, 6), (true, 7), (true, 8), (true, 9), (true, 10), (true, 11), (true, 12), (true, 13), (false, 14), (false, 15), (true, 16), (true, 17), (false, 18)] (fun kz w => (kz ≤ 18 → w.cell? ⟨d, 0, none⟩ = some (.slice (some ⟨g, 0, none⟩) m1.pages.length c) ∧ w.cell? ⟨g, k * 2 + 1, none⟩ = some v) ∧ True) (by kernel_rfl) (by kernel_rfl) (by intro c a d v w h; cases d <;> exact h) ?_
          repeat
            first
            | (refine wpS_pure rfl rfl rfl ?_; apply Exists.intro; refine ⟨?_, ?_⟩; intro w; ((go_simp <;> rfl)); simp only [Act.put, List.setIfInBounds_toArray, List.set_cons_zero, List.set_cons_succ])
            | (refine wpS_take 18 rfl rfl (by decide +kernel) ⟨fun _ => ⟨d0, k1⟩, trivial⟩ ?_; apply Exists.intro; refine ⟨?_, ?_⟩; intro w hw; (have qa := (hw rfl).1 (Nat.le_refl _); have qb := (hw rfl).2); ((go_simp <;> rfl)); simp only [Act.put, List.setIfInBounds_toArray, List.set_cons_zero, List.set_cons_succ])
            | (refine wpS_skip rfl rfl ?_; simp only [Act.put, List.setIfInBounds_toArray, List.set_cons_zero, List.set_cons_succ])
          have F2 := ((Fr.refl (fun _ => False) w1).alloc (.cells [Value.string (bs l)].toArray 9)).drew
          have ho := own_fr hw F2 (fun _ _ h => h)
          have hsrc : Src Try.prog (w1.alloc (.cells [Value.string (bs l)].toArray 9)).drew 1 (.slice (some ⟨w1.heap.size, 0, none⟩) 1 1) 1 [Value.string (bs l)] := Src.slice (by simp) (by simp [Value.oneCell']) (Blk.new w1 [Value.string (bs l)] 9).drew.all
          have hwos : w1.heap.size + 1 = (w1.alloc (.cells [Value.string (bs l)].toArray 9)).drew.heap.size := by simp
          refine wpS_op rfl ?_
          go_wp2_with (fail)
          (refine ⟨?_, ?_⟩; focus (intro kz hk hk2; rintro ⟨qa, qb⟩; first | (exfalso; simp at hk2; omega) | exact ⟨qa, qb⟩ | (refine ⟨fun h => absurd h (by omega), ?_⟩; first | exact qb | (exact ⟨cell_fr d0 F2 (fun h => h), cell_fr k1 F2 (fun h => h)⟩)) | (refine ⟨fun h => ?_, ?_⟩; (have qa := qa h); all_goals (first | exact qa | exact qb | (exact ⟨cell_fr d0 F2 (fun h => h), cell_fr k1 F2 (fun h => h)⟩)))))
          generalize hwo : (w1.alloc (.cells [Value.string (bs l)].toArray 9)).drew = wo at *
          refine wpS_op rfl ?_
          refine wpList_append rfl (s := .tmp 38) (x := .tmp 40) (t := 22) (tx := 22) rfl Try.underlying22 Try.underlying22 (.inr ⟨_, rfl⟩) Try.info_string rfl rfl rfl ho hsrc (by omega) (by omega) ?_
          intro ab ac wg hown hg hat
          have hg : wo.grownBy wg v.ownBlock := hg
          have hat : ∀ j, (Value.slice ab (m1.pages[k].ws.length + 1) ac).ownBlock = some j → v.ownBlock = some j ∨ j = wo.heap.size := hat
          have FG : Fr (fun j => v.ownBlock = some j) w1 wg := (F2.mono (fun _ h _ => h.elim)).grown hg (fun j hj _ => hj)
          have y0 := cell_fr d0 FG (fun h => vd _ h rfl)
          have y1 := cell_fr k1 FG (fun h => vg _ h rfl)
          have hgz : wg.frozen? ⟨g, k * 2 + 1, none⟩ = false := by
            rw [World.frozen?_of_block (w := w1) (FG.blk g lg (fun h => vg _ h rfl))]
            exact hfz
          go_wp2
          refine ⟨fun kz _ _ _ => ⟨fun _ => ⟨y0, y1⟩, trivial⟩, ?_⟩
          repeat
            first
            | (refine wpS_pure rfl rfl rfl ?_; apply Exists.intro; refine ⟨?_, ?_⟩; intro w; ((go_simp <;> rfl)); simp only [Act.put, List.setIfInBounds_toArray, List.set_cons_zero, List.set_cons_succ])
            | (refine wpS_take 18 rfl rfl (by decide +kernel) ⟨fun _ => ⟨y0, y1⟩, trivial⟩ ?_; apply Exists.intro; refine ⟨?_, ?_⟩; intro w hw; (have qa := (hw rfl).1 (Nat.le_refl _); have qb := (hw rfl).2); ((go_simp <;> rfl)); simp only [Act.put, List.setIfInBounds_toArray, List.set_cons_zero, List.set_cons_succ])
            | (refine wpS_skip rfl rfl ?_; simp only [Act.put, List.setIfInBounds_toArray, List.set_cons_zero, List.set_cons_succ])
          refine wpS_op rfl ?_
          go_wp2_with (fail)
          refine ⟨fun kz h1 h2 _ => by exfalso; simp at h2; omega, ?_⟩
          refine wpS_nil ?_
          go_wp2
          go_ret
          have FS := (Fr.refl (fun j => j = g) wg).setCell ⟨g, k * 2 + 1, none⟩ (.slice ab (m1.pages[k].ws.length + 1) ac) (fun _ => rfl)
          have hp2 : m.pages = m1.pages := HP.out.symm
          have hwl : wo.heap.size ≤ wg.heap.size := hg.size
          have s1 := f1.size
          have own2 : (wg.setCell ⟨g, k * 2 + 1, none⟩ (.slice ab (m1.pages[k].ws.length + 1) ac)).ownsRow 0 89 2 (.slice (some ⟨g, 0, none⟩) m1.pages.length c) m1.pages.length (rcells (m1.pages.modify k (Pg.write l)) (wv.set k (.slice ab (m1.pages[k].ws.length + 1) ac))) := by
            rw [← rcells_write m1.pages wv h1.len k hk1]
            refine own_set (own_fr h1.own FG (fun j hj h => ?_)) _ _ (by rw [rcells_length _ _ h1.len]; omega)
            have e : g = j := Option.some.inj hj
            exact vg _ h e.symm
          have nb : ∀ j, (Value.slice ab (m1.pages[k].ws.length + 1) ac).ownBlock = some j → j ≠ g := fun j hj e => by
            rcases hat j hj with h | h
            · exact vg j h e
            · omega
          have lv : ∀ (i : Nat) (v' : Value) (j : Nat), wv[i]? = some v' → v'.ownBlock = some j → j < w1.heap.size := fun i v' j hv' hj => by
            have hi : i < m1.pages.length := by rw [← h1.len]; exact (List.getElem?_eq_some_iff.1 hv').1
            exact h1.lt j ((h1.ws i _ v' (List.getElem?_eq_getElem hi) hv').2 j hj)
          rw [HM1.out]
          refine ⟨rfl, ⟨⟨.slice (some ⟨g, 0, none⟩) m1.pages.length c, wv.set k (.slice ab (m1.pages[k].ws.length + 1) ac), ?_⟩, ?_⟩⟩
          · rw [hp2]
            refine ⟨.inl h1.sd, fun j hj => ?_, ?_, by simpa using own2, fun j hj => .inl (h1.reg j hj), by simpa using h1.len, fun i p v' hp hv' => ?_, fun i j v1 v2 b hij hv1 hv2 hb1 hb2 => ?_⟩
            · rcases hj with hj | hj
              · have := h1.lt j hj
                have := FG.size
                have := FS.size
                omega
              · exact hj.2
            · exact (h1.b.fr FG (fun h => vd _ h rfl)).set_ne _ _ (fun e => dg e.symm)
            · rw [List.getElem?_set] at hv'
              rw [List.getElem?_modify] at hp
              have hi : i < m1.pages.length := by
                apply Nat.lt_of_not_le
                intro hle
                rw [List.getElem?_eq_none hle] at hp
                simp at hp
              rw [List.getElem?_eq_getElem hi] at hp
              split at hv'
              · rename_i e
                subst e
                rw [if_pos (by rw [h1.len]; exact hk1)] at hv'
                obtain rfl := Option.some.inj hv'
                obtain rfl : Pg.write l m1.pages[k] = p := by simpa using hp
                refine ⟨?_, fun j hj => ?_⟩
                · have : sv (Pg.write l m1.pages[k]).ws = sv m1.pages[k].ws ++ [Value.string (bs l)] := by simp [sv, Pg.write]
                  rw [this]
                  have hl1 : (Pg.write l m1.pages[k]).ws.length = m1.pages[k].ws.length + 1 := by simp [Pg.write]
                  rw [hl1]
                  exact own_fr hown FS nb
                · rcases hat j hj with h | h
                  · exact .inl (hvr j h)
                  · exact .inr ⟨by omega, by have := own_lt hown hj; have := FS.size; omega⟩
              · rename_i e
                obtain rfl : m1.pages[i] = p := by simpa [e] using hp
                obtain ⟨q1, q2⟩ := h1.ws i _ v' (List.getElem?_eq_getElem hi) hv'
                refine ⟨own_fr (own_fr q1 FG (fun j hj h => h1.ne i k v' v j (fun e2 => e e2.symm) hv' hv hj h)) FS (fun j hj e2 => ?_), fun j hj => .inl (q2 j hj)⟩
                subst e2
                rcases h1.own.2 with ⟨hn, _⟩ | ⟨g', cap, cur, hn, -, hgg, -⟩
                · cases hn
                · obtain ⟨rfl, rfl⟩ : j = g' ∧ c = cap := by simpa using hn
                  exact ownsRow_ne (show Blk w1 j cur.toList 89 by unfold Blk; simpa using hgg) (by decide) q1 j hj rfl
            · rw [List.getElem?_set] at hv1 hv2
              split at hv1
              · rename_i e
                subst e
                rw [if_pos (by rw [h1.len]; exact hk1)] at hv1
                obtain rfl := Option.some.inj hv1
                rw [if_neg hij] at hv2
                rcases hat b hb1 with h | h
                · exact h1.ne _ _ _ _ b hij hv hv2 h hb2
                · have := lv _ _ _ hv2 hb2
                  omega
              · split at hv2
                · rename_i e
                  subst e
                  rw [if_pos (by rw [h1.len]; exact hk1)] at hv2
                  obtain rfl := Option.some.inj hv2
                  rcases hat b hb2 with h | h
                  · exact h1.ne _ _ _ _ b hij hv1 hv hb1 h
                  · have := lv _ _ _ hv1 hb1
                    omega
                · exact h1.ne _ _ _ _ b hij hv1 hv2 hb1 hb2
          · exact ((f1.mono (fun j hj _ => hj ▸ h1.sd)).trans FG (fun j hj _ => hvr j hj)).trans FS (fun j hj _ => hj ▸ hSg)
      · have hr : m.write n l = (m, 1) := by
          unfold DM.write
          rw [hi, if_pos rfl, if_neg hz]
          exact operate_wrong' ho (by decide)
        rw [hr]
        have hH := hid h
        have HI := hid hI
        have hz2 : ¬ (l.length : Int) = 512 := by omega
        clear hr ho h hI hi
        go_enter Try.func51, Try.ntmps51
        go_wp2_with (go_at_call 61; refine HI.out.mono ?_; rintro e w' ⟨rfl, rfl⟩)
        go_ret
        exact ⟨rfl, ROut.same hH.out (Fr.refl _ _)⟩
