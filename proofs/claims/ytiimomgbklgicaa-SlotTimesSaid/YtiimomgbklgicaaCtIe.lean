import Derived.Test.YtiimomgbklgicaaCtH
/- The end of index. -/
set_option linter.unusedVariables false
namespace Go.Proofs.Ytiimomgbklgicaa
open Go.RowKit Go.VB Go.VB.Oct Go.VB.Cat Go.VB.Rec
theorem ix_flat (x : TabV) : ∀ (l : List TabV) (i : Nat) (hi : i < l.length), x.t.id = l[i].t.id → x.t.name = l[i].t.name → x.vc = l[i].vc → (l.set i x).flatMap TabV.cells = (l.flatMap TabV.cells).set (i * 4 + 3) x.vi
  | [], i, h, _, _, _ => by simp at h
  | t :: l, 0, h, h1, h2, h3 => by
    simp only [List.getElem_cons_zero] at h1 h2 h3
    simp [TabV.cells, h1, h2, h3]
  | t :: l, i + 1, h, h1, h2, h3 => by
    have ih := ix_flat x l i (by simpa using h) (by simpa using h1) (by simpa using h2) (by simpa using h3)
    rw [List.set_cons_succ, List.flatMap_cons, List.flatMap_cons, ih, show (i + 1) * 4 + 3 = i * 4 + 3 + 1 + 1 + 1 + 1 by omega]
    simp [TabV.cells]
theorem index_end {S : Nat → Prop} {w w8 wg : World} {c : Nat} {v : Value} {ts : List TabV} {s : St} {root : Int} (h : CRv 93 S w c v ts) (he : indexE (ts.map TabV.t) s root = 0) (f1 : Fr (fun _ => False) w w8) {i g : Nat} (hi : i < ts.length) (hf : find (ts.map TabV.t) s.table = (i : Int))
    (hg : v.ownBlock = some g) {vn vi' : Value} {B : Nat} (hB : w.heap.size ≤ B) (rc : Row 3 1 B w8 vn s.names.length ((s.names.map (colOf ts[i].t.cols)).flatMap icell))
    (app : App 113 3 0 w8 wg ts[i].vi vi' ts[i].ix.length (ts[i].ix.flatMap IxV.cells) [.string (bs s.name), vn, .int .i64 root]) :
    CR 93 (Ext S w (wg.setCell ⟨g, i * 4 + 3, none⟩ vi')) (wg.setCell ⟨g, i * 4 + 3, none⟩ vi') c (index (ts.map TabV.t) s root).1 ∧ Fr S w (wg.setCell ⟨g, i * 4 + 3, none⟩ vi') := by
  have h8 := h.fre f1
  have T0 := h8.t _ (List.getElem_mem hi)
  have hgS : S g := h.rS g hg
  have fg := app.fr
  have nig := rows_ne T0.i h8.r (by decide)
  have rg := h8.r.fr fg (fun k hk e => nig k e hk)
  obtain ⟨lg, hbg⟩ := row_blk rg hg
  have fs := (Fr.refl (fun k => k = g) wg).setCell ⟨g, i * 4 + 3, none⟩ vi' (fun _ => rfl)
  have z1 := f1.size
  have z2 := fg.size
  have z3 := fs.size
  have hF : Fr S w (wg.setCell ⟨g, i * 4 + 3, none⟩ vi') := ((f1.mono (fun _ h _ => h.elim)).trans fg (fun k hk _ => (h.t _ (List.getElem_mem hi)).iS k hk)).trans fs (fun k hk _ => by rw [hk]; exact hgS)
  obtain ⟨x, hx⟩ : ∃ x : TabV, x = ⟨{ ts[i].t with ixs := ts[i].t.ixs ++ [s.ix ts[i].t root] }, ts[i].vc, vi', ts[i].ix ++ [⟨s.ix ts[i].t root, vn⟩]⟩ := ⟨_, rfl⟩
  have hxi : x.vi = vi' := by rw [hx]
  have hxv : x.vc = ts[i].vc := by rw [hx]
  have dip := List.pairwise_iff_getElem.1 h.di
  have dcp := List.pairwise_iff_getElem.1 h.dc
  have hcells : (ts.set i x).flatMap TabV.cells = (ts.flatMap TabV.cells).set (i * 4 + 3) vi' := by
    rw [ix_flat x ts i hi (by rw [hx]) (by rw [hx]) hxv, hxi]
  have bg := Blk.fr h8.b fg (fun hk => T0.i.ne h8.b (by decide) c hk rfl)
  have hbc : ¬ c = g := fun e => by
    subst e
    have := (bg.uniq hbg).2
    exact absurd this (by decide)
  have hnew : ∀ k, vi'.ownBlock = some k → ∀ j (hj : j < ts.length), j ≠ i → ts[j].vi.ownBlock ≠ some k := by
    intro k hk j hj hji e
    rcases app.at_ k hk with q | q
    · rcases Nat.lt_or_gt_of_ne hji with r | r
      · exact dip j i hj hi r k e q
      · exact dip i j hi hj r k q e
    · have := h.lt k ((h.t _ (List.getElem_mem hj)).iS k e)
      omega
  refine ⟨⟨v, ts.set i x, ⟨bg.fr fs hbc, .inl h.bS, ?_, fun k hk => .inl (h.rS k hk), ?_, ?_, ?_, ?_⟩, ?_⟩, hF⟩
  · exact (row_set rg hg (i * 4 + 3) vi').cast (by rw [List.length_set]) hcells.symm
  · intro t ht
    obtain ⟨j, hj, rfl⟩ := List.getElem_of_mem ht
    have hj2 : j < ts.length := by rwa [List.length_set] at hj
    rw [List.getElem_set]
    split
    · rw [hx]
      have hc := T0.c.fr fg (rows_ne T0.c T0.i (by decide))
      have hv := (rc.low (Nat.zero_le _)).fr fg (rows_ne rc T0.i (by decide))
      refine ⟨hc.fr fs (fun k hk e => hc.ne hbg (by decide) k hk e), fun k hk => .inl (T0.cS k hk), (app.row.cast (by simp) (by simp [IxV.cells, St.ix])).fr fs (fun k hk e => app.row.ne hbg (by decide) k hk e), ?_, ?_, ?_⟩
      · intro k hk
        rcases app.at_ k hk with q | q
        · exact .inl (T0.iS k q)
        · have := app.row.lt hk
          exact .inr ⟨by omega, by omega⟩
      · simp [T0.e]
      · intro y hy
        rcases List.mem_append.1 hy with q | q
        · have h1 := (T0.x y q).1.fr fg (rows_ne (T0.x y q).1 T0.i (by decide))
          exact ⟨h1.fr fs (fun k hk e => h1.ne hbg (by decide) k hk e), fun k hk => .inl ((T0.x y q).2 k hk)⟩
        · rw [List.mem_singleton.1 q]
          refine ⟨(hv.fr fs (fun k hk e => hv.ne hbg (by decide) k hk e)).cast (by simp [St.ix]) (by simp [St.ix]), fun k hk => .inr ⟨Nat.le_trans hB (rc.new k hk), ?_⟩⟩
          have := rc.lt hk
          omega
    · rename_i hij
      have T1 := h8.t _ (List.getElem_mem hj2)
      have hc := T1.c.fr fg (rows_ne T1.c T0.i (by decide))
      have hi1 := T1.i.fr fg (fun k hk e => by
        rcases Nat.lt_or_gt_of_ne hij with q | q
        · exact dip i j hi hj2 q k e hk
        · exact dip j i hj2 hi q k hk e)
      refine ⟨hc.fr fs (fun k hk e => hc.ne hbg (by decide) k hk e), fun k hk => .inl (T1.cS k hk), hi1.fr fs (fun k hk e => hi1.ne hbg (by decide) k hk e), fun k hk => .inl (T1.iS k hk), T1.e, fun y hy => ?_⟩
      have h1 := (T1.x y hy).1.fr fg (rows_ne (T1.x y hy).1 T0.i (by decide))
      exact ⟨h1.fr fs (fun k hk e => h1.ne hbg (by decide) k hk e), fun k hk => .inl ((T1.x y hy).2 k hk)⟩
  · rw [List.pairwise_iff_getElem]
    intro a b ha hb hab
    have ha2 : a < ts.length := by rwa [List.length_set] at ha
    have hb2 : b < ts.length := by rwa [List.length_set] at hb
    have := dcp a b ha2 hb2 hab
    rw [List.getElem_set, List.getElem_set]
    split <;> split
    · omega
    · rename_i e _; subst e; rw [hxv]; exact this
    · rename_i e; subst e; rw [hxv]; exact this
    · exact this
  · rw [List.pairwise_iff_getElem]
    intro a b ha hb hab
    have ha2 : a < ts.length := by rwa [List.length_set] at ha
    have hb2 : b < ts.length := by rwa [List.length_set] at hb
    have := dip a b ha2 hb2 hab
    rw [List.getElem_set, List.getElem_set]
    split <;> split
    · omega
    · rename_i e _; subst e; rw [hxi]; exact fun k hk => hnew k hk b hb2 (by omega)
    · rename_i e; subst e; rw [hxi]; exact fun k hk hk2 => hnew k hk2 a ha2 (by omega) hk
    · exact this
  · intro k hk
    rcases hk with q | q
    · have := h.lt k q; omega
    · exact q.2
  · unfold index
    rw [if_pos he]
    have e1 : (find (ts.map TabV.t) s.table).toNat = i := by omega
    rw [e1]
    dsimp only
    apply List.ext_getElem
    · simp
    · intro a h1 h2
      have ha : a < ts.length := by simpa using h1
      rw [List.getElem_map, List.getElem_set, List.getElem_modify]
      split
      · rename_i e
        subst e
        rw [hx, List.getElem_map]
      · rw [List.getElem_map]
end Go.Proofs.Ytiimomgbklgicaa
