import Derived.Test.YtiimomgbklgicaaGreatPkRsL
set_option linter.unusedVariables false
namespace Go.VB.Cat
open Go.VB Go.VB.Oct
theorem nodup_at {l : List Bs} (h : l.Nodup) {i j : Nat} (hi : i < l.length) (hj : j < i) : l[i] ≠ l[j]'(by omega) := by
  unfold List.Nodup at h
  rw [List.pairwise_iff_getElem] at h
  exact fun e => h j i (by omega) hi hj e.symm
end Go.VB.Cat
namespace Go.Proofs.YtiimomgbklgicaaGreat
open Go.RowKit Go.VB Go.VB.Oct Go.VB.Cat Go.VB.Rec
/-- an end with an error -/
theorem create_finR {S : Nat → Prop} {w w' : World} {c : Nat} {v : Value} {ts : List TabV} (h : CRv 83 S w c v ts) {s : St} {e : Int} (he : createE (ts.map TabV.t) s = e) (h0 : e ≠ 0) (f : Fr (fun _ => False) w w') :
    Ending.returned (.int .i64 e) = .returned (.int .i64 (create (ts.map TabV.t) s).2) ∧ CR 83 (Ext S w w') w' c (create (ts.map TabV.t) s).1 ∧ Fr S w w' := by
  rw [create_err he h0]
  exact ⟨rfl, CR.ext ⟨v, ts, h, rfl⟩ f, f.mono (fun _ h _ => h.elim)⟩
/-- a table's blocks behind an append to the tables and a store into the catalog -/
theorem TabO.shiftR {S U : Nat → Prop} {W Wg W' : World} {c n : Nat} {v : Value} {lc xs : List Value} {t : TabV} (h : TabO S W t) (hU : ∀ k, S k → U k) (rv : Row 175 4 0 W v n xs) (fg : Fr (fun k => v.ownBlock = some k) W Wg)
    (bg : Blk Wg c lc 83) (fs : Fr (fun k => k = c) Wg W') : TabO U W' t := by
  have hc := h.c.fr fg (rows_ne h.c rv (by decide))
  have hi := h.i.fr fg (rows_ne h.i rv (by decide))
  refine ⟨hc.fr fs (fun k hk e => hc.ne bg (by decide) k hk e), fun k hk => hU k (h.cS k hk), hi.fr fs (fun k hk e => hi.ne bg (by decide) k hk e), fun k hk => hU k (h.iS k hk), h.e, fun x hx => ?_⟩
  have hx1 := (h.x x hx).1.fr fg (rows_ne (h.x x hx).1 rv (by decide))
  exact ⟨hx1.fr fs (fun k hk e => hx1.ne bg (by decide) k hk e), fun k hk => hU k ((h.x x hx).2 k hk)⟩
/-- the end of create -/
theorem create_endR {S : Nat → Prop} {w w8 wg : World} {c : Nat} {v vc v' : Value} {ts : List TabV} {s : St} (h : CRv 83 S w c v ts) (he : createE (ts.map TabV.t) s = 0) (f1 : Fr (fun _ => False) w w8)
    (rc : Row 171 2 w.heap.size w8 vc s.cols.length (s.cols.flatMap Col.cells)) (app : App 175 4 0 w8 wg v v' ts.length (ts.flatMap TabV.cells) [.int .i64 ((ts.length : Int) + 1), .string (bs s.table), vc, .slice none 0 0]) :
    CR 83 (Ext S w (wg.setCell ⟨c, 0, none⟩ v')) (wg.setCell ⟨c, 0, none⟩ v') c (create (ts.map TabV.t) s).1 ∧ Fr S w (wg.setCell ⟨c, 0, none⟩ v') := by
  have h8 := h.fre f1
  have fg := app.fr
  have ncv := h8.r.ne h8.b (by decide)
  have bg := Blk.fr h8.b fg (fun hk => ncv c hk rfl)
  have fs := (Fr.refl (fun k => k = c) wg).setCell ⟨c, 0, none⟩ v' (fun _ => rfl)
  have b' := bg.set 0 v'
  have nc' := app.row.ne bg (by decide)
  have z1 := f1.size
  have z2 := fg.size
  have z3 := fs.size
  have hF : Fr S w (wg.setCell ⟨c, 0, none⟩ v') := ((f1.mono (fun _ h _ => h.elim)).trans fg (fun k hk _ => h.rS k hk)).trans fs (fun k hk _ => by rw [hk]; exact h.bS)
  refine ⟨⟨v', ts ++ [⟨⟨(ts.length : Int) + 1, s.table, s.cols, []⟩, vc, .slice none 0 0, []⟩], ⟨b', .inl h.bS, ?_, ?_, ?_, ?_, ?_, ?_⟩, ?_⟩, hF⟩
  · exact (app.row.cast (by simp) (by simp [TabV.cells])).fr fs (fun k hk e => nc' k hk e)
  · intro k hk
    rcases app.at_ k hk with g | g
    · exact .inl (h.rS k g)
    · have := app.row.lt hk
      exact .inr ⟨by omega, by omega⟩
  · intro t ht
    rcases List.mem_append.1 ht with g | g
    · exact (h8.t t g).shiftR (fun k hk => .inl hk) h8.r fg bg fs
    · rw [List.mem_singleton.1 g]
      have hc := (rc.low (Nat.zero_le _)).fr fg (rows_ne rc h8.r (by decide))
      refine ⟨hc.fr fs (fun k hk e => hc.ne bg (by decide) k hk e), fun k hk => .inr ⟨rc.new k hk, ?_⟩, Row.nil, fun k hk => by simp [Value.ownBlock] at hk, rfl, fun x hx => by simp at hx⟩
      have := rc.lt hk
      omega
  · rw [List.pairwise_append]
    refine ⟨h.dc, List.pairwise_singleton _ _, fun a ha b hb k hk hk2 => ?_⟩
    rw [List.mem_singleton.1 hb] at hk2
    have h1 := h.lt k ((h.t a ha).cS k hk)
    have h2 := rc.new k hk2
    omega
  · rw [List.pairwise_append]
    refine ⟨h.di, List.pairwise_singleton _ _, fun a ha b hb k hk hk2 => ?_⟩
    rw [List.mem_singleton.1 hb] at hk2
    simp [Value.ownBlock] at hk2
  · intro k hk
    rcases hk with g | g
    · have := h.lt k g; omega
    · exact g.2
  · unfold create
    rw [if_pos he]
    simp
/-- an end with an error -/
theorem err_finR {S : Nat → Prop} {w w' : World} {c : Nat} {v : Value} {ts : List TabV} (h : CRv 83 S w c v ts) {p : List Tab × Int} {e : Int} (he : p = (ts.map TabV.t, e)) (f : Fr (fun _ => False) w w') :
    Ending.returned (.int .i64 e) = .returned (.int .i64 p.2) ∧ CR 83 (Ext S w w') w' c p.1 ∧ Fr S w w' := by
  rw [he]
  exact ⟨rfl, CR.ext ⟨v, ts, h, rfl⟩ f, f.mono (fun _ h _ => h.elim)⟩
/-- a store into the tables' array leaves the other rows -/
theorem TabO.tset {S : Nat → Prop} {W W' : World} {t : TabV} {g : Nat} {lg : List Value} (h : TabO S W t) (hb : Blk W g lg 175) (fs : Fr (fun k => k = g) W W') : TabO S W' t :=
  ⟨h.c.fr fs (fun k hk e => h.c.ne hb (by decide) k hk e), h.cS, h.i.fr fs (fun k hk e => h.i.ne hb (by decide) k hk e), h.iS, h.e, fun x hx => ⟨(h.x x hx).1.fr fs (fun k hk e => (h.x x hx).1.ne hb (by decide) k hk e), (h.x x hx).2⟩⟩
/-- one cell of one table stored, what hangs on it made anew or kept -/
theorem put_tab {tc : TypeId} (htc : tc ≠ 175) {S : Nat → Prop} {w w8 : World} {c : Nat} {v : Value} {ts : List TabV} (h : CRv tc S w c v ts) (f1 : Fr (fun _ => False) w w8) {i g : Nat} (hi : i < ts.length) (hg : v.ownBlock = some g) (x : TabV) {j : Nat} {u : Value}
    (hcells : (ts.set i x).flatMap TabV.cells = (ts.flatMap TabV.cells).set (i * 4 + j) u) (hx : TabO (fun k => S k ∨ w.heap.size ≤ k) w8 x) (hvc : x.vc = ts[i].vc ∨ ∀ k, x.vc.ownBlock = some k → w.heap.size ≤ k) (hvi : x.vi = ts[i].vi ∨ ∀ k, x.vi.ownBlock = some k → w.heap.size ≤ k) :
    CRv tc (Ext S w (w8.setCell ⟨g, i * 4 + j, none⟩ u)) (w8.setCell ⟨g, i * 4 + j, none⟩ u) c v (ts.set i x) ∧ Fr S w (w8.setCell ⟨g, i * 4 + j, none⟩ u) := by
  have h8 := h.fre f1
  have hgS : S g := h.rS g hg
  obtain ⟨lg, hbg⟩ := row_blk h8.r hg
  have fs := (Fr.refl (fun k => k = g) w8).setCell ⟨g, i * 4 + j, none⟩ u (fun _ => rfl)
  have z1 := f1.size
  have z3 := fs.size
  have hF : Fr S w (w8.setCell ⟨g, i * 4 + j, none⟩ u) := (f1.mono (fun _ h _ => h.elim)).trans fs (fun k hk _ => by rw [hk]; exact hgS)
  have up : ∀ {P : Nat → Prop} {t : TabV}, (∀ k, P k → S k ∨ w.heap.size ≤ k) → TabO P w8 t → TabO (Ext S w (w8.setCell ⟨g, i * 4 + j, none⟩ u)) (w8.setCell ⟨g, i * 4 + j, none⟩ u) t := by
    intro P t hP ht
    have e : ∀ {k : Nat}, P k → k < w8.heap.size → Ext S w (w8.setCell ⟨g, i * 4 + j, none⟩ u) k := fun hk hl => by
      rcases hP _ hk with q | q
      · exact .inl q
      · exact .inr ⟨q, by omega⟩
    have ht' := ht.tset hbg fs
    exact ⟨ht'.c, fun k hk => e (ht.cS k hk) (ht.c.lt hk), ht'.i, fun k hk => e (ht.iS k hk) (ht.i.lt hk), ht'.e, fun y hy => ⟨(ht'.x y hy).1, fun k hk => e ((ht.x y hy).2 k hk) ((ht.x y hy).1.lt hk)⟩⟩
  have dip := List.pairwise_iff_getElem.1 h.di
  have dcp := List.pairwise_iff_getElem.1 h.dc
  have old : ∀ (j' : Nat) (hj : j' < ts.length) (k : Nat), (ts[j'].vc.ownBlock = some k → k < w.heap.size) ∧ (ts[j'].vi.ownBlock = some k → k < w.heap.size) := fun j' hj k => ⟨fun e => h.lt k ((h.t _ (List.getElem_mem hj)).cS k e), fun e => h.lt k ((h.t _ (List.getElem_mem hj)).iS k e)⟩
  refine ⟨⟨Blk.fr h8.b fs (fun e => ?_), .inl h.bS, (row_set h8.r hg (i * 4 + j) u).cast (by rw [List.length_set]) hcells.symm, fun k hk => .inl (h.rS k hk), ?_, ?_, ?_, ?_⟩, hF⟩
  · exact Blk.ne_of_type h8.b hbg htc e
  · intro t ht
    obtain ⟨j', hj, rfl⟩ := List.getElem_of_mem ht
    have hj2 : j' < ts.length := by rwa [List.length_set] at hj
    rw [List.getElem_set]
    split
    · exact up (fun _ hk => hk) hx
    · exact up (fun _ hk => .inl hk) (h8.t _ (List.getElem_mem hj2))
  · rw [List.pairwise_iff_getElem]
    intro a b ha hb hab k
    have ha2 : a < ts.length := by rwa [List.length_set] at ha
    have hb2 : b < ts.length := by rwa [List.length_set] at hb
    rw [List.getElem_set, List.getElem_set]
    split
    · rename_i e; subst e
      rw [if_neg (by omega)]
      rcases hvc with q | q
      · rw [q]; exact dcp i b hi hb2 hab k
      · intro h1 h2
        have := q k h1; have := (old b hb2 k).1 h2; omega
    · split
      · rename_i e; subst e
        rcases hvc with q | q
        · rw [q]; exact dcp a i ha2 hi hab k
        · intro h1 h2
          have := q k h2; have := (old a ha2 k).1 h1; omega
      · exact dcp a b ha2 hb2 hab k
  · rw [List.pairwise_iff_getElem]
    intro a b ha hb hab k
    have ha2 : a < ts.length := by rwa [List.length_set] at ha
    have hb2 : b < ts.length := by rwa [List.length_set] at hb
    rw [List.getElem_set, List.getElem_set]
    split
    · rename_i e; subst e
      rw [if_neg (by omega)]
      rcases hvi with q | q
      · rw [q]; exact dip i b hi hb2 hab k
      · intro h1 h2
        have := q k h1; have := (old b hb2 k).2 h2; omega
    · split
      · rename_i e; subst e
        rcases hvi with q | q
        · rw [q]; exact dip a i ha2 hi hab k
        · intro h1 h2
          have := q k h2; have := (old a ha2 k).2 h1; omega
      · exact dip a b ha2 hb2 hab k
  · intro k hk
    rcases hk with q | q
    · have := h.lt k q; omega
    · exact q.2
theorem rnamed_go (s : Bs) (w : World) : Calls Tryz.prog 135 #[.string (bs s)] w fun e w' => e = .returned (.bool (named s)) ∧ w = w' := by
  have e1 := bs_size s
  obtain ⟨n, hn⟩ : ∃ n, n = s.length := ⟨_, rfl⟩
  rw [← hn] at e1
  unfold named
  rw [← hn]
  clear hn
  by_cases h1 : 1 ≤ n
  · have j1 : (1 : Int) ≤ (n : Int) := by omega
    by_cases h12 : n ≤ 12
    · have i1 : (n : Int) ≤ 12 := by omega
      rw [decide_eq_true h12, decide_eq_true h1]
      clear h12 h1
      go_enter Tryz.func135, Tryz.ntmps135
      go_wp2_with (fail)
      go_ret
      exact ⟨rfl, rfl⟩
    · have i1 : (12 : Int) < (n : Int) := by omega
      rw [decide_eq_false h12, decide_eq_true h1]
      clear h12 h1
      go_enter Tryz.func135, Tryz.ntmps135
      go_wp2_with (fail)
      go_ret
      exact ⟨ret_bool (by simp; omega), rfl⟩
  · have j1 : ¬ (1 : Int) ≤ (n : Int) := by omega
    rw [decide_eq_false h1]
    clear h1
    go_enter Tryz.func135, Tryz.ntmps135
    go_wp2_with (fail)
    go_ret
    exact ⟨ret_bool (by simp; try omega), rfl⟩
set_option maxRecDepth 20000 in
theorem rFind_go {S : Nat → Prop} {w : World} {c : Nat} {v : Value} {ts : List TabV} (h : CRv 83 S w c v ts) (hl : ts.length ≤ 8) (n : Bs) :
    Calls Tryz.prog 136 #[.pointer (some ⟨c, 0, none⟩), .string (bs n)] w fun e w' => e = .returned (.int .i64 (find (ts.map TabV.t) n)) ∧ Fr (fun _ => False) w w' := by
  have HC := hid h
  have F0 := hid (Fr.refl (fun _ => False) w)
  obtain ⟨z, hz⟩ : ∃ z, find (ts.map TabV.t) n = z := ⟨_, rfl⟩
  rw [hz]
  have HZ := hid (show pos (fun t : TabV => t.t.name == n) ts = z from (pos_map TabV.t (fun t => t.name == n) ts).symm.trans hz)
  obtain ⟨a, cc, rfl, _⟩ := h.r.slice
  clear hz h
  go_enter Tryz.func136, Tryz.ntmps136
  go_wp2_with (fail)
  go_loopw [5] (fun i wr => ∃ j : Nat, j ≤ ts.length ∧ i = .int .i64 j ∧ (∀ k (hk : k < j) (hr : k < ts.length), (ts[k].t.name == n) = false) ∧ Fr (fun _ => False) w wr) (fun i _ => ts.length - (intOf i).toNat)
  case atStart => exact ⟨0, by omega, rfl, fun k hk => by omega, F0.out⟩
  case round =>
    obtain ⟨j, hj, rfl, hall, fr⟩ := hrel
    have HA := hid hall
    have FR := hid fr
    clear hall fr F0
    have HCW := hid (HC.out.fre FR.out)
    have q0 : wr.cell? ⟨c, 0, none⟩ = some (.slice a ts.length cc) := HCW.out.b.cell 0
    by_cases hjl : j < ts.length
    · obtain ⟨g, rfl, -, hr⟩ := tab_at HCW.out.r hjl
      have qk := hr 1 _ rfl
      have i1 : (0 : Int) ≤ (j : Int) := by omega
      have i2 : (j : Int) < ts.length := by omega
      have i3 : IntKind.i64.wrap ((j : Int) + 1) = (j : Int) + 1 := IntWalk.i64_in _ (by omega)
      have HHIT := hid (fun (hb : (ts[j].t.name == n) = true) => pos_at (p := fun t : TabV => t.t.name == n) hjl hb (fun k hk => HA.out k hk (by omega)))
      have HMISS := hid (fun (hb : (ts[j].t.name == n) = false) => (fun k (hk : k < j + 1) (hr : k < ts.length) => by
        by_cases e : k = j
        · subst e; exact hb
        · exact HA.out k (by omega) hr : ∀ k (hk : k < j + 1) (hr : k < ts.length), (ts[k].t.name == n) = false))
      have HNX := hid (show ts[j].t.name = ts[j].t.name from rfl)
      clear hr
      generalize ts[j].t.name = cn at *
      by_cases hb : cn = n
      · subst hb
        have HX := hid (HHIT.out (by simp))
        clear HHIT HMISS HNX
        go_wp2_with (fail)
        go_ret
        exact ⟨by rw [← HZ.out, HX.out]; rfl, FR.out⟩
      · have HX := hid (HMISS.out (by simpa using hb))
        have hne : ((bs cn).toList == (bs n).toList) = false := by rw [beq_bs]; simpa using hb
        clear HHIT HMISS hb HNX
        go_wp2_with (fail)
        exact ⟨⟨j + 1, by omega, rfl, HX.out, FR.out⟩, by simp only [intOf, Int.toNat_natCast]; omega⟩
    · obtain rfl : j = ts.length := by omega
      have i2 : ¬ ((ts.length : Nat) : Int) < (ts.length : Int) := by omega
      have HX := hid (show pos (fun t : TabV => t.t.name == n) ts = -1 from pos_none (fun x hx => by obtain ⟨i, hi, rfl⟩ := List.getElem_of_mem hx; exact HA.out i hi hi))
      go_wp2_with (fail)
      go_ret
      exact ⟨by rw [← HZ.out, HX.out]; rfl, FR.out⟩
set_option maxRecDepth 20000 in
theorem rfCol_go {R : Nat → Prop} {w : World} (id : Int) (nm : Bs) {ac : Option Addr} {cc : Nat} {vi : Value} {l : List Col} (n : Bs) (h : Sl R w (.slice ac l.length cc) l.length (l.flatMap Col.cells)) (hl : l.length ≤ 1048576) :
    Calls Tryz.prog 137 #[.agg #[.int .i64 id, .string (bs nm), .slice ac l.length cc, vi], .string (bs n)] w fun e w' => e = .returned (.int .i64 (colOf l n)) ∧ Fr (fun _ => False) w w' := by
  have HC := hid h
  have F0 := hid ((Fr.refl (fun _ => False) w).alloc (.cells #[.int .i64 id, .string (bs nm), .slice ac l.length cc, vi] 175))
  have B0 := hid (Blk.new w [.int .i64 id, .string (bs nm), .slice ac l.length cc, vi] 175)
  obtain ⟨z, hz⟩ : ∃ z, colOf l n = z := ⟨_, rfl⟩
  rw [hz]
  have HZ := hid hz
  clear hz h
  go_enter Tryz.func137, Tryz.ntmps137
  go_upto_region 1 with fail
  generalize hd : w.heap.size = d at *
  generalize w.alloc _ = W0 at *
  go_wp2_with (fail)
  go_loopw [5] (fun i wr => ∃ j : Nat, j ≤ l.length ∧ i = .int .i64 j ∧ (∀ k (hk : k < j) (hr : k < l.length), (l[k].name == n) = false) ∧ Fr (fun _ => False) W0 wr) (fun i _ => l.length - (intOf i).toNat)
  case atStart => exact ⟨0, by omega, rfl, fun k hk => by omega, Fr.refl _ _⟩
  case round =>
    obtain ⟨j, hj, rfl, hall, fr⟩ := hrel
    have HA := hid hall
    have FR := hid fr
    clear hall fr
    have q2 : wr.cell? ⟨d, 2, none⟩ = some (.slice ac l.length cc) := (Blk.fr B0.out FR.out (fun h => h)).cell 2
    have FF := hid (F0.out.trans FR.out (fun _ h _ => h))
    by_cases hjl : j < l.length
    · obtain ⟨gc, oc, rfl, -, qc⟩ := slK (k := 2) (f := Col.cells) (by decide) col_len (HC.out.fr FF.out (fun _ _ h => h)) hjl
      have qk := qc 0 (by decide)
      have i1 : (0 : Int) ≤ (j : Int) := by omega
      have i2 : (j : Int) < l.length := by omega
      have i3 : IntKind.i64.wrap ((j : Int) + 1) = (j : Int) + 1 := IntWalk.i64_in _ (by omega)
      have HHIT := hid (fun (hb : (l[j].name == n) = true) => (pos_at (p := fun c : Col => c.name == n) hjl hb (fun k hk => HA.out k hk (by omega)) : colOf l n = (j : Int)))
      have HMISS := hid (fun (hb : (l[j].name == n) = false) => (fun k (hk : k < j + 1) (hr : k < l.length) => by
        by_cases e : k = j
        · subst e; exact hb
        · exact HA.out k (by omega) hr : ∀ k (hk : k < j + 1) (hr : k < l.length), (l[k].name == n) = false))
      obtain ⟨cl, hcl2⟩ : ∃ v, v = l[j] := ⟨_, rfl⟩
      rw [← hcl2] at qk HHIT HMISS
      clear hcl2 qc
      obtain ⟨cn, kd⟩ := cl
      simp only [Col.cells, Nat.add_zero, List.getElem?_cons_zero] at qk
      dsimp only at HHIT HMISS
      by_cases hb : cn = n
      · subst hb
        have HX := hid (HHIT.out (by simp))
        clear HHIT HMISS
        go_wp2_with (fail)
        go_ret
        exact ⟨by rw [← HZ.out, show colOf l cn = (j : Int) from HX.out]; rfl, FF.out⟩
      · have HX := hid (HMISS.out (by simpa using hb))
        have hne : ((bs cn).toList == (bs n).toList) = false := by rw [beq_bs]; simpa using hb
        clear HHIT HMISS
        have HB := hid hb
        clear hb
        go_wp2_with (fail)
        exact ⟨⟨j + 1, by omega, rfl, HX.out, FR.out⟩, by simp only [intOf, Int.toNat_natCast]; omega⟩
    · obtain rfl : j = l.length := by omega
      have i2 : ¬ ((l.length : Nat) : Int) < (l.length : Int) := by omega
      have HX := hid (show colOf l n = -1 from pos_none (fun x hx => by obtain ⟨i, hi, rfl⟩ := List.getElem_of_mem hx; exact HA.out i hi hi))
      go_wp2_with (fail)
      go_ret
      exact ⟨by rw [← HZ.out, HX.out]; rfl, FF.out⟩
end Go.Proofs.YtiimomgbklgicaaGreat
namespace Go.VB.Cat
open Go.VB Go.VB.Oct
theorem dup_yes {l : List Bs} {i k : Nat} (hi : i < l.length) (hk : k < i) (e : l[i] = l[k]'(by omega)) : dup l = true := by
  unfold dup
  simp only [decide_eq_true_eq]
  exact fun nd => nodup_at nd hi hk e
theorem dup_not {l : List Bs} (h : ∀ i (hi : i < l.length) k (hk : k < i), l[i] ≠ l[k]'(by omega)) : ¬ dup l = true := by
  refine dup_no ?_
  unfold List.Nodup
  rw [List.pairwise_iff_getElem]
  exact fun a b ha hb hab e => h b hb a hab e.symm
theorem any_at {α : Type} {p : α → Bool} {l : List α} {i : Nat} (hi : i < l.length) (h : p l[i] = true) : l.any p = true := List.any_eq_true.2 ⟨_, List.getElem_mem hi, h⟩
theorem any_none {α : Type} {p : α → Bool} {l : List α} (h : ∀ i (hi : i < l.length), p l[i] = false) : ¬ l.any p = true := any_false fun x hx => by
  obtain ⟨i, hi, rfl⟩ := List.getElem_of_mem hx
  exact h i hi
end Go.VB.Cat
namespace Go.Proofs.YtiimomgbklgicaaGreat
open Go.RowKit Go.VB Go.VB.Oct Go.VB.Cat Go.VB.Rec
set_option maxRecDepth 20000 in
set_option maxHeartbeats 4000000 in
theorem rcreate_go {S P : Nat → Prop} {w : World} {c : Nat} {v : Value} {ts : List TabV} (h : CRv 83 S w c v ts) (hl : ts.length ≤ 8) {t : StV} (hs : StR P w t) :
    Calls Tryz.prog 93 #[.pointer (some ⟨c, 0, none⟩), .agg t.cells.toArray] w fun e w' => e = .returned (.int .i64 (create (ts.map TabV.t) t.s).2) ∧ CR 83 (Ext S w w') w' c (create (ts.map TabV.t) t.s).1 ∧ Fr S w w' := by
  obtain ⟨⟨kind, table, name, cols, names, join⟩, oc, cc, on, cn, a5, n5, c5, a6, n6, c6, a7, n7, c7, y9, y10, i11, a12, n12, c12, i13, i14⟩ := t
  have HC := hid h
  have HSC := hid hs.c
  have hlc := hs.lc
  have HE : Hid (createE (ts.map TabV.t) ⟨kind, table, name, cols, names, join⟩ = if named table = false ∨ cols.length < 1 ∨ 6 < cols.length ∨ cols.any (fun c => !named c.name) = true then 1
    else if cols.any (fun c => c.kind != 1 && c.kind != 2) = true then 52
    else if dup (cols.map Col.name) = true ∨ 0 ≤ find (ts.map TabV.t) table then 51
    else if 8 ≤ (ts.map TabV.t).length then 2 else 0) := hid rfl
  unfold StV.cells
  dsimp only at HSC hlc ⊢
  clear h hs
  have F1 := hid ((Fr.refl (fun _ => False) w).alloc (.cells #[.int .i64 kind, .string (bs table), .string (bs name), .slice oc cols.length cc, .slice on names.length cn, .slice a5 n5 c5, .slice a6 n6 c6, .slice a7 n7 c7, .string (bs join), .string y9, .string y10, .int .i64 i11, .slice a12 n12 c12, .int .i64 i13, .int .i64 i14] 90))
  have B1 := hid (Blk.new w [.int .i64 kind, .string (bs table), .string (bs name), .slice oc cols.length cc, .slice on names.length cn, .slice a5 n5 c5, .slice a6 n6 c6, .slice a7 n7 c7, .string (bs join), .string y9, .string y10, .int .i64 i11, .slice a12 n12 c12, .int .i64 i13, .int .i64 i14] 90)
  go_enter Tryz.func93, Tryz.ntmps93
  go_upto_region 1 with fail
  generalize hd : w.heap.size = d at *
  have HD := hid hd
  clear hd
  generalize w.alloc _ = W1 at *
  have HNM := hid (fun (s : Bs) (W : World) => rnamed_go s W)
  have q1 : W1.cell? ⟨d, 1, none⟩ = some (.string (bs table)) := B1.out.cell 1
  have q3 : W1.cell? ⟨d, 3, none⟩ = some (.slice oc cols.length cc) := B1.out.cell 3
  obtain ⟨nt, hnt⟩ : ∃ b, named table = b := ⟨_, rfl⟩
  have HNT := hid (HNM.out table)
  rw [hnt] at HNT HE
  clear hnt
  cases nt with
  | false =>
    have HX := hid (HE.out.trans (if_pos (.inl rfl)))
    clear HE
    go_wp2_with (go_at_call 135; refine (HNT.out _).mono ?_; rintro e w3 ⟨rfl, rfl⟩)
    go_ret
    exact create_finR HC.out HX.out (by decide) F1.out
  | true =>
    by_cases hl1 : cols.length < 1
    · have HX := hid (HE.out.trans (if_pos (.inr (.inl hl1))))
      have i1 : (cols.length : Int) < 1 := by omega
      clear HE
      go_wp2_with (go_at_call 135; refine (HNT.out _).mono ?_; rintro e w3 ⟨rfl, rfl⟩)
      go_ret
      exact create_finR HC.out HX.out (by decide) F1.out
    · by_cases hl6 : 6 < cols.length
      · have HX := hid (HE.out.trans (if_pos (.inr (.inr (.inl hl6)))))
        have i1 : ¬ (cols.length : Int) < 1 := by omega
        have i2 : (6 : Int) < (cols.length : Int) := by omega
        clear HE
        go_wp2_with (go_at_call 135; refine (HNT.out _).mono ?_; rintro e w3 ⟨rfl, rfl⟩)
        go_ret
        exact create_finR HC.out HX.out (by decide) F1.out
      · have i1 : ¬ (cols.length : Int) < 1 := by omega
        have i2 : ¬ (6 : Int) < (cols.length : Int) := by omega
        go_upto_region 4 with (go_at_call 135; refine (HNT.out _).mono ?_; rintro e w3 ⟨rfl, rfl⟩)
        clear HNT q1 q3 i1 i2
        go_wp2_with (fail)
        go_loopw [6] (fun s6 wr => ∃ j : Nat, j ≤ cols.length ∧ s6 = .int .i64 j ∧ (∀ k (hk : k < cols.length), k < j → (!named cols[k].name) = false) ∧ Fr (fun _ => False) W1 wr) (fun s6 _ => cols.length - (intOf s6).toNat)
        case atStart => exact ⟨0, by omega, rfl, fun k _ hk => by omega, Fr.refl _ _⟩
        case round =>
          obtain ⟨j, hj, rfl, hall, hf⟩ := hrel
          have HA := hid hall
          have FR := hid hf
          clear hall hf
          have q3 : wr.cell? ⟨d, 3, none⟩ = some (.slice oc cols.length cc) := (Blk.fr B1.out FR.out (fun h => h)).cell 3
          have FW := hid (F1.out.trans FR.out (fun _ h _ => h))
          have j1 : (0 : Int) ≤ (j : Int) := by omega
          have j5 : IntKind.i64.wrap ((j : Int) + 1) = (j : Int) + 1 := IntWalk.i64_in _ (by omega)
          by_cases hjc : j < cols.length
          · have j2 : (j : Int) < (cols.length : Int) := by omega
            obtain ⟨gc, o, rfl, -, qc⟩ := slK (k := 2) (f := Col.cells) (by decide) col_len (HSC.out.fr FW.out (fun _ _ h => h)) hjc
            have p0 : wr.cell? ⟨gc, o + j * 2, none⟩ = some (.string (bs cols[j].name)) := qc 0 (by decide)
            have HNJ := hid (HNM.out cols[j].name)
            have HYES := hid (fun (hb : (!named cols[j].name) = true) => any_at (p := fun c : Col => !named c.name) hjc hb)
            have HNO := hid (fun (hb : (!named cols[j].name) = false) => (fun k (hk : k < cols.length) (hkj : k < j + 1) => by
              by_cases e : k = j
              · subst e; exact hb
              · exact HA.out k hk (by omega) : ∀ k (hk : k < cols.length), k < j + 1 → (!named cols[k].name) = false))
            clear qc
            generalize cols[j].name = nmj at *
            obtain ⟨bj, hbj⟩ : ∃ b, named nmj = b := ⟨_, rfl⟩
            rw [hbj] at HNJ HYES HNO
            clear hbj
            cases bj with
            | false =>
              have HX := hid (HE.out.trans (if_pos (.inr (.inr (.inr (HYES.out rfl))))))
              clear HE HYES HNO
              go_wp2_with (go_at_call 135; refine (HNJ.out _).mono ?_; rintro e w3 ⟨rfl, rfl⟩)
              go_ret
              exact create_finR HC.out HX.out (by decide) FW.out
            | true =>
              have HN := hid (HNO.out rfl)
              clear HYES HNO
              go_wp2_with (go_at_call 135; refine (HNJ.out _).mono ?_; rintro e w3 ⟨rfl, rfl⟩)
              go_roundw
              case rel => exact ⟨j + 1, by omega, by go_num, HN.out, FR.out⟩
              case measure => simp [intOf]; omega
          · obtain rfl : j = cols.length := by omega
            have j2 : ¬ (cols.length : Int) < (cols.length : Int) := by omega
            have HE2 := hid (HE.out.trans (if_neg (by
              rintro (h | h | h | h)
              · cases h
              · omega
              · omega
              · exact any_none (fun i hi => HA.out i hi hi) h)))
            clear HE HA
            go_upto_region 10 with fail
            clear q3
            go_wp2_with (fail)
            go_loopw [8] (fun s8 wr => ∃ j : Nat, j ≤ cols.length ∧ s8 = .int .i64 j ∧ (∀ k (hk : k < cols.length), k < j → (cols[k].kind != 1 && cols[k].kind != 2) = false) ∧ Fr (fun _ => False) W1 wr) (fun s8 _ => cols.length - (intOf s8).toNat)
            case atStart => exact ⟨0, by omega, rfl, fun k _ hk => by omega, FR.out⟩
            case round =>
              obtain ⟨j, hj, rfl, hall, hf⟩ := hrel
              have HA := hid hall
              replace FR := hid hf
              clear hall hf FW
              have q3 : wr.cell? ⟨d, 3, none⟩ = some (.slice oc cols.length cc) := (Blk.fr B1.out FR.out (fun h => h)).cell 3
              have FW := hid (F1.out.trans FR.out (fun _ h _ => h))
              have j1 : (0 : Int) ≤ (j : Int) := by omega
              have j5 : IntKind.i64.wrap ((j : Int) + 1) = (j : Int) + 1 := IntWalk.i64_in _ (by omega)
              by_cases hjc : j < cols.length
              · have j2 : (j : Int) < (cols.length : Int) := by omega
                obtain ⟨gc, o, rfl, -, qc⟩ := slK (k := 2) (f := Col.cells) (by decide) col_len (HSC.out.fr FW.out (fun _ _ h => h)) hjc
                have p0 : wr.cell? ⟨gc, o + j * 2 + 1, none⟩ = some (.int .i64 cols[j].kind) := qc 1 (by decide)
                have HYES := hid (fun (hb : (cols[j].kind != 1 && cols[j].kind != 2) = true) => any_at (p := fun c : Col => c.kind != 1 && c.kind != 2) hjc hb)
                have HNO := hid (fun (hb : (cols[j].kind != 1 && cols[j].kind != 2) = false) => (fun k (hk : k < cols.length) (hkj : k < j + 1) => by
                  by_cases e : k = j
                  · subst e; exact hb
                  · exact HA.out k hk (by omega) : ∀ k (hk : k < cols.length), k < j + 1 → (cols[k].kind != 1 && cols[k].kind != 2) = false))
                clear qc
                generalize cols[j].kind = kd at *
                by_cases hk1 : kd = 1
                · subst hk1
                  have HN := hid (HNO.out (by decide))
                  clear HYES HNO
                  go_wp2_with (fail)
                  go_roundw
                  case rel => exact ⟨j + 1, by omega, by go_num, HN.out, FR.out⟩
                  case measure => simp [intOf]; omega
                · have k1 : (kd != 1) = true := by simpa using hk1
                  by_cases hk2 : kd = 2
                  · subst hk2
                    have HN := hid (HNO.out (by decide))
                    clear HYES HNO k1 hk1
                    go_wp2_with (fail)
                    go_roundw
                    case rel => exact ⟨j + 1, by omega, by go_num, HN.out, FR.out⟩
                    case measure => simp [intOf]; omega
                  · have k2 : (kd != 2) = true := by simpa using hk2
                    have HX := hid (HE2.out.trans (if_pos (HYES.out (by rw [k1, k2]; rfl))))
                    clear HE2 HYES HNO hk1 hk2
                    go_wp2_with (fail)
                    go_ret
                    exact create_finR HC.out HX.out (by decide) FW.out
              · obtain rfl : j = cols.length := by omega
                have j2 : ¬ (cols.length : Int) < (cols.length : Int) := by omega
                have HE3 := hid (HE2.out.trans (if_neg (any_none (p := fun c : Col => c.kind != 1 && c.kind != 2) (fun i hi => HA.out i hi hi))))
                clear HE2 HA
                go_upto_region 15 with fail
                clear q3
                go_wp2_with (fail)
                go_loopw [9, 10] (fun s9 _ wr => ∃ j : Nat, j ≤ cols.length ∧ s9 = .int .i64 j ∧ (∀ i (hi : i < cols.length), i < j → ∀ k (hk : k < i), cols[i].name ≠ (cols[k]'(by omega)).name) ∧ Fr (fun _ => False) W1 wr) (fun s9 _ _ => cols.length - (intOf s9).toNat)
                case atStart => exact ⟨0, by omega, rfl, fun k _ hk => by omega, FR.out⟩
                case round =>
                  obtain ⟨i, hi, rfl, hall, hf⟩ := hrel
                  have HA := hid hall
                  replace FR := hid hf
                  clear hall hf FW
                  have q3 : wr.cell? ⟨d, 3, none⟩ = some (.slice oc cols.length cc) := (Blk.fr B1.out FR.out (fun h => h)).cell 3
                  have FW := hid (F1.out.trans FR.out (fun _ h _ => h))
                  have j1 : (0 : Int) ≤ (i : Int) := by omega
                  have j5 : IntKind.i64.wrap ((i : Int) + 1) = (i : Int) + 1 := IntWalk.i64_in _ (by omega)
                  by_cases hic : i < cols.length
                  · have j2 : (i : Int) < (cols.length : Int) := by omega
                    go_upto_region 18 with fail
                    clear q3
                    go_wp2_with (fail)
                    go_loopw [10] (fun s10 wr => ∃ k : Nat, k ≤ i ∧ s10 = .int .i64 k ∧ (∀ b (hb : b < i), b < k → cols[i].name ≠ (cols[b]'(by omega)).name) ∧ Fr (fun _ => False) W1 wr) (fun s10 _ => i - (intOf s10).toNat)
                    case atStart => exact ⟨0, by omega, rfl, fun k _ hk => by omega, FR.out⟩
                    case round =>
                      obtain ⟨k, hk, rfl, hin, hf⟩ := hrel
                      have HI := hid hin
                      replace FR := hid hf
                      clear hin hf FW
                      have FW := hid (F1.out.trans FR.out (fun _ h _ => h))
                      have k1 : (0 : Int) ≤ (k : Int) := by omega
                      have k5 : IntKind.i64.wrap ((k : Int) + 1) = (k : Int) + 1 := IntWalk.i64_in _ (by omega)
                      by_cases hki : k < i
                      · have k2 : (k : Int) < (i : Int) := by omega
                        have k3 : (k : Int) < (cols.length : Int) := by omega
                        have hkc : k < cols.length := by omega
                        have BW := hid (Blk.fr B1.out FR.out (fun h => h))
                        have HSW := hid (HSC.out.fr FW.out (fun _ _ h => h))
                        obtain ⟨gc, o, rfl, -, qc⟩ := slK (k := 2) (f := Col.cells) (by decide) col_len HSW.out hic
                        obtain ⟨gc2, o2, hg2, -, qd⟩ := slK (k := 2) (f := Col.cells) (by decide) col_len HSW.out hkc
                        simp only [Option.some.injEq, Addr.mk.injEq, and_true] at hg2
                        obtain ⟨rfl, rfl⟩ := hg2
                        have HP0 := hid (show wr.cell? ⟨gc, o + i * 2, none⟩ = some (.string (bs cols[i].name)) from qc 0 (by decide))
                        have HP1 := hid (show wr.cell? ⟨gc, o + k * 2, none⟩ = some (.string (bs cols[k].name)) from qd 0 (by decide))
                        have HYES := hid (fun (hb : cols[i].name = cols[k].name) => (dup_yes (l := cols.map Col.name) (i := i) (k := k) (by simpa using hic) hki (by simpa using hb)))
                        have HNO := hid (fun (hb : ¬ cols[i].name = cols[k].name) => (fun b (hb2 : b < i) (hbk : b < k + 1) => by
                          by_cases e : b = k
                          · subst e; exact hb
                          · exact HI.out b hb2 (by omega) : ∀ b (hb : b < i), b < k + 1 → cols[i].name ≠ (cols[b]'(by omega)).name))
                        clear qc qd
                        obtain ⟨x, hx⟩ : ∃ x, x = cols[i].name := ⟨_, rfl⟩
                        obtain ⟨y, hy⟩ : ∃ y, y = cols[k].name := ⟨_, rfl⟩
                        rw [← hy] at HP1 HYES HNO
                        rw [← hx] at HP0 HYES
                        have HNO2 := hid (fun (hb : ¬ x = y) => HNO.out (by rw [← hx]; exact hb))
                        clear hx hy HNO
                        go_upto_region 21 with fail
                        by_cases hxy : x = y
                        · subst hxy
                          have HX := hid (HE3.out.trans (if_pos (.inl (HYES.out rfl))))
                          clear HE3 HYES HNO2
                          refine wp_region_scr (.take 0 (.take 1 (.take 2 (.take 3 (.take 4 (.take 5 (.take 6 (.take 7 (.take 8 (.take 9 (.take 10 (.take 11 (.take 12 .done))))))))))))) (fun kz w => (kz ≤ 13 → (w.cell? ⟨d, 3, none⟩ = some (.slice (some ⟨gc, o, none⟩) cols.length cc) ∧ w.cell? ⟨gc, o + i * 2, none⟩ = some (.string (bs x)) ∧ w.cell? ⟨gc, o + k * 2, none⟩ = some (.string (bs x)))) ∧ Hid True) (by kernel_rfl) (by kernel_rfl) (by intro c a d v w h; cases d <;> exact h) ?_
                          repeat
                            first
                            | (refine wpT_pure rfl rfl rfl ?_; apply Exists.intro; refine ⟨?_, ?_⟩; intro w; (first | ((obtain ⟨q1, q2, q3⟩ := qa; go_simp <;> rfl)) | (go_simp <;> rfl)); simp only [Act.put, List.setIfInBounds_toArray, List.set_cons_zero, List.set_cons_succ])
                            | (refine wpT_take 13 rfl rfl (by decide +kernel) ⟨fun _ => ⟨BW.out.drew.cell 3, HP0.out, HP1.out⟩, hid trivial⟩ ?_; apply Exists.intro; refine ⟨?_, ?_⟩; intro w hw; (have qa := hw.1 (Nat.le_refl _); have qb := hw.2); (first | ((obtain ⟨q1, q2, q3⟩ := qa; go_simp <;> rfl)) | (go_simp <;> rfl)); simp only [Act.put, List.setIfInBounds_toArray, List.set_cons_zero, List.set_cons_succ])
                            | (refine wpT_skip rfl rfl ?_; simp only [Act.put, List.setIfInBounds_toArray, List.set_cons_zero, List.set_cons_succ])
                          refine wpT_nil ?_
                          have FD := hid (FW.out.trans ((Fr.refl (fun _ => False) _).drew) (fun _ h _ => h))
                          clear HP0 HP1
                          go_wp2_with (fail)
                          go_ret
                          exact create_finR HC.out HX.out (by decide) FD.out
                        · have HN := hid (HNO2.out hxy)
                          have hne : ((bs x).toList == (bs y).toList) = false := by rw [beq_bs]; simpa using hxy
                          clear HYES HNO2 hxy
                          refine wp_region_scr (.take 0 (.take 1 (.take 2 (.take 3 (.take 4 (.take 5 (.take 6 (.take 7 (.take 8 (.take 9 (.take 10 (.take 11 (.take 12 .done))))))))))))) (fun kz w => (kz ≤ 13 → (w.cell? ⟨d, 3, none⟩ = some (.slice (some ⟨gc, o, none⟩) cols.length cc) ∧ w.cell? ⟨gc, o + i * 2, none⟩ = some (.string (bs x)) ∧ w.cell? ⟨gc, o + k * 2, none⟩ = some (.string (bs y)))) ∧ Hid True) (by kernel_rfl) (by kernel_rfl) (by intro c a d v w h; cases d <;> exact h) ?_
                          repeat
                            first
                            | (refine wpT_pure rfl rfl rfl ?_; apply Exists.intro; refine ⟨?_, ?_⟩; intro w; (first | ((obtain ⟨q1, q2, q3⟩ := qa; go_simp <;> rfl)) | (go_simp <;> rfl)); simp only [Act.put, List.setIfInBounds_toArray, List.set_cons_zero, List.set_cons_succ])
                            | (refine wpT_take 13 rfl rfl (by decide +kernel) ⟨fun _ => ⟨BW.out.drew.cell 3, HP0.out, HP1.out⟩, hid trivial⟩ ?_; apply Exists.intro; refine ⟨?_, ?_⟩; intro w hw; (have qa := hw.1 (Nat.le_refl _); have qb := hw.2); (first | ((obtain ⟨q1, q2, q3⟩ := qa; go_simp <;> rfl)) | (go_simp <;> rfl)); simp only [Act.put, List.setIfInBounds_toArray, List.set_cons_zero, List.set_cons_succ])
                            | (refine wpT_skip rfl rfl ?_; simp only [Act.put, List.setIfInBounds_toArray, List.set_cons_zero, List.set_cons_succ])
                          refine wpT_nil ?_
                          have FD := hid (FR.out.trans ((Fr.refl (fun _ => False) _).drew) (fun _ h _ => h))
                          clear HP0 HP1
                          go_wp2_with (fail)
                          go_roundw
                          case rel => exact ⟨k + 1, by omega, by go_num, HN.out, FD.out⟩
                          case measure => simp [intOf]; omega
                      · obtain rfl : k = i := by omega
                        have k2 : ¬ (k : Int) < (k : Int) := by omega
                        have HN := hid (show ∀ a (ha : a < cols.length), a < k + 1 → ∀ b (hb : b < a), cols[a].name ≠ (cols[b]'(by omega)).name from fun a ha hak b hb => by
                          by_cases e : a = k
                          · subst e; exact HI.out b hb hb
                          · exact HA.out a ha (by omega) b hb)
                        go_wp2_with (fail)
                        go_roundw
                        case rel => exact ⟨k + 1, by omega, by go_num, HN.out, FR.out⟩
                        case measure => simp [intOf]; omega
                  · obtain rfl : i = cols.length := by omega
                    have j2 : ¬ (cols.length : Int) < (cols.length : Int) := by omega
                    have HND := hid (dup_not (l := cols.map Col.name) (fun a ha b hb => by
                      have := HA.out a (by simpa using ha) (by simpa using ha) b hb
                      simpa using this))
                    go_upto_region 23 with fail
                    clear q3 HA
                    have FRW := hid FW.out
                    have HFI := hid (rFind_go (HC.out.fre FRW.out) hl table)
                    have q1 : wr.cell? ⟨d, 1, none⟩ = some (.string (bs table)) := (Blk.fr B1.out FR.out (fun h => h)).cell 1
                    obtain ⟨z, hz⟩ : ∃ z, find (ts.map TabV.t) table = z := ⟨_, rfl⟩
                    rw [hz] at HFI HE3
                    clear hz
                    obtain ⟨av, cv, hv, hcap⟩ := HC.out.r.slice
                    by_cases hz0 : 0 ≤ z
                    · have HX := hid (HE3.out.trans (if_pos (.inr hz0)))
                      clear HE3 hv
                      go_wp2_with (go_at_call 136; refine HFI.out.mono ?_; rintro e w7 ⟨rfl, f⟩; have F6 := hid (FRW.out.trans f (fun _ h _ => h)); clear f)
                      go_ret
                      exact create_finR HC.out HX.out (by decide) F6.out
                    · have HE4 := hid (HE3.out.trans (if_neg (by
                        rintro (h | h)
                        · exact HND.out h
                        · omega)))
                      clear HE3 HND
                      subst hv
                      go_upto_region 26 with (go_at_call 136; refine HFI.out.mono ?_; rintro e w7 ⟨rfl, f⟩; have F7 := hid (FRW.out.trans f (fun _ h _ => h)); have B7 := hid (Blk.fr (Blk.fr B1.out FR.out (fun h => h)) f (fun h => h)); clear f)
                      have HC7 := hid (HC.out.fre F7.out)
                      clear HFI q1 FR FRW FW B1 F1 hz0
                      have k0 : w7.cell? ⟨c, 0, none⟩ = some (.slice av ts.length cv) := HC7.out.b.cell 0
                      rw [List.length_map] at HE4
                      by_cases h8 : 8 ≤ ts.length
                      · have HX := hid (HE4.out.trans (if_pos h8))
                        have i3 : (8 : Int) ≤ (ts.length : Int) := by omega
                        clear HE4 h8
                        go_wp2_with (fail)
                        go_ret
                        exact create_finR HC.out HX.out (by decide) F7.out
                      · have HX := hid (HE4.out.trans (if_neg h8))
                        have i3 : ¬ (8 : Int) ≤ (ts.length : Int) := by omega
                        clear HE4 h8
                        go_upto_region 28 with fail
                        have fd := (Fr.refl (fun _ => False) w7).drew
                        have F8 := hid (F7.out.trans fd (fun _ h _ => h))
                        have HC8 := hid (HC7.out.fre fd)
                        have B8 := hid (Blk.fr B7.out fd (fun h => h))
                        clear fd k0 F7 HC7 B7
                        refine wp_region_scr (.take 0 (.take 1 (.take 2 (.take 3 (.take 4 (.take 5 (.take 6 (.take 7 (.take 8 (.take 9 (.take 10 (.take 11 (.take 12 (.take 14 (.take 15 (.op 13 (.op 16 (.op 17 (.op 18 (.op 19 (.take 20 (.take 21 (.op 22 .done))))))))))))))))))))))) (fun kz w => (kz ≤ 22 → (w.cell? ⟨c, 0, none⟩ = some (.slice av ts.length cv) ∧ w.cell? ⟨d, 1, none⟩ = some (.string (bs table)) ∧ w.cell? ⟨d, 3, none⟩ = some (.slice oc cols.length cc))) ∧ Hid True) (by kernel_rfl) (by kernel_rfl) (by intro c a d v w h; cases d <;> exact h) ?_
                        repeat
                          first
                          | (refine wpT_pure rfl rfl rfl ?_; apply Exists.intro; refine ⟨?_, ?_⟩; intro w; (first | (obtain ⟨qa1, qa2, qa3⟩ := qa; go_simp <;> rfl) | (go_simp <;> rfl)); simp only [Act.put, List.setIfInBounds_toArray, List.set_cons_zero, List.set_cons_succ])
                          | (refine wpT_take 22 rfl rfl (by decide +kernel) ⟨fun _ => ⟨HC8.out.b.cell 0, B8.out.cell 1, B8.out.cell 3⟩, hid trivial⟩ ?_; apply Exists.intro; refine ⟨?_, ?_⟩; intro w hw; (have qa := hw.1 (Nat.le_refl _); have qb := hw.2); (first | (obtain ⟨qa1, qa2, qa3⟩ := qa; go_simp <;> rfl) | (go_simp <;> rfl)); simp only [Act.put, List.setIfInBounds_toArray, List.set_cons_zero, List.set_cons_succ])
                          | (refine wpT_skip rfl rfl ?_; simp only [Act.put, List.setIfInBounds_toArray, List.set_cons_zero, List.set_cons_succ])
                        generalize w7.drew = WA at *
                        have HR1 := hid (Row.built (e := 171) (n := 0) (size := 2) (B := w.heap.size) WA (l := []) rfl (by decide) F8.out.size)
                        have fa := (Fr.refl (fun _ => False) WA).alloc (.cells #[] 171)
                        have F9 := hid (F8.out.trans fa (fun _ h _ => h))
                        have HC9 := hid (HC8.out.fre fa)
                        have B9 := hid (Blk.fr B8.out fa (fun h => h))
                        have HSR := hid (Sl.srcK (P := Tryz.prog) (size := 2) (HSC.out.fr F9.out (fun _ _ h => h)) (flat_len (k := 2) (fun _ => rfl) _) (by decide) (col_one _))
                        clear fa F8 HC8 B8
                        refine wpT_op rfl ?_
                        go_wp2_with (fail)
                        (refine ⟨?_, ?_⟩; focus (intro kz hk hk2 hh; first | (exfalso; simp at hk2; omega) | exact hh | exact (fun h => absurd h (by omega)) | obtain ⟨qa, qb⟩ := hh; first | exact ⟨qa, qb⟩ | (refine ⟨fun h => absurd h (by omega), ?_⟩; first | exact qb | (exact ⟨HC9.out.b.cell 0, B9.out.cell 1, B9.out.cell 3⟩)) | (refine ⟨fun h => ?_, ?_⟩; (have qa := qa h); all_goals (first | exact qa | exact qb | (exact ⟨HC9.out.b.cell 0, B9.out.cell 1, B9.out.cell 3⟩)))))
                        refine wpT_op rfl ?_
                        go_wp2_with ((at_builtin; refine wpList_appS rfl (s := .tmp 118) (x := .tmp 120) (t := 86) (tx := 86) rfl Tryz.underlying86 Tryz.underlying86 (.inr ⟨_, rfl⟩) info_col rfl rfl rfl HR1.out F9.out.size HSR.out (by omega) (by omega) ?_; intro ab2 ac2 wg APP; simp only [Nat.zero_add] at APP ⊢; have F10 := hid (F9.out.trans APP.fr (fun k hk hl => by have := HR1.out.new k hk; omega)); have HR10 := hid (APP.row.cast (m := cols.length) (ys := cols.flatMap Col.cells) (Nat.zero_add _) rfl); have HB10 := hid (Blk.fr B9.out APP.fr (fun hk => HR1.out.ne B9.out (by decide) _ hk rfl)); have HCA := hid (HC.out.fre F10.out); clear APP))
                        (refine ⟨?_, ?_⟩; focus (intro kz hk hk2 hh; first | (exfalso; simp at hk2; omega) | exact hh | exact (fun h => absurd h (by omega)) | obtain ⟨qa, qb⟩ := hh; first | exact ⟨qa, qb⟩ | (refine ⟨fun h => absurd h (by omega), ?_⟩; first | exact qb | (exact ⟨HCA.out.b.cell 0, HB10.out.cell 1, HB10.out.cell 3⟩)) | (refine ⟨fun h => ?_, ?_⟩; (have qa := qa h); all_goals (first | exact qa | exact qb | (exact ⟨HCA.out.b.cell 0, HB10.out.cell 1, HB10.out.cell 3⟩)))))
                        clear HR1 F9 HC9 B9 HSR
                        refine wpT_op rfl ?_
                        go_wp2_with (fail)
                        (refine ⟨?_, ?_⟩; focus (intro kz hk hk2 hh; first | (exfalso; simp at hk2; omega) | exact hh | exact (fun h => absurd h (by omega)) | obtain ⟨qa, qb⟩ := hh; first | exact ⟨qa, qb⟩ | (refine ⟨fun h => absurd h (by omega), ?_⟩; first | exact qb | (exact ⟨HCA.out.b.cell 0, HB10.out.cell 1, HB10.out.cell 3⟩)) | (refine ⟨fun h => ?_, ?_⟩; (have qa := qa h); all_goals (first | exact qa | exact qb | (exact ⟨HCA.out.b.cell 0, HB10.out.cell 1, HB10.out.cell 3⟩)))))
                        have FA := hid (fun o => (Fr.refl (fun _ => False) wg).alloc o)
                        refine wpT_op rfl ?_
                        go_wp2_with (fail)
                        (refine ⟨?_, ?_⟩; focus (intro kz hk hk2 hh; first | (exfalso; simp at hk2; omega) | exact hh | exact (fun h => absurd h (by omega)) | obtain ⟨qa, qb⟩ := hh; first | exact ⟨qa, qb⟩ | (refine ⟨fun h => absurd h (by omega), ?_⟩; first | exact qb | (exact ⟨(HCA.out.fre (FA.out _)).b.cell 0, (Blk.fr HB10.out (FA.out _) (fun h => h)).cell 1, (Blk.fr HB10.out (FA.out _) (fun h => h)).cell 3⟩)) | (refine ⟨fun h => ?_, ?_⟩; (have qa := qa h); all_goals (first | exact qa | exact qb | (exact ⟨(HCA.out.fre (FA.out _)).b.cell 0, (Blk.fr HB10.out (FA.out _) (fun h => h)).cell 1, (Blk.fr HB10.out (FA.out _) (fun h => h)).cell 3⟩)))))
                        have HNC := hid (HCA.out.r.ne HCA.out.b (by decide))
                        have HND := hid (HCA.out.r.ne HB10.out (by decide))
                        refine wpT_op rfl ?_
                        go_wp2_with ((at_builtin; refine wpList_app1 rfl (s := .tmp 109) (x := .tmp 123) (t := 81) rfl Tryz.underlying81 info_tab rfl rfl rfl HCA.out.r (Nat.zero_le _) rfl (by simp [Value.oneCell']) (by omega) (by omega) ?_; intro ab ac wh APP; have HG := hid APP; have BC := hid (Blk.fr HCA.out.b APP.fr (fun hk => HNC.out _ hk rfl)); have BD := hid (Blk.fr HB10.out APP.fr (fun hk => HND.out _ hk rfl)); clear APP))
                        (refine ⟨?_, ?_⟩; focus (intro kz hk hk2 hh; first | (exfalso; simp at hk2; omega) | exact hh | exact (fun h => absurd h (by omega)) | obtain ⟨qa, qb⟩ := hh; first | exact ⟨qa, qb⟩ | (refine ⟨fun h => absurd h (by omega), ?_⟩; first | exact qb | (exact ⟨BC.out.cell 0, BD.out.cell 1, BD.out.cell 3⟩)) | (refine ⟨fun h => ?_, ?_⟩; (have qa := qa h); all_goals (first | exact qa | exact qb | (exact ⟨BC.out.cell 0, BD.out.cell 1, BD.out.cell 3⟩)))))
                        repeat
                          first
                          | (refine wpT_pure rfl rfl rfl ?_; apply Exists.intro; refine ⟨?_, ?_⟩; intro w; ((go_simp <;> rfl)); simp only [Act.put, List.setIfInBounds_toArray, List.set_cons_zero, List.set_cons_succ])
                          | (refine wpT_take 22 rfl rfl (by decide +kernel) ⟨fun _ => ⟨BC.out.cell 0, BD.out.cell 1, BD.out.cell 3⟩, hid trivial⟩ ?_; apply Exists.intro; refine ⟨?_, ?_⟩; intro w hw; (have qa := hw.1 (Nat.le_refl _); have qb := hw.2); ((go_simp <;> rfl)); simp only [Act.put, List.setIfInBounds_toArray, List.set_cons_zero, List.set_cons_succ])
                          | (refine wpT_skip rfl rfl ?_; simp only [Act.put, List.setIfInBounds_toArray, List.set_cons_zero, List.set_cons_succ])
                        have k0 : wh.cell? ⟨c, 0, none⟩ = some (.slice av ts.length cv) := BC.out.cell 0
                        have z0 : wh.frozen? ⟨c, 0, none⟩ = false := BC.out.frozen 0
                        have HE := hid (create_endR HC.out HX.out F10.out HR10.out HG.out)
                        have HZ := hid (show (0 : Int) = (create (ts.map TabV.t) ⟨kind, table, name, cols, names, join⟩).2 from by unfold create; rw [if_pos HX.out])
                        refine wpT_op rfl ?_
                        go_wp2_with (fail)
                        (refine ⟨?_, ?_⟩; focus (intro kz hk hk2 hh; first | (exfalso; simp at hk2; omega) | exact hh | exact (fun h => absurd h (by omega)) | obtain ⟨qa, qb⟩ := hh; first | exact ⟨qa, qb⟩ | (refine ⟨fun h => absurd h (by omega), ?_⟩; first | exact qb | (exact hid trivial)) | (refine ⟨fun h => ?_, ?_⟩; (have qa := qa h); all_goals (first | exact qa | exact qb | (exact hid trivial)))))
                        refine wpT_nil ?_
                        go_wp2_with (fail)
                        go_ret
                        exact ⟨ret_int HZ.out, HE.out.1, HE.out.2⟩
end Go.Proofs.YtiimomgbklgicaaGreat
