import Derived.Test.YtgkfdlpijefgkaaGreatDoorCtMl
/- The reference's catalog in memory: its ends, named, Find. -/
set_option linter.unusedVariables false
namespace Go.Proofs.YtgkfdlpijefgkaaGreatDoor
open Go.RowKit Go.VB Go.VB.Oct Go.VB.Cat Go.VB.Rec
/-- an end with an error -/
theorem create_finR {S : Nat → Prop} {w w' : World} {c : Nat} {v : Value} {ts : List TabV} (h : CRv 30 S w c v ts) {s : St} {e : Int} (he : createE (ts.map TabV.t) s = e) (h0 : e ≠ 0) (f : Fr (fun _ => False) w w') :
    Ending.returned (.int .i64 e) = .returned (.int .i64 (create (ts.map TabV.t) s).2) ∧ CR 30 (Ext S w w') w' c (create (ts.map TabV.t) s).1 ∧ Fr S w w' := by
  rw [create_err he h0]
  exact ⟨rfl, CR.ext ⟨v, ts, h, rfl⟩ f, f.mono (fun _ h _ => h.elim)⟩
/-- a table's blocks behind an append to the tables and a store into the catalog -/
theorem TabO.shiftR {S U : Nat → Prop} {W Wg W' : World} {c n : Nat} {v : Value} {lc xs : List Value} {t : TabV} (h : TabO S W t) (hU : ∀ k, S k → U k) (rv : Row 34 4 0 W v n xs) (fg : Fr (fun k => v.ownBlock = some k) W Wg)
    (bg : Blk Wg c lc 30) (fs : Fr (fun k => k = c) Wg W') : TabO U W' t := by
  have hc := h.c.fr fg (rows_ne h.c rv (by decide))
  have hi := h.i.fr fg (rows_ne h.i rv (by decide))
  refine ⟨hc.fr fs (fun k hk e => hc.ne bg (by decide) k hk e), fun k hk => hU k (h.cS k hk), hi.fr fs (fun k hk e => hi.ne bg (by decide) k hk e), fun k hk => hU k (h.iS k hk), h.e, fun x hx => ?_⟩
  have hx1 := (h.x x hx).1.fr fg (rows_ne (h.x x hx).1 rv (by decide))
  exact ⟨hx1.fr fs (fun k hk e => hx1.ne bg (by decide) k hk e), fun k hk => hU k ((h.x x hx).2 k hk)⟩
/-- the end of create -/
theorem create_endR {S : Nat → Prop} {w w8 wg : World} {c : Nat} {v vc v' : Value} {ts : List TabV} {s : St} (h : CRv 30 S w c v ts) (he : createE (ts.map TabV.t) s = 0) (f1 : Fr (fun _ => False) w w8)
    (rc : Row 80 2 w.heap.size w8 vc s.cols.length (s.cols.flatMap Col.cells)) (app : App 34 4 0 w8 wg v v' ts.length (ts.flatMap TabV.cells) [.int .i64 ((ts.length : Int) + 1), .string (bs s.table), vc, .slice none 0 0]) :
    CR 30 (Ext S w (wg.setCell ⟨c, 0, none⟩ v')) (wg.setCell ⟨c, 0, none⟩ v') c (create (ts.map TabV.t) s).1 ∧ Fr S w (wg.setCell ⟨c, 0, none⟩ v') := by
  have h8 := h.fre f1
  have fg := app.fr
  have ncv := h8.r.ne h8.b (by decide)
  have bg := Blk.fr h8.b fg (fun hk => ncv c hk rfl)
  have fs := (Fr.refl (fun k => k = c) wg).setCell ⟨c, 0, none⟩ v' (fun _ => rfl)
  have b' := bg.set 0 v'
  have nc' := app.row.ne bg (by decide)
  have z1 := f1.size
  have z2 := fg.size
  have z3 := fs.size
  have hF : Fr S w (wg.setCell ⟨c, 0, none⟩ v') := ((f1.mono (fun _ h _ => h.elim)).trans fg (fun k hk _ => h.rS k hk)).trans fs (fun k hk _ => by rw [hk]; exact h.bS)
  refine ⟨⟨v', ts ++ [⟨⟨(ts.length : Int) + 1, s.table, s.cols, []⟩, vc, .slice none 0 0, []⟩], ⟨b', .inl h.bS, ?_, ?_, ?_, ?_, ?_, ?_⟩, ?_⟩, hF⟩
  · exact (app.row.cast (by simp) (by simp [TabV.cells])).fr fs (fun k hk e => nc' k hk e)
  · intro k hk
    rcases app.at_ k hk with g | g
    · exact .inl (h.rS k g)
    · have := app.row.lt hk
      exact .inr ⟨by omega, by omega⟩
  · intro t ht
    rcases List.mem_append.1 ht with g | g
    · exact (h8.t t g).shiftR (fun k hk => .inl hk) h8.r fg bg fs
    · rw [List.mem_singleton.1 g]
      have hc := (rc.low (Nat.zero_le _)).fr fg (rows_ne rc h8.r (by decide))
      refine ⟨hc.fr fs (fun k hk e => hc.ne bg (by decide) k hk e), fun k hk => .inr ⟨rc.new k hk, ?_⟩, Row.nil, fun k hk => by simp [Value.ownBlock] at hk, rfl, fun x hx => by simp at hx⟩
      have := rc.lt hk
      omega
  · rw [List.pairwise_append]
    refine ⟨h.dc, List.pairwise_singleton _ _, fun a ha b hb k hk hk2 => ?_⟩
    rw [List.mem_singleton.1 hb] at hk2
    have h1 := h.lt k ((h.t a ha).cS k hk)
    have h2 := rc.new k hk2
    omega
  · rw [List.pairwise_append]
    refine ⟨h.di, List.pairwise_singleton _ _, fun a ha b hb k hk hk2 => ?_⟩
    rw [List.mem_singleton.1 hb] at hk2
    simp [Value.ownBlock] at hk2
  · intro k hk
    rcases hk with g | g
    · have := h.lt k g; omega
    · exact g.2
  · unfold create
    rw [if_pos he]
    simp
/-- an end with an error -/
theorem err_finR {S : Nat → Prop} {w w' : World} {c : Nat} {v : Value} {ts : List TabV} (h : CRv 30 S w c v ts) {p : List Tab × Int} {e : Int} (he : p = (ts.map TabV.t, e)) (f : Fr (fun _ => False) w w') :
    Ending.returned (.int .i64 e) = .returned (.int .i64 p.2) ∧ CR 30 (Ext S w w') w' c p.1 ∧ Fr S w w' := by
  rw [he]
  exact ⟨rfl, CR.ext ⟨v, ts, h, rfl⟩ f, f.mono (fun _ h _ => h.elim)⟩

/-- a store into the tables' array leaves the other rows -/
theorem TabO.tset {S : Nat → Prop} {W W' : World} {t : TabV} {g : Nat} {lg : List Value} (h : TabO S W t) (hb : Blk W g lg 34) (fs : Fr (fun k => k = g) W W') : TabO S W' t :=
  ⟨h.c.fr fs (fun k hk e => h.c.ne hb (by decide) k hk e), h.cS, h.i.fr fs (fun k hk e => h.i.ne hb (by decide) k hk e), h.iS, h.e, fun x hx => ⟨(h.x x hx).1.fr fs (fun k hk e => (h.x x hx).1.ne hb (by decide) k hk e), (h.x x hx).2⟩⟩
/-- one cell of one table stored, what hangs on it made anew or kept -/
theorem put_tab {tc : TypeId} (htc : tc ≠ 34) {S : Nat → Prop} {w w8 : World} {c : Nat} {v : Value} {ts : List TabV} (h : CRv tc S w c v ts) (f1 : Fr (fun _ => False) w w8) {i g : Nat} (hi : i < ts.length) (hg : v.ownBlock = some g) (x : TabV) {j : Nat} {u : Value}
    (hcells : (ts.set i x).flatMap TabV.cells = (ts.flatMap TabV.cells).set (i * 4 + j) u) (hx : TabO (fun k => S k ∨ w.heap.size ≤ k) w8 x) (hvc : x.vc = ts[i].vc ∨ ∀ k, x.vc.ownBlock = some k → w.heap.size ≤ k) (hvi : x.vi = ts[i].vi ∨ ∀ k, x.vi.ownBlock = some k → w.heap.size ≤ k) :
    CRv tc (Ext S w (w8.setCell ⟨g, i * 4 + j, none⟩ u)) (w8.setCell ⟨g, i * 4 + j, none⟩ u) c v (ts.set i x) ∧ Fr S w (w8.setCell ⟨g, i * 4 + j, none⟩ u) := by
  have h8 := h.fre f1
  have hgS : S g := h.rS g hg
  obtain ⟨lg, hbg⟩ := row_blk h8.r hg
  have fs := (Fr.refl (fun k => k = g) w8).setCell ⟨g, i * 4 + j, none⟩ u (fun _ => rfl)
  have z1 := f1.size
  have z3 := fs.size
  have hF : Fr S w (w8.setCell ⟨g, i * 4 + j, none⟩ u) := (f1.mono (fun _ h _ => h.elim)).trans fs (fun k hk _ => by rw [hk]; exact hgS)
  have up : ∀ {P : Nat → Prop} {t : TabV}, (∀ k, P k → S k ∨ w.heap.size ≤ k) → TabO P w8 t → TabO (Ext S w (w8.setCell ⟨g, i * 4 + j, none⟩ u)) (w8.setCell ⟨g, i * 4 + j, none⟩ u) t := by
    intro P t hP ht
    have e : ∀ {k : Nat}, P k → k < w8.heap.size → Ext S w (w8.setCell ⟨g, i * 4 + j, none⟩ u) k := fun hk hl => by
      rcases hP _ hk with q | q
      · exact .inl q
      · exact .inr ⟨q, by omega⟩
    have ht' := ht.tset hbg fs
    exact ⟨ht'.c, fun k hk => e (ht.cS k hk) (ht.c.lt hk), ht'.i, fun k hk => e (ht.iS k hk) (ht.i.lt hk), ht'.e, fun y hy => ⟨(ht'.x y hy).1, fun k hk => e ((ht.x y hy).2 k hk) ((ht.x y hy).1.lt hk)⟩⟩
  have dip := List.pairwise_iff_getElem.1 h.di
  have dcp := List.pairwise_iff_getElem.1 h.dc
  have old : ∀ (j' : Nat) (hj : j' < ts.length) (k : Nat), (ts[j'].vc.ownBlock = some k → k < w.heap.size) ∧ (ts[j'].vi.ownBlock = some k → k < w.heap.size) := fun j' hj k => ⟨fun e => h.lt k ((h.t _ (List.getElem_mem hj)).cS k e), fun e => h.lt k ((h.t _ (List.getElem_mem hj)).iS k e)⟩
  refine ⟨⟨Blk.fr h8.b fs (fun e => ?_), .inl h.bS, (row_set h8.r hg (i * 4 + j) u).cast (by rw [List.length_set]) hcells.symm, fun k hk => .inl (h.rS k hk), ?_, ?_, ?_, ?_⟩, hF⟩
  · exact Blk.ne_of_type h8.b hbg htc e
  · intro t ht
    obtain ⟨j', hj, rfl⟩ := List.getElem_of_mem ht
    have hj2 : j' < ts.length := by rwa [List.length_set] at hj
    rw [List.getElem_set]
    split
    · exact up (fun _ hk => hk) hx
    · exact up (fun _ hk => .inl hk) (h8.t _ (List.getElem_mem hj2))
  · rw [List.pairwise_iff_getElem]
    intro a b ha hb hab k
    have ha2 : a < ts.length := by rwa [List.length_set] at ha
    have hb2 : b < ts.length := by rwa [List.length_set] at hb
    rw [List.getElem_set, List.getElem_set]
    split
    · rename_i e; subst e
      rw [if_neg (by omega)]
      rcases hvc with q | q
      · rw [q]; exact dcp i b hi hb2 hab k
      · intro h1 h2
        have := q k h1; have := (old b hb2 k).1 h2; omega
    · split
      · rename_i e; subst e
        rcases hvc with q | q
        · rw [q]; exact dcp a i ha2 hi hab k
        · intro h1 h2
          have := q k h2; have := (old a ha2 k).1 h1; omega
      · exact dcp a b ha2 hb2 hab k
  · rw [List.pairwise_iff_getElem]
    intro a b ha hb hab k
    have ha2 : a < ts.length := by rwa [List.length_set] at ha
    have hb2 : b < ts.length := by rwa [List.length_set] at hb
    rw [List.getElem_set, List.getElem_set]
    split
    · rename_i e; subst e
      rw [if_neg (by omega)]
      rcases hvi with q | q
      · rw [q]; exact dip i b hi hb2 hab k
      · intro h1 h2
        have := q k h1; have := (old b hb2 k).2 h2; omega
    · split
      · rename_i e; subst e
        rcases hvi with q | q
        · rw [q]; exact dip a i ha2 hi hab k
        · intro h1 h2
          have := q k h2; have := (old a ha2 k).2 h1; omega
      · exact dip a b ha2 hb2 hab k
  · intro k hk
    rcases hk with q | q
    · have := h.lt k q; omega
    · exact q.2
theorem rnamed_go (s : Bs) (w : World) : Calls Tryz.prog 76 #[.string (bs s)] w fun e w' => e = .returned (.bool (named s)) ∧ w = w' := by
  have e1 := bs_size s
  obtain ⟨n, hn⟩ : ∃ n, n = s.length := ⟨_, rfl⟩
  rw [← hn] at e1
  unfold named
  rw [← hn]
  clear hn
  by_cases h1 : 1 ≤ n
  · have j1 : (1 : Int) ≤ (n : Int) := by omega
    by_cases h12 : n ≤ 12
    · have i1 : (n : Int) ≤ 12 := by omega
      rw [decide_eq_true h12, decide_eq_true h1]
      clear h12 h1
      go_enter Tryz.func76, Tryz.ntmps76
      go_wp2_with (fail)
      go_ret
      exact ⟨rfl, rfl⟩
    · have i1 : (12 : Int) < (n : Int) := by omega
      rw [decide_eq_false h12, decide_eq_true h1]
      clear h12 h1
      go_enter Tryz.func76, Tryz.ntmps76
      go_wp2_with (fail)
      go_ret
      exact ⟨ret_bool (by simp; omega), rfl⟩
  · have j1 : ¬ (1 : Int) ≤ (n : Int) := by omega
    rw [decide_eq_false h1]
    clear h1
    go_enter Tryz.func76, Tryz.ntmps76
    go_wp2_with (fail)
    go_ret
    exact ⟨ret_bool (by simp; try omega), rfl⟩
set_option maxRecDepth 20000 in
theorem rFind_go {S : Nat → Prop} {w : World} {c : Nat} {v : Value} {ts : List TabV} (h : CRv 30 S w c v ts) (hl : ts.length ≤ 8) (n : Bs) :
    Calls Tryz.prog 77 #[.pointer (some ⟨c, 0, none⟩), .string (bs n)] w fun e w' => e = .returned (.int .i64 (find (ts.map TabV.t) n)) ∧ Fr (fun _ => False) w w' := by
  have HC := hid h
  have F0 := hid (Fr.refl (fun _ => False) w)
  obtain ⟨z, hz⟩ : ∃ z, find (ts.map TabV.t) n = z := ⟨_, rfl⟩
  rw [hz]
  have HZ := hid (show pos (fun t : TabV => t.t.name == n) ts = z from (pos_map TabV.t (fun t => t.name == n) ts).symm.trans hz)
  obtain ⟨a, cc, rfl, _⟩ := h.r.slice
  clear hz h
  go_enter Tryz.func77, Tryz.ntmps77
  go_wp2_with (fail)
  go_loopw [5] (fun i wr => ∃ j : Nat, j ≤ ts.length ∧ i = .int .i64 j ∧ (∀ k (hk : k < j) (hr : k < ts.length), (ts[k].t.name == n) = false) ∧ Fr (fun _ => False) w wr) (fun i _ => ts.length - (intOf i).toNat)
  case atStart => exact ⟨0, by omega, rfl, fun k hk => by omega, F0.out⟩
  case round =>
    obtain ⟨j, hj, rfl, hall, fr⟩ := hrel
    have HA := hid hall
    have FR := hid fr
    clear hall fr F0
    have HCW := hid (HC.out.fre FR.out)
    have q0 : wr.cell? ⟨c, 0, none⟩ = some (.slice a ts.length cc) := HCW.out.b.cell 0
    by_cases hjl : j < ts.length
    · obtain ⟨g, rfl, -, hr⟩ := tab_at HCW.out.r hjl
      have qk := hr 1 _ rfl
      have i1 : (0 : Int) ≤ (j : Int) := by omega
      have i2 : (j : Int) < ts.length := by omega
      have i3 : IntKind.i64.wrap ((j : Int) + 1) = (j : Int) + 1 := IntWalk.i64_in _ (by omega)
      have HHIT := hid (fun (hb : (ts[j].t.name == n) = true) => pos_at (p := fun t : TabV => t.t.name == n) hjl hb (fun k hk => HA.out k hk (by omega)))
      have HMISS := hid (fun (hb : (ts[j].t.name == n) = false) => (fun k (hk : k < j + 1) (hr : k < ts.length) => by
        by_cases e : k = j
        · subst e; exact hb
        · exact HA.out k (by omega) hr : ∀ k (hk : k < j + 1) (hr : k < ts.length), (ts[k].t.name == n) = false))
      have HNX := hid (show ts[j].t.name = ts[j].t.name from rfl)
      clear hr
      generalize ts[j].t.name = cn at *
      by_cases hb : cn = n
      · subst hb
        have HX := hid (HHIT.out (by simp))
        clear HHIT HMISS HNX
        go_wp2_with (fail)
        go_ret
        exact ⟨by rw [← HZ.out, HX.out]; rfl, FR.out⟩
      · have HX := hid (HMISS.out (by simpa using hb))
        have hne : ((bs cn).toList == (bs n).toList) = false := by rw [beq_bs]; simpa using hb
        clear HHIT HMISS hb HNX
        go_wp2_with (fail)
        exact ⟨⟨j + 1, by omega, rfl, HX.out, FR.out⟩, by simp only [intOf, Int.toNat_natCast]; omega⟩
    · obtain rfl : j = ts.length := by omega
      have i2 : ¬ ((ts.length : Nat) : Int) < (ts.length : Int) := by omega
      have HX := hid (show pos (fun t : TabV => t.t.name == n) ts = -1 from pos_none (fun x hx => by obtain ⟨i, hi, rfl⟩ := List.getElem_of_mem hx; exact HA.out i hi hi))
      go_wp2_with (fail)
      go_ret
      exact ⟨by rw [← HZ.out, HX.out]; rfl, FR.out⟩
set_option maxRecDepth 20000 in
theorem rfCol_go {R : Nat → Prop} {w : World} (id : Int) (nm : Bs) {ac : Option Addr} {cc : Nat} {vi : Value} {l : List Col} (n : Bs) (h : Sl R w (.slice ac l.length cc) l.length (l.flatMap Col.cells)) (hl : l.length ≤ 1048576) :
    Calls Tryz.prog 78 #[.agg #[.int .i64 id, .string (bs nm), .slice ac l.length cc, vi], .string (bs n)] w fun e w' => e = .returned (.int .i64 (colOf l n)) ∧ Fr (fun _ => False) w w' := by
  have HC := hid h
  have F0 := hid ((Fr.refl (fun _ => False) w).alloc (.cells #[.int .i64 id, .string (bs nm), .slice ac l.length cc, vi] 34))
  have B0 := hid (Blk.new w [.int .i64 id, .string (bs nm), .slice ac l.length cc, vi] 34)
  obtain ⟨z, hz⟩ : ∃ z, colOf l n = z := ⟨_, rfl⟩
  rw [hz]
  have HZ := hid hz
  clear hz h
  go_enter Tryz.func78, Tryz.ntmps78
  go_upto_region 1 with fail
  generalize hd : w.heap.size = d at *
  generalize w.alloc _ = W0 at *
  go_wp2_with (fail)
  go_loopw [5] (fun i wr => ∃ j : Nat, j ≤ l.length ∧ i = .int .i64 j ∧ (∀ k (hk : k < j) (hr : k < l.length), (l[k].name == n) = false) ∧ Fr (fun _ => False) W0 wr) (fun i _ => l.length - (intOf i).toNat)
  case atStart => exact ⟨0, by omega, rfl, fun k hk => by omega, Fr.refl _ _⟩
  case round =>
    obtain ⟨j, hj, rfl, hall, fr⟩ := hrel
    have HA := hid hall
    have FR := hid fr
    clear hall fr
    have q2 : wr.cell? ⟨d, 2, none⟩ = some (.slice ac l.length cc) := (Blk.fr B0.out FR.out (fun h => h)).cell 2
    have FF := hid (F0.out.trans FR.out (fun _ h _ => h))
    by_cases hjl : j < l.length
    · obtain ⟨gc, oc, rfl, -, qc⟩ := slK (k := 2) (f := Col.cells) (by decide) col_len (HC.out.fr FF.out (fun _ _ h => h)) hjl
      have qk := qc 0 (by decide)
      have i1 : (0 : Int) ≤ (j : Int) := by omega
      have i2 : (j : Int) < l.length := by omega
      have i3 : IntKind.i64.wrap ((j : Int) + 1) = (j : Int) + 1 := IntWalk.i64_in _ (by omega)
      have HHIT := hid (fun (hb : (l[j].name == n) = true) => (pos_at (p := fun c : Col => c.name == n) hjl hb (fun k hk => HA.out k hk (by omega)) : colOf l n = (j : Int)))
      have HMISS := hid (fun (hb : (l[j].name == n) = false) => (fun k (hk : k < j + 1) (hr : k < l.length) => by
        by_cases e : k = j
        · subst e; exact hb
        · exact HA.out k (by omega) hr : ∀ k (hk : k < j + 1) (hr : k < l.length), (l[k].name == n) = false))
      obtain ⟨cl, hcl2⟩ : ∃ v, v = l[j] := ⟨_, rfl⟩
      rw [← hcl2] at qk HHIT HMISS
      clear hcl2 qc
      obtain ⟨cn, kd⟩ := cl
      simp only [Col.cells, Nat.add_zero, List.getElem?_cons_zero] at qk
      dsimp only at HHIT HMISS
      by_cases hb : cn = n
      · subst hb
        have HX := hid (HHIT.out (by simp))
        clear HHIT HMISS
        go_wp2_with (fail)
        go_ret
        exact ⟨by rw [← HZ.out, show colOf l cn = (j : Int) from HX.out]; rfl, FF.out⟩
      · have HX := hid (HMISS.out (by simpa using hb))
        have hne : ((bs cn).toList == (bs n).toList) = false := by rw [beq_bs]; simpa using hb
        clear HHIT HMISS
        have HB := hid hb
        clear hb
        go_wp2_with (fail)
        exact ⟨⟨j + 1, by omega, rfl, HX.out, FR.out⟩, by simp only [intOf, Int.toNat_natCast]; omega⟩
    · obtain rfl : j = l.length := by omega
      have i2 : ¬ ((l.length : Nat) : Int) < (l.length : Int) := by omega
      have HX := hid (show colOf l n = -1 from pos_none (fun x hx => by obtain ⟨i, hi, rfl⟩ := List.getElem_of_mem hx; exact HA.out i hi hi))
      go_wp2_with (fail)
      go_ret
      exact ⟨by rw [← HZ.out, HX.out]; rfl, FF.out⟩
end Go.Proofs.YtgkfdlpijefgkaaGreatDoor
/- The reference's create. -/
namespace Go.VB.Cat
open Go.VB Go.VB.Oct
theorem dup_yes {l : List Bs} {i k : Nat} (hi : i < l.length) (hk : k < i) (e : l[i] = l[k]'(by omega)) : dup l = true := by
  unfold dup
  simp only [decide_eq_true_eq]
  exact fun nd => nodup_at nd hi hk e
theorem dup_not {l : List Bs} (h : ∀ i (hi : i < l.length) k (hk : k < i), l[i] ≠ l[k]'(by omega)) : ¬ dup l = true := by
  refine dup_no ?_
  unfold List.Nodup
  rw [List.pairwise_iff_getElem]
  exact fun a b ha hb hab e => h b hb a hab e.symm
theorem any_at {α : Type} {p : α → Bool} {l : List α} {i : Nat} (hi : i < l.length) (h : p l[i] = true) : l.any p = true := List.any_eq_true.2 ⟨_, List.getElem_mem hi, h⟩
theorem any_none {α : Type} {p : α → Bool} {l : List α} (h : ∀ i (hi : i < l.length), p l[i] = false) : ¬ l.any p = true := any_false fun x hx => by
  obtain ⟨i, hi, rfl⟩ := List.getElem_of_mem hx
  exact h i hi
end Go.VB.Cat
namespace Go.Proofs.YtgkfdlpijefgkaaGreatDoor
open Go.RowKit Go.VB Go.VB.Oct Go.VB.Cat Go.VB.Rec
set_option maxRecDepth 20000 in
set_option maxHeartbeats 4000000 in
theorem rcreate_go {S P : Nat → Prop} {w : World} {c : Nat} {v : Value} {ts : List TabV} (h : CRv 30 S w c v ts) (hl : ts.length ≤ 8) {t : StV} (hs : StR P w t) :
    Calls Tryz.prog 44 #[.pointer (some ⟨c, 0, none⟩), .agg t.cells.toArray] w fun e w' => e = .returned (.int .i64 (create (ts.map TabV.t) t.s).2) ∧ CR 30 (Ext S w w') w' c (create (ts.map TabV.t) t.s).1 ∧ Fr S w w' := by
  obtain ⟨⟨kind, table, name, cols, names, join⟩, oc, cc, on, cn, a5, n5, c5, a6, n6, c6, a7, n7, c7, y9, y10, i11, a12, n12, c12, i13, i14⟩ := t
  have HC := hid h
  have HSC := hid hs.c
  have hlc := hs.lc
  have HE : Hid (createE (ts.map TabV.t) ⟨kind, table, name, cols, names, join⟩ = if named table = false ∨ cols.length < 1 ∨ 6 < cols.length ∨ cols.any (fun c => !named c.name) = true then 1
    else if cols.any (fun c => c.kind != 1 && c.kind != 2) = true then 52
    else if dup (cols.map Col.name) = true ∨ 0 ≤ find (ts.map TabV.t) table then 51
    else if 8 ≤ (ts.map TabV.t).length then 2 else 0) := hid rfl
  unfold StV.cells
  dsimp only at HSC hlc ⊢
  clear h hs
  have F1 := hid ((Fr.refl (fun _ => False) w).alloc (.cells #[.int .i64 kind, .string (bs table), .string (bs name), .slice oc cols.length cc, .slice on names.length cn, .slice a5 n5 c5, .slice a6 n6 c6, .slice a7 n7 c7, .string (bs join), .string y9, .string y10, .int .i64 i11, .slice a12 n12 c12, .int .i64 i13, .int .i64 i14] 55))
  have B1 := hid (Blk.new w [.int .i64 kind, .string (bs table), .string (bs name), .slice oc cols.length cc, .slice on names.length cn, .slice a5 n5 c5, .slice a6 n6 c6, .slice a7 n7 c7, .string (bs join), .string y9, .string y10, .int .i64 i11, .slice a12 n12 c12, .int .i64 i13, .int .i64 i14] 55)
  go_enter Tryz.func44, Tryz.ntmps44
  go_upto_region 1 with fail
  generalize hd : w.heap.size = d at *
  have HD := hid hd
  clear hd
  generalize w.alloc _ = W1 at *
  have HNM := hid (fun (s : Bs) (W : World) => rnamed_go s W)
  have q1 : W1.cell? ⟨d, 1, none⟩ = some (.string (bs table)) := B1.out.cell 1
  have q3 : W1.cell? ⟨d, 3, none⟩ = some (.slice oc cols.length cc) := B1.out.cell 3
  obtain ⟨nt, hnt⟩ : ∃ b, named table = b := ⟨_, rfl⟩
  have HNT := hid (HNM.out table)
  rw [hnt] at HNT HE
  clear hnt
  cases nt with
  | false =>
    have HX := hid (HE.out.trans (if_pos (.inl rfl)))
    clear HE
    go_wp2_with (go_at_call 76; refine (HNT.out _).mono ?_; rintro e w3 ⟨rfl, rfl⟩)
    go_ret
    exact create_finR HC.out HX.out (by decide) F1.out
  | true =>
    by_cases hl1 : cols.length < 1
    · have HX := hid (HE.out.trans (if_pos (.inr (.inl hl1))))
      have i1 : (cols.length : Int) < 1 := by omega
      clear HE
      go_wp2_with (go_at_call 76; refine (HNT.out _).mono ?_; rintro e w3 ⟨rfl, rfl⟩)
      go_ret
      exact create_finR HC.out HX.out (by decide) F1.out
    · by_cases hl6 : 6 < cols.length
      · have HX := hid (HE.out.trans (if_pos (.inr (.inr (.inl hl6)))))
        have i1 : ¬ (cols.length : Int) < 1 := by omega
        have i2 : (6 : Int) < (cols.length : Int) := by omega
        clear HE
        go_wp2_with (go_at_call 76; refine (HNT.out _).mono ?_; rintro e w3 ⟨rfl, rfl⟩)
        go_ret
        exact create_finR HC.out HX.out (by decide) F1.out
      · have i1 : ¬ (cols.length : Int) < 1 := by omega
        have i2 : ¬ (6 : Int) < (cols.length : Int) := by omega
        go_upto_region 4 with (go_at_call 76; refine (HNT.out _).mono ?_; rintro e w3 ⟨rfl, rfl⟩)
        clear HNT q1 q3 i1 i2
        go_wp2_with (fail)
        go_loopw [6] (fun s6 wr => ∃ j : Nat, j ≤ cols.length ∧ s6 = .int .i64 j ∧ (∀ k (hk : k < cols.length), k < j → (!named cols[k].name) = false) ∧ Fr (fun _ => False) W1 wr) (fun s6 _ => cols.length - (intOf s6).toNat)
        case atStart => exact ⟨0, by omega, rfl, fun k _ hk => by omega, Fr.refl _ _⟩
        case round =>
          obtain ⟨j, hj, rfl, hall, hf⟩ := hrel
          have HA := hid hall
          have FR := hid hf
          clear hall hf
          have q3 : wr.cell? ⟨d, 3, none⟩ = some (.slice oc cols.length cc) := (Blk.fr B1.out FR.out (fun h => h)).cell 3
          have FW := hid (F1.out.trans FR.out (fun _ h _ => h))
          have j1 : (0 : Int) ≤ (j : Int) := by omega
          have j5 : IntKind.i64.wrap ((j : Int) + 1) = (j : Int) + 1 := IntWalk.i64_in _ (by omega)
          by_cases hjc : j < cols.length
          · have j2 : (j : Int) < (cols.length : Int) := by omega
            obtain ⟨gc, o, rfl, -, qc⟩ := slK (k := 2) (f := Col.cells) (by decide) col_len (HSC.out.fr FW.out (fun _ _ h => h)) hjc
            have p0 : wr.cell? ⟨gc, o + j * 2, none⟩ = some (.string (bs cols[j].name)) := qc 0 (by decide)
            have HNJ := hid (HNM.out cols[j].name)
            have HYES := hid (fun (hb : (!named cols[j].name) = true) => any_at (p := fun c : Col => !named c.name) hjc hb)
            have HNO := hid (fun (hb : (!named cols[j].name) = false) => (fun k (hk : k < cols.length) (hkj : k < j + 1) => by
              by_cases e : k = j
              · subst e; exact hb
              · exact HA.out k hk (by omega) : ∀ k (hk : k < cols.length), k < j + 1 → (!named cols[k].name) = false))
            clear qc
            generalize cols[j].name = nmj at *
            obtain ⟨bj, hbj⟩ : ∃ b, named nmj = b := ⟨_, rfl⟩
            rw [hbj] at HNJ HYES HNO
            clear hbj
            cases bj with
            | false =>
              have HX := hid (HE.out.trans (if_pos (.inr (.inr (.inr (HYES.out rfl))))))
              clear HE HYES HNO
              go_wp2_with (go_at_call 76; refine (HNJ.out _).mono ?_; rintro e w3 ⟨rfl, rfl⟩)
              go_ret
              exact create_finR HC.out HX.out (by decide) FW.out
            | true =>
              have HN := hid (HNO.out rfl)
              clear HYES HNO
              go_wp2_with (go_at_call 76; refine (HNJ.out _).mono ?_; rintro e w3 ⟨rfl, rfl⟩)
              go_roundw
              case rel => exact ⟨j + 1, by omega, by go_num, HN.out, FR.out⟩
              case measure => simp [intOf]; omega
          · obtain rfl : j = cols.length := by omega
            have j2 : ¬ (cols.length : Int) < (cols.length : Int) := by omega
            have HE2 := hid (HE.out.trans (if_neg (by
              rintro (h | h | h | h)
              · cases h
              · omega
              · omega
              · exact any_none (fun i hi => HA.out i hi hi) h)))
            clear HE HA
            go_upto_region 10 with fail
            clear q3
            go_wp2_with (fail)
            go_loopw [8] (fun s8 wr => ∃ j : Nat, j ≤ cols.length ∧ s8 = .int .i64 j ∧ (∀ k (hk : k < cols.length), k < j → (cols[k].kind != 1 && cols[k].kind != 2) = false) ∧ Fr (fun _ => False) W1 wr) (fun s8 _ => cols.length - (intOf s8).toNat)
            case atStart => exact ⟨0, by omega, rfl, fun k _ hk => by omega, FR.out⟩
            case round =>
              obtain ⟨j, hj, rfl, hall, hf⟩ := hrel
              have HA := hid hall
              replace FR := hid hf
              clear hall hf FW
              have q3 : wr.cell? ⟨d, 3, none⟩ = some (.slice oc cols.length cc) := (Blk.fr B1.out FR.out (fun h => h)).cell 3
              have FW := hid (F1.out.trans FR.out (fun _ h _ => h))
              have j1 : (0 : Int) ≤ (j : Int) := by omega
              have j5 : IntKind.i64.wrap ((j : Int) + 1) = (j : Int) + 1 := IntWalk.i64_in _ (by omega)
              by_cases hjc : j < cols.length
              · have j2 : (j : Int) < (cols.length : Int) := by omega
                obtain ⟨gc, o, rfl, -, qc⟩ := slK (k := 2) (f := Col.cells) (by decide) col_len (HSC.out.fr FW.out (fun _ _ h => h)) hjc
                have p0 : wr.cell? ⟨gc, o + j * 2 + 1, none⟩ = some (.int .i64 cols[j].kind) := qc 1 (by decide)
                have HYES := hid (fun (hb : (cols[j].kind != 1 && cols[j].kind != 2) = true) => any_at (p := fun c : Col => c.kind != 1 && c.kind != 2) hjc hb)
                have HNO := hid (fun (hb : (cols[j].kind != 1 && cols[j].kind != 2) = false) => (fun k (hk : k < cols.length) (hkj : k < j + 1) => by
                  by_cases e : k = j
                  · subst e; exact hb
                  · exact HA.out k hk (by omega) : ∀ k (hk : k < cols.length), k < j + 1 → (cols[k].kind != 1 && cols[k].kind != 2) = false))
                clear qc
                generalize cols[j].kind = kd at *
                by_cases hk1 : kd = 1
                · subst hk1
                  have HN := hid (HNO.out (by decide))
                  clear HYES HNO
                  go_wp2_with (fail)
                  go_roundw
                  case rel => exact ⟨j + 1, by omega, by go_num, HN.out, FR.out⟩
                  case measure => simp [intOf]; omega
                · have k1 : (kd != 1) = true := by simpa using hk1
                  by_cases hk2 : kd = 2
                  · subst hk2
                    have HN := hid (HNO.out (by decide))
                    clear HYES HNO k1 hk1
                    go_wp2_with (fail)
                    go_roundw
                    case rel => exact ⟨j + 1, by omega, by go_num, HN.out, FR.out⟩
                    case measure => simp [intOf]; omega
                  · have k2 : (kd != 2) = true := by simpa using hk2
                    have HX := hid (HE2.out.trans (if_pos (HYES.out (by rw [k1, k2]; rfl))))
                    clear HE2 HYES HNO hk1 hk2
                    go_wp2_with (fail)
                    go_ret
                    exact create_finR HC.out HX.out (by decide) FW.out
              · obtain rfl : j = cols.length := by omega
                have j2 : ¬ (cols.length : Int) < (cols.length : Int) := by omega
                have HE3 := hid (HE2.out.trans (if_neg (any_none (p := fun c : Col => c.kind != 1 && c.kind != 2) (fun i hi => HA.out i hi hi))))
                clear HE2 HA
                go_upto_region 15 with fail
                clear q3
                go_wp2_with (fail)
                go_loopw [9, 10] (fun s9 _ wr => ∃ j : Nat, j ≤ cols.length ∧ s9 = .int .i64 j ∧ (∀ i (hi : i < cols.length), i < j → ∀ k (hk : k < i), cols[i].name ≠ (cols[k]'(by omega)).name) ∧ Fr (fun _ => False) W1 wr) (fun s9 _ _ => cols.length - (intOf s9).toNat)
                case atStart => exact ⟨0, by omega, rfl, fun k _ hk => by omega, FR.out⟩
                case round =>
                  obtain ⟨i, hi, rfl, hall, hf⟩ := hrel
                  have HA := hid hall
                  replace FR := hid hf
                  clear hall hf FW
                  have q3 : wr.cell? ⟨d, 3, none⟩ = some (.slice oc cols.length cc) := (Blk.fr B1.out FR.out (fun h => h)).cell 3
                  have FW := hid (F1.out.trans FR.out (fun _ h _ => h))
                  have j1 : (0 : Int) ≤ (i : Int) := by omega
                  have j5 : IntKind.i64.wrap ((i : Int) + 1) = (i : Int) + 1 := IntWalk.i64_in _ (by omega)
                  by_cases hic : i < cols.length
                  · have j2 : (i : Int) < (cols.length : Int) := by omega
                    go_upto_region 18 with fail
                    clear q3
                    go_wp2_with (fail)
                    go_loopw [10] (fun s10 wr => ∃ k : Nat, k ≤ i ∧ s10 = .int .i64 k ∧ (∀ b (hb : b < i), b < k → cols[i].name ≠ (cols[b]'(by omega)).name) ∧ Fr (fun _ => False) W1 wr) (fun s10 _ => i - (intOf s10).toNat)
                    case atStart => exact ⟨0, by omega, rfl, fun k _ hk => by omega, FR.out⟩
                    case round =>
                      obtain ⟨k, hk, rfl, hin, hf⟩ := hrel
                      have HI := hid hin
                      replace FR := hid hf
                      clear hin hf FW
                      have FW := hid (F1.out.trans FR.out (fun _ h _ => h))
                      have k1 : (0 : Int) ≤ (k : Int) := by omega
                      have k5 : IntKind.i64.wrap ((k : Int) + 1) = (k : Int) + 1 := IntWalk.i64_in _ (by omega)
                      by_cases hki : k < i
                      · have k2 : (k : Int) < (i : Int) := by omega
                        have k3 : (k : Int) < (cols.length : Int) := by omega
                        have hkc : k < cols.length := by omega
                        have BW := hid (Blk.fr B1.out FR.out (fun h => h))
                        have HSW := hid (HSC.out.fr FW.out (fun _ _ h => h))
                        obtain ⟨gc, o, rfl, -, qc⟩ := slK (k := 2) (f := Col.cells) (by decide) col_len HSW.out hic
                        obtain ⟨gc2, o2, hg2, -, qd⟩ := slK (k := 2) (f := Col.cells) (by decide) col_len HSW.out hkc
                        simp only [Option.some.injEq, Addr.mk.injEq, and_true] at hg2
                        obtain ⟨rfl, rfl⟩ := hg2
                        have HP0 := hid (show wr.cell? ⟨gc, o + i * 2, none⟩ = some (.string (bs cols[i].name)) from qc 0 (by decide))
                        have HP1 := hid (show wr.cell? ⟨gc, o + k * 2, none⟩ = some (.string (bs cols[k].name)) from qd 0 (by decide))
                        have HYES := hid (fun (hb : cols[i].name = cols[k].name) => (dup_yes (l := cols.map Col.name) (i := i) (k := k) (by simpa using hic) hki (by simpa using hb)))
                        have HNO := hid (fun (hb : ¬ cols[i].name = cols[k].name) => (fun b (hb2 : b < i) (hbk : b < k + 1) => by
                          by_cases e : b = k
                          · subst e; exact hb
                          · exact HI.out b hb2 (by omega) : ∀ b (hb : b < i), b < k + 1 → cols[i].name ≠ (cols[b]'(by omega)).name))
                        clear qc qd
                        obtain ⟨x, hx⟩ : ∃ x, x = cols[i].name := ⟨_, rfl⟩
                        obtain ⟨y, hy⟩ : ∃ y, y = cols[k].name := ⟨_, rfl⟩
                        rw [← hy] at HP1 HYES HNO
                        rw [← hx] at HP0 HYES
                        have HNO2 := hid (fun (hb : ¬ x = y) => HNO.out (by rw [← hx]; exact hb))
                        clear hx hy HNO
                        go_upto_region 21 with fail
                        by_cases hxy : x = y
                        · subst hxy
                          have HX := hid (HE3.out.trans (if_pos (.inl (HYES.out rfl))))
                          clear HE3 HYES HNO2
                          refine wp_region_scr (.take 0 (.take 1 (.take 2 (.take 3 (.take 4 (.take 5 (.take 6 (.take 7 (.take 8 (.take 9 (.take 10 (.take 11 (.take 12 .done))))))))))))) (fun kz w => (kz ≤ 13 → (w.cell? ⟨d, 3, none⟩ = some (.slice (some ⟨gc, o, none⟩) cols.length cc) ∧ w.cell? ⟨gc, o + i * 2, none⟩ = some (.string (bs x)) ∧ w.cell? ⟨gc, o + k * 2, none⟩ = some (.string (bs x)))) ∧ Hid True) (by kernel_rfl) (by kernel_rfl) (by intro c a d v w h; cases d <;> exact h) ?_
                          repeat
                            first
                            | (refine wpT_pure rfl rfl rfl ?_; apply Exists.intro; refine ⟨?_, ?_⟩; intro w; (first | ((obtain ⟨q1, q2, q3⟩ := qa; go_simp <;> rfl)) | (go_simp <;> rfl)); simp only [Act.put, List.setIfInBounds_toArray, List.set_cons_zero, List.set_cons_succ])
                            | (refine wpT_take 13 rfl rfl (by decide +kernel) ⟨fun _ => ⟨BW.out.drew.cell 3, HP0.out, HP1.out⟩, hid trivial⟩ ?_; apply Exists.intro; refine ⟨?_, ?_⟩; intro w hw; (have qa := hw.1 (Nat.le_refl _); have qb := hw.2); (first | ((obtain ⟨q1, q2, q3⟩ := qa; go_simp <;> rfl)) | (go_simp <;> rfl)); simp only [Act.put, List.setIfInBounds_toArray, List.set_cons_zero, List.set_cons_succ])
                            | (refine wpT_skip rfl rfl ?_; simp only [Act.put, List.setIfInBounds_toArray, List.set_cons_zero, List.set_cons_succ])
                          refine wpT_nil ?_
                          have FD := hid (FW.out.trans ((Fr.refl (fun _ => False) _).drew) (fun _ h _ => h))
                          clear HP0 HP1
                          go_wp2_with (fail)
                          go_ret
                          exact create_finR HC.out HX.out (by decide) FD.out
                        · have HN := hid (HNO2.out hxy)
                          have hne : ((bs x).toList == (bs y).toList) = false := by rw [beq_bs]; simpa using hxy
                          clear HYES HNO2 hxy
                          refine wp_region_scr (.take 0 (.take 1 (.take 2 (.take 3 (.take 4 (.take 5 (.take 6 (.take 7 (.take 8 (.take 9 (.take 10 (.take 11 (.take 12 .done))))))))))))) (fun kz w => (kz ≤ 13 → (w.cell? ⟨d, 3, none⟩ = some (.slice (some ⟨gc, o, none⟩) cols.length cc) ∧ w.cell? ⟨gc, o + i * 2, none⟩ = some (.string (bs x)) ∧ w.cell? ⟨gc, o + k * 2, none⟩ = some (.string (bs y)))) ∧ Hid True) (by kernel_rfl) (by kernel_rfl) (by intro c a d v w h; cases d <;> exact h) ?_
                          repeat
                            first
                            | (refine wpT_pure rfl rfl rfl ?_; apply Exists.intro; refine ⟨?_, ?_⟩; intro w; (first | ((obtain ⟨q1, q2, q3⟩ := qa; go_simp <;> rfl)) | (go_simp <;> rfl)); simp only [Act.put, List.setIfInBounds_toArray, List.set_cons_zero, List.set_cons_succ])
                            | (refine wpT_take 13 rfl rfl (by decide +kernel) ⟨fun _ => ⟨BW.out.drew.cell 3, HP0.out, HP1.out⟩, hid trivial⟩ ?_; apply Exists.intro; refine ⟨?_, ?_⟩; intro w hw; (have qa := hw.1 (Nat.le_refl _); have qb := hw.2); (first | ((obtain ⟨q1, q2, q3⟩ := qa; go_simp <;> rfl)) | (go_simp <;> rfl)); simp only [Act.put, List.setIfInBounds_toArray, List.set_cons_zero, List.set_cons_succ])
                            | (refine wpT_skip rfl rfl ?_; simp only [Act.put, List.setIfInBounds_toArray, List.set_cons_zero, List.set_cons_succ])
                          refine wpT_nil ?_
                          have FD := hid (FR.out.trans ((Fr.refl (fun _ => False) _).drew) (fun _ h _ => h))
                          clear HP0 HP1
                          go_wp2_with (fail)
                          go_roundw
                          case rel => exact ⟨k + 1, by omega, by go_num, HN.out, FD.out⟩
                          case measure => simp [intOf]; omega
                      · obtain rfl : k = i := by omega
                        have k2 : ¬ (k : Int) < (k : Int) := by omega
                        have HN := hid (show ∀ a (ha : a < cols.length), a < k + 1 → ∀ b (hb : b < a), cols[a].name ≠ (cols[b]'(by omega)).name from fun a ha hak b hb => by
                          by_cases e : a = k
                          · subst e; exact HI.out b hb hb
                          · exact HA.out a ha (by omega) b hb)
                        go_wp2_with (fail)
                        go_roundw
                        case rel => exact ⟨k + 1, by omega, by go_num, HN.out, FR.out⟩
                        case measure => simp [intOf]; omega
                  · obtain rfl : i = cols.length := by omega
                    have j2 : ¬ (cols.length : Int) < (cols.length : Int) := by omega
                    have HND := hid (dup_not (l := cols.map Col.name) (fun a ha b hb => by
                      have := HA.out a (by simpa using ha) (by simpa using ha) b hb
                      simpa using this))
                    go_upto_region 23 with fail
                    clear q3 HA
                    have FRW := hid FW.out
                    have HFI := hid (rFind_go (HC.out.fre FRW.out) hl table)
                    have q1 : wr.cell? ⟨d, 1, none⟩ = some (.string (bs table)) := (Blk.fr B1.out FR.out (fun h => h)).cell 1
                    obtain ⟨z, hz⟩ : ∃ z, find (ts.map TabV.t) table = z := ⟨_, rfl⟩
                    rw [hz] at HFI HE3
                    clear hz
                    obtain ⟨av, cv, hv, hcap⟩ := HC.out.r.slice
                    by_cases hz0 : 0 ≤ z
                    · have HX := hid (HE3.out.trans (if_pos (.inr hz0)))
                      clear HE3 hv
                      go_wp2_with (go_at_call 77; refine HFI.out.mono ?_; rintro e w7 ⟨rfl, f⟩; have F6 := hid (FRW.out.trans f (fun _ h _ => h)); clear f)
                      go_ret
                      exact create_finR HC.out HX.out (by decide) F6.out
                    · have HE4 := hid (HE3.out.trans (if_neg (by
                        rintro (h | h)
                        · exact HND.out h
                        · omega)))
                      clear HE3 HND
                      subst hv
                      go_upto_region 26 with (go_at_call 77; refine HFI.out.mono ?_; rintro e w7 ⟨rfl, f⟩; have F7 := hid (FRW.out.trans f (fun _ h _ => h)); have B7 := hid (Blk.fr (Blk.fr B1.out FR.out (fun h => h)) f (fun h => h)); clear f)
                      have HC7 := hid (HC.out.fre F7.out)
                      clear HFI q1 FR FRW FW B1 F1 hz0
                      have k0 : w7.cell? ⟨c, 0, none⟩ = some (.slice av ts.length cv) := HC7.out.b.cell 0
                      rw [List.length_map] at HE4
                      by_cases h8 : 8 ≤ ts.length
                      · have HX := hid (HE4.out.trans (if_pos h8))
                        have i3 : (8 : Int) ≤ (ts.length : Int) := by omega
                        clear HE4 h8
                        go_wp2_with (fail)
                        go_ret
                        exact create_finR HC.out HX.out (by decide) F7.out
                      · have HX := hid (HE4.out.trans (if_neg h8))
                        have i3 : ¬ (8 : Int) ≤ (ts.length : Int) := by omega
                        clear HE4 h8
                        go_upto_region 28 with fail
                        have fd := (Fr.refl (fun _ => False) w7).drew
                        have F8 := hid (F7.out.trans fd (fun _ h _ => h))
                        have HC8 := hid (HC7.out.fre fd)
                        have B8 := hid (Blk.fr B7.out fd (fun h => h))
                        clear fd k0 F7 HC7 B7
                        refine wp_region_scr (.take 0 (.take 1 (.take 2 (.take 3 (.take 4 (.take 5 (.take 6 (.take 7 (.take 8 (.take 9 (.take 10 (.take 11 (.take 12 (.take 14 (.take 15 (.op 13 (.op 16 (.op 17 (.op 18 (.op 19 (.take 20 (.take 21 (.op 22 .done))))))))))))))))))))))) (fun kz w => (kz ≤ 22 → (w.cell? ⟨c, 0, none⟩ = some (.slice av ts.length cv) ∧ w.cell? ⟨d, 1, none⟩ = some (.string (bs table)) ∧ w.cell? ⟨d, 3, none⟩ = some (.slice oc cols.length cc))) ∧ Hid True) (by kernel_rfl) (by kernel_rfl) (by intro c a d v w h; cases d <;> exact h) ?_
                        repeat
                          first
                          | (refine wpT_pure rfl rfl rfl ?_; apply Exists.intro; refine ⟨?_, ?_⟩; intro w; (first | (obtain ⟨qa1, qa2, qa3⟩ := qa; go_simp <;> rfl) | (go_simp <;> rfl)); simp only [Act.put, List.setIfInBounds_toArray, List.set_cons_zero, List.set_cons_succ])
                          | (refine wpT_take 22 rfl rfl (by decide +kernel) ⟨fun _ => ⟨HC8.out.b.cell 0, B8.out.cell 1, B8.out.cell 3⟩, hid trivial⟩ ?_; apply Exists.intro; refine ⟨?_, ?_⟩; intro w hw; (have qa := hw.1 (Nat.le_refl _); have qb := hw.2); (first | (obtain ⟨qa1, qa2, qa3⟩ := qa; go_simp <;> rfl) | (go_simp <;> rfl)); simp only [Act.put, List.setIfInBounds_toArray, List.set_cons_zero, List.set_cons_succ])
                          | (refine wpT_skip rfl rfl ?_; simp only [Act.put, List.setIfInBounds_toArray, List.set_cons_zero, List.set_cons_succ])
                        generalize w7.drew = WA at *
                        have HR1 := hid (Row.built (e := 80) (n := 0) (size := 2) (B := w.heap.size) WA (l := []) rfl (by decide) F8.out.size)
                        have fa := (Fr.refl (fun _ => False) WA).alloc (.cells #[] 80)
                        have F9 := hid (F8.out.trans fa (fun _ h _ => h))
                        have HC9 := hid (HC8.out.fre fa)
                        have B9 := hid (Blk.fr B8.out fa (fun h => h))
                        have HSR := hid (Sl.srcK (P := Tryz.prog) (size := 2) (HSC.out.fr F9.out (fun _ _ h => h)) (flat_len (k := 2) (fun _ => rfl) _) (by decide) (col_one _))
                        clear fa F8 HC8 B8
                        refine wpT_op rfl ?_
                        go_wp2_with (fail)
                        (refine ⟨?_, ?_⟩; focus (intro kz hk hk2 hh; first | (exfalso; simp at hk2; omega) | exact hh | exact (fun h => absurd h (by omega)) | obtain ⟨qa, qb⟩ := hh; first | exact ⟨qa, qb⟩ | (refine ⟨fun h => absurd h (by omega), ?_⟩; first | exact qb | (exact ⟨HC9.out.b.cell 0, B9.out.cell 1, B9.out.cell 3⟩)) | (refine ⟨fun h => ?_, ?_⟩; (have qa := qa h); all_goals (first | exact qa | exact qb | (exact ⟨HC9.out.b.cell 0, B9.out.cell 1, B9.out.cell 3⟩)))))
                        refine wpT_op rfl ?_
                        go_wp2_with ((at_builtin; refine wpList_appS rfl (s := .tmp 118) (x := .tmp 120) (t := 31) (tx := 31) rfl Tryz.underlying31 Tryz.underlying31 (.inr ⟨_, rfl⟩) info_col rfl rfl rfl HR1.out F9.out.size HSR.out (by omega) (by omega) ?_; intro ab2 ac2 wg APP; simp only [Nat.zero_add] at APP ⊢; have F10 := hid (F9.out.trans APP.fr (fun k hk hl => by have := HR1.out.new k hk; omega)); have HR10 := hid (APP.row.cast (m := cols.length) (ys := cols.flatMap Col.cells) (Nat.zero_add _) rfl); have HB10 := hid (Blk.fr B9.out APP.fr (fun hk => HR1.out.ne B9.out (by decide) _ hk rfl)); have HCA := hid (HC.out.fre F10.out); clear APP))
                        (refine ⟨?_, ?_⟩; focus (intro kz hk hk2 hh; first | (exfalso; simp at hk2; omega) | exact hh | exact (fun h => absurd h (by omega)) | obtain ⟨qa, qb⟩ := hh; first | exact ⟨qa, qb⟩ | (refine ⟨fun h => absurd h (by omega), ?_⟩; first | exact qb | (exact ⟨HCA.out.b.cell 0, HB10.out.cell 1, HB10.out.cell 3⟩)) | (refine ⟨fun h => ?_, ?_⟩; (have qa := qa h); all_goals (first | exact qa | exact qb | (exact ⟨HCA.out.b.cell 0, HB10.out.cell 1, HB10.out.cell 3⟩)))))
                        clear HR1 F9 HC9 B9 HSR
                        refine wpT_op rfl ?_
                        go_wp2_with (fail)
                        (refine ⟨?_, ?_⟩; focus (intro kz hk hk2 hh; first | (exfalso; simp at hk2; omega) | exact hh | exact (fun h => absurd h (by omega)) | obtain ⟨qa, qb⟩ := hh; first | exact ⟨qa, qb⟩ | (refine ⟨fun h => absurd h (by omega), ?_⟩; first | exact qb | (exact ⟨HCA.out.b.cell 0, HB10.out.cell 1, HB10.out.cell 3⟩)) | (refine ⟨fun h => ?_, ?_⟩; (have qa := qa h); all_goals (first | exact qa | exact qb | (exact ⟨HCA.out.b.cell 0, HB10.out.cell 1, HB10.out.cell 3⟩)))))
                        have FA := hid (fun o => (Fr.refl (fun _ => False) wg).alloc o)
                        refine wpT_op rfl ?_
                        go_wp2_with (fail)
                        (refine ⟨?_, ?_⟩; focus (intro kz hk hk2 hh; first | (exfalso; simp at hk2; omega) | exact hh | exact (fun h => absurd h (by omega)) | obtain ⟨qa, qb⟩ := hh; first | exact ⟨qa, qb⟩ | (refine ⟨fun h => absurd h (by omega), ?_⟩; first | exact qb | (exact ⟨(HCA.out.fre (FA.out _)).b.cell 0, (Blk.fr HB10.out (FA.out _) (fun h => h)).cell 1, (Blk.fr HB10.out (FA.out _) (fun h => h)).cell 3⟩)) | (refine ⟨fun h => ?_, ?_⟩; (have qa := qa h); all_goals (first | exact qa | exact qb | (exact ⟨(HCA.out.fre (FA.out _)).b.cell 0, (Blk.fr HB10.out (FA.out _) (fun h => h)).cell 1, (Blk.fr HB10.out (FA.out _) (fun h => h)).cell 3⟩)))))
                        have HNC := hid (HCA.out.r.ne HCA.out.b (by decide))
                        have HND := hid (HCA.out.r.ne HB10.out (by decide))
                        refine wpT_op rfl ?_
                        go_wp2_with ((at_builtin; refine wpList_app1 rfl (s := .tmp 109) (x := .tmp 123) (t := 28) rfl Tryz.underlying28 info_tab rfl rfl rfl HCA.out.r (Nat.zero_le _) rfl (by simp [Value.oneCell']) (by omega) (by omega) ?_; intro ab ac wh APP; have HG := hid APP; have BC := hid (Blk.fr HCA.out.b APP.fr (fun hk => HNC.out _ hk rfl)); have BD := hid (Blk.fr HB10.out APP.fr (fun hk => HND.out _ hk rfl)); clear APP))
                        (refine ⟨?_, ?_⟩; focus (intro kz hk hk2 hh; first | (exfalso; simp at hk2; omega) | exact hh | exact (fun h => absurd h (by omega)) | obtain ⟨qa, qb⟩ := hh; first | exact ⟨qa, qb⟩ | (refine ⟨fun h => absurd h (by omega), ?_⟩; first | exact qb | (exact ⟨BC.out.cell 0, BD.out.cell 1, BD.out.cell 3⟩)) | (refine ⟨fun h => ?_, ?_⟩; (have qa := qa h); all_goals (first | exact qa | exact qb | (exact ⟨BC.out.cell 0, BD.out.cell 1, BD.out.cell 3⟩)))))
                        repeat
                          first
                          | (refine wpT_pure rfl rfl rfl ?_; apply Exists.intro; refine ⟨?_, ?_⟩; intro w; ((go_simp <;> rfl)); simp only [Act.put, List.setIfInBounds_toArray, List.set_cons_zero, List.set_cons_succ])
                          | (refine wpT_take 22 rfl rfl (by decide +kernel) ⟨fun _ => ⟨BC.out.cell 0, BD.out.cell 1, BD.out.cell 3⟩, hid trivial⟩ ?_; apply Exists.intro; refine ⟨?_, ?_⟩; intro w hw; (have qa := hw.1 (Nat.le_refl _); have qb := hw.2); ((go_simp <;> rfl)); simp only [Act.put, List.setIfInBounds_toArray, List.set_cons_zero, List.set_cons_succ])
                          | (refine wpT_skip rfl rfl ?_; simp only [Act.put, List.setIfInBounds_toArray, List.set_cons_zero, List.set_cons_succ])
                        have k0 : wh.cell? ⟨c, 0, none⟩ = some (.slice av ts.length cv) := BC.out.cell 0
                        have z0 : wh.frozen? ⟨c, 0, none⟩ = false := BC.out.frozen 0
                        have HE := hid (create_endR HC.out HX.out F10.out HR10.out HG.out)
                        have HZ := hid (show (0 : Int) = (create (ts.map TabV.t) ⟨kind, table, name, cols, names, join⟩).2 from by unfold create; rw [if_pos HX.out])
                        refine wpT_op rfl ?_
                        go_wp2_with (fail)
                        (refine ⟨?_, ?_⟩; focus (intro kz hk hk2 hh; first | (exfalso; simp at hk2; omega) | exact hh | exact (fun h => absurd h (by omega)) | obtain ⟨qa, qb⟩ := hh; first | exact ⟨qa, qb⟩ | (refine ⟨fun h => absurd h (by omega), ?_⟩; first | exact qb | (exact hid trivial)) | (refine ⟨fun h => ?_, ?_⟩; (have qa := qa h); all_goals (first | exact qa | exact qb | (exact hid trivial)))))
                        refine wpT_nil ?_
                        go_wp2_with (fail)
                        go_ret
                        exact ⟨ret_int HZ.out, HE.out.1, HE.out.2⟩
end Go.Proofs.YtgkfdlpijefgkaaGreatDoor
/- The reference's rename. -/
namespace Go.Proofs.YtgkfdlpijefgkaaGreatDoor
open Go.RowKit Go.VB Go.VB.Oct Go.VB.Cat Go.VB.Rec
theorem own_new0 {g k n c : Nat} (h : (Value.slice (some ⟨g, 0, none⟩) n c).ownBlock = some k) : k = g := by simp [Value.ownBlock] at h; exact h.symm
theorem col_flat (x : TabV) : ∀ (l : List TabV) (i : Nat) (hi : i < l.length), x.t.id = l[i].t.id → x.t.name = l[i].t.name → x.vi = l[i].vi → (l.set i x).flatMap TabV.cells = (l.flatMap TabV.cells).set (i * 4 + 2) x.vc
  | [], i, h, _, _, _ => by simp at h
  | t :: l, 0, h, h1, h2, h3 => by
    simp only [List.getElem_cons_zero] at h1 h2 h3
    simp [TabV.cells, h1, h2, h3]
  | t :: l, i + 1, h, h1, h2, h3 => by
    have ih := col_flat x l i (by simpa using h) (by simpa using h1) (by simpa using h2) (by simpa using h3)
    rw [List.set_cons_succ, List.flatMap_cons, List.flatMap_cons, ih, show (i + 1) * 4 + 2 = i * 4 + 2 + 1 + 1 + 1 + 1 by omega]
    simp [TabV.cells]
theorem map_set_tab {ts : List TabV} {i : Nat} (x : TabV) {f : Tab → Tab} (hi : i < ts.length) (hx : x.t = f ts[i].t) : (ts.set i x).map TabV.t = setT (ts.map TabV.t) i f := by
  apply List.ext_getElem
  · rw [List.length_map, List.length_set, setT_len, List.length_map]
  · intro j h1 h2
    rw [List.getElem_map, List.getElem_set, setT_get h2]
    split
    · rename_i e; subst e; rw [hx, List.getElem_map]
    · rw [List.getElem_map]
/-- the end of the reference's rename -/
theorem rename_endR {S : Nat → Prop} {w w8 : World} {c : Nat} {v : Value} {ts : List TabV} {s : St} (h : CRv 30 S w c v ts) (he : renameE (ts.map TabV.t) s = 0) (f1 : Fr (fun _ => False) w w8) {i n g : Nat} (hi : i < ts.length) (hf : find (ts.map TabV.t) s.table = (i : Int))
    (hn : colOf ts[i].t.cols s.name = (n : Int)) (hg : v.ownBlock = some g) {vc' : Value} (rc : Row 80 2 w.heap.size w8 vc' ts[i].t.cols.length ((renCol ts[i].t.cols n s.join).flatMap Col.cells)) :
    CR 30 (Ext S w (w8.setCell ⟨g, i * 4 + 2, none⟩ vc')) (w8.setCell ⟨g, i * 4 + 2, none⟩ vc') c (rename (ts.map TabV.t) s).1 ∧ Fr S w (w8.setCell ⟨g, i * 4 + 2, none⟩ vc') := by
  have T0 := (h.t _ (List.getElem_mem hi)).fr f1 (fun _ _ h => h)
  obtain ⟨x, hx⟩ : ∃ x : TabV, x = ⟨{ ts[i].t with cols := renCol ts[i].t.cols n s.join }, vc', ts[i].vi, ts[i].ix⟩ := ⟨_, rfl⟩
  have hcells : (ts.set i x).flatMap TabV.cells = (ts.flatMap TabV.cells).set (i * 4 + 2) vc' := by
    rw [col_flat x ts i hi (by rw [hx]) (by rw [hx]) (by rw [hx]), show x.vc = vc' by rw [hx]]
  have hxo : TabO (fun k => S k ∨ w.heap.size ≤ k) w8 x := by
    rw [hx]
    exact ⟨(rc.low (Nat.zero_le _)).cast (by dsimp only; rw [ren_len]) rfl, fun k hk => .inr (rc.new k hk), T0.i, fun k hk => .inl (T0.iS k hk), T0.e, fun y hy => ⟨(T0.x y hy).1, fun k hk => .inl ((T0.x y hy).2 k hk)⟩⟩
  have hp := put_tab (tc := 30) (by decide) h f1 hi hg x hcells hxo (.inr (fun k hk => rc.new k (by rw [hx] at hk; exact hk))) (.inl (by rw [hx]))
  have hm : (rename (ts.map TabV.t) s).1 = (ts.set i x).map TabV.t := by
    unfold rename
    rw [if_pos he, hf, Int.toNat_natCast]
    exact (map_set_tab x hi (by rw [hx, hn, Int.toNat_natCast])).symm
  rw [hm]
  exact ⟨⟨v, ts.set i x, hp.1, rfl⟩, hp.2⟩
set_option maxRecDepth 20000 in
set_option maxHeartbeats 4000000 in
theorem rrename_go {S : Nat → Prop} {w : World} {c : Nat} {v : Value} {ts : List TabV} (h : CRv 30 S w c v ts) (hl : ts.length ≤ 8) (hcl : ∀ t ∈ ts, t.t.cols.length ≤ 6) (t : StV) :
    Calls Tryz.prog 46 #[.pointer (some ⟨c, 0, none⟩), .agg t.cells.toArray] w fun e w' => e = .returned (.int .i64 (rename (ts.map TabV.t) t.s).2) ∧ CR 30 (Ext S w w') w' c (rename (ts.map TabV.t) t.s).1 ∧ Fr S w w' := by
  obtain ⟨⟨kind, table, name, cols, names, join⟩, oc, cc, on, cn, a5, n5, c5, a6, n6, c6, a7, n7, c7, y9, y10, i11, a12, n12, c12, i13, i14⟩ := t
  have HC := hid h
  have HCL := hid hcl
  obtain ⟨s, hs⟩ : ∃ s : St, s = ⟨kind, table, name, cols, names, join⟩ := ⟨_, rfl⟩
  have hst : s.table = table := by rw [hs]
  have hsn : s.name = name := by rw [hs]
  have hsj : s.join = join := by rw [hs]
  unfold StV.cells
  dsimp only
  rw [← hs]
  have HE1 := hid (fun h => renameE_no (m := ts.map TabV.t) (s := s) h)
  have HE2 := hid (fun h1 h2 => renameE_none (m := ts.map TabV.t) (s := s) h1 h2)
  have HE3 := hid (fun h1 i hi hf => renameE_at (m := ts.map TabV.t) (s := s) h1 (i := i) hi hf)
  have HER := hid (fun e h he => rename_err (m := ts.map TabV.t) (s := s) (e := e) h he)
  rw [hst] at HE2 HE3
  rw [hsj] at HE1 HE2 HE3
  rw [hsn] at HE3
  have HSE := hid (And.intro hst (And.intro hsn hsj))
  clear h hcl hs hst hsn hsj
  have F1 := hid ((Fr.refl (fun _ => False) w).alloc (.cells #[.int .i64 kind, .string (bs table), .string (bs name), .slice oc cols.length cc, .slice on names.length cn, .slice a5 n5 c5, .slice a6 n6 c6, .slice a7 n7 c7, .string (bs join), .string y9, .string y10, .int .i64 i11, .slice a12 n12 c12, .int .i64 i13, .int .i64 i14] 55))
  have B1 := hid (Blk.new w [.int .i64 kind, .string (bs table), .string (bs name), .slice oc cols.length cc, .slice on names.length cn, .slice a5 n5 c5, .slice a6 n6 c6, .slice a7 n7 c7, .string (bs join), .string y9, .string y10, .int .i64 i11, .slice a12 n12 c12, .int .i64 i13, .int .i64 i14] 55)
  go_enter Tryz.func46, Tryz.ntmps46
  go_upto_region 1 with fail
  generalize hd : w.heap.size = d at *
  have HD := hid hd
  clear hd
  generalize w.alloc _ = W1 at *
  obtain ⟨q1, q8⟩ : W1.cell? ⟨d, 1, none⟩ = some (.string (bs table)) ∧ W1.cell? ⟨d, 8, none⟩ = some (.string (bs join)) := ⟨B1.out.cell 1, B1.out.cell 8⟩
  have HNM := hid (rnamed_go join)
  cases hnj : named join with
  | false =>
    have HX := hid (HER.out 1 (HE1.out hnj) (by decide))
    rw [hnj] at HNM
    clear HE1 HE2 HE3 HER hnj
    go_wp2_with (go_at_call 76; refine (HNM.out _).mono ?_; rintro e w3 ⟨rfl, rfl⟩)
    go_ret
    exact err_finR HC.out HX.out F1.out
  | true =>
    have HE2' := hid (HE2.out hnj)
    have HE3' := hid (HE3.out hnj)
    rw [hnj] at HNM
    clear HE1 HE2 HE3 hnj
    have HFI := hid (rFind_go (HC.out.fre F1.out) (by omega) table)
    obtain ⟨z, hz⟩ : ∃ z, find (ts.map TabV.t) table = z := ⟨_, rfl⟩
    have hzc := find_cases (ts.map TabV.t) table
    rw [hz] at HFI HE2' HE3' hzc
    have HZ := hid hz
    clear hz
    rcases hzc with hz0 | ⟨i, hi, rfl⟩
    · have HX := hid (HER.out 50 (HE2'.out hz0) (by decide))
      clear HE2' HE3' HER
      go_wp2_with (first
        | (go_at_call 76; refine (HNM.out _).mono ?_; rintro e w3 ⟨rfl, rfl⟩)
        | (go_at_call 77; refine HFI.out.mono ?_; rintro e w4 ⟨rfl, f⟩; have F2 := hid (F1.out.trans f (fun _ h _ => h)); clear f))
      go_ret
      exact err_finR HC.out HX.out F2.out
    · have HE4 := hid (HE3'.out i hi rfl)
      have hit : i < ts.length := by simpa using hi
      clear HE2' HE3'
      go_upto_region 7 with (first
        | (go_at_call 76; refine (HNM.out _).mono ?_; rintro e w3 ⟨rfl, rfl⟩)
        | (go_at_call 77; refine HFI.out.mono ?_; rintro e w4 ⟨rfl, f⟩; have F2 := hid (F1.out.trans f (fun _ h _ => h)); have B2 := hid (Blk.fr B1.out f (fun h => h)); clear f))
      clear HNM HFI q1 q8 B1 F1
      have HC4 := hid (HC.out.fre F2.out)
      obtain ⟨av, cv, rfl, hcap⟩ := HC.out.r.slice
      obtain ⟨g, rfl, -, hr⟩ := tab_at HC4.out.r hit
      have HXT := hid (HC.out.t _ (List.getElem_mem hit))
      have hxl := HCL.out _ (List.getElem_mem hit)
      rw [List.getElem_map] at HE4
      obtain ⟨x, hx⟩ : ∃ x, x = ts[i] := ⟨_, rfl⟩
      have HXI := hid hx
      rw [← hx] at hr HXT hxl HE4
      clear hx
      obtain ⟨ac, ccap, hvc, hle⟩ := HXT.out.c.slice
      obtain ⟨⟨id, nm0, cols0, ixs0⟩, vc, vi, ix⟩ := x
      dsimp only at hvc hxl HE4 hle
      subst hvc
      have j1 : (0 : Int) ≤ (i : Int) := by omega
      have j2 : (i : Int) < (ts.length : Int) := by omega
      have fd := (Fr.refl (fun _ => False) w4).drew
      have F3 := hid (F2.out.trans fd (fun _ h _ => h))
      have HCO := hid (fun (W : World) (f : Fr (fun _ => False) w W) (n : Bs) => rfCol_go id nm0 (vi := vi) n ((HXT.out.fr f (fun _ _ h => h)).c.sl' (R := fun _ => True) (fun _ _ => trivial)) (by omega))
      have HS := hid (fun (W : World) (f : Fr (fun _ => False) w4 W) => (⟨fun j u hu => cell_fr (hr j u hu) f (fun h => h), (HC4.out.fre f).b.cell 0, Blk.fr B2.out f (fun h => h)⟩ : W.rangeAt g (i * 4) [.int .i64 id, .string (bs nm0), .slice ac cols0.length ccap, vi] ∧ W.cell? ⟨c, 0, none⟩ = some (.slice (some ⟨g, 0, none⟩) ts.length cv) ∧ Blk W d [.int .i64 kind, .string (bs table), .string (bs name), .slice oc cols.length cc, .slice on names.length cn, .slice a5 n5 c5, .slice a6 n6 c6, .slice a7 n7 c7, .string (bs join), .string y9, .string y10, .int .i64 i11, .slice a12 n12 c12, .int .i64 i13, .int .i64 i14] 55))
      clear hr B2 F2 HC4
      have HS3 := hid (HS.out _ fd)
      have HFD := hid fd
      clear fd
      obtain ⟨z1, hz1⟩ : ∃ z, colOf cols0 name = z := ⟨_, rfl⟩
      obtain ⟨z2, hz2⟩ : ∃ z, colOf cols0 join = z := ⟨_, rfl⟩
      have HL1 := hid (HCO.out w4.drew F3.out name)
      rw [hz1] at HL1 HE4
      rw [hz2] at HE4
      have HZ1 := hid hz1
      have HZ2 := hid hz2
      clear hz1 hz2
      refine wp_region_scr (.take 0 (.take 1 (.take 2 (.take 3 (.take 4 (.take 5 (.take 6 (.take 7 (.take 8 (.op 9 (.take 10 .done))))))))))) (fun kz w => (kz ≤ 11 → (w.rangeAt g (i * 4) [.int .i64 id, .string (bs nm0), .slice ac cols0.length ccap, vi] ∧ w.cell? ⟨c, 0, none⟩ = some (.slice (some ⟨g, 0, none⟩) ts.length cv) ∧ w.cell? ⟨d, 2, none⟩ = some (.string (bs name)))) ∧ Hid True) (by kernel_rfl) (by kernel_rfl) (by intro c a d v w h; cases d <;> exact h) ?_
      repeat
        first
        | (refine wpT_pure rfl rfl rfl ?_; apply Exists.intro; refine ⟨?_, ?_⟩; intro w; (first | (first | exact run_load_mid _ _ rfl g _ rfl _ _ qa.1 Tryz.underlying34 rfl size_tab | (obtain ⟨q1, q2, q3⟩ := qa; go_simp <;> rfl)) | (go_simp <;> rfl)); simp only [Act.put, List.setIfInBounds_toArray, List.set_cons_zero, List.set_cons_succ])
        | (refine wpT_take 11 rfl rfl (by decide +kernel) ⟨fun _ => ⟨HS3.out.1, HS3.out.2.1, HS3.out.2.2.cell 2⟩, hid trivial⟩ ?_; apply Exists.intro; refine ⟨?_, ?_⟩; intro w hw; (have qa := hw.1 (Nat.le_refl _); have qb := hw.2); (first | (first | exact run_load_mid _ _ rfl g _ rfl _ _ qa.1 Tryz.underlying34 rfl size_tab | (obtain ⟨q1, q2, q3⟩ := qa; go_simp <;> rfl)) | (go_simp <;> rfl)); simp only [Act.put, List.setIfInBounds_toArray, List.set_cons_zero, List.set_cons_succ])
        | (refine wpT_skip rfl rfl ?_; simp only [Act.put, List.setIfInBounds_toArray, List.set_cons_zero, List.set_cons_succ])
      refine wpT_op rfl ?_
      go_wp2_with ((go_at_call 78; refine HL1.out.mono ?_; rintro e w5 ⟨rfl, f⟩; have F4 := hid (F3.out.trans f (fun _ h _ => h)); have FD4 := hid (HFD.out.trans f (fun _ h _ => h)); have HS4 := hid (HS.out _ FD4.out); clear f))
      (refine ⟨?_, ?_⟩; focus (intro kz hk hk2 hh; first | (exfalso; simp at hk2; omega) | exact hh | exact (fun h => absurd h (by omega)) | obtain ⟨qa, qb⟩ := hh; first | exact ⟨qa, qb⟩ | (refine ⟨fun h => absurd h (by omega), ?_⟩; first | exact qb | (exact ⟨HS4.out.1, HS4.out.2.1, HS4.out.2.2.cell 2⟩)) | (refine ⟨fun h => ?_, ?_⟩; (have qa := qa h); all_goals (first | exact qa | exact qb | (exact ⟨HS4.out.1, HS4.out.2.1, HS4.out.2.2.cell 2⟩)))))
      repeat
        first
        | (refine wpT_pure rfl rfl rfl ?_; apply Exists.intro; refine ⟨?_, ?_⟩; intro w; (first | ((obtain ⟨q1, q2, q3⟩ := qa; go_simp <;> rfl)) | (go_simp <;> rfl)); simp only [Act.put, List.setIfInBounds_toArray, List.set_cons_zero, List.set_cons_succ])
        | (refine wpT_take 11 rfl rfl (by decide +kernel) ⟨fun _ => ⟨HS4.out.1, HS4.out.2.1, HS4.out.2.2.cell 2⟩, hid trivial⟩ ?_; apply Exists.intro; refine ⟨?_, ?_⟩; intro w hw; (have qa := hw.1 (Nat.le_refl _); have qb := hw.2); (first | ((obtain ⟨q1, q2, q3⟩ := qa; go_simp <;> rfl)) | (go_simp <;> rfl)); simp only [Act.put, List.setIfInBounds_toArray, List.set_cons_zero, List.set_cons_succ])
        | (refine wpT_skip rfl rfl ?_; simp only [Act.put, List.setIfInBounds_toArray, List.set_cons_zero, List.set_cons_succ])
      refine wpT_nil ?_
      clear HL1 HS3 F3 HFD
      go_upto_region 8 with fail
      have fd := (Fr.refl (fun _ => False) w5).drew
      have F5 := hid (F4.out.trans fd (fun _ h _ => h))
      have FD5 := hid (FD4.out.trans fd (fun _ h _ => h))
      have HS5 := hid (HS.out _ FD5.out)
      have HL2 := hid (HCO.out w5.drew F5.out join)
      rw [HZ2.out] at HL2
      clear fd F4 FD4 HS4 HCO
      refine wp_region_scr (.take 0 (.take 1 (.take 2 (.take 3 (.take 4 (.take 5 (.take 6 (.take 7 (.take 8 (.op 9 (.take 10 .done))))))))))) (fun kz w => (kz ≤ 11 → (w.rangeAt g (i * 4) [.int .i64 id, .string (bs nm0), .slice ac cols0.length ccap, vi] ∧ w.cell? ⟨c, 0, none⟩ = some (.slice (some ⟨g, 0, none⟩) ts.length cv) ∧ w.cell? ⟨d, 8, none⟩ = some (.string (bs join)))) ∧ Hid True) (by kernel_rfl) (by kernel_rfl) (by intro c a d v w h; cases d <;> exact h) ?_
      repeat
        first
        | (refine wpT_pure rfl rfl rfl ?_; apply Exists.intro; refine ⟨?_, ?_⟩; intro w; (first | (first | exact run_load_mid _ _ rfl g _ rfl _ _ qa.1 Tryz.underlying34 rfl size_tab | (obtain ⟨q1, q2, q3⟩ := qa; go_simp <;> rfl)) | (go_simp <;> rfl)); simp only [Act.put, List.setIfInBounds_toArray, List.set_cons_zero, List.set_cons_succ])
        | (refine wpT_take 11 rfl rfl (by decide +kernel) ⟨fun _ => ⟨HS5.out.1, HS5.out.2.1, HS5.out.2.2.cell 8⟩, hid trivial⟩ ?_; apply Exists.intro; refine ⟨?_, ?_⟩; intro w hw; (have qa := hw.1 (Nat.le_refl _); have qb := hw.2); (first | (first | exact run_load_mid _ _ rfl g _ rfl _ _ qa.1 Tryz.underlying34 rfl size_tab | (obtain ⟨q1, q2, q3⟩ := qa; go_simp <;> rfl)) | (go_simp <;> rfl)); simp only [Act.put, List.setIfInBounds_toArray, List.set_cons_zero, List.set_cons_succ])
        | (refine wpT_skip rfl rfl ?_; simp only [Act.put, List.setIfInBounds_toArray, List.set_cons_zero, List.set_cons_succ])
      refine wpT_op rfl ?_
      go_wp2_with ((go_at_call 78; refine HL2.out.mono ?_; rintro e w6 ⟨rfl, f⟩; have F6 := hid (F5.out.trans f (fun _ h _ => h)); have FD6 := hid (FD5.out.trans f (fun _ h _ => h)); have HS6 := hid (HS.out _ FD6.out); clear f))
      (refine ⟨?_, ?_⟩; focus (intro kz hk hk2 hh; first | (exfalso; simp at hk2; omega) | exact hh | exact (fun h => absurd h (by omega)) | obtain ⟨qa, qb⟩ := hh; first | exact ⟨qa, qb⟩ | (refine ⟨fun h => absurd h (by omega), ?_⟩; first | exact qb | (exact ⟨HS6.out.1, HS6.out.2.1, HS6.out.2.2.cell 8⟩)) | (refine ⟨fun h => ?_, ?_⟩; (have qa := qa h); all_goals (first | exact qa | exact qb | (exact ⟨HS6.out.1, HS6.out.2.1, HS6.out.2.2.cell 8⟩)))))
      repeat
        first
        | (refine wpT_pure rfl rfl rfl ?_; apply Exists.intro; refine ⟨?_, ?_⟩; intro w; (first | ((obtain ⟨q1, q2, q3⟩ := qa; go_simp <;> rfl)) | (go_simp <;> rfl)); simp only [Act.put, List.setIfInBounds_toArray, List.set_cons_zero, List.set_cons_succ])
        | (refine wpT_take 11 rfl rfl (by decide +kernel) ⟨fun _ => ⟨HS6.out.1, HS6.out.2.1, HS6.out.2.2.cell 8⟩, hid trivial⟩ ?_; apply Exists.intro; refine ⟨?_, ?_⟩; intro w hw; (have qa := hw.1 (Nat.le_refl _); have qb := hw.2); (first | ((obtain ⟨q1, q2, q3⟩ := qa; go_simp <;> rfl)) | (go_simp <;> rfl)); simp only [Act.put, List.setIfInBounds_toArray, List.set_cons_zero, List.set_cons_succ])
        | (refine wpT_skip rfl rfl ?_; simp only [Act.put, List.setIfInBounds_toArray, List.set_cons_zero, List.set_cons_succ])
      refine wpT_nil ?_
      clear HL2 HS5 F5 FD5
      by_cases hz1 : z1 < 0
      · have HX := hid (HER.out 50 (HE4.out.trans (if_pos hz1)) (by decide))
        clear HE4 HER
        go_wp2_with (fail)
        go_ret
        exact err_finR HC.out HX.out F6.out
      · have HE5 := hid (HE4.out.trans (if_neg hz1))
        clear HE4
        by_cases hz2 : 0 ≤ z2
        · have HX := hid (HER.out 51 (HE5.out.trans (if_pos hz2)) (by decide))
          clear HE5 HER
          go_wp2_with (fail)
          go_ret
          exact err_finR HC.out HX.out F6.out
        · have HX := hid (HE5.out.trans (if_neg hz2))
          clear HE5 HER
          go_upto_region 13 with fail
          obtain ⟨n, rfl⟩ : ∃ n : Nat, z1 = (n : Int) := ⟨z1.toNat, by omega⟩
          have hnl : n < cols0.length := by
            have := (col_ge cols0 name).2
            rw [HZ1.out] at this
            omega
          have j3 : (0 : Int) ≤ (n : Int) := by omega
          have j4 : (n : Int) < (cols0.length : Int) := by omega
          have HR1 := hid (Row.built (e := 80) (n := 0) (size := 2) (B := w6.heap.size) w6 (l := []) rfl (by decide) (Nat.le_refl _))
          have fa := (Fr.refl (fun _ => False) w6).alloc (.cells #[] 80)
          have F7 := hid (F6.out.trans fa (fun _ h _ => h))
          have HS7 := hid (HS.out _ (FD6.out.trans fa (fun _ h _ => h)))
          have HSR := hid (Sl.srcK (P := Tryz.prog) (size := 2) ((HXT.out.fr F7.out (fun _ _ h => h)).c.sl' (R := fun _ => True) (fun _ _ => trivial)) (flat_len (k := 2) (fun _ => rfl) _) (by decide) (col_one _))
          dsimp only at HSR
          have p0 := HS7.out.2.1
          have p2 := HS7.out.1 2 _ rfl
          clear fa hz1 hz2
          go_upto_region 14 with (at_builtin; refine wpList_appS rfl (s := .tmp 45) (x := .tmp 53) (t := 31) (tx := 31) rfl Tryz.underlying31 Tryz.underlying31 (.inr ⟨_, rfl⟩) info_col rfl rfl rfl HR1.out (by rw [World.size_alloc]; omega) HSR.out (by omega) (by omega) ?_; intro ab2 ac2 wg APP; simp only [Nat.zero_add] at APP ⊢; have F10 := hid (F7.out.trans APP.fr (fun k hk hl => by have h1 := HR1.out.new k hk; have h2 := F6.out.size; omega)); have HRC := hid (APP.row.cast (m := cols0.length) (ys := cols0.flatMap Col.cells) (Nat.zero_add _) rfl); have FDA := hid (((Fr.refl (fun _ => False) w6).alloc (.cells #[] 80)).trans APP.fr (fun k hk hl => by have h1 := HR1.out.new k hk; have h2 := own_new0 hk; omega)); clear APP)
          clear p0 p2 HR1 HSR F7 HS7
          have FDG := hid (FD6.out.trans FDA.out (fun _ h _ => h))
          have HS8 := hid (HS.out _ FDG.out)
          obtain ⟨gl, rfl, hgB, hcell⟩ := row_cells HRC.out (by
            intro e
            have := congrArg List.length e
            rw [flat_len (k := 2) (fun _ => rfl)] at this
            simp only [List.length_nil] at this
            omega)
          obtain ⟨l2, hb2⟩ := row_blk HRC.out (k := gl) rfl
          have hc2 : wg.cell? ⟨gl, n * 2, none⟩ = some (.string (bs cols0[n].name)) := hcell (n * 2) _ (by
            have := flatK (k := 2) Col.cells (fun _ => rfl) cols0 n hnl 0 (by omega)
            rw [Nat.add_zero] at this
            rw [this]; rfl)
          have hz3 := hb2.frozen (n * 2)
          have q8 : wg.cell? ⟨d, 8, none⟩ = some (.string (bs join)) := HS8.out.2.2.cell 8
          have HRD := hid ((row_set HRC.out (g := gl) rfl (n * 2) (.string (bs join))).cast rfl (ren_flat cols0 n join hnl).symm)
          have fs := (Fr.refl (fun k => k = gl) wg).setCell ⟨gl, n * 2, none⟩ (.string (bs join)) (fun _ => rfl)
          have F11 := hid (F10.out.trans fs (fun k hk hl => by have := F6.out.size; omega))
          have FDH := hid (FDG.out.trans fs (fun k hk hl => by have := FD6.out.size; omega))
          clear hb2 hcell fs HRC HS8 F10 FDG FDA
          go_upto_region 15 with fail
          clear q8 hc2 hz3
          generalize wg.setCell _ _ = W12 at *
          have HS9 := hid (HS.out _ FDH.out)
          have HCW := hid (HC.out.fre F11.out)
          have p0 := HS9.out.2.1
          have p2 := HS9.out.1 2 _ rfl
          obtain ⟨lg, hbg⟩ := row_blk HCW.out.r (k := g) rfl
          have z2 := hbg.frozen (i * 4 + 2)
          have HEND := hid (rename_endR (s := s) HC.out HX.out F11.out hit (by rw [HSE.out.1]; exact HZ.out) (n := n) (g := g) (by rw [HSE.out.2.1, ← HXI.out]; exact HZ1.out) rfl (vc' := .slice (some ⟨gl, 0, none⟩) cols0.length ac2) (by rw [HSE.out.2.2, ← HXI.out]; exact HRD.out.low F6.out.size))
          have HQ := hid (show (0 : Int) = (rename (ts.map TabV.t) s).2 from by unfold rename; rw [if_pos HX.out])
          clear hbg HCW HS9 HRD
          go_wp2_with (fail)
          go_ret
          exact ⟨ret_int HQ.out, HEND.out.1, HEND.out.2⟩
end Go.Proofs.YtgkfdlpijefgkaaGreatDoor
/- The reference's index. -/
namespace Go.Proofs.YtgkfdlpijefgkaaGreatDoor
open Go.RowKit Go.VB Go.VB.Oct Go.VB.Cat Go.VB.Rec
theorem ixv_one {l : List IxV} (h : ∀ x ∈ l, ∃ a n c, x.v = .slice a n c) : ∀ u ∈ l.flatMap IxV.cells, u.oneCell' = true := by
  intro u hu
  obtain ⟨x, hx, hu2⟩ := List.mem_flatMap.1 hu
  obtain ⟨a, n, c, e⟩ := h x hx
  simp only [IxV.cells, List.mem_cons, List.not_mem_nil, or_false] at hu2
  rcases hu2 with rfl | rfl | rfl
  · rfl
  · rw [e]; rfl
  · rfl
theorem map_set_ix {ts : List TabV} {i : Nat} (x : TabV) {f : Tab → Tab} (hi : i < ts.length) (hx : x.t = f ts[i].t) : (ts.set i x).map TabV.t = setT (ts.map TabV.t) i f := by
  apply List.ext_getElem
  · rw [List.length_map, List.length_set, setT_len, List.length_map]
  · intro j h1 h2
    rw [List.getElem_map, List.getElem_set, setT_get h2]
    split
    · rename_i e; subst e; rw [hx, List.getElem_map]
    · rw [List.getElem_map]
/-- the end of the reference's index -/
theorem index_endR {S : Nat → Prop} {w w8 : World} {c : Nat} {v : Value} {ts : List TabV} {s : St} {root : Int} (h : CRv 30 S w c v ts) (he : indexE (ts.map TabV.t) s root = 0) (f1 : Fr (fun _ => False) w w8) {i g : Nat} (hi : i < ts.length) (hf : find (ts.map TabV.t) s.table = (i : Int))
    (hg : v.ownBlock = some g) {vn vi' : Value} (rc : Row 3 1 w.heap.size w8 vn s.names.length ((s.names.map (colOf ts[i].t.cols)).flatMap icell))
    (ri : Row 44 3 w.heap.size w8 vi' (ts[i].ix.length + 1) (ts[i].ix.flatMap IxV.cells ++ [.string (bs s.name), vn, .int .i64 root])) :
    CR 30 (Ext S w (w8.setCell ⟨g, i * 4 + 3, none⟩ vi')) (w8.setCell ⟨g, i * 4 + 3, none⟩ vi') c (index (ts.map TabV.t) s root).1 ∧ Fr S w (w8.setCell ⟨g, i * 4 + 3, none⟩ vi') := by
  have T0 := (h.t _ (List.getElem_mem hi)).fr f1 (fun _ _ h => h)
  obtain ⟨x, hx⟩ : ∃ x : TabV, x = ⟨{ ts[i].t with ixs := ts[i].t.ixs ++ [s.ix ts[i].t root] }, ts[i].vc, vi', ts[i].ix ++ [⟨s.ix ts[i].t root, vn⟩]⟩ := ⟨_, rfl⟩
  have hcells : (ts.set i x).flatMap TabV.cells = (ts.flatMap TabV.cells).set (i * 4 + 3) vi' := by
    rw [ix_flat x ts i hi (by rw [hx]) (by rw [hx]) (by rw [hx]), show x.vi = vi' by rw [hx]]
  have hxo : TabO (fun k => S k ∨ w.heap.size ≤ k) w8 x := by
    rw [hx]
    refine ⟨T0.c, fun k hk => .inl (T0.cS k hk), (ri.low (Nat.zero_le _)).cast (by simp) (by simp [IxV.cells, St.ix]), fun k hk => .inr (ri.new k hk), ?_, fun y hy => ?_⟩
    · dsimp only
      rw [List.map_append, ← T0.e]
      rfl
    · rcases List.mem_append.1 hy with q | q
      · exact ⟨(T0.x y q).1, fun k hk => .inl ((T0.x y q).2 k hk)⟩
      · rw [List.mem_singleton.1 q]
        exact ⟨(rc.low (Nat.zero_le _)).cast (by simp [St.ix]) rfl, fun k hk => .inr (rc.new k hk)⟩
  have hp := put_tab (tc := 30) (by decide) h f1 hi hg x hcells hxo (.inl (by rw [hx])) (.inr (fun k hk => ri.new k (by rw [hx] at hk; exact hk)))
  have hm : (index (ts.map TabV.t) s root).1 = (ts.set i x).map TabV.t := by
    unfold index
    rw [if_pos he, hf, Int.toNat_natCast]
    exact (map_set_ix x hi (by rw [hx])).symm
  rw [hm]
  exact ⟨⟨v, ts.set i x, hp.1, rfl⟩, hp.2⟩
set_option maxRecDepth 20000 in
set_option maxHeartbeats 4000000 in
theorem rindex_go {S P : Nat → Prop} {w : World} {c : Nat} {v : Value} {ts : List TabV} (h : CRv 30 S w c v ts) (hl : ts.length ≤ 8) (hcl : ∀ t ∈ ts, t.t.cols.length ≤ 6) (hil : ∀ t ∈ ts, t.ix.length ≤ 4) {t : StV} (hs : StR P w t) (root : Int) :
    Calls Tryz.prog 45 #[.pointer (some ⟨c, 0, none⟩), .agg t.cells.toArray, .int .i64 root] w fun e w' => e = .returned (.int .i64 (index (ts.map TabV.t) t.s root).2) ∧ CR 30 (Ext S w w') w' c (index (ts.map TabV.t) t.s root).1 ∧ Fr S w w' := by
  obtain ⟨⟨kind, table, name, cols, names, join⟩, oc, cc, on, cn, a5, n5, c5, a6, n6, c6, a7, n7, c7, y9, y10, i11, a12, n12, c12, i13, i14⟩ := t
  have HC := hid h
  have HCL := hid hcl
  have HIL := hid hil
  have HSN := hid hs.n
  have hln := hs.ln
  have HSS := hid hs.sn
  dsimp only at HSN hln HSS
  obtain ⟨s, hs'⟩ : ∃ s : St, s = ⟨kind, table, name, cols, names, join⟩ := ⟨_, rfl⟩
  have hst : s.table = table := by rw [hs']
  have hsn : s.name = name := by rw [hs']
  have hsm : s.names = names := by rw [hs']
  unfold StV.cells
  dsimp only
  rw [← hs']
  have HE1 := hid (fun h => indexE_arg (m := ts.map TabV.t) (s := s) (root := root) h)
  have HE2 := hid (fun h1 h2 => indexE_none (m := ts.map TabV.t) (s := s) (root := root) h1 h2)
  have HE3 := hid (fun h1 i hi hf => indexE_at (m := ts.map TabV.t) (s := s) (root := root) h1 (i := i) hi hf)
  have HER := hid (fun e h he => index_err (m := ts.map TabV.t) (s := s) (root := root) (e := e) h he)
  rw [hst] at HE2 HE3
  rw [hsn, hsm] at HE1 HE2 HE3
  have HSE := hid (And.intro hst (And.intro hsn hsm))
  clear h hcl hil hs hs' hst hsn hsm
  have F1 := hid ((Fr.refl (fun _ => False) w).alloc (.cells #[.int .i64 kind, .string (bs table), .string (bs name), .slice oc cols.length cc, .slice on names.length cn, .slice a5 n5 c5, .slice a6 n6 c6, .slice a7 n7 c7, .string (bs join), .string y9, .string y10, .int .i64 i11, .slice a12 n12 c12, .int .i64 i13, .int .i64 i14] 55))
  have B1 := hid (Blk.new w [.int .i64 kind, .string (bs table), .string (bs name), .slice oc cols.length cc, .slice on names.length cn, .slice a5 n5 c5, .slice a6 n6 c6, .slice a7 n7 c7, .string (bs join), .string y9, .string y10, .int .i64 i11, .slice a12 n12 c12, .int .i64 i13, .int .i64 i14] 55)
  go_enter Tryz.func45, Tryz.ntmps45
  go_upto_region 1 with fail
  generalize hd : w.heap.size = d at *
  have HD := hid hd
  clear hd
  generalize w.alloc _ = W1 at *
  obtain ⟨q1, q2, q4⟩ : W1.cell? ⟨d, 1, none⟩ = some (.string (bs table)) ∧ W1.cell? ⟨d, 2, none⟩ = some (.string (bs name)) ∧ W1.cell? ⟨d, 4, none⟩ = some (.slice on names.length cn) := ⟨B1.out.cell 1, B1.out.cell 2, B1.out.cell 4⟩
  have HNM := hid (rnamed_go name)
  by_cases hbad : named name = false ∨ names.length < 1 ∨ 6 < names.length ∨ root < 0 ∨ 400 ≤ root
  · have HX := hid (HER.out 1 (HE1.out hbad) (by decide))
    clear HE1 HE2 HE3 HER
    cases hnn : named name with
    | false =>
      rw [hnn] at HNM
      clear hbad hnn
      go_wp2_with (go_at_call 76; refine (HNM.out _).mono ?_; rintro e w3 ⟨rfl, rfl⟩)
      go_ret
      exact err_finR HC.out HX.out F1.out
    | true =>
      rw [hnn] at HNM hbad
      have hb2 : (names.length : Int) < 1 ∨ (¬ (names.length : Int) < 1 ∧ (6 : Int) < names.length) ∨ (¬ (names.length : Int) < 1 ∧ ¬ (6 : Int) < names.length ∧ root < 0) ∨ (¬ (names.length : Int) < 1 ∧ ¬ (6 : Int) < names.length ∧ ¬ root < 0 ∧ 400 ≤ root) := by
        rcases hbad with q | q | q | q | q
        · cases q
        all_goals omega
      clear hbad hnn
      rcases hb2 with j1 | ⟨j1, j2⟩ | ⟨j1, j2, j3⟩ | ⟨j1, j2, j3, j4⟩
      all_goals
        go_wp2_with (go_at_call 76; refine (HNM.out _).mono ?_; rintro e w3 ⟨rfl, rfl⟩)
        go_ret
        exact err_finR HC.out HX.out F1.out
  · have hnn : named name = true := by
      cases hq : named name
      · exact absurd (.inl hq) hbad
      · rfl
    rw [hnn] at HNM
    have HE2' := hid (HE2.out hbad)
    have HE3' := hid (HE3.out hbad)
    have j1 : ¬ (names.length : Int) < 1 := by omega
    have j2 : ¬ (6 : Int) < names.length := by omega
    have j3 : ¬ root < 0 := by omega
    have j4 : root < 400 := by omega
    clear HE1 HE2 HE3 hbad hnn
    have HFI := hid (rFind_go (HC.out.fre F1.out) (by omega) table)
    obtain ⟨z, hz⟩ : ∃ z, find (ts.map TabV.t) table = z := ⟨_, rfl⟩
    have hzc := find_cases (ts.map TabV.t) table
    rw [hz] at HFI HE2' HE3' hzc
    have HZ := hid hz
    clear hz
    rcases hzc with hz0 | ⟨i, hi, rfl⟩
    · have HX := hid (HER.out 50 (HE2'.out hz0) (by decide))
      clear HE2' HE3' HER
      go_wp2_with (first
        | (go_at_call 76; refine (HNM.out _).mono ?_; rintro e w3 ⟨rfl, rfl⟩)
        | (go_at_call 77; refine HFI.out.mono ?_; rintro e w4 ⟨rfl, f⟩; have F2 := hid (F1.out.trans f (fun _ h _ => h)); clear f))
      go_ret
      exact err_finR HC.out HX.out F2.out
    · have HE4 := hid (HE3'.out i hi rfl)
      have hit : i < ts.length := by simpa using hi
      clear HE2' HE3'
      go_upto_region 7 with (first
        | (go_at_call 76; refine (HNM.out _).mono ?_; rintro e w3 ⟨rfl, rfl⟩)
        | (go_at_call 77; refine HFI.out.mono ?_; rintro e w4 ⟨rfl, f⟩; have F2 := hid (F1.out.trans f (fun _ h _ => h)); have B2 := hid (Blk.fr B1.out f (fun h => h)); clear f))
      clear HNM HFI q1 q2 q4 B1 F1
      have HC4 := hid (HC.out.fre F2.out)
      obtain ⟨av, cv, rfl, hcap⟩ := HC.out.r.slice
      obtain ⟨g, rfl, -, hr⟩ := tab_at HC4.out.r hit
      have HXT := hid (HC.out.t _ (List.getElem_mem hit))
      have hxl := HCL.out _ (List.getElem_mem hit)
      have hxi := HIL.out _ (List.getElem_mem hit)
      rw [List.getElem_map] at HE4
      obtain ⟨x, hx⟩ : ∃ x, x = ts[i] := ⟨_, rfl⟩
      have HXI := hid hx
      rw [← hx] at hr HXT hxl hxi HE4
      clear hx
      obtain ⟨ac, ccap, hvc, hle⟩ := HXT.out.c.slice
      obtain ⟨ai, ci, hvi, hlei⟩ := HXT.out.i.slice
      obtain ⟨⟨id, nm0, cols0, ixs0⟩, vc, vi, ix⟩ := x
      dsimp only at hvc hvi hxl hxi HE4 hle hlei
      subst hvc hvi
      have j5 : (0 : Int) ≤ (i : Int) := by omega
      have j6 : (i : Int) < (ts.length : Int) := by omega
      have q2 : w4.cell? ⟨d, 2, none⟩ = some (.string (bs name)) := B2.out.cell 2
      go_upto_region 8 with fail
      have fa := (Fr.refl (fun _ => False) w4).alloc (.cells #[.string (bs name), .slice none 0 0, .int .i64 root] 44)
      have E5 := hid (Blk.new w4 [.string (bs name), .slice none 0 0, .int .i64 root] 44)
      have F3 := hid (F2.out.trans fa (fun _ h _ => h))
      have B3 := hid (Blk.fr B2.out fa (fun h => h))
      have HC5 := hid (HC4.out.fre fa)
      have HR3 := hid (fun j u hu => cell_fr (hr j u hu) fa (fun h => h) : (w4.alloc (.cells #[.string (bs name), .slice none 0 0, .int .i64 root] 44)).rangeAt g (i * 4) [.int .i64 id, .string (bs nm0), .slice ac cols0.length ccap, .slice ai ix.length ci])
      have HCO := hid (fun (W : World) (f : Fr (fun _ => False) w W) (n : Bs) => rfCol_go id nm0 (vi := .slice ai ix.length ci) n ((HXT.out.fr f (fun _ _ h => h)).c.sl' (R := fun _ => True) (fun _ _ => trivial)) (by omega))
      have HEW := hid (show w.heap.size ≤ w4.heap.size from F2.out.size)
      have HDX := hid (show d < w4.heap.size ∧ c < w4.heap.size ∧ g < w4.heap.size from ⟨B2.out.lt, HC4.out.b.lt, HC4.out.lt g (HC4.out.rS g rfl)⟩)
      clear hr q2 fa B2 F2 HC4
      generalize w4.heap.size = ex at *
      generalize w4.alloc _ = W5 at *
      have HW5 := hid (show w.heap.size ≤ W5.heap.size from F3.out.size)
      have HS := hid (fun (W : World) (f : Fr (fun k => k = ex) W5 W) => (⟨fun j u hu => cell_fr (HR3.out j u hu) f (fun e => by have h1 := HDX.out.2.2; have h2 : g = ex := e; omega), cell_fr (HC5.out.b.cell 0) f (fun e => by have h1 := HDX.out.2.1; have h2 : c = ex := e; omega), B3.out.fr f (fun e => by have := HDX.out.1; omega), F3.out.trans f (fun k hk hl => by have := HEW.out; omega)⟩ : W.rangeAt g (i * 4) [.int .i64 id, .string (bs nm0), .slice ac cols0.length ccap, .slice ai ix.length ci] ∧ W.cell? ⟨c, 0, none⟩ = some (.slice (some ⟨g, 0, none⟩) ts.length cv) ∧ Blk W d [.int .i64 kind, .string (bs table), .string (bs name), .slice oc cols.length cc, .slice on names.length cn, .slice a5 n5 c5, .slice a6 n6 c6, .slice a7 n7 c7, .string (bs join), .string y9, .string y10, .int .i64 i11, .slice a12 n12 c12, .int .i64 i13, .int .i64 i14] 55 ∧ Fr (fun _ => False) w W))
      have hn6 : names.length ≤ 6 := by omega
      clear B3 HR3 HC5
      go_wp2_with (fail)
      go_loopw [10] (fun s10 wr => ∃ (j : Nat) (vx : Value), j ≤ names.length ∧ s10 = .int .i64 j ∧ (∀ k (hk : k < names.length), k < j → (colOf cols0 names[k] == -1) = false) ∧ Blk wr ex [.string (bs name), vx, .int .i64 root] 44 ∧ Row 3 1 W5.heap.size wr vx j (((names.take j).map (colOf cols0)).flatMap icell) ∧ Fr (fun k => k = ex) W5 wr) (fun s10 _ => names.length - (intOf s10).toNat)
      case atStart => exact ⟨0, _, by omega, rfl, fun k _ hk => by omega, E5.out, Row.nil, Fr.refl _ _⟩
      case round =>
        obtain ⟨j, vx, hj, rfl, hall, hbe, hrow, fr⟩ := hrel
        have HA := hid hall
        have HBE := hid hbe
        have HROW := hid hrow
        have FR := hid fr
        obtain ⟨ax, cx, rfl, hcx⟩ := hrow.slice
        clear hall hbe hrow fr E5
        have HSW := hid (HS.out _ FR.out)
        have q4 : wr.cell? ⟨d, 4, none⟩ = some (.slice on names.length cn) := HSW.out.2.2.1.cell 4
        have m1 : (0 : Int) ≤ (j : Int) := by omega
        have m5 : IntKind.i64.wrap ((j : Int) + 1) = (j : Int) + 1 := IntWalk.i64_in _ (by omega)
        by_cases hjn : j < names.length
        · have m2 : (j : Int) < (names.length : Int) := by omega
          have HSN1 := hid HSN.out
          rw [sv_scell] at HSN1
          obtain ⟨gn, og, rfl, -, hcell⟩ := sl_cell1 (f := scell) scell_len (HSN1.out.fr HSW.out.2.2.2 (fun _ _ h => h)) (by intro e; rw [e] at hjn; simp at hjn)
          have qn := hcell j hjn
          have HT := hid (show (((names.take (j + 1)).map (colOf cols0)).flatMap icell) = (((names.take j).map (colOf cols0)).flatMap icell) ++ [.int .i64 (colOf cols0 names[j])] from by
            rw [List.take_succ_eq_append_getElem hjn, List.map_append, List.flatMap_append]
            rfl)
          have HYES := hid (fun (hb : (colOf cols0 names[j] == -1) = true) => any_at (p := fun n => colOf cols0 n == -1) hjn hb)
          have HNO := hid (fun (hb : (colOf cols0 names[j] == -1) = false) => (fun k (hk : k < names.length) (hkj : k < j + 1) => by
            by_cases e : k = j
            · subst e; exact hb
            · exact HA.out k hk (by omega) : ∀ k (hk : k < names.length), k < j + 1 → (colOf cols0 names[k] == -1) = false))
          have hge := (col_ge cols0 names[j]).1
          have HCJ := hid (fun (W : World) (f : Fr (fun _ => False) w W) => HCO.out W f names[j])
          obtain ⟨nj, hnj⟩ : ∃ nj, nj = names[j] := ⟨_, rfl⟩
          have HQN := hid (show wr.cell? ⟨gn, og + j, none⟩ = some (.string (bs nj)) from by rw [hnj]; exact qn)
          rw [← hnj] at HT HYES HNO hge HCJ
          clear hcell qn hnj HSN1
          obtain ⟨zj, hzj⟩ : ∃ z, colOf cols0 nj = z := ⟨_, rfl⟩
          rw [hzj] at HT HYES HNO hge HCJ
          clear hzj
          go_upto_region 11 with fail
          clear q4
          have fd := (Fr.refl (fun k => k = ex) wr).drew
          have FRD := hid (FR.out.trans fd (fun _ h _ => h))
          have HSD := hid (HS.out _ FRD.out)
          have HBD := hid HBE.out.drew
          have HRD := hid (HROW.out.fre ((Fr.refl (fun _ => False) wr).drew))
          have HCC := hid (HCJ.out wr.drew HSD.out.2.2.2)
          clear fd HCJ HBE HROW HSW
          have HQD := hid (show wr.drew.cell? ⟨gn, og + j, none⟩ = some (.string (bs nj)) from HQN.out)
          clear HQN
          refine wp_region_scr (.take 0 (.take 1 (.take 2 (.take 3 (.take 4 (.take 5 (.take 6 (.take 7 (.take 8 (.take 9 (.take 10 (.take 11 (.op 12 (.take 13 .done)))))))))))))) (fun kz w => (kz ≤ 14 → (w.rangeAt g (i * 4) [.int .i64 id, .string (bs nm0), .slice ac cols0.length ccap, .slice ai ix.length ci] ∧ w.cell? ⟨c, 0, none⟩ = some (.slice (some ⟨g, 0, none⟩) ts.length cv) ∧ w.cell? ⟨d, 4, none⟩ = some (.slice (some ⟨gn, og, none⟩) names.length cn) ∧ w.cell? ⟨gn, og + j, none⟩ = some (.string (bs nj)))) ∧ Hid True) (by kernel_rfl) (by kernel_rfl) (by intro c a d v w h; cases d <;> exact h) ?_
          generalize wr.drew = WD at *
          repeat
            first
            | (refine wpT_pure rfl rfl rfl ?_; apply Exists.intro; refine ⟨?_, ?_⟩; intro w; (first | (first | exact run_load_mid _ _ rfl g _ rfl _ _ qa.1 Tryz.underlying34 rfl size_tab | (obtain ⟨q1, q2, q3, q4⟩ := qa; go_simp <;> rfl)) | (go_simp <;> rfl)); simp only [Act.put, List.setIfInBounds_toArray, List.set_cons_zero, List.set_cons_succ])
            | (refine wpT_take 14 rfl rfl (by decide +kernel) ⟨fun _ => ⟨HSD.out.1, HSD.out.2.1, HSD.out.2.2.1.cell 4, HQD.out⟩, hid trivial⟩ ?_; apply Exists.intro; refine ⟨?_, ?_⟩; intro w hw; (have qa := hw.1 (Nat.le_refl _); have qb := hw.2); (first | (first | exact run_load_mid _ _ rfl g _ rfl _ _ qa.1 Tryz.underlying34 rfl size_tab | (obtain ⟨q1, q2, q3, q4⟩ := qa; go_simp <;> rfl)) | (go_simp <;> rfl)); simp only [Act.put, List.setIfInBounds_toArray, List.set_cons_zero, List.set_cons_succ])
            | (refine wpT_skip rfl rfl ?_; simp only [Act.put, List.setIfInBounds_toArray, List.set_cons_zero, List.set_cons_succ])
          refine wpT_op rfl ?_
          go_wp2_with ((go_at_call 78; refine HCC.out.mono ?_; rintro e w7 ⟨rfl, f⟩; have FR7 := hid (FRD.out.trans f (fun _ h _ => h.elim)); have HS7 := hid (HS.out _ FR7.out); have HB7 := hid (Blk.fr HBD.out f (fun h => h)); have HR7 := hid (HRD.out.fre f); have HQ7 := hid (cell_fr HQD.out f (fun h => h)); clear f))
          (refine ⟨?_, ?_⟩; focus (intro kz hk hk2 hh; first | (exfalso; simp at hk2; omega) | exact hh | exact (fun h => absurd h (by omega)) | obtain ⟨qa, qb⟩ := hh; first | exact ⟨qa, qb⟩ | (refine ⟨fun h => absurd h (by omega), ?_⟩; first | exact qb | (exact ⟨HS7.out.1, HS7.out.2.1, HS7.out.2.2.1.cell 4, HQ7.out⟩)) | (refine ⟨fun h => ?_, ?_⟩; (have qa := qa h); all_goals (first | exact qa | exact qb | (exact ⟨HS7.out.1, HS7.out.2.1, HS7.out.2.2.1.cell 4, HQ7.out⟩)))))
          repeat
            first
            | (refine wpT_pure rfl rfl rfl ?_; apply Exists.intro; refine ⟨?_, ?_⟩; intro w; (first | ((obtain ⟨q1, q2, q3, q4⟩ := qa; go_simp <;> rfl)) | (go_simp <;> rfl)); simp only [Act.put, List.setIfInBounds_toArray, List.set_cons_zero, List.set_cons_succ])
            | (refine wpT_take 14 rfl rfl (by decide +kernel) ⟨fun _ => ⟨HS7.out.1, HS7.out.2.1, HS7.out.2.2.1.cell 4, HQ7.out⟩, hid trivial⟩ ?_; apply Exists.intro; refine ⟨?_, ?_⟩; intro w hw; (have qa := hw.1 (Nat.le_refl _); have qb := hw.2); (first | ((obtain ⟨q1, q2, q3, q4⟩ := qa; go_simp <;> rfl)) | (go_simp <;> rfl)); simp only [Act.put, List.setIfInBounds_toArray, List.set_cons_zero, List.set_cons_succ])
            | (refine wpT_skip rfl rfl ?_; simp only [Act.put, List.setIfInBounds_toArray, List.set_cons_zero, List.set_cons_succ])
          refine wpT_nil ?_
          clear HCC HSD HBD HRD HQD FRD HQ7
          by_cases hz : zj < 0
          · have hz1 : zj = -1 := by omega
            have HX := hid (HER.out 50 (HE4.out.trans (if_pos (HYES.out (by rw [hz1]; rfl)))) (by decide))
            have FF := hid HS7.out.2.2.2
            clear HE4 HER HYES HNO hz1
            go_wp2_with (fail)
            go_ret
            exact err_finR HC.out HX.out FF.out
          · have HN := hid (HNO.out (beq_eq_false_iff_ne.2 (by omega)))
            have b1 : w7.cell? ⟨ex, 1, none⟩ = some (.slice ax j cx) := HB7.out.cell 1
            clear HYES HNO
            go_upto_region 14 with fail
            have HBN := hid (HR7.out.ne HB7.out (by decide))
            go_wp2_with (at_builtin; refine wpList_app1 rfl (s := .tmp 75) (x := .tmp 77) (t := 42) rfl Tryz.underlying42 info_int rfl rfl rfl HR7.out FR7.out.size rfl (by simp [Value.oneCell']) (by omega) (by omega) ?_; intro ab ac7 wg APP; have HR8 := hid (APP.row.cast rfl HT.out.symm); have HB8 := hid (Blk.fr HB7.out APP.fr (fun hk => HBN.out _ hk rfl)); have FR8 := hid (FR7.out.trans APP.fr (fun k hk hl => by have := HR7.out.new k hk; omega)); have k1 : wg.cell? ⟨ex, 1, none⟩ = some (.slice ax j cx) := HB8.out.cell 1; have z1 : wg.frozen? ⟨ex, 1, none⟩ = false := HB8.out.frozen 1; clear APP)
            go_roundw
            case rel =>
              have fs := (Fr.refl (fun k => k = ex) wg).setCell ⟨ex, 1, none⟩ (.slice ab (j + 1) ac7) (fun _ => rfl)
              have hb9 := HB8.out.set 1 (.slice ab (j + 1) ac7)
              exact ⟨j + 1, _, by omega, by go_num, HN.out, hb9, HR8.out.fr fs (fun k hk e => HR8.out.ne HB8.out (by decide) k hk e), FR8.out.trans fs (fun k hk _ => hk)⟩
            case measure => simp [intOf]; omega
        · obtain rfl : j = names.length := by omega
          have m2 : ¬ (names.length : Int) < (names.length : Int) := by omega
          rw [List.take_length] at HROW
          have HE5 := hid (HE4.out.trans (if_neg (any_none (p := fun n => colOf cols0 n == -1) (fun i hi => HA.out i hi hi))))
          clear HE4 HA HCO
          go_upto_region 15 with fail
          clear q4 m1 m5 m2
          go_wp2_with (fail)
          have HWB := hid (HS.out wr FR.out)
          generalize hWB : wr = WB at *
          clear hWB
          go_loopw [12, 13] (fun s12 _ wr => ∃ j : Nat, j ≤ names.length ∧ s12 = .int .i64 j ∧ (∀ i (hi : i < names.length), i < j → ∀ k (hk : k < i), names[i] ≠ (names[k]'(by omega))) ∧ Fr (fun _ => False) WB wr) (fun s12 _ _ => names.length - (intOf s12).toNat)
          case atStart => exact ⟨0, by omega, rfl, fun k _ hk => by omega, Fr.refl _ _⟩
          case round =>
            obtain ⟨a, hi, rfl, hall, hf⟩ := hrel
            have HA := hid hall
            have FQ := hid hf
            clear hall hf
            have q4 : wr.cell? ⟨d, 4, none⟩ = some (.slice on names.length cn) := (Blk.fr HWB.out.2.2.1 FQ.out (fun h => h)).cell 4
            have a1 : (0 : Int) ≤ (a : Int) := by omega
            have a5 : IntKind.i64.wrap ((a : Int) + 1) = (a : Int) + 1 := IntWalk.i64_in _ (by omega)
            by_cases hac : a < names.length
            · have a2 : (a : Int) < (names.length : Int) := by omega
              go_upto_region 18 with fail
              clear q4
              go_wp2_with (fail)
              go_loopw [13] (fun s13 wr => ∃ k : Nat, k ≤ a ∧ s13 = .int .i64 k ∧ (∀ b (hb : b < a), b < k → names[a] ≠ (names[b]'(by omega))) ∧ Fr (fun _ => False) WB wr) (fun s13 _ => a - (intOf s13).toNat)
              case atStart => exact ⟨0, by omega, rfl, fun k _ hk => by omega, FQ.out⟩
              case round =>
                obtain ⟨k, hk, rfl, hin, hf⟩ := hrel
                have HI := hid hin
                replace FQ := hid hf
                clear hin hf
                have k1 : (0 : Int) ≤ (k : Int) := by omega
                have k5 : IntKind.i64.wrap ((k : Int) + 1) = (k : Int) + 1 := IntWalk.i64_in _ (by omega)
                by_cases hki : k < a
                · have k2 : (k : Int) < (a : Int) := by omega
                  have k3 : (k : Int) < (names.length : Int) := by omega
                  have hkc : k < names.length := by omega
                  have BW := hid (Blk.fr HWB.out.2.2.1 FQ.out (fun h => h))
                  have HSN1 := hid HSN.out
                  rw [sv_scell] at HSN1
                  obtain ⟨gn, og, rfl, -, hcell⟩ := sl_cell1 (f := scell) scell_len (HSN1.out.fr (HWB.out.2.2.2.trans FQ.out (fun _ h _ => h)) (fun _ _ h => h)) (by intro e; rw [e] at hac; simp at hac)
                  have HP0 := hid (show wr.cell? ⟨gn, og + a, none⟩ = some (.string (bs names[a])) from hcell a hac)
                  have HP1 := hid (show wr.cell? ⟨gn, og + k, none⟩ = some (.string (bs names[k])) from hcell k hkc)
                  have HYES := hid (fun (hb : names[a] = names[k]) => (dup_yes (l := names) (i := a) (k := k) hac hki hb))
                  have HNO := hid (fun (hb : ¬ names[a] = names[k]) => (fun b (hb2 : b < a) (hbk : b < k + 1) => by
                    by_cases e : b = k
                    · subst e; exact hb
                    · exact HI.out b hb2 (by omega) : ∀ b (hb : b < a), b < k + 1 → names[a] ≠ (names[b]'(by omega))))
                  clear hcell HSN1
                  obtain ⟨x, hx⟩ : ∃ x, x = names[a] := ⟨_, rfl⟩
                  obtain ⟨y, hy⟩ : ∃ y, y = names[k] := ⟨_, rfl⟩
                  rw [← hy] at HP1 HYES
                  rw [← hx] at HP0 HYES
                  have HNO2 := hid (fun (hb : ¬ x = y) => HNO.out (by rw [← hx, ← hy]; exact hb))
                  clear hx hy HNO
                  go_upto_region 21 with fail
                  by_cases hxy : x = y
                  · subst hxy
                    have HX := hid (HER.out 51 (HE5.out.trans (if_pos (.inl (HYES.out rfl)))) (by decide))
                    clear HE5 HER HYES HNO2
                    refine wp_region_scr (.take 0 (.take 1 (.take 2 (.take 3 (.take 4 (.take 5 (.take 6 (.take 7 (.take 8 (.take 9 (.take 10 .done))))))))))) (fun kz w => (kz ≤ 11 → (w.cell? ⟨d, 4, none⟩ = some (.slice (some ⟨gn, og, none⟩) names.length cn) ∧ w.cell? ⟨gn, og + a, none⟩ = some (.string (bs x)) ∧ w.cell? ⟨gn, og + k, none⟩ = some (.string (bs x)))) ∧ Hid True) (by kernel_rfl) (by kernel_rfl) (by intro c a d v w h; cases d <;> exact h) ?_
                    repeat
                      first
                      | (refine wpT_pure rfl rfl rfl ?_; apply Exists.intro; refine ⟨?_, ?_⟩; intro w; (first | ((obtain ⟨q1, q2, q3⟩ := qa; go_simp <;> rfl)) | (go_simp <;> rfl)); simp only [Act.put, List.setIfInBounds_toArray, List.set_cons_zero, List.set_cons_succ])
                      | (refine wpT_take 11 rfl rfl (by decide +kernel) ⟨fun _ => ⟨BW.out.drew.cell 4, HP0.out, HP1.out⟩, hid trivial⟩ ?_; apply Exists.intro; refine ⟨?_, ?_⟩; intro w hw; (have qa := hw.1 (Nat.le_refl _); have qb := hw.2); (first | ((obtain ⟨q1, q2, q3⟩ := qa; go_simp <;> rfl)) | (go_simp <;> rfl)); simp only [Act.put, List.setIfInBounds_toArray, List.set_cons_zero, List.set_cons_succ])
                      | (refine wpT_skip rfl rfl ?_; simp only [Act.put, List.setIfInBounds_toArray, List.set_cons_zero, List.set_cons_succ])
                    refine wpT_nil ?_
                    have FD := hid ((HWB.out.2.2.2.trans FQ.out (fun _ h _ => h)).trans ((Fr.refl (fun _ => False) _).drew) (fun _ h _ => h))
                    clear HP0 HP1
                    go_wp2_with (fail)
                    go_ret
                    exact err_finR HC.out HX.out FD.out
                  · have HN := hid (HNO2.out hxy)
                    have hne : ((bs x).toList == (bs y).toList) = false := by rw [beq_bs]; simpa using hxy
                    clear HYES HNO2 hxy
                    refine wp_region_scr (.take 0 (.take 1 (.take 2 (.take 3 (.take 4 (.take 5 (.take 6 (.take 7 (.take 8 (.take 9 (.take 10 .done))))))))))) (fun kz w => (kz ≤ 11 → (w.cell? ⟨d, 4, none⟩ = some (.slice (some ⟨gn, og, none⟩) names.length cn) ∧ w.cell? ⟨gn, og + a, none⟩ = some (.string (bs x)) ∧ w.cell? ⟨gn, og + k, none⟩ = some (.string (bs y)))) ∧ Hid True) (by kernel_rfl) (by kernel_rfl) (by intro c a d v w h; cases d <;> exact h) ?_
                    repeat
                      first
                      | (refine wpT_pure rfl rfl rfl ?_; apply Exists.intro; refine ⟨?_, ?_⟩; intro w; (first | ((obtain ⟨q1, q2, q3⟩ := qa; go_simp <;> rfl)) | (go_simp <;> rfl)); simp only [Act.put, List.setIfInBounds_toArray, List.set_cons_zero, List.set_cons_succ])
                      | (refine wpT_take 11 rfl rfl (by decide +kernel) ⟨fun _ => ⟨BW.out.drew.cell 4, HP0.out, HP1.out⟩, hid trivial⟩ ?_; apply Exists.intro; refine ⟨?_, ?_⟩; intro w hw; (have qa := hw.1 (Nat.le_refl _); have qb := hw.2); (first | ((obtain ⟨q1, q2, q3⟩ := qa; go_simp <;> rfl)) | (go_simp <;> rfl)); simp only [Act.put, List.setIfInBounds_toArray, List.set_cons_zero, List.set_cons_succ])
                      | (refine wpT_skip rfl rfl ?_; simp only [Act.put, List.setIfInBounds_toArray, List.set_cons_zero, List.set_cons_succ])
                    refine wpT_nil ?_
                    have FD := hid (FQ.out.trans ((Fr.refl (fun _ => False) _).drew) (fun _ h _ => h))
                    clear HP0 HP1
                    go_wp2_with (fail)
                    go_roundw
                    case rel => exact ⟨k + 1, by omega, by go_num, HN.out, FD.out⟩
                    case measure => simp [intOf]; omega
                · obtain rfl : k = a := by omega
                  have k2 : ¬ (k : Int) < (k : Int) := by omega
                  have HN := hid (show ∀ a (ha : a < names.length), a < k + 1 → ∀ b (hb : b < a), names[a] ≠ (names[b]'(by omega)) from fun a ha hak b hb => by
                    by_cases e : a = k
                    · subst e; exact HI.out b hb hb
                    · exact HA.out a ha (by omega) b hb)
                  go_wp2_with (fail)
                  go_roundw
                  case rel => exact ⟨k + 1, by omega, by go_num, HN.out, FQ.out⟩
                  case measure => simp [intOf]; omega
            · obtain rfl : a = names.length := by omega
              have a2 : ¬ (names.length : Int) < (names.length : Int) := by omega
              have HND := hid (dup_not (l := names) (fun a ha b hb => HA.out a ha ha b hb))
              go_upto_region 23 with fail
              clear q4 HA
              go_wp2_with (fail)
              go_loopw [14, 15] (fun s14 _ wr => ∃ j : Nat, j ≤ ts.length ∧ s14 = .int .i64 j ∧ (∀ a (ha : a < ts.length), a < j → (ts[a].t.ixs.any (fun x => x.name == name)) = false) ∧ Fr (fun _ => False) WB wr) (fun s14 _ _ => ts.length - (intOf s14).toNat)
              case atStart => exact ⟨0, by omega, rfl, fun k _ hk => by omega, FQ.out⟩
              case round =>
                obtain ⟨a, hi, rfl, hall, hf⟩ := hrel
                have HA := hid hall
                replace FQ := hid hf
                clear hall hf
                have HCW := hid (HC.out.fre (HWB.out.2.2.2.trans FQ.out (fun _ h _ => h)))
                have p0 : wr.cell? ⟨c, 0, none⟩ = some (.slice (some ⟨g, 0, none⟩) ts.length cv) := HCW.out.b.cell 0
                have a1 : (0 : Int) ≤ (a : Int) := by omega
                have a5 : IntKind.i64.wrap ((a : Int) + 1) = (a : Int) + 1 := IntWalk.i64_in _ (by omega)
                by_cases hac : a < ts.length
                · have a2 : (a : Int) < (ts.length : Int) := by omega
                  have HXE := hid (HC.out.t _ (List.getElem_mem hac)).e
                  have HXW := hid ((HC.out.t _ (List.getElem_mem hac)).fr (HWB.out.2.2.2) (fun _ _ h => h))
                  have hxl2 := HIL.out _ (List.getElem_mem hac)
                  obtain ⟨ga, hga, -, hra⟩ := tab_at (HC.out.fre HWB.out.2.2.2).r hac
                  simp only [Option.some.injEq, Addr.mk.injEq, and_true] at hga
                  subst hga
                  have hq3 := hra 3 _ rfl
                  obtain ⟨ai2, ci2, hvi2, _⟩ := HXW.out.i.slice
                  obtain ⟨xt, hxt⟩ : ∃ xt, xt = ts[a].ix := ⟨_, rfl⟩
                  have HXI2 := hid HXW.out.i
                  rw [hvi2] at HXI2 hq3
                  rw [← hxt] at HXI2 hq3 hxl2
                  have HANY := hid (show ∀ (hall : ∀ b (hb : b < xt.length), (xt[b].x.name == name) = false), (ts[a].t.ixs.any (fun x => x.name == name)) = false from fun hall => by
                    rw [HXE.out, List.any_map, ← hxt]
                    cases hq : (xt.any ((fun x : Ix => x.name == name) ∘ IxV.x)) with
                    | false => rfl
                    | true => exact absurd hq (any_none (p := (fun x : Ix => x.name == name) ∘ IxV.x) hall))
                  have HANT := hid (show ∀ b (hb : b < xt.length), (xt[b].x.name == name) = true → (ts.map TabV.t).any (fun t => t.ixs.any (fun x => x.name == name)) = true from fun b hb he => by
                    refine any_at (i := a) (by simpa using hac) ?_
                    rw [List.getElem_map, HXE.out, List.any_map, ← hxt]
                    exact any_at hb he)
                  have HQ3 := hid hq3
                  clear hra hq3 hvi2 hxt HXE HXW
                  have q3 : wr.cell? ⟨g, a * 4 + 3, none⟩ = some (.slice ai2 xt.length ci2) := cell_fr HQ3.out FQ.out (fun h => h)
                  go_upto_region 26 with fail
                  clear q3 p0
                  go_wp2_with (fail)
                  go_loopw [15] (fun s15 wr => ∃ k : Nat, k ≤ xt.length ∧ s15 = .int .i64 k ∧ (∀ b (hb : b < xt.length), b < k → (xt[b].x.name == name) = false) ∧ Fr (fun _ => False) WB wr) (fun s15 _ => xt.length - (intOf s15).toNat)
                  case atStart => exact ⟨0, by omega, rfl, fun k _ hk => by omega, FQ.out⟩
                  case round =>
                    obtain ⟨k, hk, rfl, hin, hf⟩ := hrel
                    have HI := hid hin
                    replace FQ := hid hf
                    clear hin hf HCW
                    have k1 : (0 : Int) ≤ (k : Int) := by omega
                    have k5 : IntKind.i64.wrap ((k : Int) + 1) = (k : Int) + 1 := IntWalk.i64_in _ (by omega)
                    have HCW := hid (HC.out.fre (HWB.out.2.2.2.trans FQ.out (fun _ h _ => h)))
                    have p0 : wr.cell? ⟨c, 0, none⟩ = some (.slice (some ⟨g, 0, none⟩) ts.length cv) := HCW.out.b.cell 0
                    have q3 : wr.cell? ⟨g, a * 4 + 3, none⟩ = some (.slice ai2 xt.length ci2) := cell_fr HQ3.out FQ.out (fun h => h)
                    by_cases hki : k < xt.length
                    · have k2 : (k : Int) < (xt.length : Int) := by omega
                      obtain ⟨gi, oi, rfl, -, qi⟩ := slK (k := 3) (f := IxV.cells) (by decide) ix_len ((HXI2.out.fre FQ.out).sl' (R := fun _ => True) (fun _ _ => trivial)) hki
                      have HP0 := hid (show wr.cell? ⟨gi, oi + k * 3, none⟩ = some (.string (bs xt[k].x.name)) from qi 0 (by decide))
                      have BW := hid (Blk.fr HWB.out.2.2.1 FQ.out (fun h => h))
                      have HQA := hid (And.intro p0 q3)
                      have HYES := hid (HANT.out k hki)
                      have HNO := hid (fun (hb : (xt[k].x.name == name) = false) => (fun b (hb2 : b < xt.length) (hbk : b < k + 1) => by
                        by_cases e : b = k
                        · subst e; exact hb
                        · exact HI.out b hb2 (by omega) : ∀ b (hb : b < xt.length), b < k + 1 → (xt[b].x.name == name) = false))
                      clear qi
                      generalize xt[k].x.name = y at *
                      go_upto_region 29 with fail
                      clear p0 q3
                      by_cases hxy : y = name
                      · have hne : ((bs y).toList == (bs name).toList) = true := by rw [beq_bs]; simpa using hxy
                        have HX := hid (HER.out 51 (HE5.out.trans (if_pos (.inr (HYES.out (by simpa using hxy))))) (by decide))
                        clear HE5 HER HYES HNO hxy
                        refine wp_region_scr (.take 0 (.take 1 (.take 2 (.take 3 (.take 4 (.take 5 (.take 6 (.take 7 (.take 8 (.take 9 (.take 10 (.take 11 (.take 12 (.take 13 (.take 14 .done))))))))))))))) (fun kz w => (kz ≤ 15 → (w.cell? ⟨c, 0, none⟩ = some (.slice (some ⟨g, 0, none⟩) ts.length cv) ∧ w.cell? ⟨g, a * 4 + 3, none⟩ = some (.slice (some ⟨gi, oi, none⟩) xt.length ci2) ∧ w.cell? ⟨gi, oi + k * 3, none⟩ = some (.string (bs y)) ∧ w.cell? ⟨d, 2, none⟩ = some (.string (bs name)))) ∧ Hid True) (by kernel_rfl) (by kernel_rfl) (by intro c a d v w h; cases d <;> exact h) ?_
                        repeat
                          first
                          | (refine wpT_pure rfl rfl rfl ?_; apply Exists.intro; refine ⟨?_, ?_⟩; intro w; (first | ((obtain ⟨q1, q2, q3, q4⟩ := qa; go_simp <;> rfl)) | (go_simp <;> rfl)); simp only [Act.put, List.setIfInBounds_toArray, List.set_cons_zero, List.set_cons_succ])
                          | (refine wpT_take 15 rfl rfl (by decide +kernel) ⟨fun _ => ⟨HQA.out.1, HQA.out.2, HP0.out, BW.out.drew.cell 2⟩, hid trivial⟩ ?_; apply Exists.intro; refine ⟨?_, ?_⟩; intro w hw; (have qa := hw.1 (Nat.le_refl _); have qb := hw.2); (first | ((obtain ⟨q1, q2, q3, q4⟩ := qa; go_simp <;> rfl)) | (go_simp <;> rfl)); simp only [Act.put, List.setIfInBounds_toArray, List.set_cons_zero, List.set_cons_succ])
                          | (refine wpT_skip rfl rfl ?_; simp only [Act.put, List.setIfInBounds_toArray, List.set_cons_zero, List.set_cons_succ])
                        refine wpT_nil ?_
                        have FD := hid ((HWB.out.2.2.2.trans FQ.out (fun _ h _ => h)).trans ((Fr.refl (fun _ => False) _).drew) (fun _ h _ => h))
                        clear HP0 HQA
                        go_wp2_with (fail)
                        go_ret
                        exact err_finR HC.out HX.out FD.out
                      · have HN := hid (HNO.out (by simpa using hxy))
                        have hne : ((bs y).toList == (bs name).toList) = false := by rw [beq_bs]; simpa using hxy
                        clear HYES HNO hxy
                        refine wp_region_scr (.take 0 (.take 1 (.take 2 (.take 3 (.take 4 (.take 5 (.take 6 (.take 7 (.take 8 (.take 9 (.take 10 (.take 11 (.take 12 (.take 13 (.take 14 .done))))))))))))))) (fun kz w => (kz ≤ 15 → (w.cell? ⟨c, 0, none⟩ = some (.slice (some ⟨g, 0, none⟩) ts.length cv) ∧ w.cell? ⟨g, a * 4 + 3, none⟩ = some (.slice (some ⟨gi, oi, none⟩) xt.length ci2) ∧ w.cell? ⟨gi, oi + k * 3, none⟩ = some (.string (bs y)) ∧ w.cell? ⟨d, 2, none⟩ = some (.string (bs name)))) ∧ Hid True) (by kernel_rfl) (by kernel_rfl) (by intro c a d v w h; cases d <;> exact h) ?_
                        repeat
                          first
                          | (refine wpT_pure rfl rfl rfl ?_; apply Exists.intro; refine ⟨?_, ?_⟩; intro w; (first | ((obtain ⟨q1, q2, q3, q4⟩ := qa; go_simp <;> rfl)) | (go_simp <;> rfl)); simp only [Act.put, List.setIfInBounds_toArray, List.set_cons_zero, List.set_cons_succ])
                          | (refine wpT_take 15 rfl rfl (by decide +kernel) ⟨fun _ => ⟨HQA.out.1, HQA.out.2, HP0.out, BW.out.drew.cell 2⟩, hid trivial⟩ ?_; apply Exists.intro; refine ⟨?_, ?_⟩; intro w hw; (have qa := hw.1 (Nat.le_refl _); have qb := hw.2); (first | ((obtain ⟨q1, q2, q3, q4⟩ := qa; go_simp <;> rfl)) | (go_simp <;> rfl)); simp only [Act.put, List.setIfInBounds_toArray, List.set_cons_zero, List.set_cons_succ])
                          | (refine wpT_skip rfl rfl ?_; simp only [Act.put, List.setIfInBounds_toArray, List.set_cons_zero, List.set_cons_succ])
                        refine wpT_nil ?_
                        have FD := hid (FQ.out.trans ((Fr.refl (fun _ => False) _).drew) (fun _ h _ => h))
                        clear HP0 HQA
                        go_wp2_with (fail)
                        go_roundw
                        case rel => exact ⟨k + 1, by omega, by go_num, HN.out, FD.out⟩
                        case measure => simp [intOf]; omega
                    · obtain rfl : k = xt.length := by omega
                      have k2 : ¬ (xt.length : Int) < (xt.length : Int) := by omega
                      have HALL := hid (HANY.out (fun b hb => HI.out b hb hb))
                      have HN := hid (show ∀ b (hb : b < ts.length), b < a + 1 → (ts[b].t.ixs.any (fun x => x.name == name)) = false from fun b hb hba => by
                        by_cases e : b = a
                        · subst e; exact HALL.out
                        · exact HA.out b hb (by omega))
                      go_wp2_with (fail)
                      go_roundw
                      case rel => exact ⟨a + 1, by omega, by go_num, HN.out, FQ.out⟩
                      case measure => simp [intOf]; omega
                · obtain rfl : a = ts.length := by omega
                  have a2 : ¬ (ts.length : Int) < (ts.length : Int) := by omega
                  have HE6 := hid (HE5.out.trans (if_neg (by
                    rintro (h | h)
                    · exact HND.out h
                    · refine any_none (l := ts.map TabV.t) (p := fun t => t.ixs.any (fun x => x.name == name)) (fun b hb => ?_) h
                      have hb2 : b < ts.length := by simpa using hb
                      rw [List.getElem_map]
                      exact HA.out b hb2 hb2)))
                  clear HE5 HA HND
                  have F0 := hid (HWB.out.2.2.2.trans FQ.out (fun _ h _ => h))
                  have HXL := hid (show ixs0.length = ix.length from by have e := HXT.out.e; dsimp only at e; rw [e, List.length_map])
                  rw [HXL.out] at HE6
                  have q3 : wr.cell? ⟨g, i * 4 + 3, none⟩ = some (.slice ai ix.length ci) := cell_fr (HWB.out.1 3 _ rfl) FQ.out (fun h => h)
                  by_cases h4 : 4 ≤ ix.length
                  · have HX := hid (HER.out 2 (HE6.out.trans (if_pos h4)) (by decide))
                    have i4 : (4 : Int) ≤ (ix.length : Int) := by omega
                    clear HE6 HER
                    go_wp2_with (fail)
                    go_ret
                    exact err_finR HC.out HX.out F0.out
                  · have HX := hid (HE6.out.trans (if_neg h4))
                    have i4 : ¬ (4 : Int) ≤ (ix.length : Int) := by omega
                    clear HE6 HER
                    go_upto_region 33 with fail
                    have HR1 := hid (Row.built (e := 44) (n := 0) (size := 3) (B := wr.heap.size) wr (l := []) rfl (by decide) (Nat.le_refl _))
                    have fa := (Fr.refl (fun _ => False) wr).alloc (.cells #[] 44)
                    have F7 := hid (F0.out.trans fa (fun _ h _ => h))
                    have HSR := hid (Sl.srcK (P := Tryz.prog) (size := 3) ((HXT.out.fr F7.out (fun _ _ h => h)).i.sl' (R := fun _ => True) (fun _ _ => trivial)) (flat_len (k := 3) (fun _ => rfl) _) (by decide) (ixv_one (fun x hx => by obtain ⟨a, c, e, _⟩ := (HXT.out.x x hx).1.slice; exact ⟨_, _, _, e⟩)))
                    dsimp only at HSR
                    have HSIZ := hid F0.out.size
                    clear p0 q3
                    have p0 : (wr.alloc (.cells #[] 44)).cell? ⟨c, 0, none⟩ = some (.slice (some ⟨g, 0, none⟩) ts.length cv) := (HC.out.fre F7.out).b.cell 0
                    have q3 : (wr.alloc (.cells #[] 44)).cell? ⟨g, i * 4 + 3, none⟩ = some (.slice ai ix.length ci) := cell_fr (HWB.out.1 3 _ rfl) (FQ.out.trans fa (fun _ h _ => h)) (fun h => h)
                    go_upto_region 34 with (at_builtin; refine wpList_appS rfl (s := .tmp 150) (x := .tmp 158) (t := 32) (tx := 32) rfl Tryz.underlying32 Tryz.underlying32 (.inr ⟨_, rfl⟩) info_ix2 rfl rfl rfl HR1.out (by rw [World.size_alloc]; omega) HSR.out (by omega) (by omega) ?_; intro ab2 ac2 wg APP; simp only [Nat.zero_add] at APP ⊢; have F10 := hid (F7.out.trans APP.fr (fun k hk hl => by have h1 := HR1.out.new k hk; have h2 := HSIZ.out; omega)); have HRX := hid (APP.row.cast (m := ix.length) (ys := ix.flatMap IxV.cells) (Nat.zero_add _) rfl); have FD2 := hid (((Fr.refl (fun _ => False) wr).alloc (.cells #[] 44)).trans APP.fr (fun k hk hl => by have h1 := HR1.out.new k hk; omega)); clear APP)
                    clear p0 q3 HR1 HSR F7
                    have FD3 := hid (FQ.out.trans FD2.out (fun _ h _ => h))
                    have fd := (Fr.refl (fun _ => False) wg).drew
                    have F11 := hid (F10.out.trans fd (fun _ h _ => h))
                    have FD4 := hid (FD3.out.trans fd (fun _ h _ => h))
                    have HRX4 := hid (HRX.out.fre fd)
                    have HB4 := hid (Blk.fr HBE.out FD4.out (fun h => h))
                    have HRO4 := hid (HROW.out.fre FD4.out)
                    have HG4 := hid (Nat.le_trans FD2.out.size fd.size)
                    clear fd HRX FD2 FD3 F10
                    refine wp_region_scr (.take 0 (.take 1 (.take 2 (.take 3 (.take 4 (.take 5 (.take 6 (.op 7 (.op 8 (.take 9 (.take 10 (.op 11 .done)))))))))))) (fun kz w => (kz ≤ 11 → (w.cell? ⟨c, 0, none⟩ = some (.slice (some ⟨g, 0, none⟩) ts.length cv) ∧ w.rangeAt ex 0 [.string (bs name), .slice ax names.length cx, .int .i64 root])) ∧ Hid True) (by kernel_rfl) (by kernel_rfl) (by intro c a d v w h; cases d <;> exact h) ?_
                    generalize wg.drew = WG at *
                    have HCG := hid (HC.out.fre F11.out)
                    repeat
                      first
                      | (refine wpT_pure rfl rfl rfl ?_; apply Exists.intro; refine ⟨?_, ?_⟩; intro w; (first | (first | exact run_load_mid _ _ rfl ex _ rfl _ _ qa.2 Tryz.underlying44 rfl size_ix2 | (obtain ⟨q1, q2⟩ := qa; go_simp <;> rfl)) | (go_simp <;> rfl)); simp only [Act.put, List.setIfInBounds_toArray, List.set_cons_zero, List.set_cons_succ])
                      | (refine wpT_take 11 rfl rfl (by decide +kernel) ⟨fun _ => ⟨HCG.out.b.cell 0, Blk.all _ HB4.out⟩, hid trivial⟩ ?_; apply Exists.intro; refine ⟨?_, ?_⟩; intro w hw; (have qa := hw.1 (Nat.le_refl _); have qb := hw.2); (first | (first | exact run_load_mid _ _ rfl ex _ rfl _ _ qa.2 Tryz.underlying44 rfl size_ix2 | (obtain ⟨q1, q2⟩ := qa; go_simp <;> rfl)) | (go_simp <;> rfl)); simp only [Act.put, List.setIfInBounds_toArray, List.set_cons_zero, List.set_cons_succ])
                      | (refine wpT_skip rfl rfl ?_; simp only [Act.put, List.setIfInBounds_toArray, List.set_cons_zero, List.set_cons_succ])
                    have FA := hid (fun o => (Fr.refl (fun _ => False) WG).alloc o)
                    refine wpT_op rfl ?_
                    go_wp2_with (fail)
                    (refine ⟨?_, ?_⟩; focus (intro kz hk hk2 hh; first | (exfalso; simp at hk2; omega) | exact hh | exact (fun h => absurd h (by omega)) | obtain ⟨qa, qb⟩ := hh; first | exact ⟨qa, qb⟩ | (refine ⟨fun h => absurd h (by omega), ?_⟩; first | exact qb | (exact ⟨(HCG.out.fre (FA.out _)).b.cell 0, Blk.all _ (Blk.fr HB4.out (FA.out _) (fun h => h))⟩)) | (refine ⟨fun h => ?_, ?_⟩; (have qa := qa h); all_goals (first | exact qa | exact qb | (exact ⟨(HCG.out.fre (FA.out _)).b.cell 0, Blk.all _ (Blk.fr HB4.out (FA.out _) (fun h => h))⟩)))))
                    have HNC := hid (HRX4.out.ne HCG.out.b (by decide))
                    have HXB := hid (show ∀ k, (Value.slice ab2 ix.length ac2).ownBlock = some k → ¬ k = ex from fun k hk e => by have h1 := HRX4.out.new k hk; have h2 := (Blk.lt HBE.out); have h3 := FQ.out.size; omega)
                    refine wpT_op rfl ?_
                    go_wp2_with ((at_builtin; refine wpList_app1 rfl (s := .tmp 165) (x := .tmp 167) (t := 32) rfl Tryz.underlying32 info_ix2 rfl rfl rfl HRX4.out HG4.out rfl (by simp [Value.oneCell']) (by omega) (by omega) ?_; intro ab3 ac3 wh APP; have HRI := hid (APP.row.low (A := w.heap.size) HSIZ.out); have F12 := hid (F11.out.trans APP.fr (fun k hk hl => by have h1 := HRX4.out.new k hk; have h2 := HSIZ.out; omega)); have HBC := hid (Blk.fr HCG.out.b APP.fr (fun hk => HNC.out _ hk rfl)); have HBX := hid (Blk.fr HB4.out APP.fr (fun hk => HXB.out _ hk rfl)); have HRO5 := hid (HRO4.out.fr APP.fr (rows_ne HRO4.out HRX4.out (by decide))); clear APP))
                    (refine ⟨?_, ?_⟩; focus (intro kz hk hk2 hh; first | (exfalso; simp at hk2; omega) | exact hh | exact (fun h => absurd h (by omega)) | obtain ⟨qa, qb⟩ := hh; first | exact ⟨qa, qb⟩ | (refine ⟨fun h => absurd h (by omega), ?_⟩; first | exact qb | (exact ⟨HBC.out.cell 0, Blk.all _ HBX.out⟩)) | (refine ⟨fun h => ?_, ?_⟩; (have qa := qa h); all_goals (first | exact qa | exact qb | (exact ⟨HBC.out.cell 0, Blk.all _ HBX.out⟩)))))
                    repeat
                      first
                      | (refine wpT_pure rfl rfl rfl ?_; apply Exists.intro; refine ⟨?_, ?_⟩; intro w; ((go_simp <;> rfl)); simp only [Act.put, List.setIfInBounds_toArray, List.set_cons_zero, List.set_cons_succ])
                      | (refine wpT_take 11 rfl rfl (by decide +kernel) ⟨fun _ => ⟨HBC.out.cell 0, Blk.all _ HBX.out⟩, hid trivial⟩ ?_; apply Exists.intro; refine ⟨?_, ?_⟩; intro w hw; (have qa := hw.1 (Nat.le_refl _); have qb := hw.2); ((go_simp <;> rfl)); simp only [Act.put, List.setIfInBounds_toArray, List.set_cons_zero, List.set_cons_succ])
                      | (refine wpT_skip rfl rfl ?_; simp only [Act.put, List.setIfInBounds_toArray, List.set_cons_zero, List.set_cons_succ])
                    have HC9 := hid (HC.out.fre F12.out)
                    obtain ⟨g9, hg9, -, hr9⟩ := tab_at HC9.out.r hit
                    simp only [Option.some.injEq, Addr.mk.injEq, and_true] at hg9
                    subst hg9
                    rw [← HXI.out] at hr9
                    have q3 : wh.cell? ⟨g, i * 4 + 3, none⟩ = some (.slice ai ix.length ci) := hr9 3 _ rfl
                    obtain ⟨lg, hbg⟩ := row_blk HC9.out.r (k := g) rfl
                    have z3 := hbg.frozen (i * 4 + 3)
                    have HEND := hid (index_endR (s := s) (root := root) HC.out HX.out F12.out hit (by rw [HSE.out.1]; exact HZ.out) (g := g) rfl (vn := .slice ax names.length cx) (vi' := .slice ab3 (ix.length + 1) ac3) (by rw [HSE.out.2.2, ← HXI.out]; exact (HRO5.out.low HW5.out).cast rfl rfl) (by rw [HSE.out.2.1, ← HXI.out]; exact HRI.out))
                    have HQ := hid (show (0 : Int) = (index (ts.map TabV.t) s root).2 from by unfold index; rw [if_pos HX.out])
                    clear hr9 hbg
                    refine wpT_op rfl ?_
                    go_wp2_with (fail)
                    (refine ⟨?_, ?_⟩; focus (intro kz hk hk2 hh; first | (exfalso; simp at hk2; omega) | exact hh | exact (fun h => absurd h (by omega)) | obtain ⟨qa, qb⟩ := hh; first | exact ⟨qa, qb⟩ | (refine ⟨fun h => absurd h (by omega), ?_⟩; first | exact qb | (exact hid trivial)) | (refine ⟨fun h => ?_, ?_⟩; (have qa := qa h); all_goals (first | exact qa | exact qb | (exact hid trivial)))))
                    refine wpT_nil ?_
                    go_wp2_with (fail)
                    go_ret
                    exact ⟨ret_int HQ.out, HEND.out.1, HEND.out.2⟩
end Go.Proofs.YtgkfdlpijefgkaaGreatDoor
/- The reference's Do; the law's made. -/
namespace Go.Proofs.YtgkfdlpijefgkaaGreatDoor
open Go.RowKit Go.VB Go.VB.Oct Go.VB.Cat Go.VB.Rec
/-- what a statement does to the reference, by its kind -/
theorem rdoers_do {S P : Nat → Prop} {w : World} {c : Nat} {m : List Tab} (h : CR 30 S w c m) (ok : Ok m) {t : StV} (hs : StR P w t) (root : Int) :
    (t.s.kind = 1 → Calls Tryz.prog 44 #[.pointer (some ⟨c, 0, none⟩), .agg t.cells.toArray] w fun e w' => e = .returned (.int .i64 (doM m t.s root).2) ∧ CR 30 (Ext S w w') w' c (doM m t.s root).1 ∧ Fr S w w')
    ∧ (t.s.kind = 2 → Calls Tryz.prog 45 #[.pointer (some ⟨c, 0, none⟩), .agg t.cells.toArray, .int .i64 root] w fun e w' => e = .returned (.int .i64 (doM m t.s root).2) ∧ CR 30 (Ext S w w') w' c (doM m t.s root).1 ∧ Fr S w w')
    ∧ (t.s.kind = 3 → Calls Tryz.prog 46 #[.pointer (some ⟨c, 0, none⟩), .agg t.cells.toArray] w fun e w' => e = .returned (.int .i64 (doM m t.s root).2) ∧ CR 30 (Ext S w w') w' c (doM m t.s root).1 ∧ Fr S w w') := by
  obtain ⟨v, ts, h, rfl⟩ := h
  have hl : ts.length ≤ 8 := by simpa using ok.len
  have hc : ∀ t ∈ ts, t.t.cols.length ≤ 6 := fun t ht => (ok.tab t.t (List.mem_map_of_mem ht)).le
  have hi : ∀ t ∈ ts, t.ix.length ≤ 4 := fun t ht => by
    have := (ok.tab t.t (List.mem_map_of_mem ht)).ixs
    rw [(h.t t ht).e, List.length_map] at this
    exact this
  refine ⟨fun hk => ?_, fun hk => ?_, fun hk => ?_⟩
  · unfold doM; rw [if_pos hk]; exact rcreate_go h hl hs
  · unfold doM; rw [if_neg (by omega), if_pos hk]; exact rindex_go h hl hc hi hs root
  · unfold doM; rw [if_neg (by omega), if_neg (by omega), if_pos hk]; exact rrename_go h hl hc t
set_option maxRecDepth 20000 in
theorem rDo_go {S P : Nat → Prop} {w : World} {c : Nat} {m : List Tab} (h : CR 30 S w c m) (ok : Ok m) {t : StV} (hs : StR P w t) (root : Int) :
    Calls Tryz.prog 17 #[.pointer (some ⟨c, 0, none⟩), .agg t.cells.toArray, .int .i64 root] w fun e w' => e = .returned (.int .i64 (doM m t.s root).2) ∧ CR 30 (Ext S w w') w' c (doM m t.s root).1 ∧ Fr S w w' := by
  have HD := hid (fun (W : World) (f : Fr (fun _ => False) w W) => rdoers_do (h.fre f) ok (hs.fre f) root)
  have HS := hid (fun w1 w2 m (f : Fr (fun _ => False) w w1) (hc : CR 30 (Ext S w1 w2) w2 c m) (g : Fr S w1 w2) => ext_fin (fun k hk => h.lt hk) f hc g)
  have HC := hid h
  have HNO := hid (show ¬ t.s.kind = 1 → ¬ t.s.kind = 2 → ¬ t.s.kind = 3 → doM m t.s root = (m, 1) from fun h1 h2 h3 => by unfold doM; rw [if_neg h1, if_neg h2, if_neg h3])
  obtain ⟨p, hp⟩ : ∃ p, doM m t.s root = p := ⟨_, rfl⟩
  rw [hp] at HD HNO ⊢
  have HP := hid hp
  clear hp h hs ok
  rw [StV.eta] at HD ⊢
  obtain ⟨⟨kind, table, name, cols, names, join⟩, oc, cc, on, cn, a5, n5, c5, a6, n6, c6, a7, n7, c7, y9, y10, i11, a12, n12, c12, i13, i14⟩ := t
  dsimp only at HD HNO ⊢
  generalize cols.length = lcs at *
  generalize names.length = lns at *
  have F1 := hid ((Fr.refl (fun _ => False) w).alloc (.cells #[.int .i64 kind, .string (bs table), .string (bs name), .slice oc lcs cc, .slice on lns cn, .slice a5 n5 c5, .slice a6 n6 c6, .slice a7 n7 c7, .string (bs join), .string y9, .string y10, .int .i64 i11, .slice a12 n12 c12, .int .i64 i13, .int .i64 i14] 55))
  have B1 := hid (Blk.new w [.int .i64 kind, .string (bs table), .string (bs name), .slice oc lcs cc, .slice on lns cn, .slice a5 n5 c5, .slice a6 n6 c6, .slice a7 n7 c7, .string (bs join), .string y9, .string y10, .int .i64 i11, .slice a12 n12 c12, .int .i64 i13, .int .i64 i14] 55)
  go_enter Tryz.func17, Tryz.ntmps17
  go_upto_region 1 with fail
  generalize w.heap.size = d at *
  generalize w.alloc _ = W1 at *
  have q0 : W1.cell? ⟨d, 0, none⟩ = some (.int .i64 kind) := B1.out.cell 0
  have R3 := hid B1.out.all
  have HX := hid (HD.out W1 F1.out)
  clear HD
  by_cases h1 : kind = 1
  · subst h1
    have HCALL := hid (HX.out.1 rfl)
    clear HX HNO
    go_wp2_with (first
      | (refine wpList_load_mid rfl 55 (.tmp 4) rfl d 0 rfl _ _ R3.out Tryz.underlying55 rfl size_st ?_)
      | (go_at_call 44; refine HCALL.out.mono ?_; rintro e w4 ⟨rfl, hc, f⟩; have HR := hid (HS.out _ _ _ F1.out hc f); clear hc f))
    go_ret
    exact ⟨rfl, HR.out.1, HR.out.2⟩
  · have e1 : (kind == 1) = false := beq_eq_false_iff_ne.2 h1
    by_cases h2 : kind = 2
    · subst h2
      have HCALL := hid (HX.out.2.1 rfl)
      clear HX HNO h1
      go_wp2_with (first
        | (refine wpList_load_mid rfl 55 (.tmp 4) rfl d 0 rfl _ _ R3.out Tryz.underlying55 rfl size_st ?_)
        | (go_at_call 45; refine HCALL.out.mono ?_; rintro e w4 ⟨rfl, hc, f⟩; have HR := hid (HS.out _ _ _ F1.out hc f); clear hc f))
      go_ret
      exact ⟨rfl, HR.out.1, HR.out.2⟩
    · have e2 : (kind == 2) = false := beq_eq_false_iff_ne.2 h2
      by_cases h3 : kind = 3
      · subst h3
        have HCALL := hid (HX.out.2.2 rfl)
        clear HX HNO h1 h2
        go_wp2_with (first
          | (refine wpList_load_mid rfl 55 (.tmp 4) rfl d 0 rfl _ _ R3.out Tryz.underlying55 rfl size_st ?_)
          | (go_at_call 46; refine HCALL.out.mono ?_; rintro e w4 ⟨rfl, hc, f⟩; have HR := hid (HS.out _ _ _ F1.out hc f); clear hc f))
        go_ret
        exact ⟨rfl, HR.out.1, HR.out.2⟩
      · have e3 : (kind == 3) = false := beq_eq_false_iff_ne.2 h3
        have HP1 := hid (HNO.out h1 h2 h3)
        clear HX HNO h1 h2 h3
        go_wp2_with (fail)
        go_ret
        rw [HP1.out]
        exact ⟨rfl, (HC.out.ext F1.out), F1.out.mono (fun _ h _ => h.elim)⟩
/-- a catalog of the reference's, of the call's own -/
structure OR (w0 : World) (S : Nat → Prop) (W : World) (c : Nat) (m : List Tab) : Prop where
  fr : Fr (fun _ => False) w0 W
  cr : CR 30 S W c m
  ge : ∀ k, S k → w0.heap.size ≤ k
  ok : Ok m
namespace OR
variable {w0 W W' : World} {S : Nat → Prop} {c : Nat} {m : List Tab}
theorem fre (h : OR w0 S W c m) (f : Fr (fun _ => False) W W') : OR w0 S W' c m := ⟨h.fr.trans f (fun _ h _ => h), h.cr.fre f, h.ge, h.ok⟩
theorem keep {U : Nat → Prop} (h : OR w0 S W c m) (f : Fr U W W') (hU : ∀ k, U k → ¬ S k ∧ w0.heap.size ≤ k) : OR w0 S W' c m :=
  ⟨h.fr.trans f (fun k hk hl => by have := (hU k hk).2; omega), h.cr.fr f (fun k hs hu => (hU k hu).1 hs), h.ge, h.ok⟩
theorem lt (h : OR w0 S W c m) {k : Nat} (hk : S k) : k < W.heap.size := h.cr.lt hk
theorem did {m' : List Tab} (h : OR w0 S W c m) (hc : CR 30 (Ext S W W') W' c m') (f : Fr S W W') (ok : Ok m') : OR w0 (Ext S W W') W' c m' := by
  have z1 := h.fr.size
  refine ⟨h.fr.trans f (fun k hk hl => by have := h.ge k hk; omega), hc, fun k hk => ?_, ok⟩
  rcases hk with hk | hk
  · exact h.ge k hk
  · omega
/-- a new one -/
theorem new (w : World) : OR w (fun k => k = w.heap.size) (w.alloc (.cells #[.slice none 0 0] 30)) w.heap.size [] := by
  have b := Blk.new w [.slice none 0 0] 30
  exact ⟨(Fr.refl _ w).alloc _, ⟨_, [], ⟨b, rfl, Row.nil, fun k hk => by simp [Value.ownBlock] at hk, fun t ht => by simp at ht, List.Pairwise.nil, List.Pairwise.nil, fun k hk => by subst hk; exact b.lt⟩, rfl⟩, fun k hk => Nat.le_of_eq hk.symm, ok_nil⟩
/-- a statement that Made gave, done -/
theorem madeDo (h : OR w0 S W c m) {B d : Nat} {s : St} {oc on : Option Addr} {cc cn : Nat} {root : Int} (hk : MK B W d s (.slice oc s.cols.length cc) (.slice on s.names.length cn) root) :
    Calls Tryz.prog 17 #[.pointer (some ⟨c, 0, none⟩), .agg (scells s (.slice oc s.cols.length cc) (.slice on s.names.length cn)).toArray, .int .i64 root] W fun e w' =>
      e = .returned (.int .i64 (doM m s root).2) ∧ OR w0 (Ext S W w') w' c (doM m s root).1 ∧ Fr S W w' := by
  have g := hk.g
  have := rDo_go h.cr h.ok (t := ⟨s, oc, cc, on, cn, none, 0, 0, none, 0, 0, none, 0, 0, ⟨#[]⟩, ⟨#[]⟩, 0, none, 0, 0, 0, 0⟩) (P := fun _ => True) ⟨hk.c.sl' (fun _ _ => trivial), hk.n.sl' (fun _ _ => trivial), by have := g.cols; dsimp only; omega, by have := g.names; dsimp only; omega, fun c hc => by have := (g.col c hc).1; omega, fun n hn => by have := (g.nam n hn).1; omega⟩ root
  refine this.mono ?_
  rintro e w' ⟨rfl, hc, f⟩
  exact ⟨rfl, h.did hc f (ok_do h.ok _ _), f⟩
end OR
theorem ArgsR.later {w W : World} {v : Value} {L : List Arg} (h : ArgsR w v L) (f : Fr (fun _ => False) w W) : ArgsR W v L :=
  ⟨(h.fre f).1.mono (fun k hk => Nat.lt_of_lt_of_le hk f.size), fun p hp => ⟨((h.fre f).2 p hp).1.mono (fun k hk => Nat.lt_of_lt_of_le hk f.size), ((h.fre f).2 p hp).2⟩⟩
set_option maxRecDepth 20000 in
set_option maxHeartbeats 4000000 in
/-- the law's made -/
theorem made_go {w : World} {a : Option Addr} {c1 : Nat} {L : List Arg} (HL : ArgsR w (.slice a L.length c1) L) :
    Calls Tryz.prog 7 #[.slice a L.length c1] w fun e w' => ∃ (r : Nat) (S : Nat → Prop) (m : List Tab), e = .returned (.pointer (some ⟨r, 0, none⟩)) ∧ OR w S w' r m := by
  have HLA := hid HL
  have HO0 := hid (OR.new w)
  clear HL
  go_enter Tryz.func7, Tryz.ntmps7
  go_upto_region 2 with fail
  generalize w.alloc _ = W1 at *
  generalize hr : w.heap.size = r at *
  have HRE := hid hr
  clear hr
  go_wp2_with (fail)
  go_loopw [4] (fun s4 wr => ∃ (i : Nat) (S : Nat → Prop) (m : List Tab), i ≤ 40 ∧ s4 = .int .i64 i ∧ OR w S wr r m) (fun s4 _ => 40 - (intOf s4).toNat)
  case atStart => exact ⟨0, _, _, by omega, rfl, HO0.out⟩
  case round =>
    obtain ⟨i, S, m, hi, rfl, hos⟩ := hrel
    have HOS := hid hos
    clear hos HO0
    have i1 : (0 : Int) ≤ (i : Int) := by omega
    by_cases hc12 : i < L.length ∧ i < 40
    · obtain ⟨hiL, h40⟩ := hc12
      have i2 : (i : Int) < L.length := by omega
      have i3 : (i : Int) < 40 := by omega
      obtain ⟨g, o, v, x, rfl, hcell, hsl, hxl⟩ := HLA.out.at_ HOS.out.fr hiL
      have HMD := hid (Made_go hsl hxl)
      obtain ⟨ax, cx, rfl, -, -⟩ := hsl
      go_upto_region 6 with (go_at_call 15; refine HMD.out.mono ?_; rintro e w3 ⟨s, vc, vn, root, rfl, hg, hcr, hnr, f⟩; obtain ⟨oc, cc, rfl, -⟩ := hcr.slice; obtain ⟨on, cn, rfl, -⟩ := hnr.slice; have HK0 := hid (MK.made hcr hnr hg f); have HO3 := hid (HOS.out.fre f); clear hcr hnr hg f; dsimp only [mcells])
      generalize hw4 : w3.alloc _ = W4
      have HK := hid (show MK wr.heap.size W4 w3.heap.size s (.slice oc s.cols.length cc) (.slice on s.names.length cn) root from by rw [← hw4]; exact HK0.out)
      have HO4 := hid (show OR w S W4 r m from by rw [← hw4]; exact HO3.out.fre ((Fr.refl (fun _ => False) w3).alloc _))
      generalize w3.heap.size = d at *
      clear hw4 HK0 HO3 HMD hcell HOS
      have HDO := hid (HO4.out.madeDo HK.out)
      have k15 := HK.out.at15
      have HR := hid HK.out.rng
      unfold scells at HDO HR
      go_wp2_with (first
        | (refine wpList_load_mid rfl 55 (.tmp 24) rfl d 0 rfl _ _ HR.out Tryz.underlying55 rfl size_stmt ?_)
        | (go_at_call 17; refine HDO.out.mono ?_; rintro e w5 ⟨rfl, ho, -⟩; have HO5 := hid ho; clear ho))
      go_roundw
      case rel => exact ⟨i + 1, _, _, by omega, by simp, HO5.out⟩
      case measure => simp [intOf]; omega
    · have hor : (40 : Int) ≤ (i : Int) ∨ (L.length : Int) ≤ (i : Int) := by omega
      have HZ := hid HOS.out
      rcases hor with h12 | h12
      all_goals
        go_wp2_with (fail)
        all_goals (go_ret; exact ⟨r, S, m, rfl, HZ.out⟩)
end Go.Proofs.YtgkfdlpijefgkaaGreatDoor
/- The reference's numbers and texts as bytes. -/
namespace Go.VB.Oct
theorem ofNat_mod (n : Nat) : UInt8.ofNat (n % 256) = UInt8.ofNat n := by
  apply UInt8.toNat_inj.1
  simp
end Go.VB.Oct
namespace Go.Proofs.YtgkfdlpijefgkaaGreatDoor
open Go.RowKit Go.VB Go.VB.Oct Go.VB.Cat Go.VB.Rec
theorem and_8 (n : Int) : bits .and .i64 n 255 = n % 256 := by
  rw [and_mask 8 255 n (by decide) (by omega)]
  rfl
set_option maxRecDepth 20000 in
theorem rNum_go (n k : Nat) (hn : n ≤ 9223372036854775807) (hk : k ≤ 8) (w : World) : Calls Tryz.prog 51 #[.int .i64 n, .int .i64 k] w fun e w' => e = .returned (.string (bs (be k n))) ∧ Fr (fun _ => False) w w' := by
  have F0 := hid (Fr.refl (fun _ => False) w)
  go_enter Tryz.func51, Tryz.ntmps51
  go_wp2_with (fail)
  go_loopw [0, 5, 6] (fun n0 s5 i wr => ∃ j : Nat, j ≤ k ∧ n0 = .int .i64 ((n / 256 ^ j : Nat) : Int) ∧ s5 = .string (bs (be j n)) ∧ i = .int .i64 j ∧ Fr (fun _ => False) w wr) (fun _ _ i _ => k - (intOf i).toNat)
  case atStart => exact ⟨0, by omega, by simp, by rfl, rfl, F0.out⟩
  case round =>
    obtain ⟨j, hj, rfl, rfl, rfl, fr⟩ := hrel
    have FR := hid fr
    clear fr F0
    by_cases hjk : j < k
    · have hle : n / 256 ^ j ≤ n := Nat.div_le_self _ _
      have hdd : n / 256 ^ (j + 1) = n / 256 ^ j / 256 := by rw [Nat.pow_succ, Nat.div_div_eq_div_mul]
      have HBS := hid (be_succ n (k := j) (by omega))
      rw [← ofNat_mod] at HBS
      obtain ⟨x, hx⟩ : ∃ x, x = n / 256 ^ j := ⟨_, rfl⟩
      rw [← hx] at hle hdd HBS ⊢
      clear hx
      have hand : bits .and .i64 (x : Int) 255 = ((x % 256 : Nat) : Int) := by rw [and_8]; omega
      have hw8 : IntKind.u8.wrap ((x % 256 : Nat) : Int) = ((x % 256 : Nat) : Int) := by rw [IntKind.wrap_u8]; omega
      have hcell : bv [UInt8.ofNat (x % 256)] = [.int .u8 ((x % 256 : Nat) : Int)] := by simp [bv]
      have hcv := run_bytes_string (P := Tryz.prog) (w := wr.alloc (.cells #[.int .u8 ((x % 256 : Nat) : Int)] 5)) (l := [UInt8.ofNat (x % 256)]) (by rw [hcell]; exact Blk.all _ (Blk.new wr [.int .u8 ((x % 256 : Nat) : Int)] 5)) (src := 64) (dst := 9) Tryz.underlying64 Tryz.underlying5 Tryz.underlying9 1 1 rfl
      have hadd := fun w => run_add_bs (P := Tryz.prog) w [UInt8.ofNat (x % 256)] (be j n) (by rw [be_length _ _ (by omega)]; simp; omega)
      have i1 : (j : Int) < (k : Int) := by omega
      have HDD := hid hdd
      have F1 := hid (FR.out.alloc (.cells #[.int .u8 ((x % 256 : Nat) : Int)] 5))
      clear hcell hdd
      generalize x % 256 = z at *
      go_wp2_with (fail)
      go_roundw
      case rel => exact ⟨j + 1, by omega, by rw [HDD.out]; simp, by rw [HBS.out], by simp, F1.out⟩
      case measure => simp [intOf]; omega
    · obtain rfl : j = k := by omega
      go_wp2_with (fail)
      go_ret
      exact ⟨rfl, FR.out⟩
theorem r14one_go (n : Nat) (hn : n ≤ 9223372036854775807) (w : World) : Calls Tryz.prog 49 #[.int .i64 n] w fun e w' => e = .returned (.string (bs (be 1 n))) ∧ Fr (fun _ => False) w w' := by
  have HN := hid (fun w => rNum_go n 1 hn (by omega) w)
  go_enter Tryz.func49, Tryz.ntmps49
  go_wp2_with (go_at_call 51; refine (HN.out _).mono ?_; rintro e w1 ⟨rfl, f⟩; have F1 := hid f; clear f)
  go_ret
  exact ⟨rfl, F1.out⟩
theorem r14text_go (s : List UInt8) (hs : s.length ≤ 1099511627776) (w : World) : Calls Tryz.prog 50 #[.string (bs s)] w fun e w' => e = .returned (.string (bs (text s))) ∧ Fr (fun _ => False) w w' := by
  have HN := hid (fun w => rNum_go s.length 2 (by omega) (by omega) w)
  have e1 := bs_size s
  have hadd := fun w => run_add_bs (P := Tryz.prog) w (be 2 s.length) s (by rw [be_length _ _ (by omega)]; omega)
  unfold text
  go_enter Tryz.func50, Tryz.ntmps50
  go_wp2_with (go_at_call 51; refine (HN.out _).mono ?_; rintro e w1 ⟨rfl, f⟩; have F1 := hid f; clear f)
  go_ret
  exact ⟨rfl, F1.out⟩
end Go.Proofs.YtgkfdlpijefgkaaGreatDoor
/- The reference's Bytes. -/
namespace Go.Proofs.YtgkfdlpijefgkaaGreatDoor
open Go.RowKit Go.VB Go.VB.Oct Go.VB.Cat Go.VB.Rec
theorem kind_nat {c : Col} (h : c.kind = 1 ∨ c.kind = 2) : ∃ k : Nat, c.kind = (k : Int) ∧ k ≤ 2 := by
  rcases h with h | h
  · exact ⟨1, h, by omega⟩
  · exact ⟨2, h, by omega⟩
set_option maxRecDepth 20000 in
set_option maxHeartbeats 4000000 in
theorem rBytes_go {S : Nat → Prop} {w : World} {c : Nat} {m : List Tab} (h : CR 30 S w c m) (ok : Ok m) :
    Calls Tryz.prog 20 #[.pointer (some ⟨c, 0, none⟩)] w fun e w' => e = .returned (.string (bs (Cat.bytes m))) ∧ Fr (fun _ => False) w w' := by
  obtain ⟨v, ts, h, rfl⟩ := h
  have HC := hid h
  have HOK := hid ok
  have hlen : ts.length ≤ 8 := by have := ok.len; simpa using this
  obtain ⟨av, cv, rfl, _⟩ := h.r.slice
  have k0 : w.cell? ⟨c, 0, none⟩ = some (.slice av ts.length cv) := h.b.cell 0
  clear h ok
  have HON := hid (fun (n : Nat) (hn : n ≤ 9223372036854775807) (W : World) => r14one_go n hn W)
  have HON0 := hid (HON.out ts.length (by omega))
  go_enter Tryz.func20, Tryz.ntmps20
  go_upto_region 2 with (go_at_call 49; refine (HON0.out _).mono ?_; rintro e w1 ⟨rfl, f⟩; have F1 := hid f; clear f)
  clear k0 HON0
  go_wp2_with (fail)
  go_loopw [3, 4] (fun s3 s4 wr => ∃ j : Nat, j ≤ ts.length ∧ s4 = .int .i64 j ∧ s3 = .string (bs (be 1 ts.length ++ (ts.take j).flatMap (fun t => t.t.bytes))) ∧ Fr (fun _ => False) w wr) (fun _ s4 _ => ts.length - (intOf s4).toNat)
  case atStart => exact ⟨0, by omega, rfl, by simp, F1.out⟩
  case round =>
    obtain ⟨j, hj, rfl, rfl, hf⟩ := hrel
    have FR := hid hf
    clear hf F1
    have HCW := hid (HC.out.fre FR.out)
    have k0 : wr.cell? ⟨c, 0, none⟩ = some (.slice av ts.length cv) := HCW.out.b.cell 0
    have j1 : (0 : Int) ≤ (j : Int) := by omega
    have j5 : IntKind.i64.wrap ((j : Int) + 1) = (j : Int) + 1 := IntWalk.i64_in _ (by omega)
    by_cases hjl : j < ts.length
    · have j2 : (j : Int) < (ts.length : Int) := by omega
      have HTK := hid (show TabOk ts[j].t from HOK.out.tab _ (List.mem_map_of_mem (List.getElem_mem hjl)))
      have HXT := hid (HC.out.t _ (List.getElem_mem hjl))
      have HSUC := hid (show (ts.take (j + 1)).flatMap (fun t => t.t.bytes) = (ts.take j).flatMap (fun t => t.t.bytes) ++ ts[j].t.bytes from by rw [List.take_succ_eq_append_getElem hjl, List.flatMap_append]; simp)
      have HLA := hid (show (be 1 ts.length ++ (ts.take j).flatMap (fun t => t.t.bytes)).length ≤ 1600 from by
        have := takeLe (f := fun t : TabV => t.t.bytes) 198 8 (l := ts) (fun t ht => tab_le (HOK.out.tab _ (List.mem_map_of_mem ht))) hlen j
        rw [List.length_append, be_length _ _ (by omega)]
        omega)
      obtain ⟨g, rfl, -, hr⟩ := tab_at HCW.out.r hjl
      obtain ⟨acc, hacc⟩ : ∃ acc, be 1 ts.length ++ (ts.take j).flatMap (fun t => t.t.bytes) = acc := ⟨_, rfl⟩
      obtain ⟨x, hx⟩ : ∃ x, x = ts[j] := ⟨_, rfl⟩
      rw [← hx] at hr HTK HXT HSUC
      rw [hacc] at HLA ⊢
      have HAC := hid hacc
      clear hx hacc
      obtain ⟨ac, ccap, hvc, _⟩ := HXT.out.c.slice
      obtain ⟨ai, ci, hvi, _⟩ := HXT.out.i.slice
      obtain ⟨⟨id, nm0, cols, ixs⟩, vc, vi, ix⟩ := x
      dsimp only at hvc hvi HTK HSUC
      subst hvc hvi
      have q0 : wr.cell? ⟨g, j * 4, none⟩ = some (.int .i64 id) := hr 0 _ rfl
      have q1 : wr.cell? ⟨g, j * 4 + 1, none⟩ = some (.string (bs nm0)) := hr 1 _ rfl
      have q2 : wr.cell? ⟨g, j * 4 + 2, none⟩ = some (.slice ac cols.length ccap) := hr 2 _ rfl
      have q3 : wr.cell? ⟨g, j * 4 + 3, none⟩ = some (.slice ai ix.length ci) := hr 3 _ rfl
      clear hr
      go_upto_region 6 with fail
      have fa := (Fr.refl (fun _ => False) wr).alloc (.cells #[.int .i64 id, .string (bs nm0), .slice ac cols.length ccap, .slice ai ix.length ci] 34)
      have HB := hid (Blk.new wr [.int .i64 id, .string (bs nm0), .slice ac cols.length ccap, .slice ai ix.length ci] 34)
      have F2 := hid ((FR.out.trans fa (fun _ h _ => h)).drew)
      clear fa q0 q1 q2 q3 k0 HCW
      generalize wr.heap.size = dt at *
      have HNL := hid (show nm0.length ≤ 12 ∧ cols.length ≤ 6 from ⟨(named_le HTK.out.name).2, HTK.out.le⟩)
      have HTX := hid (fun W => r14text_go nm0 (by have := HNL.out.1; omega) W)
      have HO1 := hid (HON.out cols.length (by have := HNL.out.2; omega))
      have hadd1 := fun w => run_add_bs (P := Tryz.prog) w acc (text nm0) (by rw [textLen]; have := HLA.out; have := HNL.out; omega)
      have hadd2 := fun w => run_add_bs (P := Tryz.prog) w (acc ++ text nm0) (be 1 cols.length) (by rw [List.length_append, textLen, be_length _ _ (by omega)]; have := HLA.out; have := HNL.out; omega)
      have HBD := hid HB.out.drew
      generalize wr.alloc _ = W2 at *
      refine wp_region_scr (.take 0 (.take 1 (.take 2 (.take 5 (.take 6 (.take 7 (.op 3 (.take 4 (.op 8 (.take 9 (.take 10 .done))))))))))) (fun kz w => (kz ≤ 11 → (w.cell? ⟨dt, 1, none⟩ = some (.string (bs nm0)) ∧ w.cell? ⟨dt, 2, none⟩ = some (.slice ac cols.length ccap))) ∧ Hid True) (by kernel_rfl) (by kernel_rfl) (by intro c a d v w h; cases d <;> exact h) ?_
      generalize W2.drew = W3 at *
      have HB3 := hid (show Blk W3 dt [.int .i64 id, .string (bs nm0), .slice ac cols.length ccap, .slice ai ix.length ci] 34 from HBD.out)
      repeat
        first
        | (refine wpT_pure rfl rfl rfl ?_; apply Exists.intro; refine ⟨?_, ?_⟩; intro w; (first | ((obtain ⟨q1, q2⟩ := qa; go_simp <;> rfl)) | (go_simp <;> rfl)); simp only [Act.put, List.setIfInBounds_toArray, List.set_cons_zero, List.set_cons_succ])
        | (refine wpT_take 11 rfl rfl (by decide +kernel) ⟨fun _ => ⟨HB3.out.cell 1, HB3.out.cell 2⟩, hid trivial⟩ ?_; apply Exists.intro; refine ⟨?_, ?_⟩; intro w hw; (have qa := hw.1 (Nat.le_refl _); have qb := hw.2); (first | ((obtain ⟨q1, q2⟩ := qa; go_simp <;> rfl)) | (go_simp <;> rfl)); simp only [Act.put, List.setIfInBounds_toArray, List.set_cons_zero, List.set_cons_succ])
        | (refine wpT_skip rfl rfl ?_; simp only [Act.put, List.setIfInBounds_toArray, List.set_cons_zero, List.set_cons_succ])
      refine wpT_op rfl ?_
      go_wp2_with ((go_at_call 50; refine (HTX.out _).mono ?_; rintro e w4 ⟨rfl, f⟩; have F4 := hid (F2.out.trans f (fun _ h _ => h)); have HB4 := hid (Blk.fr HB3.out f (fun h => h)); clear f))
      (refine ⟨?_, ?_⟩; focus (intro kz hk hk2 hh; first | (exfalso; simp at hk2; omega) | exact hh | exact (fun h => absurd h (by omega)) | obtain ⟨qa, qb⟩ := hh; first | exact ⟨qa, qb⟩ | (refine ⟨fun h => absurd h (by omega), ?_⟩; first | exact qb | (exact ⟨HB4.out.cell 1, HB4.out.cell 2⟩)) | (refine ⟨fun h => ?_, ?_⟩; (have qa := qa h); all_goals (first | exact qa | exact qb | (exact ⟨HB4.out.cell 1, HB4.out.cell 2⟩)))))
      repeat
        first
        | (refine wpT_pure rfl rfl rfl ?_; apply Exists.intro; refine ⟨?_, ?_⟩; intro w; (first | ((obtain ⟨q1, q2⟩ := qa; go_simp <;> rfl)) | (go_simp <;> rfl)); simp only [Act.put, List.setIfInBounds_toArray, List.set_cons_zero, List.set_cons_succ])
        | (refine wpT_take 11 rfl rfl (by decide +kernel) ⟨fun _ => ⟨HB4.out.cell 1, HB4.out.cell 2⟩, hid trivial⟩ ?_; apply Exists.intro; refine ⟨?_, ?_⟩; intro w hw; (have qa := hw.1 (Nat.le_refl _); have qb := hw.2); (first | ((obtain ⟨q1, q2⟩ := qa; go_simp <;> rfl)) | (go_simp <;> rfl)); simp only [Act.put, List.setIfInBounds_toArray, List.set_cons_zero, List.set_cons_succ])
        | (refine wpT_skip rfl rfl ?_; simp only [Act.put, List.setIfInBounds_toArray, List.set_cons_zero, List.set_cons_succ])
      refine wpT_op rfl ?_
      go_wp2_with ((go_at_call 49; refine (HO1.out _).mono ?_; rintro e w5 ⟨rfl, f⟩; have F5 := hid (F4.out.trans f (fun _ h _ => h)); have HB5 := hid (Blk.fr HB4.out f (fun h => h)); clear f))
      (refine ⟨?_, ?_⟩; focus (intro kz hk hk2 hh; first | (exfalso; simp at hk2; omega) | exact hh | exact (fun h => absurd h (by omega)) | obtain ⟨qa, qb⟩ := hh; first | exact ⟨qa, qb⟩ | (refine ⟨fun h => absurd h (by omega), ?_⟩; first | exact qb | (exact ⟨HB5.out.cell 1, HB5.out.cell 2⟩)) | (refine ⟨fun h => ?_, ?_⟩; (have qa := qa h); all_goals (first | exact qa | exact qb | (exact ⟨HB5.out.cell 1, HB5.out.cell 2⟩)))))
      repeat
        first
        | (refine wpT_pure rfl rfl rfl ?_; apply Exists.intro; refine ⟨?_, ?_⟩; intro w; (first | ((obtain ⟨q1, q2⟩ := qa; go_simp <;> rfl)) | (go_simp <;> rfl)); simp only [Act.put, List.setIfInBounds_toArray, List.set_cons_zero, List.set_cons_succ])
        | (refine wpT_take 11 rfl rfl (by decide +kernel) ⟨fun _ => ⟨HB5.out.cell 1, HB5.out.cell 2⟩, hid trivial⟩ ?_; apply Exists.intro; refine ⟨?_, ?_⟩; intro w hw; (have qa := hw.1 (Nat.le_refl _); have qb := hw.2); (first | ((obtain ⟨q1, q2⟩ := qa; go_simp <;> rfl)) | (go_simp <;> rfl)); simp only [Act.put, List.setIfInBounds_toArray, List.set_cons_zero, List.set_cons_succ])
        | (refine wpT_skip rfl rfl ?_; simp only [Act.put, List.setIfInBounds_toArray, List.set_cons_zero, List.set_cons_succ])
      refine wpT_nil ?_
      have HAC1 := hid (show (acc ++ (text nm0 ++ be 1 cols.length)).length ≤ 1620 from by rw [List.length_append, List.length_append, textLen, be_length _ _ (by omega)]; have := HLA.out; have := HNL.out; omega)
      have HBY := hid (show (⟨id, nm0, cols, ixs⟩ : Tab).bytes = text nm0 ++ be 1 cols.length ++ cols.flatMap Col.bytes ++ be 1 ixs.length ++ ixs.flatMap Ix.bytes from rfl)
      obtain ⟨acc1, hacc1⟩ : ∃ acc1, acc ++ (text nm0 ++ be 1 cols.length) = acc1 := ⟨_, rfl⟩
      rw [hacc1] at HAC1 ⊢
      have HA1 := hid hacc1
      clear hadd1 hadd2 hacc1 HTX HO1 HB3 HB4 F2 F4 HB HBD
      go_wp2_with (fail)
      go_loopw [3, 6] (fun s3 s6 wr => ∃ k : Nat, k ≤ cols.length ∧ s6 = .int .i64 k ∧ s3 = .string (bs (acc1 ++ (cols.take k).flatMap Col.bytes)) ∧ Fr (fun _ => False) w5 wr) (fun _ s6 _ => cols.length - (intOf s6).toNat)
      case atStart => exact ⟨0, by omega, rfl, by simp, Fr.refl _ _⟩
      case round =>
        obtain ⟨k, hk, rfl, rfl, hf⟩ := hrel
        have FQ := hid hf
        clear hf
        have HBQ := hid (Blk.fr HB5.out FQ.out (fun h => h))
        have b2 : wr.cell? ⟨dt, 2, none⟩ = some (.slice ac cols.length ccap) := HBQ.out.cell 2
        have k1 : (0 : Int) ≤ (k : Int) := by omega
        have k5 : IntKind.i64.wrap ((k : Int) + 1) = (k : Int) + 1 := IntWalk.i64_in _ (by have := HNL.out; omega)
        by_cases hkc : k < cols.length
        · have k2 : (k : Int) < (cols.length : Int) := by omega
          obtain ⟨gc, o, rfl, -, qc⟩ := slK (k := 2) (f := Col.cells) (by decide) col_len ((HXT.out.fr (F5.out.trans FQ.out (fun _ h _ => h)) (fun _ _ h => h)).c.sl' (R := fun _ => True) (fun _ _ => trivial)) hkc
          obtain ⟨kd, hkd, hkd2⟩ := kind_nat (HTK.out.col _ (List.getElem_mem hkc)).2
          have hnl := (named_le (HTK.out.col _ (List.getElem_mem hkc)).1).2
          have HP := hid (show wr.cell? ⟨gc, o + k * 2, none⟩ = some (.string (bs cols[k].name)) ∧ wr.cell? ⟨gc, o + k * 2 + 1, none⟩ = some (.int .i64 (kd : Int)) from ⟨qc 0 (by decide), by rw [← hkd]; exact qc 1 (by decide)⟩)
          have HSC := hid (show (cols.take (k + 1)).flatMap Col.bytes = (cols.take k).flatMap Col.bytes ++ (text cols[k].name ++ be 1 kd) from by
            rw [List.take_succ_eq_append_getElem hkc, List.flatMap_append]
            simp [Col.bytes, hkd])
          have HLC := hid (show (acc1 ++ (cols.take k).flatMap Col.bytes).length ≤ 1800 from by
            have := takeLe (f := Col.bytes) 15 6 (l := cols) (fun x hx => col_le (HTK.out.col x hx).1) HNL.out.2 k
            rw [List.length_append]
            have := HAC1.out
            omega)
          clear qc hkd
          generalize cols[k].name = cn at *
          obtain ⟨ak, hak⟩ : ∃ ak, acc1 ++ (cols.take k).flatMap Col.bytes = ak := ⟨_, rfl⟩
          rw [hak] at HLC ⊢
          have HAK := hid hak
          clear hak
          have HTX := hid (fun W => r14text_go cn (by omega) W)
          have HO1 := hid (HON.out kd (by omega))
          have hadd1 := fun w => run_add_bs (P := Tryz.prog) w ak (text cn) (by rw [textLen]; have := HLC.out; omega)
          have hadd2 := fun w => run_add_bs (P := Tryz.prog) w (ak ++ text cn) (be 1 kd) (by rw [List.length_append, textLen, be_length _ _ (by omega)]; have := HLC.out; omega)
          go_upto_region 10 with fail
          clear b2
          have fd := (Fr.refl (fun _ => False) wr).drew
          have FQ1 := hid (FQ.out.trans fd (fun _ h _ => h))
          have HS := hid (fun (W : World) (f : Fr (fun _ => False) wr W) => (⟨(Blk.fr HBQ.out f (fun h => h)).cell 2, cell_fr HP.out.1 f (fun h => h), cell_fr HP.out.2 f (fun h => h)⟩ : W.cell? ⟨dt, 2, none⟩ = some (.slice (some ⟨gc, o, none⟩) cols.length ccap) ∧ W.cell? ⟨gc, o + k * 2, none⟩ = some (.string (bs cn)) ∧ W.cell? ⟨gc, o + k * 2 + 1, none⟩ = some (.int .i64 (kd : Int))))
          have HS1 := hid (HS.out _ fd)
          have FD1 := hid fd
          clear fd
          refine wp_region_scr (.take 0 (.take 1 (.take 2 (.take 3 (.take 4 (.take 5 (.take 6 (.take 9 (.take 10 (.take 11 (.take 12 (.take 13 (.take 14 (.op 7 (.take 8 (.op 15 (.take 16 (.take 17 .done)))))))))))))))))) (fun kz w => (kz ≤ 18 → (w.cell? ⟨dt, 2, none⟩ = some (.slice (some ⟨gc, o, none⟩) cols.length ccap) ∧ w.cell? ⟨gc, o + k * 2, none⟩ = some (.string (bs cn)) ∧ w.cell? ⟨gc, o + k * 2 + 1, none⟩ = some (.int .i64 (kd : Int)))) ∧ Hid True) (by kernel_rfl) (by kernel_rfl) (by intro c a d v w h; cases d <;> exact h) ?_
          repeat
            first
            | (refine wpT_pure rfl rfl rfl ?_; apply Exists.intro; refine ⟨?_, ?_⟩; intro w; (first | ((obtain ⟨q1, q2, q3⟩ := qa; go_simp <;> rfl)) | (go_simp <;> rfl)); simp only [Act.put, List.setIfInBounds_toArray, List.set_cons_zero, List.set_cons_succ])
            | (refine wpT_take 18 rfl rfl (by decide +kernel) ⟨fun _ => HS1.out, hid trivial⟩ ?_; apply Exists.intro; refine ⟨?_, ?_⟩; intro w hw; (have qa := hw.1 (Nat.le_refl _); have qb := hw.2); (first | ((obtain ⟨q1, q2, q3⟩ := qa; go_simp <;> rfl)) | (go_simp <;> rfl)); simp only [Act.put, List.setIfInBounds_toArray, List.set_cons_zero, List.set_cons_succ])
            | (refine wpT_skip rfl rfl ?_; simp only [Act.put, List.setIfInBounds_toArray, List.set_cons_zero, List.set_cons_succ])
          refine wpT_op rfl ?_
          go_wp2_with ((go_at_call 50; refine (HTX.out _).mono ?_; rintro e w6 ⟨rfl, f⟩; have FD2 := hid (FD1.out.trans f (fun _ h _ => h)); clear f))
          (refine ⟨?_, ?_⟩; focus (intro kz hk hk2 hh; first | (exfalso; simp at hk2; omega) | exact hh | exact (fun h => absurd h (by omega)) | obtain ⟨qa, qb⟩ := hh; first | exact ⟨qa, qb⟩ | (refine ⟨fun h => absurd h (by omega), ?_⟩; first | exact qb | (exact HS.out _ FD2.out)) | (refine ⟨fun h => ?_, ?_⟩; (have qa := qa h); all_goals (first | exact qa | exact qb | (exact HS.out _ FD2.out)))))
          repeat
            first
            | (refine wpT_pure rfl rfl rfl ?_; apply Exists.intro; refine ⟨?_, ?_⟩; intro w; (first | ((obtain ⟨q1, q2, q3⟩ := qa; go_simp <;> rfl)) | (go_simp <;> rfl)); simp only [Act.put, List.setIfInBounds_toArray, List.set_cons_zero, List.set_cons_succ])
            | (refine wpT_take 18 rfl rfl (by decide +kernel) ⟨fun _ => HS.out _ FD2.out, hid trivial⟩ ?_; apply Exists.intro; refine ⟨?_, ?_⟩; intro w hw; (have qa := hw.1 (Nat.le_refl _); have qb := hw.2); (first | ((obtain ⟨q1, q2, q3⟩ := qa; go_simp <;> rfl)) | (go_simp <;> rfl)); simp only [Act.put, List.setIfInBounds_toArray, List.set_cons_zero, List.set_cons_succ])
            | (refine wpT_skip rfl rfl ?_; simp only [Act.put, List.setIfInBounds_toArray, List.set_cons_zero, List.set_cons_succ])
          refine wpT_op rfl ?_
          go_wp2_with ((go_at_call 49; refine (HO1.out _).mono ?_; rintro e w7 ⟨rfl, f⟩; have FD3 := hid (FD2.out.trans f (fun _ h _ => h)); clear f))
          (refine ⟨?_, ?_⟩; focus (intro kz hk hk2 hh; first | (exfalso; simp at hk2; omega) | exact hh | exact (fun h => absurd h (by omega)) | obtain ⟨qa, qb⟩ := hh; first | exact ⟨qa, qb⟩ | (refine ⟨fun h => absurd h (by omega), ?_⟩; first | exact qb | (exact HS.out _ FD3.out)) | (refine ⟨fun h => ?_, ?_⟩; (have qa := qa h); all_goals (first | exact qa | exact qb | (exact HS.out _ FD3.out)))))
          repeat
            first
            | (refine wpT_pure rfl rfl rfl ?_; apply Exists.intro; refine ⟨?_, ?_⟩; intro w; (first | ((obtain ⟨q1, q2, q3⟩ := qa; go_simp <;> rfl)) | (go_simp <;> rfl)); simp only [Act.put, List.setIfInBounds_toArray, List.set_cons_zero, List.set_cons_succ])
            | (refine wpT_take 18 rfl rfl (by decide +kernel) ⟨fun _ => HS.out _ FD3.out, hid trivial⟩ ?_; apply Exists.intro; refine ⟨?_, ?_⟩; intro w hw; (have qa := hw.1 (Nat.le_refl _); have qb := hw.2); (first | ((obtain ⟨q1, q2, q3⟩ := qa; go_simp <;> rfl)) | (go_simp <;> rfl)); simp only [Act.put, List.setIfInBounds_toArray, List.set_cons_zero, List.set_cons_succ])
            | (refine wpT_skip rfl rfl ?_; simp only [Act.put, List.setIfInBounds_toArray, List.set_cons_zero, List.set_cons_succ])
          refine wpT_nil ?_
          have FQ2 := hid (FQ.out.trans FD3.out (fun _ h _ => h))
          clear hadd1 hadd2
          go_wp2_with (fail)
          go_roundw
          case rel => exact ⟨k + 1, by omega, by go_num, by rw [HSC.out, ← HAK.out, List.append_assoc], FQ2.out⟩
          case measure => simp [intOf]; omega
        · obtain rfl : k = cols.length := by omega
          have k2 : ¬ (cols.length : Int) < (cols.length : Int) := by omega
          rw [List.take_length]
          have HIXL := hid (show ixs.length = ix.length ∧ ix.length ≤ 4 from by
            have e := HXT.out.e
            have h := HTK.out.ixs
            dsimp only at e h
            rw [e, List.length_map] at h
            exact ⟨by rw [e, List.length_map], h⟩)
          have HL2 := hid (show (acc1 ++ cols.flatMap Col.bytes).length ≤ 1720 from by
            have := flatLe (f := Col.bytes) 15 cols (fun x hx => col_le (HTK.out.col x hx).1)
            rw [List.length_append]
            have := HAC1.out
            have := HNL.out.2
            omega)
          have HO2 := hid (HON.out ix.length (by have := HIXL.out.2; omega))
          have hadd3 := fun w => run_add_bs (P := Tryz.prog) w (acc1 ++ cols.flatMap Col.bytes) (be 1 ix.length) (by rw [be_length _ _ (by omega)]; have := HL2.out; omega)
          have FW5 := hid (F5.out.trans FQ.out (fun _ h _ => h))
          go_upto_region 11 with fail
          clear b2
          have b3 : wr.cell? ⟨dt, 3, none⟩ = some (.slice ai ix.length ci) := HBQ.out.cell 3
          obtain ⟨acc2, hacc2⟩ : ∃ acc2, acc1 ++ cols.flatMap Col.bytes = acc2 := ⟨_, rfl⟩
          rw [hacc2] at hadd3 HL2 ⊢
          have HA2 := hid hacc2
          clear hacc2
          go_upto_region 12 with (go_at_call 49; refine (HO2.out _).mono ?_; rintro e w8 ⟨rfl, f⟩; have F8 := hid (FW5.out.trans f (fun _ h _ => h)); have HB8 := hid (Blk.fr HBQ.out f (fun h => h)); clear f)
          clear b3 hadd3 HBQ FQ FW5 HO2 HB5 F5
          have HL3 := hid (show (acc2 ++ be 1 ix.length).length ≤ 1730 from by rw [List.length_append, be_length _ _ (by omega)]; have := HL2.out; omega)
          obtain ⟨acc3, hacc3⟩ : ∃ acc3, acc2 ++ be 1 ix.length = acc3 := ⟨_, rfl⟩
          rw [hacc3] at HL3 ⊢
          have HA3 := hid hacc3
          clear hacc3
          go_wp2_with (fail)
          go_loopw [3, 7] (fun s3 s7 wr => ∃ k : Nat, k ≤ ix.length ∧ s7 = .int .i64 k ∧ s3 = .string (bs (acc3 ++ (ix.take k).flatMap (fun x => x.x.bytes))) ∧ Fr (fun _ => False) w8 wr) (fun _ s7 _ => ix.length - (intOf s7).toNat)
          case atStart => exact ⟨0, by omega, rfl, by simp, Fr.refl _ _⟩
          case round =>
            obtain ⟨k, hk, rfl, rfl, hf⟩ := hrel
            have FQ := hid hf
            clear hf
            have HBQ := hid (Blk.fr HB8.out FQ.out (fun h => h))
            have b3 : wr.cell? ⟨dt, 3, none⟩ = some (.slice ai ix.length ci) := HBQ.out.cell 3
            have k1 : (0 : Int) ≤ (k : Int) := by omega
            have k5 : IntKind.i64.wrap ((k : Int) + 1) = (k : Int) + 1 := IntWalk.i64_in _ (by have := HIXL.out; omega)
            by_cases hkc : k < ix.length
            · have k2 : (k : Int) < (ix.length : Int) := by omega
              obtain ⟨gi, oi, rfl, -, qc⟩ := slK (k := 3) (f := IxV.cells) (by decide) ix_len ((HXT.out.fr (F8.out.trans FQ.out (fun _ h _ => h)) (fun _ _ h => h)).i.sl' (R := fun _ => True) (fun _ _ => trivial)) hkc
              have HXI := hid (show IxOk cols.length ix[k].x from HTK.out.ix _ (by have e := HXT.out.e; dsimp only at e ⊢; rw [e]; exact List.mem_map_of_mem (List.getElem_mem hkc)))
              have HXR := hid (HXT.out.x _ (List.getElem_mem hkc)).1
              have HSC := hid (show (ix.take (k + 1)).flatMap (fun x => x.x.bytes) = (ix.take k).flatMap (fun x => x.x.bytes) ++ ix[k].x.bytes from by
                rw [List.take_succ_eq_append_getElem hkc, List.flatMap_append]
                simp)
              have q0 : wr.cell? ⟨gi, oi + k * 3, none⟩ = some (.string (bs ix[k].x.name)) := qc 0 (by decide)
              have q1 := qc 1 (by decide)
              have q2 : wr.cell? ⟨gi, oi + k * 3 + 2, none⟩ = some (.int .i64 ix[k].x.root) := qc 2 (by decide)
              obtain ⟨ax, cx, hax, _⟩ := HXR.out.slice
              simp only [IxV.cells, List.getElem?_cons_zero, List.getElem?_cons_succ] at q1
              rw [hax] at q1 HXR
              have HLK := hid (show (acc3 ++ (ix.take k).flatMap (fun x => x.x.bytes)).length ≤ 1830 from by
                have := takeLe (f := fun x : IxV => x.x.bytes) 23 4 (l := ix) (fun x hx => ix_le (HTK.out.ix x.x (by have e := HXT.out.e; dsimp only at e ⊢; rw [e]; exact List.mem_map_of_mem hx))) HIXL.out.2 k
                rw [List.length_append]
                have := HL3.out
                omega)
              clear qc hax
              obtain ⟨xx, hxx⟩ : ∃ xx, xx = ix[k].x := ⟨_, rfl⟩
              rw [← hxx] at q0 q1 q2 HXI HXR HSC
              clear hxx
              obtain ⟨xn, xc, xr⟩ := xx
              dsimp only at q0 q1 q2 HXI HXR
              obtain ⟨ak, hak⟩ : ∃ ak, acc3 ++ (ix.take k).flatMap (fun x => x.x.bytes) = ak := ⟨_, rfl⟩
              rw [hak] at HLK ⊢
              have HAK := hid hak
              clear hak
              have hr0 := HXI.out.root
              dsimp only at hr0
              obtain ⟨rt, hrt⟩ : ∃ rt : Nat, xr = (rt : Int) := ⟨xr.toNat, by omega⟩
              have HXB := hid (show (⟨xn, xc, xr⟩ : Ix).bytes = text xn ++ be 1 xc.length ++ (xc.flatMap fun n => be 1 n.toNat) ++ be 2 xr.toNat from rfl)
              subst hrt
              have HN6 := hid (show xn.length ≤ 12 ∧ xc.length ≤ 6 from ⟨(named_le HXI.out.name).2, HXI.out.le⟩)
              go_upto_region 16 with fail
              have fa := (Fr.refl (fun _ => False) wr).alloc (.cells #[.string (bs xn), .slice ax xc.length cx, .int .i64 (rt : Int)] 44)
              have HX0 := hid (Blk.new wr [.string (bs xn), .slice ax xc.length cx, .int .i64 (rt : Int)] 44)
              have FQ1 := hid (FQ.out.trans fa (fun _ h _ => h))
              clear fa q0 q1 q2 b3
              generalize wr.heap.size = dx at *
              generalize wr.alloc _ = W9 at *
              have HTX := hid (fun W => r14text_go xn (by have := HN6.out; omega) W)
              have HO1 := hid (HON.out xc.length (by have := HN6.out; omega))
              have hadd1 := fun w => run_add_bs (P := Tryz.prog) w ak (text xn) (by rw [textLen]; have := HLK.out; have := HN6.out; omega)
              have hadd2 := fun w => run_add_bs (P := Tryz.prog) w (ak ++ text xn) (be 1 xc.length) (by rw [List.length_append, textLen, be_length _ _ (by omega)]; have := HLK.out; have := HN6.out; omega)
              have fd := (Fr.refl (fun _ => False) W9).drew
              have HS := hid (fun (W : World) (f : Fr (fun _ => False) W9 W) => (⟨(Blk.fr HX0.out f (fun h => h)).cell 0, (Blk.fr HX0.out f (fun h => h)).cell 1⟩ : W.cell? ⟨dx, 0, none⟩ = some (.string (bs xn)) ∧ W.cell? ⟨dx, 1, none⟩ = some (.slice ax xc.length cx)))
              have HS1 := hid (HS.out _ fd)
              have FD1 := hid fd
              clear fd
              refine wp_region_scr (.take 0 (.take 1 (.take 2 (.take 5 (.take 6 (.take 7 (.op 3 (.take 4 (.op 8 (.take 9 (.take 10 .done))))))))))) (fun kz w => (kz ≤ 11 → (w.cell? ⟨dx, 0, none⟩ = some (.string (bs xn)) ∧ w.cell? ⟨dx, 1, none⟩ = some (.slice ax xc.length cx))) ∧ Hid True) (by kernel_rfl) (by kernel_rfl) (by intro c a d v w h; cases d <;> exact h) ?_
              repeat
                first
                | (refine wpT_pure rfl rfl rfl ?_; apply Exists.intro; refine ⟨?_, ?_⟩; intro w; (first | ((obtain ⟨q1, q2⟩ := qa; go_simp <;> rfl)) | (go_simp <;> rfl)); simp only [Act.put, List.setIfInBounds_toArray, List.set_cons_zero, List.set_cons_succ])
                | (refine wpT_take 11 rfl rfl (by decide +kernel) ⟨fun _ => HS1.out, hid trivial⟩ ?_; apply Exists.intro; refine ⟨?_, ?_⟩; intro w hw; (have qa := hw.1 (Nat.le_refl _); have qb := hw.2); (first | ((obtain ⟨q1, q2⟩ := qa; go_simp <;> rfl)) | (go_simp <;> rfl)); simp only [Act.put, List.setIfInBounds_toArray, List.set_cons_zero, List.set_cons_succ])
                | (refine wpT_skip rfl rfl ?_; simp only [Act.put, List.setIfInBounds_toArray, List.set_cons_zero, List.set_cons_succ])
              refine wpT_op rfl ?_
              go_wp2_with ((go_at_call 50; refine (HTX.out _).mono ?_; rintro e wA ⟨rfl, f⟩; have FD2 := hid (FD1.out.trans f (fun _ h _ => h)); clear f))
              (refine ⟨?_, ?_⟩; focus (intro kz hk hk2 hh; first | (exfalso; simp at hk2; omega) | exact hh | exact (fun h => absurd h (by omega)) | obtain ⟨qa, qb⟩ := hh; first | exact ⟨qa, qb⟩ | (refine ⟨fun h => absurd h (by omega), ?_⟩; first | exact qb | (exact HS.out _ FD2.out)) | (refine ⟨fun h => ?_, ?_⟩; (have qa := qa h); all_goals (first | exact qa | exact qb | (exact HS.out _ FD2.out)))))
              repeat
                first
                | (refine wpT_pure rfl rfl rfl ?_; apply Exists.intro; refine ⟨?_, ?_⟩; intro w; (first | ((obtain ⟨q1, q2⟩ := qa; go_simp <;> rfl)) | (go_simp <;> rfl)); simp only [Act.put, List.setIfInBounds_toArray, List.set_cons_zero, List.set_cons_succ])
                | (refine wpT_take 11 rfl rfl (by decide +kernel) ⟨fun _ => HS.out _ FD2.out, hid trivial⟩ ?_; apply Exists.intro; refine ⟨?_, ?_⟩; intro w hw; (have qa := hw.1 (Nat.le_refl _); have qb := hw.2); (first | ((obtain ⟨q1, q2⟩ := qa; go_simp <;> rfl)) | (go_simp <;> rfl)); simp only [Act.put, List.setIfInBounds_toArray, List.set_cons_zero, List.set_cons_succ])
                | (refine wpT_skip rfl rfl ?_; simp only [Act.put, List.setIfInBounds_toArray, List.set_cons_zero, List.set_cons_succ])
              refine wpT_op rfl ?_
              go_wp2_with ((go_at_call 49; refine (HO1.out _).mono ?_; rintro e wB ⟨rfl, f⟩; have FD3 := hid (FD2.out.trans f (fun _ h _ => h)); clear f))
              (refine ⟨?_, ?_⟩; focus (intro kz hk hk2 hh; first | (exfalso; simp at hk2; omega) | exact hh | exact (fun h => absurd h (by omega)) | obtain ⟨qa, qb⟩ := hh; first | exact ⟨qa, qb⟩ | (refine ⟨fun h => absurd h (by omega), ?_⟩; first | exact qb | (exact HS.out _ FD3.out)) | (refine ⟨fun h => ?_, ?_⟩; (have qa := qa h); all_goals (first | exact qa | exact qb | (exact HS.out _ FD3.out)))))
              repeat
                first
                | (refine wpT_pure rfl rfl rfl ?_; apply Exists.intro; refine ⟨?_, ?_⟩; intro w; (first | ((obtain ⟨q1, q2⟩ := qa; go_simp <;> rfl)) | (go_simp <;> rfl)); simp only [Act.put, List.setIfInBounds_toArray, List.set_cons_zero, List.set_cons_succ])
                | (refine wpT_take 11 rfl rfl (by decide +kernel) ⟨fun _ => HS.out _ FD3.out, hid trivial⟩ ?_; apply Exists.intro; refine ⟨?_, ?_⟩; intro w hw; (have qa := hw.1 (Nat.le_refl _); have qb := hw.2); (first | ((obtain ⟨q1, q2⟩ := qa; go_simp <;> rfl)) | (go_simp <;> rfl)); simp only [Act.put, List.setIfInBounds_toArray, List.set_cons_zero, List.set_cons_succ])
                | (refine wpT_skip rfl rfl ?_; simp only [Act.put, List.setIfInBounds_toArray, List.set_cons_zero, List.set_cons_succ])
              refine wpT_nil ?_
              have HLB := hid (show (ak ++ (text xn ++ be 1 xc.length)).length ≤ 1850 from by rw [List.length_append, List.length_append, textLen, be_length _ _ (by omega)]; have := HLK.out; have := HN6.out; omega)
              obtain ⟨bk, hbk⟩ : ∃ bk, ak ++ (text xn ++ be 1 xc.length) = bk := ⟨_, rfl⟩
              rw [hbk] at HLB ⊢
              have HBK := hid hbk
              have FQ3 := hid (FQ1.out.trans FD3.out (fun _ h _ => h))
              have HXB3 := hid (Blk.fr HX0.out FD3.out (fun h => h))
              clear hadd1 hadd2 hbk HTX HO1 HS HS1 FD1 FD2 FD3 FQ1 HX0 FQ HBQ
              go_wp2_with (fail)
              go_loopw [3, 9] (fun s3 s9 wr => ∃ q : Nat, q ≤ xc.length ∧ s9 = .int .i64 q ∧ s3 = .string (bs (bk ++ (xc.take q).flatMap (fun n => be 1 n.toNat))) ∧ Fr (fun _ => False) wB wr) (fun _ s9 _ => xc.length - (intOf s9).toNat)
              case atStart => exact ⟨0, by omega, rfl, by simp, Fr.refl _ _⟩
              case round =>
                obtain ⟨q, hq, rfl, rfl, hf⟩ := hrel
                have FP := hid hf
                clear hf
                have HXP := hid (Blk.fr HXB3.out FP.out (fun h => h))
                have b1 : wr.cell? ⟨dx, 1, none⟩ = some (.slice ax xc.length cx) := HXP.out.cell 1
                have q1 : (0 : Int) ≤ (q : Int) := by omega
                have q5 : IntKind.i64.wrap ((q : Int) + 1) = (q : Int) + 1 := IntWalk.i64_in _ (by have := HN6.out; omega)
                have HLQ := hid (show (bk ++ (xc.take q).flatMap (fun n => be 1 n.toNat)).length ≤ 1900 from by
                  have := takeLe (f := fun n : Int => be 1 n.toNat) 1 6 (l := xc) (fun x _ => Nat.le_of_eq (be_length _ _ (by omega))) HN6.out.2 q
                  rw [List.length_append]
                  have := HLB.out
                  omega)
                by_cases hqc : q < xc.length
                · have q2 : (q : Int) < (xc.length : Int) := by omega
                  obtain ⟨gx, ox, rfl, -, hcell⟩ := sl_cell1 (f := icell) (fun _ => rfl) ((HXR.out.fre ((F8.out.trans FQ3.out (fun _ h _ => h)).trans FP.out (fun _ h _ => h))).sl' (R := fun _ => True) (fun _ _ => trivial)) (by intro e; rw [e] at hqc; simp at hqc)
                  have hn0 := HXI.out.col _ (List.getElem_mem hqc)
                  have HSQ := hid (show (xc.take (q + 1)).flatMap (fun n => be 1 n.toNat) = (xc.take q).flatMap (fun n => be 1 n.toNat) ++ be 1 xc[q].toNat from by
                    rw [List.take_succ_eq_append_getElem hqc, List.flatMap_append]
                    simp)
                  have c0 : wr.cell? ⟨gx, ox + q, none⟩ = some (.int .i64 xc[q]) := hcell q hqc
                  clear hcell
                  generalize xc[q] = nv at *
                  obtain ⟨nn, rfl⟩ : ∃ nn : Nat, nv = (nn : Int) := ⟨nv.toNat, by omega⟩
                  rw [Int.toNat_natCast] at HSQ
                  have HO1 := hid (HON.out nn (by have := HNL.out.2; omega))
                  obtain ⟨cq, hcq⟩ : ∃ cq, bk ++ (xc.take q).flatMap (fun n => be 1 n.toNat) = cq := ⟨_, rfl⟩
                  rw [hcq] at HLQ ⊢
                  have HCQ := hid hcq
                  have hadd1 := fun w => run_add_bs (P := Tryz.prog) w cq (be 1 nn) (by rw [be_length _ _ (by omega)]; have := HLQ.out; omega)
                  clear hcq hn0
                  go_wp2_with (go_at_call 49; refine (HO1.out _).mono ?_; rintro e wC ⟨rfl, f⟩; have FP2 := hid (FP.out.trans f (fun _ h _ => h)); clear f)
                  go_roundw
                  case rel => exact ⟨q + 1, by omega, by go_num, by rw [HSQ.out, ← HCQ.out, List.append_assoc], FP2.out⟩
                  case measure => simp [intOf]; omega
                · obtain rfl : q = xc.length := by omega
                  have q2 : ¬ (xc.length : Int) < (xc.length : Int) := by omega
                  rw [List.take_length] at HLQ ⊢
                  have b2 : wr.cell? ⟨dx, 2, none⟩ = some (.int .i64 (rt : Int)) := HXP.out.cell 2
                  have HNU := hid (fun W => rNum_go rt 2 (by omega) (by omega) W)
                  have HFINAL := hid (show (bk ++ xc.flatMap (fun n => be 1 n.toNat)) ++ be 2 rt = acc3 ++ (ix.take (k + 1)).flatMap (fun x => x.x.bytes) from by
                    rw [HSC.out, HXB.out, ← HBK.out, ← HAK.out, Int.toNat_natCast]
                    simp only [List.append_assoc])
                  obtain ⟨cq, hcq⟩ : ∃ cq, bk ++ xc.flatMap (fun n => be 1 n.toNat) = cq := ⟨_, rfl⟩
                  rw [hcq] at HLQ HFINAL ⊢
                  have hadd1 := fun w => run_add_bs (P := Tryz.prog) w cq (be 2 rt) (by rw [be_length _ _ (by omega)]; have := HLQ.out; omega)
                  clear hcq
                  go_wp2_with (go_at_call 51; refine (HNU.out _).mono ?_; rintro e wC ⟨rfl, f⟩; have FP2 := hid ((FQ3.out.trans FP.out (fun _ h _ => h)).trans f (fun _ h _ => h)); clear f)
                  go_roundw
                  case rel => exact ⟨k + 1, by omega, by go_num, by rw [HFINAL.out], FP2.out⟩
                  case measure => simp [intOf]; omega
            · obtain rfl : k = ix.length := by omega
              have k2 : ¬ (ix.length : Int) < (ix.length : Int) := by omega
              rw [List.take_length]
              have HALL := hid (show acc3 ++ ix.flatMap (fun x => x.x.bytes) = be 1 ts.length ++ (ts.take (j + 1)).flatMap (fun t => t.t.bytes) from by
                have e := HXT.out.e
                dsimp only at e
                rw [HSUC.out, HBY.out, ← HA3.out, ← HA2.out, ← HA1.out, ← HAC.out, HIXL.out.1, show ixs.flatMap Ix.bytes = ix.flatMap (fun x => x.x.bytes) from by rw [e, List.flatMap_map]]
                simp only [List.append_assoc])
              rw [HALL.out]
              go_wp2_with (fail)
              go_roundw
              case rel => exact ⟨j + 1, by omega, by go_num, rfl, F8.out.trans FQ.out (fun _ h _ => h)⟩
              case measure => simp [intOf]; omega
    · obtain rfl : j = ts.length := by omega
      have j2 : ¬ (ts.length : Int) < (ts.length : Int) := by omega
      rw [List.take_length]
      have HBE := hid (show be 1 ts.length ++ ts.flatMap (fun t => t.t.bytes) = Cat.bytes (ts.map TabV.t) from by unfold Cat.bytes; rw [List.length_map, List.flatMap_map])
      rw [HBE.out]
      go_wp2_with (fail)
      go_ret
      exact ⟨rfl, FR.out⟩
end Go.Proofs.YtgkfdlpijefgkaaGreatDoor
