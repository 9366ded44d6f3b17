import Derived.Test.YtiimomgbklgicaaCtE
/- A statement in memory; create. -/
set_option linter.unusedVariables false
namespace Go.VB.Cat
open Go.VB Go.VB.Oct
/-- a statement with its slices and the fields that the catalog does not read -/
structure StV where
  s : St
  oc : Option Addr
  cc : Nat
  on : Option Addr
  cn : Nat
  a5 : Option Addr
  n5 : Nat
  c5 : Nat
  a6 : Option Addr
  n6 : Nat
  c6 : Nat
  a7 : Option Addr
  n7 : Nat
  c7 : Nat
  y9 : ByteArray
  y10 : ByteArray
  i11 : Int
  a12 : Option Addr
  n12 : Nat
  c12 : Nat
  i13 : Int
  i14 : Int
def StV.cells (t : StV) : List Value := [.int .i64 t.s.kind, .string (bs t.s.table), .string (bs t.s.name), .slice t.oc t.s.cols.length t.cc, .slice t.on t.s.names.length t.cn, .slice t.a5 t.n5 t.c5, .slice t.a6 t.n6 t.c6, .slice t.a7 t.n7 t.c7, .string (bs t.s.join), .string t.y9, .string t.y10, .int .i64 t.i11, .slice t.a12 t.n12 t.c12, .int .i64 t.i13, .int .i64 t.i14]
end Go.VB.Cat
namespace Go.Proofs.Ytiimomgbklgicaa
open Go.RowKit Go.VB Go.VB.Oct Go.VB.Cat Go.VB.Rec
/-- a statement's slices lie in blocks of P -/
structure StR (P : Nat → Prop) (W : World) (t : StV) : Prop where
  c : Sl P W (.slice t.oc t.s.cols.length t.cc) t.s.cols.length (t.s.cols.flatMap Col.cells)
  n : Sl P W (.slice t.on t.s.names.length t.cn) t.s.names.length (sv t.s.names)
  lc : t.s.cols.length ≤ 1048576
  ln : t.s.names.length ≤ 1048576
  sc : ∀ c ∈ t.s.cols, c.name.length ≤ 9223372036854775807
  sn : ∀ n ∈ t.s.names, n.length ≤ 9223372036854775807
theorem StR.fr {P U : Nat → Prop} {W W' : World} {t : StV} (h : StR P W t) (f : Fr U W W') (hU : ∀ k, P k → ¬ U k) : StR P W' t := ⟨h.c.fr f hU, h.n.fr f hU, h.lc, h.ln, h.sc, h.sn⟩
theorem StR.fre {P : Nat → Prop} {W W' : World} {t : StV} (h : StR P W t) (f : Fr (fun _ => False) W W') : StR P W' t := h.fr f (fun _ _ h => h)
theorem createE_eq (m : List Tab) (s : St) : createE m s = if named s.table = false ∨ s.cols.length < 1 ∨ 6 < s.cols.length ∨ (s.cols.map Col.name).any (fun n => !named n) = true then 1 else if s.cols.any (fun c => c.kind != 1 && c.kind != 2) = true then 52 else if dup (s.cols.map Col.name) = true ∨ 0 ≤ find m s.table then 51 else if 8 ≤ m.length then 2 else 0 := by
  unfold createE
  rw [List.any_map]
  rfl
theorem create_err {m : List Tab} {s : St} {e : Int} (h : createE m s = e) (he : e ≠ 0) : create m s = (m, e) := by
  unfold create
  rw [h, if_neg he]
/-- an end with an error -/
theorem create_fin {S : Nat → Prop} {w w' : World} {c : Nat} {v : Value} {ts : List TabV} (h : CRv 93 S w c v ts) {s : St} {e : Int} (he : createE (ts.map TabV.t) s = e) (h0 : e ≠ 0) (f : Fr (fun _ => False) w w') :
    Ending.returned (.int .i64 e) = .returned (.int .i64 (create (ts.map TabV.t) s).2) ∧ CR 93 (Ext S w w') w' c (create (ts.map TabV.t) s).1 ∧ Fr S w w' := by
  rw [create_err he h0]
  exact ⟨rfl, CR.ext ⟨v, ts, h, rfl⟩ f, f.mono (fun _ h _ => h.elim)⟩
theorem info_tab : (Try.prog.info? 110).map (fun i => (i.zero, i.size, i.bytes)) = some (some (.agg #[.int .i64 0, .string .empty, .slice none 0 0, .slice none 0 0]), 4, 72) := by kernel_rfl
theorem row_blk {e : TypeId} {size B n : Nat} {W : World} {v : Value} {xs : List Value} (h : Row e size B W v n xs) {k : Nat} (hk : v.ownBlock = some k) : ∃ l, Blk W k l e := by
  rcases h.own.2 with ⟨rfl, _⟩ | ⟨g, cap, cur, rfl, hb, hgg, _⟩
  · simp [Value.ownBlock] at hk
  · simp [Value.ownBlock] at hk
    subst hk
    exact ⟨cur.toList, by unfold Blk; simpa using hgg⟩
theorem rows_ne {e e' : TypeId} {size size' B B' n n' : Nat} {W : World} {v v' : Value} {xs xs' : List Value} (h : Row e size B W v n xs) (h' : Row e' size' B' W v' n' xs') (hne : e' ≠ e) : ∀ k, v.ownBlock = some k → v'.ownBlock ≠ some k := by
  intro k hk hk'
  obtain ⟨l, hb⟩ := row_blk h' hk'
  exact h.ne hb hne k hk rfl
/-- a table's blocks behind an append to the tables and a store into the catalog -/
theorem TabO.shift {S U : Nat → Prop} {W Wg W' : World} {c n : Nat} {v : Value} {lc xs : List Value} {t : TabV} (h : TabO S W t) (hU : ∀ k, S k → U k) (rv : Row 110 4 0 W v n xs) (fg : Fr (fun k => v.ownBlock = some k) W Wg)
    (bg : Blk Wg c lc 93) (fs : Fr (fun k => k = c) Wg W') : TabO U W' t := by
  have hc := h.c.fr fg (rows_ne h.c rv (by decide))
  have hi := h.i.fr fg (rows_ne h.i rv (by decide))
  refine ⟨hc.fr fs (fun k hk e => hc.ne bg (by decide) k hk e), fun k hk => hU k (h.cS k hk), hi.fr fs (fun k hk e => hi.ne bg (by decide) k hk e), fun k hk => hU k (h.iS k hk), h.e, fun x hx => ?_⟩
  have hx1 := (h.x x hx).1.fr fg (rows_ne (h.x x hx).1 rv (by decide))
  exact ⟨hx1.fr fs (fun k hk e => hx1.ne bg (by decide) k hk e), fun k hk => hU k ((h.x x hx).2 k hk)⟩
/-- the end of create -/
theorem create_end {S : Nat → Prop} {w w8 wg : World} {c : Nat} {v vc v' : Value} {ts : List TabV} {s : St} (h : CRv 93 S w c v ts) (he : createE (ts.map TabV.t) s = 0) (f1 : Fr (fun _ => False) w w8)
    (rc : Row 55 2 w.heap.size w8 vc s.cols.length (s.cols.flatMap Col.cells)) (app : App 110 4 0 w8 wg v v' ts.length (ts.flatMap TabV.cells) [.int .i64 ((ts.length : Int) + 1), .string (bs s.table), vc, .slice none 0 0]) :
    CR 93 (Ext S w (wg.setCell ⟨c, 0, none⟩ v')) (wg.setCell ⟨c, 0, none⟩ v') c (create (ts.map TabV.t) s).1 ∧ Fr S w (wg.setCell ⟨c, 0, none⟩ v') := by
  have h8 := h.fre f1
  have fg := app.fr
  have ncv := h8.r.ne h8.b (by decide)
  have bg := Blk.fr h8.b fg (fun hk => ncv c hk rfl)
  have fs := (Fr.refl (fun k => k = c) wg).setCell ⟨c, 0, none⟩ v' (fun _ => rfl)
  have b' := bg.set 0 v'
  have nc' := app.row.ne bg (by decide)
  have z1 := f1.size
  have z2 := fg.size
  have z3 := fs.size
  have hF : Fr S w (wg.setCell ⟨c, 0, none⟩ v') := ((f1.mono (fun _ h _ => h.elim)).trans fg (fun k hk _ => h.rS k hk)).trans fs (fun k hk _ => by rw [hk]; exact h.bS)
  refine ⟨⟨v', ts ++ [⟨⟨(ts.length : Int) + 1, s.table, s.cols, []⟩, vc, .slice none 0 0, []⟩], ⟨b', .inl h.bS, ?_, ?_, ?_, ?_, ?_, ?_⟩, ?_⟩, hF⟩
  · exact (app.row.cast (by simp) (by simp [TabV.cells])).fr fs (fun k hk e => nc' k hk e)
  · intro k hk
    rcases app.at_ k hk with g | g
    · exact .inl (h.rS k g)
    · have := app.row.lt hk
      exact .inr ⟨by omega, by omega⟩
  · intro t ht
    rcases List.mem_append.1 ht with g | g
    · exact (h8.t t g).shift (fun k hk => .inl hk) h8.r fg bg fs
    · rw [List.mem_singleton.1 g]
      have hc := (rc.low (Nat.zero_le _)).fr fg (rows_ne rc h8.r (by decide))
      refine ⟨hc.fr fs (fun k hk e => hc.ne bg (by decide) k hk e), fun k hk => .inr ⟨rc.new k hk, ?_⟩, Row.nil, fun k hk => by simp [Value.ownBlock] at hk, rfl, fun x hx => by simp at hx⟩
      have := rc.lt hk
      omega
  · rw [List.pairwise_append]
    refine ⟨h.dc, List.pairwise_singleton _ _, fun a ha b hb k hk hk2 => ?_⟩
    rw [List.mem_singleton.1 hb] at hk2
    have h1 := h.lt k ((h.t a ha).cS k hk)
    have h2 := rc.new k hk2
    omega
  · rw [List.pairwise_append]
    refine ⟨h.di, List.pairwise_singleton _ _, fun a ha b hb k hk hk2 => ?_⟩
    rw [List.mem_singleton.1 hb] at hk2
    simp [Value.ownBlock] at hk2
  · intro k hk
    rcases hk with g | g
    · have := h.lt k g; omega
    · exact g.2
  · unfold create
    rw [if_pos he]
    simp
theorem sv_scell (l : List Bs) : sv l = l.flatMap scell := (sv_flat l).symm
set_option maxRecDepth 20000 in
set_option maxHeartbeats 4000000 in
theorem create_go {S P : Nat → Prop} {w : World} {c : Nat} {v : Value} {ts : List TabV} (h : CRv 93 S w c v ts) (hl : ts.length ≤ 8) {t : StV} (hs : StR P w t) (root : Int) :
    Calls Try.prog 57 #[.pointer (some ⟨c, 0, none⟩), .agg t.cells.toArray, .int .i64 root] w fun e w' => e = .returned (.int .i64 (create (ts.map TabV.t) t.s).2) ∧ CR 93 (Ext S w w') w' c (create (ts.map TabV.t) t.s).1 ∧ Fr S w w' := by
  obtain ⟨⟨kind, table, name, cols, names, join⟩, oc, cc, on, cn, a5, n5, c5, a6, n6, c6, a7, n7, c7, y9, y10, i11, a12, n12, c12, i13, i14⟩ := t
  have HC := hid h
  have HSC := hid hs.c
  have hlc := hs.lc
  have HSS := hid hs.sc
  have HE := hid (createE_eq (ts.map TabV.t) ⟨kind, table, name, cols, names, join⟩)
  unfold StV.cells
  dsimp only at HSC hlc HSS HE ⊢
  clear h hs
  have F1 := hid ((Fr.refl (fun _ => False) w).alloc (.cells #[.int .i64 kind, .string (bs table), .string (bs name), .slice oc cols.length cc, .slice on names.length cn, .slice a5 n5 c5, .slice a6 n6 c6, .slice a7 n7 c7, .string (bs join), .string y9, .string y10, .int .i64 i11, .slice a12 n12 c12, .int .i64 i13, .int .i64 i14] 60))
  have B1 := hid (Blk.new w [.int .i64 kind, .string (bs table), .string (bs name), .slice oc cols.length cc, .slice on names.length cn, .slice a5 n5 c5, .slice a6 n6 c6, .slice a7 n7 c7, .string (bs join), .string y9, .string y10, .int .i64 i11, .slice a12 n12 c12, .int .i64 i13, .int .i64 i14] 60)
  go_enter Try.func57, Try.ntmps57
  go_upto_region 1 with fail
  have HB := hid (show w.heap.size ≤ w.heap.size from Nat.le_refl _)
  generalize hd : w.heap.size = d at *
  have HD := hid hd
  clear hd HB
  generalize w.alloc _ = W1 at *
  have HN := hid (names_go (HSC.out.fr F1.out (fun _ _ h => h)) hlc)
  obtain ⟨q1, q3⟩ : W1.cell? ⟨d, 1, none⟩ = some (.string (bs table)) ∧ W1.cell? ⟨d, 3, none⟩ = some (.slice oc cols.length cc) := ⟨B1.out.cell 1, B1.out.cell 3⟩
  go_upto_region 2 with (go_at_call 77; refine HN.out.mono ?_; rintro e w2 ⟨vl, rfl, hr, f⟩; obtain ⟨al, cl, rfl, _⟩ := hr.slice; have HR := hid hr; have F2 := hid (F1.out.trans f (fun _ h _ => h)); have B2 := hid (Blk.fr B1.out f (fun h => h)); clear hr f)
  clear q1 q3 HN B1 F1
  have HRS : Hid (Row 9 1 W1.heap.size w2 (.slice al cols.length cl) (cols.map Col.name).length ((cols.map Col.name).flatMap scell)) := hid (HR.out.cast (by rw [List.length_map]) (sv_scell _))
  have HNM := hid (named_go table)
  have HCN := hid (ContainsFunc_named (cv := .int .i64 0) (p := fun s => !named s) HRS.out.sl (by rw [List.length_map]; omega) (fun x _ w' _ => create1_go x w'))
  have q1 : w2.cell? ⟨d, 1, none⟩ = some (.string (bs table)) := B2.out.cell 1
  obtain ⟨nt, hnt⟩ : ∃ b, named table = b := ⟨_, rfl⟩
  obtain ⟨pa, hpa⟩ : ∃ b, (cols.map Col.name).any (fun n => !named n) = b := ⟨_, rfl⟩
  rw [hnt] at HNM
  rw [hpa] at HCN
  rw [hnt, hpa] at HE
  clear hnt hpa
  cases nt with
  | false =>
    have HX := hid (HE.out.trans (if_pos (.inl rfl)))
    clear HE HCN
    go_wp2_with (go_at_call 78; refine (HNM.out _).mono ?_; rintro e w3 ⟨rfl, rfl⟩)
    go_ret
    exact create_fin HC.out HX.out (by decide) F2.out
  | true =>
    by_cases hl1 : cols.length < 1
    · have HX := hid (HE.out.trans (if_pos (.inr (.inl hl1))))
      have i1 : (cols.length : Int) < 1 := by omega
      clear HE HCN
      go_wp2_with (go_at_call 78; refine (HNM.out _).mono ?_; rintro e w3 ⟨rfl, rfl⟩)
      go_ret
      exact create_fin HC.out HX.out (by decide) F2.out
    · by_cases hl6 : 6 < cols.length
      · have HX := hid (HE.out.trans (if_pos (.inr (.inr (.inl hl6)))))
        have i1 : ¬ (cols.length : Int) < 1 := by omega
        have i2 : (6 : Int) < (cols.length : Int) := by omega
        clear HE HCN
        go_wp2_with (go_at_call 78; refine (HNM.out _).mono ?_; rintro e w3 ⟨rfl, rfl⟩)
        go_ret
        exact create_fin HC.out HX.out (by decide) F2.out
      · have i1 : ¬ (cols.length : Int) < 1 := by omega
        have i2 : ¬ (6 : Int) < (cols.length : Int) := by omega
        cases pa with
        | true =>
          have HX := hid (HE.out.trans (if_pos (.inr (.inr (.inr rfl)))))
          clear HE
          go_wp2_with (first
            | (go_at_call 78; refine (HNM.out _).mono ?_; rintro e w3 ⟨rfl, rfl⟩)
            | (go_at_call 79; refine HCN.out.mono ?_; rintro e w4 ⟨rfl, f⟩; have F3 := hid (F2.out.trans f (fun _ h _ => h)); clear f))
          go_ret
          exact create_fin HC.out HX.out (by decide) F3.out
        | false =>
          have HE2 := hid (HE.out.trans (if_neg (by rintro (h | h | h | h) <;> first | cases h | omega)))
          clear HE
          go_upto_region 4 with (first
            | (go_at_call 78; refine (HNM.out _).mono ?_; rintro e w3 ⟨rfl, rfl⟩)
            | (go_at_call 79; refine HCN.out.mono ?_; rintro e w4 ⟨rfl, f⟩; have F3 := hid (F2.out.trans f (fun _ h _ => h)); have B3 := hid (Blk.fr B2.out f (fun h => h)); have HR3 := hid (HR.out.fre f); clear f))
          clear HNM HCN q1 B2 HRS HR F2
          have q3 : w4.cell? ⟨d, 3, none⟩ = some (.slice oc cols.length cc) := B3.out.cell 3
          have HK := hid (ContainsFunc_kind (cv := .int .i64 0) (p := fun c => c.kind != 1 && c.kind != 2) (HSC.out.fr F3.out (fun _ _ h => h)) (by omega) (fun x _ w' _ => create2_go x w'))
          obtain ⟨pk, hpk⟩ : ∃ b, cols.any (fun c => c.kind != 1 && c.kind != 2) = b := ⟨_, rfl⟩
          rw [hpk] at HK HE2
          clear hpk
          cases pk with
          | true =>
            have HX := hid (HE2.out.trans (if_pos rfl))
            clear HE2
            go_wp2_with (go_at_call 81; refine HK.out.mono ?_; rintro e w5 ⟨rfl, f⟩; have F4 := hid (F3.out.trans f (fun _ h _ => h)); clear f)
            go_ret
            exact create_fin HC.out HX.out (by decide) F4.out
          | false =>
            have HE3 := hid (HE2.out.trans (if_neg (by decide)))
            clear HE2
            go_upto_region 6 with (go_at_call 81; refine HK.out.mono ?_; rintro e w5 ⟨rfl, f⟩; have F4 := hid (F3.out.trans f (fun _ h _ => h)); have B4 := hid (Blk.fr B3.out f (fun h => h)); have HR4 := hid (HR3.out.fre f); clear f)
            clear HK q3 B3 HR3 F3
            have HTW := hid (twice_go (l := cols.map Col.name) (R := fun k => k < w5.heap.size) (by
              have := own_sl HR4.out.own (R := fun k => k < w5.heap.size) (fun k hk => HR4.out.lt hk)
              rw [List.length_map]; exact this) (fun _ h => h) (by rw [List.length_map]; exact hlc) (fun s hs => by
                obtain ⟨x, hx, rfl⟩ := List.mem_map.1 hs
                exact HSS.out x hx))
            have HFI := hid (fun w' (f : Fr (fun _ => False) w5 w') => find_go (HC.out.fre (F4.out.trans f (fun _ h _ => h))) (by omega) table)
            obtain ⟨dp, hdp⟩ : ∃ b, dup (cols.map Col.name) = b := ⟨_, rfl⟩
            obtain ⟨z, hz⟩ : ∃ z, find (ts.map TabV.t) table = z := ⟨_, rfl⟩
            rw [hdp] at HTW HE3
            rw [hz] at HFI HE3
            have HZ := hid hz
            have HDP := hid hdp
            clear hdp hz
            cases dp with
            | true =>
              have HX := hid (HE3.out.trans (if_pos (.inl rfl)))
              clear HE3
              go_wp2_with (go_at_call 83; refine HTW.out.mono ?_; rintro e w6 ⟨rfl, f⟩; have F5 := hid (F4.out.trans f (fun _ h _ => h)); clear f)
              go_ret
              exact create_fin HC.out HX.out (by decide) F5.out
            | false =>
              by_cases hz0 : 0 ≤ z
              · have HX := hid (HE3.out.trans (if_pos (.inr hz0)))
                clear HE3
                go_wp2_with (first
                  | (go_at_call 83; refine HTW.out.mono ?_; rintro e w6 ⟨rfl, f⟩; have q1 := (Blk.fr B4.out f (fun h => h)).cell 1; have F5 := hid f; clear f)
                  | (go_at_call 84; refine (HFI.out _ F5.out).mono ?_; rintro e w7 ⟨rfl, f⟩; have F6 := hid ((F4.out.trans F5.out (fun _ h _ => h)).trans f (fun _ h _ => h)); clear f))
                go_ret
                exact create_fin HC.out HX.out (by decide) F6.out
              · have HE4 := hid (HE3.out.trans (if_neg (by rintro (h | h) <;> first | cases h | omega)))
                clear HE3
                go_upto_region 8 with (first
                  | (go_at_call 83; refine HTW.out.mono ?_; rintro e w6 ⟨rfl, f⟩; have q1 := (Blk.fr B4.out f (fun h => h)).cell 1; have F5 := hid f; clear f)
                  | (go_at_call 84; refine (HFI.out _ F5.out).mono ?_; rintro e w7 ⟨rfl, f⟩; have F6 := hid (F5.out.trans f (fun _ h _ => h)); clear f))
                have HC7 := hid (HC.out.fre (F4.out.trans F6.out (fun _ h _ => h)))
                have B7 := hid (Blk.fr B4.out F6.out (fun h => h))
                have F7 := hid (F4.out.trans F6.out (fun _ h _ => h))
                clear HTW HFI HZ HDP q1 F5 F6 B4 HR4 F4
                obtain ⟨av, cv, rfl, hcap⟩ := HC.out.r.slice
                have k0 : w7.cell? ⟨c, 0, none⟩ = some (.slice av ts.length cv) := HC7.out.b.cell 0
                rw [List.length_map] at HE4
                by_cases h8 : ts.length = 8
                · have HX := hid (HE4.out.trans (if_pos (by omega)))
                  have i3 : ((ts.length : Int) == 8) = true := by simp [h8]
                  clear HE4 h8
                  go_wp2_with (fail)
                  go_ret
                  exact create_fin HC.out HX.out (by decide) F7.out
                · have HX := hid (HE4.out.trans (if_neg (by omega)))
                  have i3 : ((ts.length : Int) == 8) = false := by rw [beq_eq_false_iff_ne]; omega
                  clear HE4 h8
                  go_upto_region 10 with fail
                  have fd := (Fr.refl (fun _ => False) w7).drew
                  have F8 := hid (F7.out.trans fd (fun _ h _ => h))
                  have HC8 := hid (HC7.out.fre fd)
                  have B8 := hid (Blk.fr B7.out fd (fun h => h))
                  have HCL := hid (Clone_col (HSC.out.fr F8.out (fun _ _ h => h)) hlc)
                  clear fd k0 F7 HC7 B7
                  refine wp_region_scr (.take 0 (.take 1 (.take 2 (.take 3 (.take 4 (.take 5 (.take 6 (.take 7 (.take 8 (.take 9 (.take 10 (.take 11 (.take 12 (.take 13 (.op 14 (.op 15 (.op 16 (.op 17 (.take 18 .done))))))))))))))))))) (fun kz w => (kz ≤ 18 → w.cell? ⟨c, 0, none⟩ = some (.slice av ts.length cv) ∧ w.cell? ⟨d, 1, none⟩ = some (.string (bs table)) ∧ w.cell? ⟨d, 3, none⟩ = some (.slice oc cols.length cc)) ∧ True) (by kernel_rfl) (by kernel_rfl) (by intro c a d v w h; cases d <;> exact h) ?_
                  repeat
                    first
                    | (refine wpT_pure rfl rfl rfl ?_; apply Exists.intro; refine ⟨?_, ?_⟩; intro w; (first | (obtain ⟨qa1, qa2, qa3⟩ := qa; go_simp <;> rfl) | (go_simp <;> rfl)); simp only [Act.put, List.setIfInBounds_toArray, List.set_cons_zero, List.set_cons_succ])
                    | (refine wpT_take 18 rfl rfl (by decide +kernel) ⟨fun _ => ⟨HC8.out.b.cell 0, B8.out.cell 1, B8.out.cell 3⟩, trivial⟩ ?_; apply Exists.intro; refine ⟨?_, ?_⟩; intro w hw; (have qa := hw.1 (Nat.le_refl _); have qb := hw.2); (first | (obtain ⟨qa1, qa2, qa3⟩ := qa; go_simp <;> rfl) | (go_simp <;> rfl)); simp only [Act.put, List.setIfInBounds_toArray, List.set_cons_zero, List.set_cons_succ])
                    | (refine wpT_skip rfl rfl ?_; simp only [Act.put, List.setIfInBounds_toArray, List.set_cons_zero, List.set_cons_succ])
                  refine wpT_op rfl ?_
                  go_wp2_with ((go_at_call 85; refine HCL.out.mono ?_; rintro e w8 ⟨v8, rfl, hr, f⟩; obtain ⟨a8, c8, rfl, _⟩ := hr.slice; have HR8 := hid (hr.low (A := w.heap.size) F8.out.size); have F9 := hid (F8.out.trans f (fun _ h _ => h)); have HC9 := hid (HC8.out.fre f); have B9 := hid (Blk.fr B8.out f (fun h => h)); clear hr f))
                  (refine ⟨?_, ?_⟩; focus (intro kz hk hk2 hh; first | (exfalso; simp at hk2; omega) | exact hh | exact (fun h => absurd h (by omega)) | obtain ⟨qa, qb⟩ := hh; first | exact ⟨qa, qb⟩ | (refine ⟨fun h => absurd h (by omega), ?_⟩; first | exact qb | (exact ⟨HC9.out.b.cell 0, B9.out.cell 1, B9.out.cell 3⟩)) | (refine ⟨fun h => ?_, ?_⟩; (have qa := qa h); all_goals (first | exact qa | exact qb | (exact ⟨HC9.out.b.cell 0, B9.out.cell 1, B9.out.cell 3⟩)))))
                  refine wpT_op rfl ?_
                  go_wp2_with (fail)
                  (refine ⟨?_, ?_⟩; focus (intro kz hk hk2 hh; first | (exfalso; simp at hk2; omega) | exact hh | exact (fun h => absurd h (by omega)) | obtain ⟨qa, qb⟩ := hh; first | exact ⟨qa, qb⟩ | (refine ⟨fun h => absurd h (by omega), ?_⟩; first | exact qb | (exact ⟨HC9.out.b.cell 0, B9.out.cell 1, B9.out.cell 3⟩)) | (refine ⟨fun h => ?_, ?_⟩; (have qa := qa h); all_goals (first | exact qa | exact qb | (exact ⟨HC9.out.b.cell 0, B9.out.cell 1, B9.out.cell 3⟩)))))
                  have FA := hid (fun o => (Fr.refl (fun _ => False) w8).alloc o)
                  refine wpT_op rfl ?_
                  go_wp2_with (fail)
                  (refine ⟨?_, ?_⟩; focus (intro kz hk hk2 hh; first | (exfalso; simp at hk2; omega) | exact hh | exact (fun h => absurd h (by omega)) | obtain ⟨qa, qb⟩ := hh; first | exact ⟨qa, qb⟩ | (refine ⟨fun h => absurd h (by omega), ?_⟩; first | exact qb | (exact ⟨(HC9.out.fre (FA.out _)).b.cell 0, (Blk.fr B9.out (FA.out _) (fun h => h)).cell 1, (Blk.fr B9.out (FA.out _) (fun h => h)).cell 3⟩)) | (refine ⟨fun h => ?_, ?_⟩; (have qa := qa h); all_goals (first | exact qa | exact qb | (exact ⟨(HC9.out.fre (FA.out _)).b.cell 0, (Blk.fr B9.out (FA.out _) (fun h => h)).cell 1, (Blk.fr B9.out (FA.out _) (fun h => h)).cell 3⟩)))))
                  have HNC := hid (HC9.out.r.ne HC9.out.b (by decide))
                  have HND := hid (HC9.out.r.ne B9.out (by decide))
                  refine wpT_op rfl ?_
                  go_wp2_with ((at_builtin; refine wpList_app1 rfl (s := .tmp 55) (x := .tmp 68) (t := 91) rfl Try.underlying91 info_tab rfl rfl rfl HC9.out.r (Nat.zero_le _) rfl (by simp [Value.oneCell']) (by omega) (by omega) ?_; intro ab ac wg APP; have HG := hid APP; have BC := hid (Blk.fr HC9.out.b APP.fr (fun hk => HNC.out _ hk rfl)); have BD := hid (Blk.fr B9.out APP.fr (fun hk => HND.out _ hk rfl)); clear APP))
                  (refine ⟨?_, ?_⟩; focus (intro kz hk hk2 hh; first | (exfalso; simp at hk2; omega) | exact hh | exact (fun h => absurd h (by omega)) | obtain ⟨qa, qb⟩ := hh; first | exact ⟨qa, qb⟩ | (refine ⟨fun h => absurd h (by omega), ?_⟩; first | exact qb | (exact ⟨BC.out.cell 0, BD.out.cell 1, BD.out.cell 3⟩)) | (refine ⟨fun h => ?_, ?_⟩; (have qa := qa h); all_goals (first | exact qa | exact qb | (exact ⟨BC.out.cell 0, BD.out.cell 1, BD.out.cell 3⟩)))))
                  repeat
                    first
                    | (refine wpT_pure rfl rfl rfl ?_; apply Exists.intro; refine ⟨?_, ?_⟩; intro w; ((go_simp <;> rfl)); simp only [Act.put, List.setIfInBounds_toArray, List.set_cons_zero, List.set_cons_succ])
                    | (refine wpT_take 18 rfl rfl (by decide +kernel) ⟨fun _ => ⟨BC.out.cell 0, BD.out.cell 1, BD.out.cell 3⟩, trivial⟩ ?_; apply Exists.intro; refine ⟨?_, ?_⟩; intro w hw; (have qa := hw.1 (Nat.le_refl _); have qb := hw.2); ((go_simp <;> rfl)); simp only [Act.put, List.setIfInBounds_toArray, List.set_cons_zero, List.set_cons_succ])
                    | (refine wpT_skip rfl rfl ?_; simp only [Act.put, List.setIfInBounds_toArray, List.set_cons_zero, List.set_cons_succ])
                  refine wpT_nil ?_
                  have k0 : wg.cell? ⟨c, 0, none⟩ = some (.slice av ts.length cv) := BC.out.cell 0
                  have z0 : wg.frozen? ⟨c, 0, none⟩ = false := BC.out.frozen 0
                  have HE := hid (create_end HC.out HX.out F9.out HR8.out HG.out)
                  have HZ := hid (show (0 : Int) = (create (ts.map TabV.t) ⟨kind, table, name, cols, names, join⟩).2 from by unfold create; rw [if_pos HX.out])
                  go_wp2_with (fail)
                  go_ret
                  exact ⟨ret_int HZ.out, HE.out.1, HE.out.2⟩
end Go.Proofs.Ytiimomgbklgicaa
