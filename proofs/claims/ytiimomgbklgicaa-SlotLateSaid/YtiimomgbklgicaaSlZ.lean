import Derived.Test.YtiimomgbklgicaaSlY
/- The reference's Same on two lists of transactions that are the same. -/
set_option linter.unusedVariables false
namespace Go.Proofs.Ytiimomgbklgicaa
open Go.RowKit Go.VB Go.VB.Oct Go.VB.Cat Go.VB.Rec Go.VB.Slt
/-- a transaction to be read -/
structure TxnS (R : Nat → Prop) (W : World) (x : TxnV) : Prop where
  r : Sl R W x.v x.cs.length (x.cs.flatMap ChgV.cells)
  c : ∀ c ∈ x.cs, ChgS R W c
structure TxnsS (R : Nat → Prop) (W : World) (v : Value) (xs : List TxnV) : Prop where
  r : Sl R W v xs.length (xs.flatMap TxnV.cells)
  t : ∀ x ∈ xs, TxnS R W x
theorem ChgS.mono {R R' : Nat → Prop} {W : World} {c : ChgV} (h : ChgS R W c) (hR : ∀ k, R k → R' k) : ChgS R' W c := ⟨h.n.mono hR, h.o.mono hR, h.w.mono hR, h.ln, h.lo, h.lw⟩
theorem TxnsR.s {B : Nat} {W : World} {u : Value} {xs : List TxnV} (h : TxnsR B W u xs) : TxnsS (fun k => B ≤ k) W u xs :=
  ⟨h.r.sl, fun x hx => ⟨(h.t x hx).r.sl, fun c hc => ⟨((h.t x hx).c c hc).n.sl, ((h.t x hx).c c hc).o.sl, ((h.t x hx).c c hc).w.sl, ((h.t x hx).c c hc).ln, ((h.t x hx).c c hc).lo, ((h.t x hx).c c hc).lw⟩⟩⟩
theorem TxnsS.fr {R U : Nat → Prop} {W W' : World} {u : Value} {xs : List TxnV} (h : TxnsS R W u xs) (f : Fr U W W') (hU : ∀ k, R k → ¬ U k) : TxnsS R W' u xs :=
  ⟨h.r.fr f hU, fun x hx => ⟨(h.t x hx).r.fr f hU, fun c hc => ((h.t x hx).c c hc).fr f hU⟩⟩
theorem TxnsS.fre {R : Nat → Prop} {W W' : World} {u : Value} {xs : List TxnV} (h : TxnsS R W u xs) (f : Fr (fun _ => False) W W') : TxnsS R W' u xs := h.fr f (fun _ _ h => h)
set_option maxRecDepth 20000 in
set_option maxHeartbeats 8000000 in
theorem Same_go {R R' : Nat → Prop} {w : World} {u1 u2 : Value} {xs ys : List TxnV} (h1 : TxnsS R w u1 xs) (h2 : TxnsS R' w u2 ys) (he : xs.map TxnV.t = ys.map TxnV.t) (hn : xs.length ≤ 1099511627776) (hc : ∀ x ∈ xs, x.cs.length ≤ 1099511627776) :
    Calls Try.prog 13 #[u1, u2] w fun e w' => e = .returned (.bool true) ∧ Fr (fun _ => False) w w' := by
  have H1 := hid h1
  have H2 := hid h2
  have HCN := hid hc
  have HL := hid (show ys.length = xs.length from by have := congrArg List.length he; rw [List.length_map, List.length_map] at this; exact this.symm)
  have HAT := hid (fun (t : Nat) (ht : t < xs.length) => show xs[t].lsn = (ys[t]'(by rw [HL.out]; exact ht)).lsn ∧ xs[t].cs.map ChgV.c = (ys[t]'(by rw [HL.out]; exact ht)).cs.map ChgV.c from by
    have h3 : t < ys.length := by rw [HL.out]; exact ht
    have e := congrArg (fun l => l[t]?) he
    simp only [List.getElem?_map, List.getElem?_eq_getElem ht, List.getElem?_eq_getElem h3, Option.map_some, Option.some.injEq] at e
    exact ⟨(Prod.mk.inj e).1, (Prod.mk.inj e).2⟩)
  obtain ⟨a1, c1, e1, -, -⟩ := h1.r
  obtain ⟨a2, c2, e2, -, -⟩ := h2.r
  subst e1
  rw [HL.out] at e2
  subst e2
  have HS1 := hid h1.r
  have HS2 := hid h2.r
  have F0 := hid (Fr.refl (fun _ => False) w)
  obtain ⟨n, hn'⟩ : ∃ n, n = xs.length := ⟨_, rfl⟩
  rw [← hn'] at HS1 HS2 H1 H2 hn ⊢
  have HNE := hid hn'
  clear h1 h2 hc he hn'
  go_enter Try.func13, Try.ntmps13
  go_wp2_with (fail)
  go_loopw [5] (fun s5 wr => ∃ t : Nat, t ≤ n ∧ s5 = .int .i64 t ∧ Fr (fun _ => False) w wr) (fun s5 _ => n - (intOf s5).toNat)
  case atStart => exact ⟨0, by omega, rfl, F0.out⟩
  case round =>
    obtain ⟨t, ht, rfl, hf⟩ := hrel
    have FR := hid hf
    clear hf F0
    rename World => WR
    by_cases htn : t < n
    · have htx : t < xs.length := by rw [← HNE.out]; exact htn
      have hty : t < ys.length := by rw [HL.out]; exact htx
      have HXD := hid (HAT.out t htx)
      obtain ⟨g, o, rfl, rx⟩ := sl_at (k := 2) (by decide) (fun _ => rfl) (show Sl R w (.slice a1 n c1) xs.length (xs.flatMap TxnV.cells) from by have := HS1.out; rw [HNE.out] at this ⊢; exact this) htx
      obtain ⟨g', o', rfl, ry⟩ := sl_at (k := 2) (by decide) (fun _ => rfl) (show Sl R' w (.slice a2 n c2) ys.length (ys.flatMap TxnV.cells) from HS2.out) hty
      have HTX := hid (H1.out.t _ (List.getElem_mem htx))
      have HTY := hid (H2.out.t _ (List.getElem_mem hty))
      have HCX := hid (HCN.out _ (List.getElem_mem htx))
      obtain ⟨x, hx⟩ : ∃ x, x = xs[t] := ⟨_, rfl⟩
      obtain ⟨y, hy⟩ : ∃ y, y = ys[t] := ⟨_, rfl⟩
      rw [← hx] at HXD HTX rx HCX
      rw [← hy] at HXD HTY ry
      clear hx hy
      have HYL := hid (show y.cs.length = x.cs.length from by have := congrArg List.length HXD.out.2; rw [List.length_map, List.length_map] at this; exact this.symm)
      obtain ⟨ax, cx, ex, -, -⟩ := HTX.out.r
      obtain ⟨ay, cy, ey, -, -⟩ := HTY.out.r
      rw [HYL.out] at ey
      have HEX := hid ex
      have HEY := hid ey
      obtain ⟨m, hm⟩ : ∃ m, m = x.cs.length := ⟨_, rfl⟩
      rw [← hm] at ex ey HYL HEX HEY HCX
      have HME := hid hm
      have HPX := hid (show w.cell? ⟨g, o + t * 2 + 1, none⟩ = some (.slice ax m cx) from rx 1 (.slice ax m cx) (by show some x.v = _; rw [ex]))
      have HPY := hid (show w.cell? ⟨g', o' + t * 2 + 1, none⟩ = some (.slice ay m cy) from ry 1 (.slice ay m cy) (by show some y.v = _; rw [ey]))
      have p0 := cell_fr (show w.cell? ⟨g, o + t * 2, none⟩ = some (.int .i64 x.lsn) from by have := rx 0 (.int .i64 x.lsn) rfl; simpa using this) FR.out (fun h => h)
      have p1 := cell_fr (show w.cell? ⟨g', o' + t * 2, none⟩ = some (.int .i64 x.lsn) from by have := ry 0 (.int .i64 y.lsn) rfl; rw [← HXD.out.1] at this; simpa using this) FR.out (fun h => h)
      have p2 := cell_fr HPX.out FR.out (fun h => h)
      have p3 := cell_fr HPY.out FR.out (fun h => h)
      have i1 : (0 : Int) ≤ (t : Int) := by omega
      have i2 : (t : Int) < (n : Int) := by omega
      have w1 : IntKind.i64.wrap ((t : Int) + 1) = (t : Int) + 1 := IntWalk.i64_in _ (by omega)
      generalize x.lsn = lx at *
      clear ex ey hm rx ry HAT
      go_upto_region 6 with fail
      go_quiet (fail)
      have FQ := hid (FR.out.drewN nq)
      clear p0 p1 p2 p3 FR
      generalize WR.drewN nq = WQ at *
      go_wp2_with (fail)
      go_loopw [6] (fun s6 wr => ∃ k : Nat, k ≤ m ∧ s6 = .int .i64 k ∧ Fr (fun _ => False) w wr) (fun s6 _ => m - (intOf s6).toNat)
      case atStart => exact ⟨0, by omega, rfl, FQ.out⟩
      case round =>
        obtain ⟨k, hk, rfl, hf⟩ := hrel
        have FK := hid hf
        clear hf FQ
        rename World => WK
        have p2 := cell_fr HPX.out FK.out (fun h => h)
        by_cases hkm : k < m
        · have p3 := cell_fr HPY.out FK.out (fun h => h)
          have hkx : k < x.cs.length := by rw [← HME.out]; exact hkm
          have hky : k < y.cs.length := by rw [HYL.out]; exact hkm
          have HCC := hid (show x.cs[k].c = y.cs[k].c from by
            have e := congrArg (fun l => l[k]?) HXD.out.2
            simp only [List.getElem?_map, List.getElem?_eq_getElem hkx, List.getElem?_eq_getElem hky, Option.map_some, Option.some.injEq] at e
            exact e)
          obtain ⟨gx, ox, rfl, rx⟩ := sl_at (k := 5) (by decide) (fun _ => rfl) (show Sl R w (.slice ax m cx) x.cs.length (x.cs.flatMap ChgV.cells) from by rw [← HEX.out]; exact HTX.out.r) hkx
          obtain ⟨gy, oy, rfl, ry⟩ := sl_at (k := 5) (by decide) (fun _ => rfl) (show Sl R' w (.slice ay m cy) y.cs.length (y.cs.flatMap ChgV.cells) from by rw [← HEY.out]; exact HTY.out.r) hky
          have HX := hid (HTX.out.c _ (List.getElem_mem hkx))
          have HY := hid (HTY.out.c _ (List.getElem_mem hky))
          obtain ⟨b, hb⟩ : ∃ b, b = x.cs[k] := ⟨_, rfl⟩
          obtain ⟨d, hd⟩ : ∃ d, d = y.cs[k] := ⟨_, rfl⟩
          rw [← hb] at HX HCC rx
          rw [← hd] at HY HCC ry
          clear hb hd
          obtain ⟨cc, vn, vo, vw⟩ := b
          obtain ⟨dc, un, uo, uw⟩ := d
          have hcc := HCC.out
          dsimp only at hcc
          subst hcc
          obtain ⟨kind, table, names, old, new⟩ := cc
          obtain ⟨x1, z1, g1, -, -⟩ := HX.out.n
          obtain ⟨x2, z2, g2, -, -⟩ := HX.out.o
          obtain ⟨x3, z3, g3, -, -⟩ := HX.out.w
          obtain ⟨y1, v1, g4, -, -⟩ := HY.out.n
          obtain ⟨y2, v2, g5, -, -⟩ := HY.out.o
          obtain ⟨y3, v3, g6, -, -⟩ := HY.out.w
          dsimp only at g1 g2 g3 g4 g5 g6
          subst g1 g2 g3 g4 g5 g6
          have q0 : WK.cell? ⟨gx, ox + k * 5, none⟩ = some (.int .i64 kind) := cell_fr (show w.cell? ⟨gx, ox + k * 5, none⟩ = some (.int .i64 kind) from by have := rx 0 (.int .i64 kind) rfl; simpa using this) FK.out (fun h => h)
          have q1 : WK.cell? ⟨gx, ox + k * 5 + 1, none⟩ = some (.string (bs table)) := cell_fr (rx 1 (.string (bs table)) rfl) FK.out (fun h => h)
          have q2 : WK.cell? ⟨gx, ox + k * 5 + 2, none⟩ = some (.slice x1 names.length z1) := cell_fr (rx 2 (.slice x1 names.length z1) rfl) FK.out (fun h => h)
          have q3 : WK.cell? ⟨gx, ox + k * 5 + 3, none⟩ = some (.slice x2 old.length z2) := cell_fr (rx 3 (.slice x2 old.length z2) rfl) FK.out (fun h => h)
          have q4 : WK.cell? ⟨gx, ox + k * 5 + 4, none⟩ = some (.slice x3 new.length z3) := cell_fr (rx 4 (.slice x3 new.length z3) rfl) FK.out (fun h => h)
          have fa := (Fr.refl (fun _ => False) WK).alloc (.cells #[.int .i64 kind, .string (bs table), .slice x1 names.length z1, .slice x2 old.length z2, .slice x3 new.length z3] 48)
          have D7 := hid (Blk.new WK [.int .i64 kind, .string (bs table), .slice x1 names.length z1, .slice x2 old.length z2, .slice x3 new.length z3] 48)
          have F7 := hid (FK.out.trans fa (fun _ h _ => h))
          have j1 : (0 : Int) ≤ (k : Int) := by omega
          have j2 : (k : Int) < (m : Int) := by omega
          have w2 : IntKind.i64.wrap ((k : Int) + 1) = (k : Int) + 1 := IntWalk.i64_in _ (by have := HCX.out; omega)
          clear fa rx
          go_upto_region 12 with fail
          clear q0 q1 q2 q3 q4 p2 p3 FK
          generalize WK.heap.size = d7 at *
          generalize WK.alloc _ = W7 at *
          have p3 := cell_fr HPY.out F7.out (fun h => h)
          have q0 : W7.cell? ⟨gy, oy + k * 5, none⟩ = some (.int .i64 kind) := cell_fr (show w.cell? ⟨gy, oy + k * 5, none⟩ = some (.int .i64 kind) from by have := ry 0 (.int .i64 kind) rfl; simpa using this) F7.out (fun h => h)
          have q1 : W7.cell? ⟨gy, oy + k * 5 + 1, none⟩ = some (.string (bs table)) := cell_fr (ry 1 (.string (bs table)) rfl) F7.out (fun h => h)
          have q2 : W7.cell? ⟨gy, oy + k * 5 + 2, none⟩ = some (.slice y1 names.length v1) := cell_fr (ry 2 (.slice y1 names.length v1) rfl) F7.out (fun h => h)
          have q3 : W7.cell? ⟨gy, oy + k * 5 + 3, none⟩ = some (.slice y2 old.length v2) := cell_fr (ry 3 (.slice y2 old.length v2) rfl) F7.out (fun h => h)
          have q4 : W7.cell? ⟨gy, oy + k * 5 + 4, none⟩ = some (.slice y3 new.length v3) := cell_fr (ry 4 (.slice y3 new.length v3) rfl) F7.out (fun h => h)
          have fb := (Fr.refl (fun _ => False) W7).alloc (.cells #[.int .i64 kind, .string (bs table), .slice y1 names.length v1, .slice y2 old.length v2, .slice y3 new.length v3] 48)
          have D8 := hid (Blk.new W7 [.int .i64 kind, .string (bs table), .slice y1 names.length v1, .slice y2 old.length v2, .slice y3 new.length v3] 48)
          have D78 := hid (Blk.fr D7.out fb (fun h => h))
          have F8 := hid (F7.out.trans fb (fun _ h _ => h))
          clear fb ry
          go_upto_region 13 with fail
          clear q0 q1 q2 q3 q4 p3 F7 D7
          generalize W7.heap.size = d8 at *
          generalize W7.alloc _ = W8 at *
          have r2 : W8.cell? ⟨d7, 2, none⟩ = some (.slice x1 names.length z1) := D78.out.cell 2
          have s2 : W8.cell? ⟨d8, 2, none⟩ = some (.slice y1 names.length v1) := D8.out.cell 2
          have HT := hid (texts_go (HX.out.n.fr F8.out (fun _ _ h => h)) (HY.out.n.fr F8.out (fun _ _ h => h)) (by have := HX.out.ln; omega))
          go_upto_region 14 with (go_at_call 33; refine HT.out.mono ?_; rintro e w9 ⟨rfl, f⟩; have F9 := hid (F8.out.trans f (fun _ h _ => h)); have D79 := hid (Blk.fr D78.out f (fun h => h)); have D89 := hid (Blk.fr D8.out f (fun h => h)); clear f)
          clear r2 s2 HT F8 D78 D8
          have r3 : w9.cell? ⟨d7, 3, none⟩ = some (.slice x2 old.length z2) := D79.out.cell 3
          have s3 : w9.cell? ⟨d8, 3, none⟩ = some (.slice y2 old.length v2) := D89.out.cell 3
          have HO := hid (r2Same_go (HX.out.o.fr F9.out (fun _ _ h => h)) (HY.out.o.fr F9.out (fun _ _ h => h)) (by have := HX.out.lo; omega))
          go_upto_region 15 with (go_at_call 34; refine HO.out.mono ?_; rintro e w10 ⟨rfl, f⟩; have F10 := hid (F9.out.trans f (fun _ h _ => h)); have D710 := hid (Blk.fr D79.out f (fun h => h)); have D810 := hid (Blk.fr D89.out f (fun h => h)); clear f)
          clear r3 s3 HO F9 D79 D89
          have r4 : w10.cell? ⟨d7, 4, none⟩ = some (.slice x3 new.length z3) := D710.out.cell 4
          have s4 : w10.cell? ⟨d8, 4, none⟩ = some (.slice y3 new.length v3) := D810.out.cell 4
          have HN := hid (r2Same_go (HX.out.w.fr F10.out (fun _ _ h => h)) (HY.out.w.fr F10.out (fun _ _ h => h)) (by have := HX.out.lw; omega))
          go_upto_region 16 with (go_at_call 34; refine HN.out.mono ?_; rintro e w11 ⟨rfl, f⟩; have F11 := hid (F10.out.trans f (fun _ h _ => h)); have D711 := hid (Blk.fr D710.out f (fun h => h)); have D811 := hid (Blk.fr D810.out f (fun h => h)); clear f)
          clear r4 s4 HN F10 D710 D810
          have r0 : w11.cell? ⟨d7, 0, none⟩ = some (.int .i64 kind) := D711.out.cell 0
          have s0 : w11.cell? ⟨d8, 0, none⟩ = some (.int .i64 kind) := D811.out.cell 0
          have r1 : w11.cell? ⟨d7, 1, none⟩ = some (.string (bs table)) := D711.out.cell 1
          have s1 : w11.cell? ⟨d8, 1, none⟩ = some (.string (bs table)) := D811.out.cell 1
          go_wp2_with (fail)
          go_roundw
          case rel => exact ⟨k + 1, by omega, by go_num, F11.out⟩
          case measure => simp [intOf]; omega
        · obtain rfl : k = m := by omega
          have j2 : ¬ ((k : Int) < (k : Int)) := by omega
          go_wp2_with (fail)
          go_roundw
          case rel => exact ⟨t + 1, by omega, by go_num, FK.out⟩
          case measure => simp [intOf]; omega
    · obtain rfl : t = n := by omega
      have j2 : ¬ ((t : Int) < (t : Int)) := by omega
      go_wp2_with (fail)
      go_ret
      exact ⟨rfl, FR.out⟩
end Go.Proofs.Ytiimomgbklgicaa
