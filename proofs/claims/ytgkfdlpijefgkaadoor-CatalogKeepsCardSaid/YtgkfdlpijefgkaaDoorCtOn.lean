import Derived.Test.YtgkfdlpijefgkaaDoorCtMl
/- The law's unlike, once: names that are all different. -/
set_option linter.unusedVariables false
namespace Go.VB.Cat
open Go.VB.Oct
theorem nodup_ne {l : List Bs} (h : l.Nodup) {i k : Nat} (hi : i < l.length) (hk : k < i) : (l[i] == l[k]'(by omega)) = false := by
  have := nodup_at h hi hk
  simpa using this
end Go.VB.Cat
namespace Go.Proofs.YtgkfdlpijefgkaaDoor
open Go.RowKit Go.VB Go.VB.Oct Go.VB.Cat Go.VB.Rec
set_option maxRecDepth 20000 in
theorem unlike_go {R : Nat → Prop} {w : World} {va : Value} {l : List Bs} (h : Sl R w va l.length (sv l)) (nd : l.Nodup) (hl : l.length ≤ 1048576) :
    Calls Tryd.prog 47 #[va] w fun e w' => e = .returned (.bool true) ∧ Fr (fun _ => False) w w' := by
  rw [sv_scell] at h
  obtain ⟨a, c, rfl, hc, hx⟩ := h
  have HX := hid (show Sl R w (.slice a l.length c) l.length (l.flatMap scell) from ⟨a, c, rfl, hc, hx⟩)
  have HND := hid nd
  have F0 := hid (Fr.refl (fun _ => False) w)
  clear hx nd
  go_enter Tryd.func47, Tryd.ntmps47
  go_wp2_with (fail)
  go_loopw [3, 4] (fun i _ wr => ∃ j : Nat, j ≤ l.length ∧ i = .int .i64 j ∧ Fr (fun _ => False) w wr) (fun i _ _ => l.length - (intOf i).toNat)
  case atStart => exact ⟨0, by omega, rfl, F0.out⟩
  case round =>
    obtain ⟨i, hi, rfl, hf⟩ := hrel
    have FR := hid hf
    clear hf F0
    have i1 : (0 : Int) ≤ (i : Int) := by omega
    have i5 : IntKind.i64.wrap ((i : Int) + 1) = (i : Int) + 1 := IntWalk.i64_in _ (by omega)
    by_cases hil : i < l.length
    · have i2 : (i : Int) < (l.length : Int) := by omega
      go_wp2_with (fail)
      go_loopw [4] (fun k wr => ∃ j : Nat, j ≤ i ∧ k = .int .i64 j ∧ Fr (fun _ => False) w wr) (fun k _ => i - (intOf k).toNat)
      case atStart => exact ⟨0, by omega, rfl, FR.out⟩
      case round =>
        obtain ⟨k, hk, rfl, hf⟩ := hrel
        have FQ := hid hf
        clear hf FR
        by_cases hki : k < i
        · have j1 : (0 : Int) ≤ (k : Int) := by omega
          have j2 : (k : Int) < (i : Int) := by omega
          have j3 : (k : Int) < (l.length : Int) := by omega
          have j5 : IntKind.i64.wrap ((k : Int) + 1) = (k : Int) + 1 := IntWalk.i64_in _ (by omega)
          have hkl : k < l.length := by omega
          obtain ⟨g, o, rfl, -, hcell⟩ := sl_cell1 (f := scell) scell_len (HX.out.fr FQ.out (fun _ _ h => h)) (by intro e; rw [e] at hil; simp at hil)
          have hq1 := hcell i hil
          have hq2 := hcell k hkl
          have hne := nodup_ne HND.out hil hki
          have HNE := hid (show ((bs l[i]).toList == (bs l[k]).toList) = false from by rw [beq_bs]; exact hne)
          obtain ⟨x, hx⟩ : ∃ x, x = l[i] := ⟨_, rfl⟩
          obtain ⟨y, hy⟩ : ∃ y, y = l[k] := ⟨_, rfl⟩
          rw [← hx] at hq1 HNE
          rw [← hy] at hq2 HNE
          clear hx hy hne hcell
          have HQ1 := hid hq1
          have HQ2 := hid hq2
          clear hq1 hq2
          have hne := HNE.out
          go_upto_region 7 with fail
          refine wp_region_scr (.take 0 (.take 1 (.take 2 (.take 3 (.take 4 (.take 5 (.take 6 (.take 7 (.take 8 .done))))))))) (fun kz w => (kz ≤ 9 → (w.cell? ⟨g, o + i, none⟩ = some (.string (bs x)) ∧ w.cell? ⟨g, o + k, none⟩ = some (.string (bs y)))) ∧ Hid True) (by kernel_rfl) (by kernel_rfl) (by intro c a d v w h; cases d <;> exact h) ?_
          repeat
            first
            | (refine wpT_pure rfl rfl rfl ?_; apply Exists.intro; refine ⟨?_, ?_⟩; intro w; (first | ((obtain ⟨q1, q2⟩ := qa; go_simp <;> rfl)) | (go_simp <;> rfl)); simp only [Act.put, List.setIfInBounds_toArray, List.set_cons_zero, List.set_cons_succ])
            | (refine wpT_take 9 rfl rfl (by decide +kernel) ⟨fun _ => ⟨HQ1.out, HQ2.out⟩, hid trivial⟩ ?_; apply Exists.intro; refine ⟨?_, ?_⟩; intro w hw; (have qa := hw.1 (Nat.le_refl _); have qb := hw.2); (first | ((obtain ⟨q1, q2⟩ := qa; go_simp <;> rfl)) | (go_simp <;> rfl)); simp only [Act.put, List.setIfInBounds_toArray, List.set_cons_zero, List.set_cons_succ])
            | (refine wpT_skip rfl rfl ?_; simp only [Act.put, List.setIfInBounds_toArray, List.set_cons_zero, List.set_cons_succ])
          refine wpT_nil ?_
          have FD := hid (FQ.out.trans ((Fr.refl (fun _ => False) _).drew) (fun _ h _ => h))
          clear HQ1 HQ2 HNE hne
          go_wp2_with (fail)
          go_roundw
          case rel => exact ⟨k + 1, by omega, by simp, FD.out⟩
          case measure => simp [intOf]; omega
        · obtain rfl : k = i := by omega
          have j2 : ¬ (k : Int) < (k : Int) := by omega
          go_wp2_with (fail)
          go_roundw
          case rel => exact ⟨k + 1, by omega, by simp, FQ.out⟩
          case measure => simp [intOf]; omega
    · obtain rfl : i = l.length := by omega
      have j2 : ¬ (l.length : Int) < (l.length : Int) := by omega
      go_wp2_with (fail)
      go_ret
      exact ⟨rfl, FR.out⟩
/-- slices in different blocks -/
def Dis (a b : Value) : Prop := ∀ k, a.ownBlock = some k → ¬ b.ownBlock = some k
theorem Dis.symm {a b : Value} (h : Dis a b) : Dis b a := fun k hb ha => h k ha hb
theorem dis_low {e e' : TypeId} {s s' B B' n n' : Nat} {W : World} {v v' : Value} {xs xs' : List Value} (h : Row e s B W v n xs) (h' : Row e' s' B' W v' n' xs') (hB : W.heap.size ≤ B') : Dis v v' := fun k hk hk' => by
  have := h.lt hk; have := h'.new k hk'; omega
theorem dis_new {e e' : TypeId} {s s' B B' n n' : Nat} {W0 W : World} {v v' : Value} {xs xs' : List Value} (h : Row e s B W0 v n xs) (h' : Row e' s' B' W v' n' xs') (hB : W0.heap.size ≤ B') : Dis v v' := fun k hk hk' => by
  have := h.lt hk; have := h'.new k hk'; omega
theorem app_dis {e e' : TypeId} {size s B B' n n' : Nat} {wb w' : World} {v v' u : Value} {xs news xs' : List Value} (a : App e size B wb w' v v' n xs news) (r : Row e' s B' wb u n' xs') (h : Dis v u) : Dis v' u := fun k hk hu => by
  rcases a.at_ k hk with h1 | h1
  · exact h k h1 hu
  · have := r.lt hu; omega
theorem app_keep {e e' : TypeId} {size s B B' n n' : Nat} {wb w' : World} {v v' u : Value} {xs news xs' : List Value} (a : App e size B wb w' v v' n xs news) (r : Row e' s B' wb u n' xs') (h : Dis v u) : Row e' s B' w' u n' xs' := r.fr a.fr (fun k hk e => h k e hk)
/-- names in a slice of the call's own -/
abbrev NR (B : Nat) (W : World) (v : Value) (X : List Bs) : Prop := Row 9 1 B W v X.length (sv X)
theorem sv_snoc (X : List Bs) (x : Bs) : sv X ++ [.string (bs x)] = sv (X ++ [x]) := by simp [sv]
theorem NR.app {B B' : Nat} {wb w' : World} {v v' : Value} {X : List Bs} {x : Bs} (a : App 9 1 B wb w' v v' X.length (sv X) [.string (bs x)]) (_h : NR B' wb v X) : NR B w' v' (X ++ [x]) := a.row.cast (by simp) (sv_snoc X x)
theorem NR.sl {B : Nat} {W : World} {v : Value} {X : List Bs} (h : NR B W v X) : Sl (fun _ => True) W v X.length (sv X) := h.sl' (fun _ _ => trivial)
theorem ixn_len {m : List Tab} (ok : ∀ t ∈ m, t.ixs.length ≤ 4) : (m.flatMap fun t => t.ixs.map Ix.name).length ≤ m.length * 4 := by
  induction m with
  | nil => simp
  | cons x L ih =>
    rw [List.flatMap_cons, List.length_append, List.length_cons, List.length_map]
    have := ih (fun t ht => ok t (List.mem_cons_of_mem _ ht))
    have := ok x (List.mem_cons_self ..)
    omega
theorem ixn_ys {ys : List TabV} (ok : Ok (ys.map TabV.t)) (i : Nat) : ((ys.take i).flatMap (fun t => t.t.ixs.map Ix.name)).length ≤ 32 := by
  have h1 := ixn_len (m := (ys.take i).map TabV.t) (fun t ht => by
    obtain ⟨y, hy, rfl⟩ := List.mem_map.1 ht
    exact (ok.tab y.t (List.mem_map_of_mem (List.mem_of_mem_take hy))).ixs)
  rw [List.flatMap_map] at h1
  have h2 := ok.len
  simp only [List.length_map, List.length_take] at h1 h2
  have h3 : (ys.take i).length ≤ 8 := by simp; omega
  omega
set_option maxRecDepth 20000 in
set_option maxHeartbeats 4000000 in
theorem once_go {B : Nat} {w : World} {v : Value} {ys : List TabV} (h : TabsR B w v ys) (ok : Ok (ys.map TabV.t)) :
    Calls Tryd.prog 23 #[v] w fun e w' => e = .returned (.bool true) ∧ Fr (fun _ => False) w w' := by
  have HY := hid h
  have HOK := hid ok
  obtain ⟨a, c, rfl, _⟩ := h.r.slice
  have hlen : ys.length ≤ 8 := by have := ok.len; simpa using this
  clear h ok
  have F0 := hid (((Fr.refl (fun _ => False) w).alloc (.cells #[] 9)).alloc (.cells #[] 9))
  have HR0 := hid (Row.built (e := 9) (n := 0) (size := 1) (B := w.heap.size) w (l := []) rfl (by decide) (Nat.le_refl _))
  have HR1 := hid (Row.built (e := 9) (n := 0) (size := 1) (B := w.heap.size + 1) (w.alloc (.cells #[] 9)) (l := []) rfl (by decide) (by rw [World.size_alloc]; omega))
  replace HR0 := hid (HR0.out.fre ((Fr.refl (fun _ => False) _).alloc (.cells #[] 9)))
  simp only [World.size_alloc] at HR1
  go_enter Tryd.func23, Tryd.ntmps23
  go_wp2_with (fail)
  go_loopw [3, 4, 5, 6, 7, 8] (fun s3 s4 s5 _ _ _ wr => ∃ (i : Nat) (a3 a4 : Option Addr) (c3 c4 : Nat) (X Y : List Bs), i ≤ ys.length ∧ s5 = .int .i64 i ∧ s3 = .slice a3 X.length c3 ∧ s4 = .slice a4 Y.length c4 ∧ X = (ys.take i).map (fun t => t.t.name) ∧ Y = (ys.take i).flatMap (fun t => t.t.ixs.map Ix.name) ∧ NR w.heap.size wr (.slice a3 X.length c3) X ∧ NR w.heap.size wr (.slice a4 Y.length c4) Y ∧ Dis (.slice a3 X.length c3) (.slice a4 Y.length c4) ∧ Fr (fun _ => False) w wr) (fun _ _ s5 _ _ _ _ => ys.length - (intOf s5).toNat)
  case atStart => exact ⟨0, _, _, _, _, [], [], by omega, rfl, rfl, rfl, rfl, rfl, HR0.out, HR1.out.low (by omega), fun k h1 h2 => by simp [Value.ownBlock] at h1 h2; omega, F0.out⟩
  case round =>
    obtain ⟨i, a3, a4, c3, c4, X, Y, hi, rfl, rfl, rfl, hX, hY, hrx, hry, hd, hf⟩ := hrel
    have HX := hid hX
    have HYE := hid hY
    have HRX := hid hrx
    have HRY := hid hry
    have HD := hid hd
    have FR := hid hf
    clear hX hY hrx hry hd hf HR0 HR1 F0
    have i1 : (0 : Int) ≤ (i : Int) := by omega
    have i5 : IntKind.i64.wrap ((i : Int) + 1) = (i : Int) + 1 := IntWalk.i64_in _ (by omega)
    by_cases hil : i < ys.length
    · have i2 : (i : Int) < (ys.length : Int) := by omega
      obtain ⟨g, rfl, -, hr⟩ := tab_at HY.out.r hil
      have HTW := hid (HY.out.t _ (List.getElem_mem hil))
      have HTK := hid (show TabOk ys[i].t from HOK.out.tab _ (List.mem_map_of_mem (List.getElem_mem hil)))
      have HX1 := hid (show X ++ [ys[i].t.name] = (ys.take (i + 1)).map (fun t => t.t.name) from by rw [List.take_succ_eq_append_getElem hil, List.map_append, ← HX.out]; rfl)
      have HY1 := hid (show Y ++ ys[i].t.ixs.map Ix.name = (ys.take (i + 1)).flatMap (fun t => t.t.ixs.map Ix.name) from by rw [List.take_succ_eq_append_getElem hil, List.flatMap_append, ← HYE.out]; simp)
      have q1 := hr 1
      have q2 := hr 2
      have q3 := hr 3
      clear hr
      have HXL := hid (show X.length ≤ 8 from by rw [HX.out]; simp; omega)
      have HYL := hid (show Y.length ≤ 1000 from by rw [HYE.out]; have := ixn_ys HOK.out i; omega)
      obtain ⟨x, hx⟩ : ∃ x, x = ys[i] := ⟨_, rfl⟩
      rw [← hx] at q1 q2 q3 HTW HTK HX1 HY1
      clear hx
      obtain ⟨ac, k3, hvc, _⟩ := HTW.out.c.slice
      obtain ⟨ai, k4, hvi, _⟩ := HTW.out.i.slice
      obtain ⟨⟨id, name, cols, ixs⟩, vc, vi, ix⟩ := x
      dsimp only at hvc hvi HTK HX1 HY1
      subst hvc hvi
      simp only [TabV.cells, List.getElem?_cons_zero, List.getElem?_cons_succ, Option.some.injEq, forall_eq'] at q1 q2 q3
      have HQ := hid (And.intro q2 q3)
      replace q1 := cell_fr q1 FR.out (fun h => h)
      clear q2 q3
      go_upto_region 7 with (at_builtin; go_loud (refine wpList_app1 rfl (s := .tmp 18) (x := .tmp 24) (t := 47) rfl Tryd.underlying47 info_str rfl rfl rfl HRX.out FR.out.size rfl (by simp [Value.oneCell']) (by have := HXL.out; omega) (by have := HXL.out; omega) ?_; intro ab ac7 wg APP; have HRX1 := hid (APP.row.low (A := w.heap.size) (Nat.le_refl _)); have HRY1 := hid (app_keep APP HRY.out HD.out); have HD1 := hid (app_dis APP HRY.out HD.out); have F1 := hid (FR.out.trans APP.fr (fun k hk hl => by have := HRX.out.new k hk; omega)); clear APP))
      rw [sv_snoc, HX1.out] at HRX1
      clear HRX HRY HD HXL q1
      have HXN := hid (show X.length + 1 = ((ys.take (i + 1)).map (fun t => t.t.name)).length from by rw [← HX1.out]; simp)
      rw [HXN.out] at HRX1 HD1 ⊢
      obtain ⟨X1, hX1⟩ : ∃ X1, X1 = (ys.take (i + 1)).map (fun t => t.t.name) := ⟨_, rfl⟩
      rw [← hX1] at HRX1 HD1 ⊢
      have HX2 := hid hX1
      clear hX1 HXN HX1
      have HRC0 := hid (Row.built (e := 9) (n := 0) (size := 1) (B := wg.heap.size) wg (l := []) rfl (by decide) (Nat.le_refl _))
      have fa := (Fr.refl (fun _ => False) wg).alloc (.cells #[] 9)
      have HRX2 := hid (HRX1.out.fre fa)
      have HRY2 := hid (HRY1.out.fre fa)
      have FA := hid fa
      have HSZ := hid (And.intro (fun k hk => HRX1.out.lt (k := k) hk) (fun k hk => HRY1.out.lt (k := k) hk))
      clear fa FR HRX1 HRY1
      go_wp2_with (fail)
      go_loopw [6, 7] (fun s6 s7 wr => ∃ (k : Nat) (a6 : Option Addr) (c6 : Nat), k ≤ cols.length ∧ s7 = .int .i64 k ∧ s6 = .slice a6 k c6 ∧ Row 9 1 wg.heap.size wr (.slice a6 k c6) k (sv ((cols.take k).map Col.name)) ∧ NR w.heap.size wr (.slice ab X1.length ac7) X1 ∧ NR w.heap.size wr (.slice a4 Y.length c4) Y ∧ Fr (fun _ => False) wg wr) (fun _ s7 _ => cols.length - (intOf s7).toNat)
      case atStart => exact ⟨0, _, _, by omega, rfl, rfl, HRC0.out, HRX2.out, HRY2.out, FA.out⟩
      case round =>
        obtain ⟨k, a6, c6, hk, rfl, rfl, hrc, hrx, hry, hf⟩ := hrel
        have HRC := hid hrc
        have HRX3 := hid hrx
        have HRY3 := hid hry
        have FG := hid hf
        have F3 := hid (F1.out.trans hf (fun _ h _ => h))
        clear hrc hrx hry hf HRC0 HRX2 HRY2 FA
        have q2 := cell_fr HQ.out.1 F3.out (fun h => h)
        have k1 : (0 : Int) ≤ (k : Int) := by omega
        have k5 : IntKind.i64.wrap ((k : Int) + 1) = (k : Int) + 1 := IntWalk.i64_in _ (by have := HTK.out.le; dsimp only at this; omega)
        by_cases hkc : k < cols.length
        · have k2 : (k : Int) < (cols.length : Int) := by omega
          obtain ⟨gc, oc, rfl, -, q⟩ := slK (k := 2) (f := Col.cells) (by decide) col_len (HTW.out.c.sl' (R := fun _ => True) (fun _ _ => trivial)) hkc
          have p0 := cell_fr (q 0 (by decide)) F3.out (fun h => h)
          have HTC := hid (show sv ((cols.take (k + 1)).map Col.name) = sv ((cols.take k).map Col.name) ++ [.string (bs cols[k].name)] from by
            rw [List.take_succ_eq_append_getElem hkc, List.map_append]
            simp [sv])
          simp only [Nat.add_zero] at p0
          have HKL := hid (show k ≤ 6 from by have := HTK.out.le; dsimp only at this; omega)
          generalize cols[k].name = cn at *
          clear q
          go_wp2_with (at_builtin; refine wpList_app1 rfl (s := .tmp 37) (x := .tmp 47) (t := 47) rfl Tryd.underlying47 info_str rfl rfl rfl HRC.out FG.out.size rfl (by simp [Value.oneCell']) (by have := HKL.out; omega) (by have := HKL.out; omega) ?_; intro ad ac8 wh APP; have HRC1 := hid (APP.row.cast rfl HTC.out.symm); have HRX4 := hid (app_keep APP HRX3.out (fun k hk hu => by have := HRC.out.new k hk; have := HSZ.out.1 k hu; omega)); have HRY4 := hid (app_keep APP HRY3.out (fun k hk hu => by have := HRC.out.new k hk; have := HSZ.out.2 k hu; omega)); have FH := hid (FG.out.trans APP.fr (fun k hk hl => by have := HRC.out.new k hk; omega)); clear APP)
          go_roundw
          case rel => exact ⟨k + 1, ad, ac8, by omega, by go_num, by rfl, HRC1.out, HRX4.out, HRY4.out, FH.out⟩
          case measure => simp [intOf]; omega
        · obtain rfl : k = cols.length := by omega
          have k2 : ¬ (cols.length : Int) < (cols.length : Int) := by omega
          rw [List.take_length] at HRC
          go_upto_region 12 with fail
          clear q2
          have HDC := hid (fun b (hb : b = wg.heap.size) => (trivial : True))
          have HDX := hid (show Dis (.slice a4 Y.length c4) (.slice a6 cols.length c6) from fun k hk hu => by have := HRC.out.new k hu; have := HSZ.out.2 k hk; omega)
          go_wp2_with (fail)
          go_loopw [4, 8] (fun s4 s8 wr => ∃ (k : Nat) (b4 : Option Addr) (d4 : Nat) (Z : List Bs), k ≤ ix.length ∧ s8 = .int .i64 k ∧ s4 = .slice b4 Z.length d4 ∧ Z = Y ++ (ix.take k).map (fun x => x.x.name) ∧ Row 9 1 wg.heap.size wr (.slice a6 cols.length c6) cols.length (sv (cols.map Col.name)) ∧ NR w.heap.size wr (.slice ab X1.length ac7) X1 ∧ NR w.heap.size wr (.slice b4 Z.length d4) Z ∧ Dis (.slice b4 Z.length d4) (.slice ab X1.length ac7) ∧ Dis (.slice b4 Z.length d4) (.slice a6 cols.length c6) ∧ Fr (fun _ => False) w wr) (fun _ s8 _ => ix.length - (intOf s8).toNat)
          case atStart => exact ⟨0, _, _, Y, by omega, rfl, rfl, by simp, HRC.out, HRX3.out, HRY3.out, HD1.out.symm, HDX.out, F3.out⟩
          case round =>
            obtain ⟨k, b4, d4, Z, hk, rfl, rfl, hz, hrc, hrx, hrz, hd1, hd2, hf⟩ := hrel
            have HZ := hid hz
            have HC3 := hid hrc
            have HX3 := hid hrx
            have HZ3 := hid hrz
            have HDD := hid (And.intro hd1 hd2)
            have F4 := hid hf
            clear hz hrc hrx hrz hd1 hd2 hf HRC HRX3 HRY3 FG F3 HDX HDC
            have q3 := cell_fr HQ.out.2 F4.out (fun h => h)
            have HIL := hid (show ix.length ≤ 4 from by have := HTK.out.ixs; have e := HTW.out.e; dsimp only at this e; rw [e, List.length_map] at this; exact this)
            have k1 : (0 : Int) ≤ (k : Int) := by omega
            have k5 : IntKind.i64.wrap ((k : Int) + 1) = (k : Int) + 1 := IntWalk.i64_in _ (by have := HIL.out; omega)
            by_cases hkc : k < ix.length
            · have k2 : (k : Int) < (ix.length : Int) := by omega
              obtain ⟨gi, oi, rfl, -, q⟩ := slK (k := 3) (f := IxV.cells) (by decide) ix_len (HTW.out.i.sl' (R := fun _ => True) (fun _ _ => trivial)) hkc
              have p0 := cell_fr (q 0 (by decide)) F4.out (fun h => h)
              have HTC := hid (show Z ++ [ix[k].x.name] = Y ++ (ix.take (k + 1)).map (fun x => x.x.name) from by
                rw [List.take_succ_eq_append_getElem hkc, List.map_append, HZ.out]
                simp)
              have HZL := hid (show Z.length ≤ 1004 from by rw [HZ.out]; have := HIL.out; have := HYL.out; simp; omega)
              simp only [Nat.add_zero] at p0
              generalize ix[k].x.name = xn at *
              clear q
              go_wp2_with (at_builtin; refine wpList_app1 rfl (s := .tmp 59) (x := .tmp 69) (t := 47) rfl Tryd.underlying47 info_str rfl rfl rfl HZ3.out F4.out.size rfl (by simp [Value.oneCell']) (by have := HZL.out; omega) (by have := HZL.out; omega) ?_; intro ad ac8 wh APP; have HZ4 := hid (APP.row.cast (m := (Z ++ [xn]).length) (by simp) (sv_snoc Z xn)); have HX4 := hid (app_keep APP HX3.out HDD.out.1); have HC4 := hid (app_keep APP HC3.out HDD.out.2); have HDE := hid (And.intro (app_dis APP HX3.out HDD.out.1) (app_dis APP HC3.out HDD.out.2)); have FH := hid (F4.out.trans APP.fr (fun k hk hl => by have := HZ3.out.new k hk; omega)); clear APP)
              have HLZ := hid (show Z.length + 1 = (Z ++ [xn]).length from by simp)
              rw [HLZ.out] at HZ4 HDE ⊢
              go_roundw
              case rel => exact ⟨k + 1, ad, ac8, Z ++ [xn], by omega, by go_num, rfl, HTC.out, HC4.out, HX4.out, HZ4.out, HDE.out.1, HDE.out.2, FH.out⟩
              case measure => simp [intOf]; omega
            · obtain rfl : k = ix.length := by omega
              have k2 : ¬ (ix.length : Int) < (ix.length : Int) := by omega
              have HZE := hid (show Z = (ys.take (i + 1)).flatMap (fun t => t.t.ixs.map Ix.name) from by
                rw [HZ.out, List.take_length, ← HY1.out]
                have e := HTW.out.e
                dsimp only at e
                rw [e, List.map_map]
                rfl)
              have HND := HTK.out.nodup
              dsimp only at HND
              have HLC := hid (show (cols.map Col.name).length = cols.length from List.length_map _)
              have HU := hid (unlike_go (w := wr) (va := .slice a6 cols.length c6) (l := cols.map Col.name) (by rw [HLC.out]; exact HC3.out.sl' (R := fun _ => True) (fun _ _ => trivial)) HND (by rw [HLC.out]; have := HTK.out.le; dsimp only at this; omega))
              clear HND
              go_wp2_with (go_at_call 47; refine HU.out.mono ?_; rintro e wi ⟨rfl, f⟩; have FU := hid f; clear f)
              go_roundw
              case rel => exact ⟨i + 1, ab, b4, ac7, d4, X1, Z, by omega, by go_num, rfl, rfl, HX2.out, HZE.out, HX3.out.fre FU.out, HZ3.out.fre FU.out, HDD.out.1.symm, F4.out.trans FU.out (fun _ h _ => h)⟩
              case measure => simp [intOf]; omega
    · obtain rfl : i = ys.length := by omega
      have i2 : ¬ (ys.length : Int) < (ys.length : Int) := by omega
      have HXN := hid (show X.Nodup from by
        rw [HX.out, List.take_length]
        have := HOK.out.nodup
        rwa [List.map_map] at this)
      have HYN := hid (show Y.Nodup from by
        rw [HYE.out, List.take_length]
        have := HOK.out.ixn
        rw [List.flatMap_map] at this
        exact this)
      have HXL := hid (show X.length ≤ 8 from by rw [HX.out]; simp; omega)
      have HYL := hid (show Y.length ≤ 1048576 from by rw [HYE.out]; have := ixn_ys HOK.out ys.length; omega)
      have HU1 := hid (fun (W : World) (f : Fr (fun _ => False) wr W) => unlike_go (HRX.out.fre f).sl HXN.out (by have := HXL.out; omega))
      have HU2 := hid (fun (W : World) (f : Fr (fun _ => False) wr W) => unlike_go (HRY.out.fre f).sl HYN.out HYL.out)
      have F0 := hid (Fr.refl (fun _ => False) wr)
      go_wp2_with (first
        | (go_at_call 47; (with_reducible refine (HU1.out _ F0.out).mono ?_); rintro e wi ⟨rfl, f⟩; have FU := hid f; clear f)
        | (go_at_call 47; (with_reducible refine (HU2.out _ FU.out).mono ?_); rintro e wj ⟨rfl, f⟩; have FV := hid (FU.out.trans f (fun _ h _ => h)); clear f))
      go_ret
      exact ⟨rfl, FR.out.trans FV.out (fun _ h _ => h)⟩
end Go.Proofs.YtgkfdlpijefgkaaDoor
