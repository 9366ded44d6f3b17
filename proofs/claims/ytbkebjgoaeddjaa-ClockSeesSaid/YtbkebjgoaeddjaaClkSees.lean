/- Proved: for every snapshot, every integer and every slice of integers the law ClockSees of chapter 07 returns true, and its arguments read afterwards as before. Conditions: none beyond the given statement. -/
import Derived.Test.YtbkebjgoaeddjaaClkEnd
import Derived.Test.YtbkebjgoaeddjaaFin
set_option linter.unusedVariables false
namespace Go.Proofs.Ytbkebjgoaeddjaa
open Go.RowKit Go.VB Go.VB.Clk Go.WideShapes Go.ChangeShapes
section
variable {H : Type} {enc : TypeId × Value → H} {w : World} {base : Nat} {sp : Nat → Bool} {held : Bool}
theorem cells_snap : Try.prog.cellsOf 37 = 2 := by kernel_rfl
theorem cells_ints : Try.prog.cellsOf 26 = 1 := by kernel_rfl
set_option maxRecDepth 100000 in
theorem snap_agg {w0 : World} {r : Reach} {b0 : Nat} {v : Value} {d : DataW H} {ps : List MemPlace}
    (hval : Value.okWide Try.prog w0 r b0 37 v) (h : DataW.Trod enc Try.prog w base sp held 37 v d ps) : ∃ (hi : Int) (u : Value) (L : List Int), v = .agg #[.int .i64 hi, u] ∧ Sl (fun k => k < w.heap.size) w u L.length (iv L) ∧ L.length ≤ maxLen := by
  obtain ⟨fuel, h⟩ := h
  simp only [Value.okWide, Try.underlying37] at hval
  obtain ⟨cs, rfl, hs, -⟩ := hval
  rw [cells_snap] at hs
  have hl : (Value.agg cs).cells.toList.length = 2 := by simpa [Value.cells] using hs
  have hcs : (Value.agg cs).cells.toList = cs.toList := rfl
  rw [hcs] at h hl
  match hm : cs.toList, hl with
  | [a, b], _ =>
    rw [hm] at h
    cases fuel with
    | zero => simp [DataW.trod] at h
    | succ m =>
      unfold DataW.trod at h
      rw [Try.underlying37] at h
      dsimp only at h
      rw [if_pos (by rw [cells_snap]; rfl)] at h
      simp only [Option.map_eq_some_iff, List.mapM_cons, List.mapM_nil, Option.bind_eq_bind, Option.bind_eq_some_iff, Option.pure_def, Option.some.injEq, cells_int, cells_ints] at h
      obtain ⟨xs, ⟨y0, h0, x1, ⟨y1, h1, -⟩, -⟩, -⟩ := h
      obtain ⟨i0, e0, -⟩ := elem_int Try.underlying3 _ _ _ h0
      obtain ⟨u, L, e1, h2, -, h4⟩ := open_cs Try.underlying26 (k := 1) cells_int (by omega) h1 (fun x => [Value.int .i64 x]) (fun x => True) (fun _ => rfl) (fun fuel cs r _ h => by obtain ⟨x, h1, _⟩ := elem_int Try.underlying3 fuel cs r h; exact ⟨x, h1, trivial⟩)
      obtain rfl : a = .int .i64 i0 := by simpa using e0
      obtain rfl : b = u := by simpa using e1
      rw [iv_flat] at h2
      refine ⟨i0, b, L, ?_, h2, h4⟩
      rw [← Array.toArray_toList (xs := cs), hm]
end
theorem run_load_mid {P : Program} {op : Oper} {a : Act} {w : World} (ty : TypeId) (x : Operand) (ho : op.op = .load ty x) (b o : Nat) (hx : a.eval x = .pointer (some ⟨b, o, none⟩)) (cs : List Value) (d : TypeDesc) (hc : w.rangeAt b o cs)
    (hu : P.underlying ty = some d) (hd : d.isRow = true) (hi : (P.info? ty).map (·.size) = some cs.length) : (execOp a.eval op).run P w = .ok (.value (.agg cs.toArray)) w := by
  unfold execOp
  simp only [ho, hx, Instr.loadAt, Instr.sureAddr, Sem.run_bind, Sem.run_pure, Result.andThen_ok, run_loadVar_mid w b o ty cs d hc hu hd hi]
theorem wpList_load_g {P : Program} {ops : Array Oper} {rest : List Oper} {op : Oper} {a : Act} {w : World} {Q : Exit → Act → World → Prop} (hw : Region.wanted op (yielded ops a.tmps) = true) (ty : TypeId) (x : Operand) (ho : op.op = .load ty x) (b o : Nat) (hx : a.eval x = .pointer (some ⟨b, o, none⟩)) (cs : List Value) (d : TypeDesc) (hc : w.rangeAt b o cs)
    (hu : P.underlying ty = some d) (hd : d.isRow = true) (hi : (P.info? ty).map (·.size) = some cs.length) (h : wpList P ops Q rest (a.put op.dst (.agg cs.toArray)) w) : wpList P ops Q (op :: rest) a w := by
  simp only [wpList]
  rw [if_pos hw]
  left
  unfold Oper.wp
  rw [run_load_mid ty x ho b o hx cs d hc hu hd hi]
  exact h
theorem size_tab (f : Nat → Int) : (Try.prog.info? 40).map (·.size) = some (tabC f).length := by rw [tabC_length]; kernel_rfl
theorem take_sl {R : Nat → Prop} {w : World} {a : Option Addr} {c n : Nat} {l : List Int} (h : iv l ≠ [] → ∃ g o, a = some ⟨g, o, none⟩ ∧ R g ∧ w.rangeAt g o (iv l)) (hn : n ≤ l.length) (hc : l.length ≤ c) : Sl R w (.slice a n c) (l.take n).length (iv (l.take n)) := by
  have hl : (l.take n).length = n := by rw [List.length_take]; omega
  refine ⟨a, c, by rw [hl], by omega, fun hne => ?_⟩
  obtain ⟨g, o, rfl, hR, hr⟩ := h (by intro e; have : (iv l).length = 0 := congrArg List.length e; rw [iv_length] at this; apply hne; have : (l.take n) = [] := List.eq_nil_of_length_eq_zero (by omega); rw [this]; rfl)
  refine ⟨g, o, rfl, hR, fun j u hj => hr j u ?_⟩
  simp only [iv, List.map_take] at hj ⊢
  rw [List.getElem?_take] at hj
  split at hj
  · exact hj
  · cases hj
def turnL (L : List Int) (j : Nat) : List Int := (L.take j).map fun z => 3 + z % 125
theorem turnL_len {L : List Int} {j : Nat} (h : j ≤ L.length) : (turnL L j).length = j := by simp [turnL]; omega
theorem turnL_succ {L : List Int} {j : Nat} (h : j < L.length) : turnL L (j + 1) = turnL L j ++ [3 + L[j] % 125] := by
  unfold turnL
  rw [List.take_add_one, List.getElem?_eq_getElem h, List.map_append]
  rfl
structure TurnRow (wz : World) (bu : Nat) (v : Value) (l : List Int) : Prop where
  own : wz.ownsRow 0 3 1 v l.length (iv l)
  new : ∀ k, v.ownBlock = some k → bu < k
theorem TurnRow.app {wr wa wg : World} {bu : Nat} {v v' : Value} {l : List Int} {x : Int} (h : TurnRow wr bu v l) (f1 : Fr (fun _ => False) wr wa) (hs : bu < wa.heap.size) (hg : wa.grownBy wg v.ownBlock) (hown : wg.ownsRow 0 3 1 v' (l.length + 1) (iv l ++ [.int .i64 x]))
    (hat : ∀ k, v'.ownBlock = some k → v.ownBlock = some k ∨ k = wa.heap.size) : TurnRow wg bu v' (l ++ [x]) ∧ Fr (fun k => v.ownBlock = some k) wr wg := by
  refine ⟨⟨?_, fun k hk => ?_⟩, (f1.mono (fun _ h _ => h.elim)).grown hg (fun k hk _ => hk)⟩
  · rw [List.length_append, show iv (l ++ [x]) = iv l ++ [.int .i64 x] by simp [iv]]
    exact hown
  · rcases hat k hk with h' | rfl
    · exact h.new k h'
    · exact hs
theorem zt : Try.zeroCells40 = (tabC fun _ => 0).toArray := by
  apply Array.toList_inj.1
  rw [List.toList_toArray]
  kernel_rfl
theorem tabC_set (f : Nat → Int) (x : Nat) (hx : x < 128) (v : Int) : (tabC f).set x (.int .i64 v) = tabC (put f x v) := by
  apply List.ext_getElem?
  intro j
  rw [List.getElem?_set, tabC_length]
  by_cases h : x = j
  · subst h
    rw [if_pos rfl, if_pos hx, tabC_get _ hx]
    simp [put]
  · rw [if_neg h]
    by_cases hj : j < 128
    · rw [tabC_get _ hj, tabC_get _ hj]
      simp [put, Ne.symm h]
    · rw [List.getElem?_eq_none (by rw [tabC_length]; omega), List.getElem?_eq_none (by rw [tabC_length]; omega)]
set_option maxRecDepth 20000 in
set_option maxHeartbeats 8000000 in
theorem ClockSees_walk (hi x : Int) (la : Option Addr) (lc : Nat) (L M : List Int) (w : World) (vm : Value) (hL : iv L ≠ [] → ∃ g o, la = some ⟨g, o, none⟩ ∧ g < w.heap.size ∧ w.rangeAt g o (iv L)) (hlc : L.length ≤ lc) (hM : Sl (fun k => k < w.heap.size) w vm M.length (iv M)) (hLl : L.length ≤ maxLen) (hMl : M.length ≤ maxLen) :
    Calls Try.prog 5 #[.agg #[.int .i64 hi, .slice la L.length lc], .int .i64 x, vm] w fun e w' => e = .returned (.bool true) ∧ Fr (fun _ => False) w w' := by
  have e63 : maxLen = 9223372036854775807 := rfl
  rw [e63] at hLl hMl
  obtain ⟨ma, mc, rfl, hmc, hm⟩ := hM
  have HM := hid (fun j (hj : j < M.length) => iv_at hm hj)
  have HL := hid (fun j (hj : j < L.length) => iv_at hL hj)
  have HLS := hid (fun n (hn : n ≤ L.length) => take_sl (c := lc) hL hn hlc)
  have F0 := (Fr.refl (fun _ => False) w).alloc (.cells #[Value.int .i64 hi, .slice la L.length lc] 37)
  have B0 := Blk.new w [Value.int .i64 hi, .slice la L.length lc] 37
  obtain ⟨w0, hw0⟩ : ∃ w0, w.alloc (.cells #[Value.int .i64 hi, .slice la L.length lc] 37) = w0 := ⟨_, rfl⟩
  have e0 : w.alloc (.cells [Value.int .i64 hi, .slice la L.length lc].toArray 37) = w0 := hw0
  rw [hw0] at F0
  rw [e0] at B0
  have HW := hid hw0
  clear e63 hm e0 hw0 hL
  go_enter Try.func5, Try.ntmps5
  go_wp2_with (fail)
  rw [HW.out]
  refine (sanity_go w0).mono ?_
  rintro e w1 ⟨rfl, f1⟩
  have b1 := B0.fr f1 (fun h => h)
  have F1 := F0.trans f1 (fun _ h _ => h)
  have hlt := b1.lt
  generalize hb0 : w.heap.size = b0 at *
  have HB0 := hid hb0
  have F2 := F1.alloc (.cells (tabC fun _ => 0).toArray 40)
  have b2 := b1.alloc (.cells (tabC fun _ => 0).toArray 40)
  have bt2 := Blk.new w1 (tabC fun _ => 0) 40
  have hz := zt
  clear f1 B0 F0 HW hb0 b1 F1
  have HF2 := hid F2
  have HB2 := hid b2
  have HT2 := hid bt2
  clear F2 b2 bt2
  go_wp2_with (fail)
  obtain ⟨W2, hW2⟩ : ∃ W2, W2 = w1.alloc (.cells (tabC fun _ => 0).toArray 40) := ⟨_, rfl⟩
  rw [← hW2] at HF2 HB2 HT2 ⊢
  clear hW2 hz
  generalize hbt : w1.heap.size = bt at *
  clear hbt
  go_loopw [9] (fun i wr => ∃ (j : Nat) (f : Nat → Int), j ≤ 128 ∧ j ≤ M.length ∧ i = .int .i64 j ∧ Blk wr bt (tabC f) 40 ∧ Blk wr b0 [.int .i64 hi, .slice la L.length lc] 37 ∧ Fr (fun _ => False) w wr) (fun i _ => 128 - (intOf i).toNat)
  case atStart => exact ⟨0, _, by omega, by omega, rfl, HT2.out, HB2.out, HF2.out⟩
  case round =>
    obtain ⟨j, f, hj, hjm, rfl, bt1, b1, fr⟩ := hrel
    clear HT2 HB2 HF2
    by_cases hg : j < M.length ∧ j < 128
    · obtain ⟨g1, g2⟩ := hg
      obtain ⟨g, o, rfl, hgl, hcell⟩ := HM.out j g1
      have hcell := cell_fr hcell fr (fun h => h)
      have R := hid (fun w => rest_any w M[j] 5 (by omega) (by omega))
      generalize M[j] = mj at *
      have kt : ∃ u, (_ : World).cell? ⟨bt, j, none⟩ = some u := ⟨_, by rw [bt1.cell, tabC_get f g2]⟩
      obtain ⟨u, kt⟩ := kt
      have zt2 := bt1.frozen j
      have BT := hid (tabC_set f j g2 (mj % 5) ▸ bt1.set j (.int .i64 (mj % 5)))
      have hbb : b0 ≠ bt := by omega
      have B1 := hid (b1.set_ne ⟨bt, j, none⟩ (.int .i64 (mj % 5)) hbb)
      have hwb := HB0.out
      have FR := hid (fr.setCell ⟨bt, j, none⟩ (.int .i64 (mj % 5)) (fun h => absurd h (show ¬ bt < w.heap.size by omega)))
      clear bt1 b1 fr hwb
      go_wp2_with (first | (go_at_call 14; refine (R.out _).mono ?_; rintro e w5 ⟨rfl, rfl⟩))
      go_roundw
      case rel => exact ⟨j + 1, _, by omega, by omega, by go_num, BT.out, B1.out, FR.out⟩
      case measure => simp [intOf]; omega
    · obtain ⟨n, hn⟩ : ∃ n : Nat, n = min 12 L.length := ⟨_, rfl⟩
      have hmin : (if (12 : Int) < (L.length : Int) then (12 : Int) else (L.length : Int)) = (n : Int) := by split <;> omega
      have hnl : n ≤ L.length := by omega
      have hn12 : n ≤ 12 := by omega
      have k0 : (_ : World).cell? ⟨b0, 0, none⟩ = some (.int .i64 hi) := b1.cell 0
      have k1 : (_ : World).cell? ⟨b0, 1, none⟩ = some (.slice la L.length lc) := b1.cell 1
      have z1 := b1.frozen 1
      have f2 := fr.setCell ⟨b0, 1, none⟩ (.slice la n lc) (fun h => absurd h (show ¬ b0 < w.heap.size by have := HB0.out; omega))
      have B1 := b1.set 1 (.slice la n lc)
      have T1 := bt1.set_ne ⟨b0, 1, none⟩ (.slice la n lc) (show bt ≠ b0 by omega)
      have R := hid (fun w => rest_any w hi 125 (by omega) (by omega))
      have HX := hid (fun w => rest_any w x 125 (by omega) (by omega))
      have HN := hid hn
      have HFR := hid f2
      have HB1 := hid B1
      have HT1 := hid T1
      clear f2 B1 T1 hn b1 bt1 fr
      by_cases hg1 : j < M.length
      all_goals
        go_wp2_with (first | (go_at_call 14; refine (R.out _).mono ?_; rintro e w5 ⟨rfl, rfl⟩))
        obtain ⟨hu, hhu⟩ : ∃ hu : Int, hu = 3 + hi % 125 := ⟨_, rfl⟩
        have hw3 : IntKind.i64.wrap (3 + hi % 125) = 3 + hi % 125 := IntWalk.i64_in _ (by omega)
        rw [← hhu] at *
        obtain ⟨W3, hW3⟩ : ∃ W3, W3 = (wr.setCell ⟨b0, 1, none⟩ (.slice la n lc)).alloc (.cells #[Value.int .i64 hu, .slice none 0 0] 37) := ⟨_, rfl⟩
        rw [← hW3]
        have hz3 : W3.heap.size = wr.heap.size + 1 := by rw [hW3]; simp
        have hFR3 := HFR.out.alloc (.cells #[Value.int .i64 hu, .slice none 0 0] 37)
        have hB3 := HB1.out.alloc (.cells #[Value.int .i64 hu, .slice none 0 0] 37)
        have hT3 := HT1.out.alloc (.cells #[Value.int .i64 hu, .slice none 0 0] 37)
        have hU3 := Blk.new (wr.setCell ⟨b0, 1, none⟩ (.slice la n lc)) [Value.int .i64 hu, .slice none 0 0] 37
        rw [World.size_setCell] at hU3
        have hbtlt := HT1.out.lt
        rw [World.size_setCell] at hbtlt
        have hU3 : Blk W3 wr.heap.size [Value.int .i64 hu, .slice none 0 0] 37 := by rw [hW3]; exact hU3
        have hT3 : Blk W3 bt (tabC f) 40 := by rw [hW3]; exact hT3
        have hB3 : Blk W3 b0 [.int .i64 hi, .slice la n lc] 37 := by rw [hW3]; exact hB3
        have hFR3 : Fr (fun _ => False) w W3 := by rw [hW3]; exact hFR3
        clear hW3 HFR HB1 HT1 hw3 k0 k1 z1
        generalize hbu : wr.heap.size = bu at *
        have HU := hid hU3
        have HT := hid hT3
        have HB := hid hB3
        have HFR := hid hFR3
        clear hU3 hT3 hB3 hFR3 hbu hhu
        go_loopw [11] (fun i wz => ∃ (t : Nat) (v : Value), t ≤ n ∧ i = .int .i64 t ∧ Blk wz bu [.int .i64 hu, v] 37 ∧ TurnRow wz bu v (turnL L t) ∧ Fr (fun k => bu ≤ k) W3 wz) (fun i _ => n - (intOf i).toNat)
        case atStart => exact ⟨0, _, by omega, rfl, HU.out, ⟨own_nil, fun k hk => by simp [Value.ownBlock] at hk⟩, Fr.refl _ _⟩
        case round =>
          obtain ⟨t, v, ht, rfl, bz, row, fz⟩ := hrel
          have hb3 := HB.out.fr fz (by omega)
          have ht3 := HT.out.fr fz (by omega)
          have k1 : (_ : World).cell? ⟨b0, 1, none⟩ = some (.slice la n lc) := hb3.cell 1
          obtain ⟨ua, uc, rfl, huc⟩ := own_slice row.own
          by_cases htn : t < n
          · obtain ⟨g, o, rfl, hgl, hcell⟩ := HL.out t (by omega)
            have kl := cell_fr (cell_fr hcell HFR.out (fun h => h)) fz (show ¬ bu ≤ g by omega)
            have RX := hid (fun w => rest_any w L[t] 125 (by omega) (by omega))
            have hsucc := hid (turnL_succ (L := L) (j := t) (by omega))
            have hlen := turnL_len (L := L) (j := t) (by omega)
            have hpos : 0 ≤ L[t] % 125 ∧ L[t] % 125 < 125 := ⟨by omega, by omega⟩
            have ku : (_ : World).cell? ⟨bu, 1, none⟩ = some (.slice ua (turnL L t).length uc) := bz.cell 1
            rw [hlen] at ku
            have i1 : (0 : Int) ≤ t := by omega
            have i2 : (t : Int) < n := by omega
            generalize hz0 : L[t] = z at *
            have hw4 : IntKind.i64.wrap (3 + z % 125) = 3 + z % 125 := IntWalk.i64_in _ (by omega)
            have hq : ∃ q, q = 3 + z % 125 := ⟨_, rfl⟩
            have ROW := hid row
            have BZ := hid bz
            have HLEN := hid hlen
            have hne := hid (ownsRow_ne bz (by decide) row.own)
            clear row bz hz0 hcell hlen hq
            rw [HLEN.out] at ROW hne
            go_wp2_with (fail)
            refine wp_region_scr (.take 0 (.take 1 (.take 2 (.take 3 (.take 4 (.take 5 (.take 6 (.op 7 (.take 8 (.op 9 (.op 10 (.take 11 (.op 12 .done))))))))))))) (fun kz w => (kz ≤ 12 → w.cell? ⟨bu, 1, none⟩ = some (.slice ua t uc) ∧ w.cell? ⟨b0, 1, none⟩ = some (.slice (some ⟨g, o, none⟩) n lc) ∧ w.cell? ⟨g, o + t, none⟩ = some (.int .i64 z)) ∧ True) (by kernel_rfl) (by kernel_rfl) (by intro c a d v w h; cases d <;> exact h) ?_
            repeat
              first
              | (refine wpT_pure rfl rfl rfl ?_; apply Exists.intro; refine ⟨?_, ?_⟩; intro w; ((go_simp <;> rfl)); simp only [Act.put, List.setIfInBounds_toArray, List.set_cons_zero, List.set_cons_succ])
              | (refine wpT_take 12 rfl rfl (by decide +kernel) ⟨fun _ => ⟨ku, k1, kl⟩, trivial⟩ ?_; apply Exists.intro; refine ⟨?_, ?_⟩; intro w hw; (have qa := hw.1 (Nat.le_refl _); have qb := hw.2); ((go_simp <;> rfl)); simp only [Act.put, List.setIfInBounds_toArray, List.set_cons_zero, List.set_cons_succ])
              | (refine wpT_skip rfl rfl ?_; simp only [Act.put, List.setIfInBounds_toArray, List.set_cons_zero, List.set_cons_succ])
            refine wpT_op rfl ?_
            go_wp2_with ((go_at_call 14; refine (RX.out _).mono ?_; rintro e w5 ⟨rfl, rfl⟩))
            (refine ⟨?_, ?_⟩; focus (intro kz hk hk2; rintro ⟨qa, qb⟩; first | (exfalso; simp at hk2; omega) | exact ⟨qa, qb⟩ | (refine ⟨fun h => absurd h (by omega), ?_⟩; first | exact qb | (exact qa)) | (refine ⟨fun h => ?_, ?_⟩; (have qa := qa h); all_goals (first | exact qa | exact qb | (exact qa)))))
            repeat
              first
              | (refine wpT_pure rfl rfl rfl ?_; apply Exists.intro; refine ⟨?_, ?_⟩; intro w; ((go_simp <;> rfl)); simp only [Act.put, List.setIfInBounds_toArray, List.set_cons_zero, List.set_cons_succ])
              | (refine wpT_take 12 rfl rfl (by decide +kernel) ⟨fun _ => ⟨ku, k1, kl⟩, trivial⟩ ?_; apply Exists.intro; refine ⟨?_, ?_⟩; intro w hw; (have qa := hw.1 (Nat.le_refl _); have qb := hw.2); ((go_simp <;> rfl)); simp only [Act.put, List.setIfInBounds_toArray, List.set_cons_zero, List.set_cons_succ])
              | (refine wpT_skip rfl rfl ?_; simp only [Act.put, List.setIfInBounds_toArray, List.set_cons_zero, List.set_cons_succ])
            have F6 := ((Fr.refl (fun _ => False) wr).drew).alloc (.cells #[Value.int .i64 (3 + z % 125)] 3)
            have ku6 := cell_fr ku F6 (fun h => h)
            have k16 := cell_fr k1 F6 (fun h => h)
            have kl6 := cell_fr kl F6 (fun h => h)
            refine wpT_op rfl ?_
            go_wp2_with (fail)
            (refine ⟨?_, ?_⟩; focus (intro kz hk hk2; rintro ⟨qa, qb⟩; first | (exfalso; simp at hk2; omega) | exact ⟨qa, qb⟩ | (refine ⟨fun h => absurd h (by omega), ?_⟩; first | exact qb | (exact ⟨ku6, k16, kl6⟩)) | (refine ⟨fun h => ?_, ?_⟩; (have qa := qa h); all_goals (first | exact qa | exact qb | (exact ⟨ku6, k16, kl6⟩)))))
            have hsrc : Src Try.prog (wr.alloc (.cells #[Value.int .i64 (3 + z % 125)] 3)).drew 1 (.slice (some ⟨wr.heap.size, 0, none⟩) 1 1) 1 [Value.int .i64 (3 + z % 125)] := Src.slice (by simp) (by simp [Value.oneCell']) (Blk.new wr [Value.int .i64 (3 + z % 125)] 3).drew.all
            have ho := own_fr ROW.out.own F6 (fun _ _ h => h)
            rw [HLEN.out] at ho
            have hbul : bu < wr.heap.size := BZ.out.lt
            refine wpT_op rfl ?_
            go_wp2_with ((refine wpList_append rfl (s := .tmp 54) (x := .tmp 62) (t := 26) (tx := 26) rfl Try.underlying26 Try.underlying26 (.inr ⟨_, rfl⟩) Try.info_int rfl rfl rfl ho hsrc (by omega) (by omega) ?_; intro ab aq wg hown hg hat; (obtain ⟨row', fg⟩ := TurnRow.app ROW.out F6 (by simp; omega) hg (by rw [HLEN.out]; exact hown) hat); (have hcap := own_slice hown); clear hown hg hat))
            (refine ⟨?_, ?_⟩; focus (intro kz hk hk2; rintro ⟨qa, qb⟩; first | (exfalso; simp at hk2; omega) | exact ⟨qa, qb⟩ | (refine ⟨fun h => absurd h (by omega), ?_⟩; first | exact qb | (exact ⟨cell_fr ku fg (fun h => hne.out _ h rfl), cell_fr k1 fg (fun h => by have := ROW.out.new _ h; omega), cell_fr kl fg (fun h => by have := ROW.out.new _ h; omega)⟩)) | (refine ⟨fun h => ?_, ?_⟩; (have qa := qa h); all_goals (first | exact qa | exact qb | (exact ⟨cell_fr ku fg (fun h => hne.out _ h rfl), cell_fr k1 fg (fun h => by have := ROW.out.new _ h; omega), cell_fr kl fg (fun h => by have := ROW.out.new _ h; omega)⟩)))))
            have bg := BZ.out.fr fg (fun h => hne.out _ h rfl)
            have kg : wg.cell? ⟨bu, 1, none⟩ = some (.slice ua t uc) := by have h := bg.cell 1; rw [HLEN.out] at h; exact h
            have zg : wg.frozen? ⟨bu, 1, none⟩ = false := bg.frozen 1
            rw [← hsucc.out] at row'
            have ROW2 := hid row'
            have FG := hid fg
            have BG := hid bg
            clear row' fg bg ho hsrc F6 ku6 k16 kl6
            repeat
              first
              | (refine wpT_pure rfl rfl rfl ?_; apply Exists.intro; refine ⟨?_, ?_⟩; intro w; ((go_simp <;> rfl)); simp only [Act.put, List.setIfInBounds_toArray, List.set_cons_zero, List.set_cons_succ])
              | (refine wpT_take 12 rfl rfl (by decide +kernel) ⟨fun _ => ⟨kg, cell_fr k1 FG.out (fun h => by have := ROW.out.new _ h; omega), cell_fr kl FG.out (fun h => by have := ROW.out.new _ h; omega)⟩, trivial⟩ ?_; apply Exists.intro; refine ⟨?_, ?_⟩; intro w hw; (have qa := hw.1 (Nat.le_refl _); have qb := hw.2); ((go_simp <;> rfl)); simp only [Act.put, List.setIfInBounds_toArray, List.set_cons_zero, List.set_cons_succ])
              | (refine wpT_skip rfl rfl ?_; simp only [Act.put, List.setIfInBounds_toArray, List.set_cons_zero, List.set_cons_succ])
            refine wpT_op rfl ?_
            go_wp2_with (fail)
            (refine ⟨?_, ?_⟩; focus (intro kz hk hk2; rintro ⟨qa, qb⟩; first | (exfalso; simp at hk2; omega) | exact ⟨qa, qb⟩ | (refine ⟨fun h => absurd h (by omega), ?_⟩; first | exact qb | (exact qa)) | (refine ⟨fun h => ?_, ?_⟩; (have qa := qa h); all_goals (first | exact qa | exact qb | (exact qa)))))
            refine wpT_nil ?_
            have hfin : Blk (wg.setCell ⟨bu, 1, none⟩ (.slice ab (t + 1) aq)) bu [.int .i64 hu, .slice ab (t + 1) aq] 37 ∧ TurnRow (wg.setCell ⟨bu, 1, none⟩ (.slice ab (t + 1) aq)) bu (.slice ab (t + 1) aq) (turnL L (t + 1)) ∧ Fr (fun k => bu ≤ k) W3 (wg.setCell ⟨bu, 1, none⟩ (.slice ab (t + 1) aq)) := by
              have f2 := (Fr.refl (fun k => k = bu) wg).setCell ⟨bu, 1, none⟩ (.slice ab (t + 1) aq) (fun _ => rfl)
              refine ⟨BG.out.set 1 _, ⟨own_fr ROW2.out.own f2 (fun k hk h => by have := ROW2.out.new k hk; omega), ROW2.out.new⟩, ((fz.trans FG.out (fun k hk _ => Nat.le_of_lt (ROW.out.new k hk))).trans f2 (fun k hk _ => by omega))⟩
            have HFIN := hid hfin
            clear hfin
            go_wp2_with (fail)
            go_roundw
            case rel => exact ⟨t + 1, _, by omega, by go_num, HFIN.out.1, HFIN.out.2.1, HFIN.out.2.2⟩
            case measure => simp [intOf]; omega
          · obtain rfl : t = n := by omega
            have hlen := turnL_len (L := L) (j := t) (by omega)
            rw [hlen] at bz
            have hw5 : IntKind.i64.wrap (3 + x % 125) = 3 + x % 125 := IntWalk.i64_in _ (by omega)
            have FW := hid (HFR.out.trans fz (fun k hk hl => by have := HB0.out; omega))
            have lsl := Sl.fr (HLS.out t hnl) FW.out (fun _ _ h => h)
            have usl : Sl (fun _ => True) wr (.slice ua t uc) (turnL L t).length (iv (turnL L t)) := by have h := own_sl (R := fun _ => True) row.own (fun _ _ => trivial); rw [hlen] at h ⊢; exact h
            have q0 := hb3.all
            have qt := ht3.all
            have qu := bz.all
            have hlt1 : (L.take t).length ≤ 1000000 := by rw [List.length_take]; omega
            have hlt2 : (turnL L t).length ≤ 1000000 := by rw [hlen]; omega
            have HLSL := hid lsl
            have HUSL := hid usl
            have ST := hid (fun x w => Table_go f x w)
            have hst := hid (size_tab f)
            clear bz row hb3 ht3 lsl usl hlen HL HLS fz
            generalize tabC f = tc at *
            go_wp2_with (first | (go_at_call 14; refine (HX.out _).mono ?_; rintro e w5 ⟨rfl, rfl⟩))
            refine wp_region_scr (.take 0 (.take 1 (.take 2 (.take 5 (.take 6 (.take 7 (.take 8 (.op 3 (.op 4 (.op 9 (.op 10 (.take 11 (.take 12 (.take 13 (.take 14 (.take 15 (.take 18 (.take 19 (.take 20 (.take 21 (.op 16 (.op 17 (.op 22 (.op 23 (.take 24 (.take 25 (.take 26 .done))))))))))))))))))))))))))) (fun kz w => (kz ≤ 26 → w.rangeAt b0 0 [.int .i64 hi, .slice la t lc] ∧ w.rangeAt bt 0 tc ∧ w.rangeAt bu 0 [.int .i64 hu, .slice ua t uc]) ∧ True) (by kernel_rfl) (by kernel_rfl) (by intro c a d v w h; cases d <;> exact h) ?_
            repeat
              first
              | (refine wpT_pure rfl rfl rfl ?_; apply Exists.intro; refine ⟨?_, ?_⟩; intro w; (first | (first | exact run_load_mid _ _ rfl b0 _ rfl _ _ qa.1 Try.underlying37 rfl Try.size_snap | exact run_load_mid _ _ rfl bt _ rfl _ _ qa.2.1 Try.underlying40 rfl hst.out | exact run_load_mid _ _ rfl bu _ rfl _ _ qa.2.2 Try.underlying37 rfl Try.size_snap) | (go_simp <;> rfl)); simp only [Act.put, List.setIfInBounds_toArray, List.set_cons_zero, List.set_cons_succ])
              | (refine wpT_take 26 rfl rfl (by decide +kernel) ⟨fun _ => ⟨q0, qt, qu⟩, trivial⟩ ?_; apply Exists.intro; refine ⟨?_, ?_⟩; intro w hw; (have qa := hw.1 (Nat.le_refl _); have qb := hw.2); (first | (first | exact run_load_mid _ _ rfl b0 _ rfl _ _ qa.1 Try.underlying37 rfl Try.size_snap | exact run_load_mid _ _ rfl bt _ rfl _ _ qa.2.1 Try.underlying40 rfl hst.out | exact run_load_mid _ _ rfl bu _ rfl _ _ qa.2.2 Try.underlying37 rfl Try.size_snap) | (go_simp <;> rfl)); simp only [Act.put, List.setIfInBounds_toArray, List.set_cons_zero, List.set_cons_succ])
              | (refine wpT_skip rfl rfl ?_; simp only [Act.put, List.setIfInBounds_toArray, List.set_cons_zero, List.set_cons_succ])
            refine wpT_op rfl ?_
            go_wp2_with (fail)
            (refine ⟨?_, ?_⟩; focus (intro kz hk hk2; rintro ⟨qa, qb⟩; first | (exfalso; simp at hk2; omega) | exact ⟨qa, qb⟩ | (refine ⟨fun h => absurd h (by omega), ?_⟩; first | exact qb | (exact qa)) | (refine ⟨fun h => ?_, ?_⟩; (have qa := qa h); all_goals (first | exact qa | exact qb | (exact qa)))))
            have D0 := (Fr.refl (fun _ => False) wr).drew
            refine wpT_op rfl ?_
            go_wp2_with ((go_at_call 27; refine (Ended_tab (HLSL.out.fr D0 (fun _ _ h => h)) (by omega) hi x tc.toArray (tabI f x) (fun w => ST.out x w)).mono ?_; rintro e w5 ⟨rfl, f5⟩))
            (refine ⟨?_, ?_⟩; focus (intro kz hk hk2; rintro ⟨qa, qb⟩; first | (exfalso; simp at hk2; omega) | exact ⟨qa, qb⟩ | (refine ⟨fun h => absurd h (by omega), ?_⟩; first | exact qb | (exact ⟨range_fr qa.1 f5 (fun h => h), range_fr qa.2.1 f5 (fun h => h), range_fr qa.2.2 f5 (fun h => h)⟩)) | (refine ⟨fun h => ?_, ?_⟩; (have qa := qa h); all_goals (first | exact qa | exact qb | (exact ⟨range_fr qa.1 f5 (fun h => h), range_fr qa.2.1 f5 (fun h => h), range_fr qa.2.2 f5 (fun h => h)⟩)))))
            have F5 := D0.trans f5 (fun _ h _ => h)
            refine wpT_op rfl ?_
            go_wp2_with ((go_at_call 29; refine (ST.out x _).mono ?_; rintro e w6 ⟨rfl, f6⟩))
            (refine ⟨?_, ?_⟩; focus (intro kz hk hk2; rintro ⟨qa, qb⟩; first | (exfalso; simp at hk2; omega) | exact ⟨qa, qb⟩ | (refine ⟨fun h => absurd h (by omega), ?_⟩; first | exact qb | (exact ⟨range_fr qa.1 f6 (fun h => h), range_fr qa.2.1 f6 (fun h => h), range_fr qa.2.2 f6 (fun h => h)⟩)) | (refine ⟨fun h => ?_, ?_⟩; (have qa := qa h); all_goals (first | exact qa | exact qb | (exact ⟨range_fr qa.1 f6 (fun h => h), range_fr qa.2.1 f6 (fun h => h), range_fr qa.2.2 f6 (fun h => h)⟩)))))
            have F6 := F5.trans f6 (fun _ h _ => h)
            refine wpT_op rfl ?_
            go_wp2_with ((go_at_call 28; refine (rEnded_go (HLSL.out.fr F6 (fun _ _ h => h)) hlt1 hi x (tabI f x)).mono ?_; rintro e w7 ⟨rfl, f7⟩))
            (refine ⟨?_, ?_⟩; focus (intro kz hk hk2; rintro ⟨qa, qb⟩; first | (exfalso; simp at hk2; omega) | exact ⟨qa, qb⟩ | (refine ⟨fun h => absurd h (by omega), ?_⟩; first | exact qb | (exact ⟨range_fr qa.1 f7 (fun h => h), range_fr qa.2.1 f7 (fun h => h), range_fr qa.2.2 f7 (fun h => h)⟩)) | (refine ⟨fun h => ?_, ?_⟩; (have qa := qa h); all_goals (first | exact qa | exact qb | (exact ⟨range_fr qa.1 f7 (fun h => h), range_fr qa.2.1 f7 (fun h => h), range_fr qa.2.2 f7 (fun h => h)⟩)))))
            have F7 := F6.trans f7 (fun _ h _ => h)
            generalize endedI hi (L.take t) x (tabI f x) = en1 at *
            repeat
              first
              | (refine wpT_pure rfl rfl rfl ?_; apply Exists.intro; refine ⟨?_, ?_⟩; intro w; (first | (first | exact run_load_mid _ _ rfl b0 _ rfl _ _ qa.1 Try.underlying37 rfl Try.size_snap | exact run_load_mid _ _ rfl bt _ rfl _ _ qa.2.1 Try.underlying40 rfl hst.out | exact run_load_mid _ _ rfl bu _ rfl _ _ qa.2.2 Try.underlying37 rfl Try.size_snap) | (go_simp <;> rfl)); simp only [Act.put, List.setIfInBounds_toArray, List.set_cons_zero, List.set_cons_succ])
              | (refine wpT_take 26 rfl rfl (by decide +kernel) ⟨fun _ => ⟨range_fr q0 F7 (fun h => h), range_fr qt F7 (fun h => h), range_fr qu F7 (fun h => h)⟩, trivial⟩ ?_; apply Exists.intro; refine ⟨?_, ?_⟩; intro w hw; (have qa := hw.1 (Nat.le_refl _); have qb := hw.2); (first | (first | exact run_load_mid _ _ rfl b0 _ rfl _ _ qa.1 Try.underlying37 rfl Try.size_snap | exact run_load_mid _ _ rfl bt _ rfl _ _ qa.2.1 Try.underlying40 rfl hst.out | exact run_load_mid _ _ rfl bu _ rfl _ _ qa.2.2 Try.underlying37 rfl Try.size_snap) | (go_simp <;> rfl)); simp only [Act.put, List.setIfInBounds_toArray, List.set_cons_zero, List.set_cons_succ])
              | (refine wpT_skip rfl rfl ?_; simp only [Act.put, List.setIfInBounds_toArray, List.set_cons_zero, List.set_cons_succ])
            refine wpT_op rfl ?_
            go_wp2_with (fail)
            (refine ⟨?_, ?_⟩; focus (intro kz hk hk2; rintro ⟨qa, qb⟩; first | (exfalso; simp at hk2; omega) | exact ⟨qa, qb⟩ | (refine ⟨fun h => absurd h (by omega), ?_⟩; first | exact qb | (exact qa)) | (refine ⟨fun h => ?_, ?_⟩; (have qa := qa h); all_goals (first | exact qa | exact qb | (exact qa)))))
            refine wpT_op rfl ?_
            go_wp2_with ((go_at_call 27; refine (Ended_tab (HUSL.out.fr F7 (fun _ _ h => h)) (by omega) hu (3 + x % 125) tc.toArray (tabI f (3 + x % 125)) (fun w => ST.out (3 + x % 125) w)).mono ?_; rintro e w8 ⟨rfl, f8⟩))
            (refine ⟨?_, ?_⟩; focus (intro kz hk hk2; rintro ⟨qa, qb⟩; first | (exfalso; simp at hk2; omega) | exact ⟨qa, qb⟩ | (refine ⟨fun h => absurd h (by omega), ?_⟩; first | exact qb | (exact ⟨range_fr qa.1 f8 (fun h => h), range_fr qa.2.1 f8 (fun h => h), range_fr qa.2.2 f8 (fun h => h)⟩)) | (refine ⟨fun h => ?_, ?_⟩; (have qa := qa h); all_goals (first | exact qa | exact qb | (exact ⟨range_fr qa.1 f8 (fun h => h), range_fr qa.2.1 f8 (fun h => h), range_fr qa.2.2 f8 (fun h => h)⟩)))))
            have F8 := F7.trans f8 (fun _ h _ => h)
            refine wpT_op rfl ?_
            go_wp2_with ((go_at_call 29; refine (ST.out (3 + x % 125) _).mono ?_; rintro e w9 ⟨rfl, f9⟩))
            (refine ⟨?_, ?_⟩; focus (intro kz hk hk2; rintro ⟨qa, qb⟩; first | (exfalso; simp at hk2; omega) | exact ⟨qa, qb⟩ | (refine ⟨fun h => absurd h (by omega), ?_⟩; first | exact qb | (exact ⟨range_fr qa.1 f9 (fun h => h), range_fr qa.2.1 f9 (fun h => h), range_fr qa.2.2 f9 (fun h => h)⟩)) | (refine ⟨fun h => ?_, ?_⟩; (have qa := qa h); all_goals (first | exact qa | exact qb | (exact ⟨range_fr qa.1 f9 (fun h => h), range_fr qa.2.1 f9 (fun h => h), range_fr qa.2.2 f9 (fun h => h)⟩)))))
            have F9 := F8.trans f9 (fun _ h _ => h)
            refine wpT_op rfl ?_
            go_wp2_with ((go_at_call 28; refine (rEnded_go (HUSL.out.fr F9 (fun _ _ h => h)) hlt2 hu (3 + x % 125) (tabI f (3 + x % 125))).mono ?_; rintro e w10 ⟨rfl, f10⟩))
            (refine ⟨?_, ?_⟩; focus (intro kz hk hk2; rintro ⟨qa, qb⟩; first | (exfalso; simp at hk2; omega) | exact ⟨qa, qb⟩ | (refine ⟨fun h => absurd h (by omega), ?_⟩; first | exact qb | (exact ⟨range_fr qa.1 f10 (fun h => h), range_fr qa.2.1 f10 (fun h => h), range_fr qa.2.2 f10 (fun h => h)⟩)) | (refine ⟨fun h => ?_, ?_⟩; (have qa := qa h); all_goals (first | exact qa | exact qb | (exact ⟨range_fr qa.1 f10 (fun h => h), range_fr qa.2.1 f10 (fun h => h), range_fr qa.2.2 f10 (fun h => h)⟩)))))
            have F10 := F9.trans f10 (fun _ h _ => h)
            generalize endedI hu (turnL L t) (3 + x % 125) (tabI f (3 + x % 125)) = en2 at *
            repeat
              first
              | (refine wpT_pure rfl rfl rfl ?_; apply Exists.intro; refine ⟨?_, ?_⟩; intro w; (first | (first | exact run_load_mid _ _ rfl b0 _ rfl _ _ qa.1 Try.underlying37 rfl Try.size_snap | exact run_load_mid _ _ rfl bt _ rfl _ _ qa.2.1 Try.underlying40 rfl hst.out | exact run_load_mid _ _ rfl bu _ rfl _ _ qa.2.2 Try.underlying37 rfl Try.size_snap) | (go_simp <;> rfl)); simp only [Act.put, List.setIfInBounds_toArray, List.set_cons_zero, List.set_cons_succ])
              | (refine wpT_take 26 rfl rfl (by decide +kernel) ⟨fun _ => ⟨range_fr q0 F10 (fun h => h), range_fr qt F10 (fun h => h), range_fr qu F10 (fun h => h)⟩, trivial⟩ ?_; apply Exists.intro; refine ⟨?_, ?_⟩; intro w hw; (have qa := hw.1 (Nat.le_refl _); have qb := hw.2); (first | (first | exact run_load_mid _ _ rfl b0 _ rfl _ _ qa.1 Try.underlying37 rfl Try.size_snap | exact run_load_mid _ _ rfl bt _ rfl _ _ qa.2.1 Try.underlying40 rfl hst.out | exact run_load_mid _ _ rfl bu _ rfl _ _ qa.2.2 Try.underlying37 rfl Try.size_snap) | (go_simp <;> rfl)); simp only [Act.put, List.setIfInBounds_toArray, List.set_cons_zero, List.set_cons_succ])
              | (refine wpT_skip rfl rfl ?_; simp only [Act.put, List.setIfInBounds_toArray, List.set_cons_zero, List.set_cons_succ])
            refine wpT_nil ?_
            have qt10 := range_fr qt F10 (fun h => h)
            have qu10 := range_fr qu F10 (fun h => h)
            have E2 := hid (Ended_tab (HUSL.out.fr F10 (fun _ _ h => h)) (by omega) hu 2 tc.toArray (tabI f 2) (fun w => ST.out 2 w))
            have FZ := hid (FW.out.trans F10 (fun _ h _ => h))
            clear F5 F6 F7 F8 F9 F10 f5 f6 f7 f8 f9 f10 D0 q0 qt qu
            go_wp2_with (first
              | (refine wpList_load_g rfl 37 _ rfl bu 0 rfl _ _ qu10 Try.underlying37 rfl Try.size_snap ?_)
              | (refine wpList_load_g rfl 40 _ rfl bt 0 rfl _ _ qt10 Try.underlying40 rfl hst.out ?_)
              | (go_at_call 27; refine E2.out.mono ?_; rintro e w11 ⟨rfl, f11⟩))
            go_ret
            exact ⟨ret_bool (by simp [endedI]), FZ.out.trans f11 (fun _ h _ => h)⟩
end Go.Proofs.Ytbkebjgoaeddjaa
namespace Go.Proofs.Ytbkebjgoaeddjaa.clockSees
open Go.ChangeShapes Go.WideShapes Go.ChangeAt Go.RowKit Go.VB Go.VB.Clk
set_option maxHeartbeats 400000 in
set_option maxRecDepth 100000 in
theorem lifted (os : Os) (started : os.Started) (H : Type) (enc : TypeId × Value → H) :
    ReturnsInHanded {} Try.checked os 5 .any (Rows.clockSeesSpec.pre6 enc Try.prog Try.f5 Rows.clockSeesRow.domain false) (Rows.clockSeesSpec.post enc Try.prog Try.f5 false true false false) := by
  refine returnsInHanded_of_change (C := Try.checked) own started (by kernel_rfl) Try.func5
    (ChangeSpec.witness6 (enc := enc) (C := Try.checked) false ⟨#[], #[.agg #[.int .i64 0, .slice none 0 0], .int .i64 0, .slice none 0 0], []⟩ 8 (by kernel_rfl) (by kernel_rfl) (by kernel_rfl) (by kernel_rfl)) ?_
  intro W base args ds gs before hval0 hW hcnd _
  have hval : ∀ (j : Nat) t v, Try.f5.params[j]? = some t → args[j]? = some v → Value.okWide Try.prog W .any base t v := hval0
  have hW' := hW
  obtain ⟨p, q, hA0, hV, rfl, hfz, hnd⟩ := hW
  have hA : DataW.TrodAll enc Try.prog W 0 (fun _ => true) true Try.f5.params.toList args.toList ds p := hA0
  rw [Try.params5] at hA hval
  obtain ⟨v0, vs0, d0, ds0, p0, q0, hargs, rfl, rfl, h0, r0⟩ := trodAll_cons hA
  obtain ⟨v1, vs1, d1, ds1, p1, q1, rfl, rfl, rfl, h1, r1⟩ := trodAll_cons r0
  obtain ⟨v2, vs2, d2, ds2, p2, q2, rfl, rfl, rfl, h2, r2⟩ := trodAll_cons r1
  obtain ⟨rfl, rfl, rfl⟩ := trodAll_nil r2
  obtain rfl : args = #[v0, v1, v2] := by cases args; simp_all
  obtain ⟨rfl, rfl⟩ := trodVars_none hV
  clear hA0 hval0
  refine Calls.mono (R := fun e w' => e = .returned (.bool true) ∧ Fr (fun _ => False) W w') ?_ fun e W' ⟨he, hf⟩ => ⟨_, he, post_law sound (by decide +kernel) rfl rfl (ht := Try.underlying4) (by rfl) hW' hf⟩
  obtain ⟨hi, u, L, rfl, ⟨la, lc, rfl, hlc, hL⟩, lL⟩ := snap_agg (hval 0 37 v0 rfl rfl) h0
  obtain ⟨a1, rfl, -, -, w1⟩ := open_int Try.underlying3 (hval 1 3 v1 rfl rfl) h1
  obtain ⟨M, sM, lM, -⟩ := open_ins (hval 2 26 v2 rfl rfl) h2
  exact ClockSees_walk hi a1 la lc L M W v2 hL hlc sM lL lM
theorem proved : Rows.ClockSeesSaid :=
  OpenClaim.holds_of_wide 5 Try.f5 rfl rfl rfl rfl rfl rfl rfl ⟨rfl, rfl, rfl, rfl, rfl⟩ rfl rfl rfl rfl rfl (by kernel_rfl) Try.func5 (by kernel_rfl)
    (of_decide_eq_true (by kernel_rfl)) (by unfold Func.isWrapper; first | (rw [if_pos (by decide +kernel)]; kernel_rfl) | (rw [if_neg (by decide +kernel)]; exact ⟨rfl, rfl⟩))
    (fun os started H enc _ => lifted os started H enc)
end Go.Proofs.Ytbkebjgoaeddjaa.clockSees
