import Derived.Test.YtbkebjgoaeddjaaClkRC
/- The reference's clock: Reach, Snap, Oldest, Freeze. -/
set_option linter.unusedVariables false
namespace Go.Proofs.Ytbkebjgoaeddjaa
open Go.RowKit Go.VB Go.VB.Clk
variable {w : World} {c : Nat} {m : CM}
set_option maxRecDepth 20000 in
set_option maxHeartbeats 2000000 in
theorem rReach_go (h : RRep w c m) (ok : m.Ok) (x : Int) : Calls Try.prog 63 #[.pointer (some ⟨c, 0, none⟩), .int .i64 x] w fun e w' => e = .returned (.tuple #[]) ∧ RRep w' c (m.reach x) ∧ Fr (fun k => k = c) w w' := by
  have HH := hid h
  unfold CM.reach
  cases ho : on x with
  | false =>
    rw [if_neg (by simp)]
    have HO := hid (fun w => rOn_is x w ho)
    clear h ho
    go_enter Try.func63, Try.ntmps63
    go_wp2_with (go_at_call 53; refine (HO.out _).mono ?_; rintro e w' ⟨rfl, rfl⟩)
    exact bodyPost_ret (v := .tuple #[]) (results_none rfl _ _ _) rfl ⟨rfl, HH.out, Fr.refl _ _⟩
  | true =>
    have HO := hid (fun w => rOn_is x w ho)
    obtain ⟨k, rfl, k1, k2⟩ := on_nat ho
    have hl := ok.lo
    have hx := ok.nx
    have HS := hid (fun w => rSteps_go m.low k w hl ⟨k1, k2⟩)
    have l0 := h.low
    rw [Int.toNat_natCast]
    by_cases hf : steps m.low k < 60
    · rw [if_pos (by simp [hf])]
      have hd : decide (60 ≤ steps m.low k) = false := by simp; omega
      have HKN := hid (fun j hj => addN_knows ok j k hj k1 k2)
      have HAO := hid (fun j hj => addN_ok ok j hj)
      have hfar := ok.far
      clear h ho
      generalize hp : steps m.low k = p at *
      have HP := hid hp
      clear hp
      go_enter Try.func63, Try.ntmps63
      go_wp2_with (first
        | (go_at_call 53; refine (HO.out _).mono ?_; rintro e w' ⟨rfl, rfl⟩)
        | (go_at_call 55; refine (HS.out _).mono ?_; rintro e w' ⟨rfl, rfl⟩))
      go_loopg [] (p + 1 - m.n) (fun g wr => ∃ j : Nat, g = p + 1 - m.n - j ∧ (j = 0 ∨ m.n + j ≤ p + 1) ∧ RRep wr c (m.addN j) ∧ Fr (fun k => k = c) w wr)
      case atStart => exact ⟨0, by omega, .inl rfl, HH.out, Fr.refl _ _⟩
      case round =>
        obtain ⟨j, hg, hj, hc, fr⟩ := hrel
        have hj60 : m.n + j ≤ 60 := by omega
        obtain ⟨okj, -, hnj⟩ := HAO.out j hj60
        have hkn := HKN.out j hj60
        by_cases hk : p < m.n + j
        · have e : p + 1 - m.n = j := by omega
          rw [decide_eq_true hk] at hkn
          have HK := hid (rknows_is hc okj k hkn)
          have HE := hid e
          have HC := hid hc
          clear hc hkn e
          go_wp2_with (go_at_call 70; refine HK.out.mono ?_; rintro e w' ⟨rfl, f⟩)
          exact bodyPost_ret (v := .tuple #[]) (results_none rfl _ _ _) rfl ⟨rfl, by rw [HE.out]; exact RRep.fr HC.out f (fun h => h), fr.trans f (fun _ h _ => h.elim)⟩
        · rw [decide_eq_false hk] at hkn
          have HK := hid (rknows_is hc okj k hkn)
          have HC := hid hc
          have hb := CM.begin_zero (m := m.addN j) (by omega)
          have HB := hid hb
          clear hc hkn hb
          go_wp2_with (fail)
          refine HK.out.mono ?_
          rintro e w1 ⟨rfl, f⟩
          have hB := rBegin_go (RRep.fr HC.out f (fun h => h)) okj 0
          rw [HB.out] at hB
          go_wp2_with (fail)
          refine hB.mono ?_
          rintro e w2 ⟨rfl, hc2, f2⟩
          have HC2 := hid hc2
          clear hc2 hB
          go_wp2_with (fail)
          go_roundg (p + 1 - m.n - (j + 1))
          case measure => omega
          case rel => exact ⟨j + 1, rfl, .inr (by omega), HC2.out, (fr.trans f (fun _ h _ => h.elim)).trans f2 (fun _ h _ => h)⟩
    · rw [if_neg (by simp [hf])]
      have hd : decide (60 ≤ steps m.low k) = true := by simp; omega
      clear h ho
      go_enter Try.func63, Try.ntmps63
      go_wp2_with (first
        | (go_at_call 53; refine (HO.out _).mono ?_; rintro e w' ⟨rfl, rfl⟩)
        | (go_at_call 55; refine (HS.out _).mono ?_; rintro e w' ⟨rfl, rfl⟩))
      exact bodyPost_ret (v := .tuple #[]) (results_none rfl _ _ _) rfl ⟨rfl, HH.out, Fr.refl _ _⟩
set_option maxRecDepth 20000 in
set_option maxHeartbeats 4000000 in
theorem rSnap_go (h : RRep w c m) (ok : m.Ok) : Calls Try.prog 64 #[.pointer (some ⟨c, 0, none⟩)] w fun e w' => ∃ v, e = .returned (.agg #[.int .i64 m.next, v]) ∧ Row 3 1 w.heap.size w' v m.lives.length (nv m.lives) ∧ Fr (fun _ => False) w w' := by
  have hcl := Blk.lt h
  have l1 := h.next
  have hf := ok.far
  have F0 := ((Fr.refl (fun _ => False) w).alloc (.cells #[Value.int .i64 0, .slice none 0 0] 37)).alloc (.cells #[Value.int .i64 m.next, .slice none 0 0] 37)
  have A0 := (Blk.new w [Value.int .i64 0, .slice none 0 0] 37).alloc (.cells #[Value.int .i64 m.next, .slice none 0 0] 37)
  have B0 := Blk.new (w.alloc (.cells #[Value.int .i64 0, .slice none 0 0] 37)) [Value.int .i64 m.next, .slice none 0 0] 37
  rw [World.size_alloc] at B0
  have R0 := RRep.fr h F0 (fun h => h)
  have hkl := m.known_length
  have LZ := hid m.liveN_zero
  have LY := hid (fun i h hl => m.liveN_yes i h hl)
  have LN := hid (fun i h hl => m.liveN_no i h hl)
  have LA := hid m.liveN_all
  have LL := hid (fun i => m.liveN_le i)
  have HKN := hid (rKnown_go R0 ok)
  have HG := hid ((⟨F0, A0, B0, R0⟩ : _ ∧ _ ∧ _ ∧ _))
  clear F0 A0 B0 R0 h
  go_enter Try.func64, Try.ntmps64
  go_wp2_with (fail)
  refine HKN.out.mono ?_
  rintro e w2 ⟨v, rfl, row, f2⟩
  obtain ⟨la, lc, rfl, hlc⟩ := row.slice
  have F2 := hid (HG.out.1.trans f2 (fun _ h _ => h))
  have A2 := HG.out.2.1.fr f2 (fun h => h)
  have B2 := HG.out.2.2.1.fr f2 (fun h => h)
  have R2 := hid (RRep.fr HG.out.2.2.2 f2 (fun h => h))
  have hb2 := B2.lt
  have hs2 := f2.size
  have HL := hid (fun i (hi : i < m.n) => show ∃ g, la = some ⟨g, 0, none⟩ ∧ g < w2.heap.size ∧ g ≠ w.heap.size + 1 ∧ w2.cell? ⟨g, i, none⟩ = some (.int .i64 (xat m.low i : Nat)) by
    obtain ⟨g, rfl, hg, hr⟩ := row_cells row (by intro e; have := nv_length m.known; rw [e, hkl] at this; simp at this; omega)
    have := hr i (.int .i64 (xat m.low i : Nat)) (by simp only [nv, List.getElem?_map]; rw [List.getElem?_eq_getElem (by omega), m.known_get i (by omega)]; rfl)
    exact ⟨g, rfl, lt_of_cell this, (by simp at hg; omega), this⟩)
  have HA2 := hid A2
  have HB2 := hid B2
  clear HKN HG row f2 A2 B2 hkl l1
  generalize hbb : w.heap.size = bz at *
  have HBB := hid hbb
  clear hbb
  go_wp2_with (fail)
  go_loopw [5] (fun i wr => ∃ (j : Nat) (v : Value), j ≤ m.n ∧ i = .int .i64 j ∧ Blk wr (bz + 1) [.int .i64 m.next, v] 37 ∧ Row 3 1 w2.heap.size wr v (m.liveN j).length (nv (m.liveN j)) ∧ Fr (fun k => k = bz + 1) w2 wr) (fun i _ => m.n - (intOf i).toNat)
  case atStart => exact ⟨0, _, by omega, rfl, HB2.out, by rw [LZ.out]; exact Row.nil, Fr.refl _ _⟩
  case round =>
    obtain ⟨j, v, hj, rfl, hB, row, fr⟩ := hrel
    obtain ⟨va, vc, rfl, hvc⟩ := row.slice
    by_cases hjn : j < m.n
    · obtain ⟨g, rfl, hg, hgb, q⟩ := HL.out j hjn
      have hon := xat_on m.low j
      have hli := LL.out j
      have ly := LY.out j hjn
      have ln := LN.out j hjn
      have R3 := RRep.fr R2.out fr (by omega)
      have q0 := cell_fr q fr hgb
      have s0 := R3.st (x := xat m.low j) (by omega)
      have i1 : (0 : Int) ≤ j := by omega
      have i2 : (j : Int) < m.n := by omega
      have fsz := fr.size
      have HB := hid hB
      have FR := hid fr
      have ROW := hid row
      unfold CM.live at ly ln
      generalize m.st (xat m.low j) = sv at *
      generalize xat m.low j = y at *
      have y1 : (0 : Int) ≤ (y : Int) := by omega
      have y2 : (y : Int) < 128 := by omega
      have y3 : y < 128 := by omega
      clear hB fr row R3 q
      by_cases hlv : liveS sv = true
      · have HS := hid (ly hlv)
        have hap : ∀ k, (Value.slice va (m.liveN j).length vc).ownBlock = some k → k ≠ bz + 1 ∧ k ≠ g := fun k hk => by have := ROW.out.new k hk; omega
        have HAP := hid hap
        rcases liveS_cases hlv with rfl | rfl
        · skip
          clear ly ln hlv hap
          go_wp2_with (fail)
          refine wp_region_scr (.take 0 (.take 1 (.take 2 (.take 3 (.take 4 (.take 5 (.take 6 (.take 7 (.take 8 (.take 9 (.take 10 (.take 11 (.take 12 (.take 13 (.take 14 (.take 15 (.take 16 (.take 17 (.take 18 (.take 19 (.take 20 (.take 21 .done)))))))))))))))))))))) (fun kz w => (kz ≤ 22 → w.cell? ⟨g, j, none⟩ = some (.int .i64 y) ∧ w.cell? ⟨c, 2 + y, none⟩ = some (.int .i64 1)) ∧ True) (by kernel_rfl) (by kernel_rfl) (by intro c a d v w h; cases d <;> exact h) ?_
          repeat
            first
            | (refine wpT_pure rfl rfl rfl ?_; apply Exists.intro; refine ⟨?_, ?_⟩; intro w; ((go_simp <;> rfl)); simp only [Act.put, List.setIfInBounds_toArray, List.set_cons_zero, List.set_cons_succ])
            | (refine wpT_take 22 rfl rfl (by decide +kernel) ⟨fun _ => ⟨q0, s0⟩, trivial⟩ ?_; apply Exists.intro; refine ⟨?_, ?_⟩; intro w hw; (have qa := hw.1 (Nat.le_refl _); have qb := hw.2); ((go_simp <;> rfl)); simp only [Act.put, List.setIfInBounds_toArray, List.set_cons_zero, List.set_cons_succ])
            | (refine wpT_skip rfl rfl ?_; simp only [Act.put, List.setIfInBounds_toArray, List.set_cons_zero, List.set_cons_succ])
          refine wpT_nil ?_
          go_wp2_with (fail)
          have k1 : wr.drew.cell? ⟨bz + 1, 1, none⟩ = some (.slice va (m.liveN j).length vc) := HB.out.cell 1
          have q1 : wr.drew.cell? ⟨g, j, none⟩ = some (.int .i64 y) := q0
          have ROW1 := hid (ROW.out.fre ((Fr.refl (fun _ => False) wr).drew))
          have HB1 := hid (HB.out.drew)
          have FR1 := hid (FR.out.drew)
          have fsz : w2.heap.size ≤ wr.drew.heap.size := fsz
          clear q0 s0 FR HB ROW
          generalize wr.drew = W at *
          have fsz : w2.heap.size ≤ W.drew.heap.size := fsz
          have ROW := hid (ROW1.out.fre ((Fr.refl (fun _ => False) W).drew))
          refine wp_region_scr (.take 0 (.take 1 (.take 2 (.take 3 (.take 4 (.take 5 (.op 6 (.op 7 (.take 8 (.op 9 .done)))))))))) (fun kz w => (kz ≤ 9 → w.cell? ⟨bz + 1, 1, none⟩ = some (.slice va (m.liveN j).length vc) ∧ w.cell? ⟨g, j, none⟩ = some (.int .i64 y)) ∧ True) (by kernel_rfl) (by kernel_rfl) (by intro c a d v w h; cases d <;> exact h) ?_
          repeat
            first
            | (refine wpT_pure rfl rfl rfl ?_; apply Exists.intro; refine ⟨?_, ?_⟩; intro w; ((go_simp <;> rfl)); simp only [Act.put, List.setIfInBounds_toArray, List.set_cons_zero, List.set_cons_succ])
            | (refine wpT_take 9 rfl rfl (by decide +kernel) ⟨fun _ => ⟨k1, q1⟩, trivial⟩ ?_; apply Exists.intro; refine ⟨?_, ?_⟩; intro w hw; (have qa := hw.1 (Nat.le_refl _); have qb := hw.2); ((go_simp <;> rfl)); simp only [Act.put, List.setIfInBounds_toArray, List.set_cons_zero, List.set_cons_succ])
            | (refine wpT_skip rfl rfl ?_; simp only [Act.put, List.setIfInBounds_toArray, List.set_cons_zero, List.set_cons_succ])
          refine wpT_op rfl ?_
          go_wp2_with (fail)
          (refine ⟨?_, ?_⟩; focus (intro kz hk hk2; rintro ⟨qa, qb⟩; first | (exfalso; simp at hk2; omega) | exact ⟨qa, qb⟩ | (refine ⟨fun h => absurd h (by omega), ?_⟩; first | exact qb | (exact ⟨cell_fr qa.1 ((Fr.refl (fun _ => False) _).alloc _) (fun h => h), cell_fr qa.2 ((Fr.refl (fun _ => False) _).alloc _) (fun h => h)⟩)) | (refine ⟨fun h => ?_, ?_⟩; (have qa := qa h); all_goals (first | exact qa | exact qb | (exact ⟨cell_fr qa.1 ((Fr.refl (fun _ => False) _).alloc _) (fun h => h), cell_fr qa.2 ((Fr.refl (fun _ => False) _).alloc _) (fun h => h)⟩)))))
          have fh := (Fr.refl (fun _ => False) W).drew
          refine wpT_op rfl ?_
          refine wpList_app1 rfl (s := .tmp 42) (x := .tmp 47) (t := 26) rfl Try.underlying26 Try.info_int rfl rfl rfl ROW.out fsz rfl (by simp [Value.oneCell']) (by omega) (by omega) ?_
          intro ab ac wg APP
          have k2 : wg.cell? ⟨bz + 1, 1, none⟩ = some (.slice va (m.liveN j).length vc) := cell_fr (w := W.drew) k1 APP.fr (fun h => (HAP.out _ h).1 rfl)
          have q2 : wg.cell? ⟨g, j, none⟩ = some (.int .i64 y) := cell_fr (w := W.drew) q1 APP.fr (fun h => (HAP.out _ h).2 rfl)
          have HB2 := hid (HB1.out.drew.fr APP.fr (fun h => (HAP.out _ h).1 rfl))
          have z2 := HB2.out.frozen 1
          have hap2 : ∀ k, (Value.slice ab ((m.liveN j).length + 1) ac).ownBlock = some k → k ≠ bz + 1 := fun k hk => by have := APP.row.new k hk; omega
          have F2' := hid ((FR1.out.drew.trans APP.fr (T := fun k => (Value.slice va (m.liveN j).length vc).ownBlock = some k) (fun k hk hl => by have := ROW.out.new k hk; omega)).setCell ⟨bz + 1, 1, none⟩ (.slice ab ((m.liveN j).length + 1) ac) (fun _ => rfl))
          have HB3 := hid (HB2.out.set 1 (.slice ab ((m.liveN j).length + 1) ac))
          have ROW3 := hid (APP.row.fr ((Fr.refl (fun k => k = bz + 1) wg).setCell ⟨bz + 1, 1, none⟩ (.slice ab ((m.liveN j).length + 1) ac) (fun _ => rfl)) hap2)
          clear APP hap2 k1 q1 FR1 HB1 HB2 ROW1 ROW fh fsz HAP
          go_wp2_with (fail)
          refine ⟨fun kz hk hk2 hh => ⟨fun h => ⟨k2, q2⟩, trivial⟩, ?_⟩
          repeat
            first
            | (refine wpT_pure rfl rfl rfl ?_; apply Exists.intro; refine ⟨?_, ?_⟩; intro w; ((go_simp <;> rfl)); simp only [Act.put, List.setIfInBounds_toArray, List.set_cons_zero, List.set_cons_succ])
            | (refine wpT_take 9 rfl rfl (by decide +kernel) ⟨fun _ => ⟨k2, q2⟩, trivial⟩ ?_; apply Exists.intro; refine ⟨?_, ?_⟩; intro w hw; (have qa := hw.1 (Nat.le_refl _); have qb := hw.2); ((go_simp <;> rfl)); simp only [Act.put, List.setIfInBounds_toArray, List.set_cons_zero, List.set_cons_succ])
            | (refine wpT_skip rfl rfl ?_; simp only [Act.put, List.setIfInBounds_toArray, List.set_cons_zero, List.set_cons_succ])
          refine wpT_op rfl ?_
          go_wp2_with (fail)
          (refine ⟨?_, ?_⟩; focus (intro kz hk hk2; rintro ⟨qa, qb⟩; first | (exfalso; simp at hk2; omega) | exact ⟨qa, qb⟩ | (refine ⟨fun h => absurd h (by omega), ?_⟩; first | exact qb | (exact qa)) | (refine ⟨fun h => ?_, ?_⟩; (have qa := qa h); all_goals (first | exact qa | exact qb | (exact qa)))))
          refine wpT_nil ?_
          go_wp2_with (fail)
          go_roundw
          case rel => exact ⟨j + 1, _, by omega, by go_num, HB3.out, ROW3.out.cast (by rw [HS.out]; simp) (by rw [HS.out, nv_snoc]), F2'.out⟩
          case measure => simp [intOf]; omega
        
        · skip
          clear ly ln hlv hap
          go_wp2_with (fail)
          refine wp_region_scr (.take 0 (.take 1 (.take 2 (.take 3 (.take 4 (.take 5 (.take 6 (.take 7 (.take 8 (.take 9 (.take 10 (.take 11 (.take 12 (.take 13 (.take 14 (.take 15 (.take 16 (.take 17 (.take 18 (.take 19 (.take 20 (.take 21 .done)))))))))))))))))))))) (fun kz w => (kz ≤ 22 → w.cell? ⟨g, j, none⟩ = some (.int .i64 y) ∧ w.cell? ⟨c, 2 + y, none⟩ = some (.int .i64 4)) ∧ True) (by kernel_rfl) (by kernel_rfl) (by intro c a d v w h; cases d <;> exact h) ?_
          repeat
            first
            | (refine wpT_pure rfl rfl rfl ?_; apply Exists.intro; refine ⟨?_, ?_⟩; intro w; ((go_simp <;> rfl)); simp only [Act.put, List.setIfInBounds_toArray, List.set_cons_zero, List.set_cons_succ])
            | (refine wpT_take 22 rfl rfl (by decide +kernel) ⟨fun _ => ⟨q0, s0⟩, trivial⟩ ?_; apply Exists.intro; refine ⟨?_, ?_⟩; intro w hw; (have qa := hw.1 (Nat.le_refl _); have qb := hw.2); ((go_simp <;> rfl)); simp only [Act.put, List.setIfInBounds_toArray, List.set_cons_zero, List.set_cons_succ])
            | (refine wpT_skip rfl rfl ?_; simp only [Act.put, List.setIfInBounds_toArray, List.set_cons_zero, List.set_cons_succ])
          refine wpT_nil ?_
          go_wp2_with (fail)
          have k1 : wr.drew.cell? ⟨bz + 1, 1, none⟩ = some (.slice va (m.liveN j).length vc) := HB.out.cell 1
          have q1 : wr.drew.cell? ⟨g, j, none⟩ = some (.int .i64 y) := q0
          have ROW1 := hid (ROW.out.fre ((Fr.refl (fun _ => False) wr).drew))
          have HB1 := hid (HB.out.drew)
          have FR1 := hid (FR.out.drew)
          have fsz : w2.heap.size ≤ wr.drew.heap.size := fsz
          clear q0 s0 FR HB ROW
          generalize wr.drew = W at *
          have fsz : w2.heap.size ≤ W.drew.heap.size := fsz
          have ROW := hid (ROW1.out.fre ((Fr.refl (fun _ => False) W).drew))
          refine wp_region_scr (.take 0 (.take 1 (.take 2 (.take 3 (.take 4 (.take 5 (.op 6 (.op 7 (.take 8 (.op 9 .done)))))))))) (fun kz w => (kz ≤ 9 → w.cell? ⟨bz + 1, 1, none⟩ = some (.slice va (m.liveN j).length vc) ∧ w.cell? ⟨g, j, none⟩ = some (.int .i64 y)) ∧ True) (by kernel_rfl) (by kernel_rfl) (by intro c a d v w h; cases d <;> exact h) ?_
          repeat
            first
            | (refine wpT_pure rfl rfl rfl ?_; apply Exists.intro; refine ⟨?_, ?_⟩; intro w; ((go_simp <;> rfl)); simp only [Act.put, List.setIfInBounds_toArray, List.set_cons_zero, List.set_cons_succ])
            | (refine wpT_take 9 rfl rfl (by decide +kernel) ⟨fun _ => ⟨k1, q1⟩, trivial⟩ ?_; apply Exists.intro; refine ⟨?_, ?_⟩; intro w hw; (have qa := hw.1 (Nat.le_refl _); have qb := hw.2); ((go_simp <;> rfl)); simp only [Act.put, List.setIfInBounds_toArray, List.set_cons_zero, List.set_cons_succ])
            | (refine wpT_skip rfl rfl ?_; simp only [Act.put, List.setIfInBounds_toArray, List.set_cons_zero, List.set_cons_succ])
          refine wpT_op rfl ?_
          go_wp2_with (fail)
          (refine ⟨?_, ?_⟩; focus (intro kz hk hk2; rintro ⟨qa, qb⟩; first | (exfalso; simp at hk2; omega) | exact ⟨qa, qb⟩ | (refine ⟨fun h => absurd h (by omega), ?_⟩; first | exact qb | (exact ⟨cell_fr qa.1 ((Fr.refl (fun _ => False) _).alloc _) (fun h => h), cell_fr qa.2 ((Fr.refl (fun _ => False) _).alloc _) (fun h => h)⟩)) | (refine ⟨fun h => ?_, ?_⟩; (have qa := qa h); all_goals (first | exact qa | exact qb | (exact ⟨cell_fr qa.1 ((Fr.refl (fun _ => False) _).alloc _) (fun h => h), cell_fr qa.2 ((Fr.refl (fun _ => False) _).alloc _) (fun h => h)⟩)))))
          have fh := (Fr.refl (fun _ => False) W).drew
          refine wpT_op rfl ?_
          refine wpList_app1 rfl (s := .tmp 42) (x := .tmp 47) (t := 26) rfl Try.underlying26 Try.info_int rfl rfl rfl ROW.out fsz rfl (by simp [Value.oneCell']) (by omega) (by omega) ?_
          intro ab ac wg APP
          have k2 : wg.cell? ⟨bz + 1, 1, none⟩ = some (.slice va (m.liveN j).length vc) := cell_fr (w := W.drew) k1 APP.fr (fun h => (HAP.out _ h).1 rfl)
          have q2 : wg.cell? ⟨g, j, none⟩ = some (.int .i64 y) := cell_fr (w := W.drew) q1 APP.fr (fun h => (HAP.out _ h).2 rfl)
          have HB2 := hid (HB1.out.drew.fr APP.fr (fun h => (HAP.out _ h).1 rfl))
          have z2 := HB2.out.frozen 1
          have hap2 : ∀ k, (Value.slice ab ((m.liveN j).length + 1) ac).ownBlock = some k → k ≠ bz + 1 := fun k hk => by have := APP.row.new k hk; omega
          have F2' := hid ((FR1.out.drew.trans APP.fr (T := fun k => (Value.slice va (m.liveN j).length vc).ownBlock = some k) (fun k hk hl => by have := ROW.out.new k hk; omega)).setCell ⟨bz + 1, 1, none⟩ (.slice ab ((m.liveN j).length + 1) ac) (fun _ => rfl))
          have HB3 := hid (HB2.out.set 1 (.slice ab ((m.liveN j).length + 1) ac))
          have ROW3 := hid (APP.row.fr ((Fr.refl (fun k => k = bz + 1) wg).setCell ⟨bz + 1, 1, none⟩ (.slice ab ((m.liveN j).length + 1) ac) (fun _ => rfl)) hap2)
          clear APP hap2 k1 q1 FR1 HB1 HB2 ROW1 ROW fh fsz HAP
          go_wp2_with (fail)
          refine ⟨fun kz hk hk2 hh => ⟨fun h => ⟨k2, q2⟩, trivial⟩, ?_⟩
          repeat
            first
            | (refine wpT_pure rfl rfl rfl ?_; apply Exists.intro; refine ⟨?_, ?_⟩; intro w; ((go_simp <;> rfl)); simp only [Act.put, List.setIfInBounds_toArray, List.set_cons_zero, List.set_cons_succ])
            | (refine wpT_take 9 rfl rfl (by decide +kernel) ⟨fun _ => ⟨k2, q2⟩, trivial⟩ ?_; apply Exists.intro; refine ⟨?_, ?_⟩; intro w hw; (have qa := hw.1 (Nat.le_refl _); have qb := hw.2); ((go_simp <;> rfl)); simp only [Act.put, List.setIfInBounds_toArray, List.set_cons_zero, List.set_cons_succ])
            | (refine wpT_skip rfl rfl ?_; simp only [Act.put, List.setIfInBounds_toArray, List.set_cons_zero, List.set_cons_succ])
          refine wpT_op rfl ?_
          go_wp2_with (fail)
          (refine ⟨?_, ?_⟩; focus (intro kz hk hk2; rintro ⟨qa, qb⟩; first | (exfalso; simp at hk2; omega) | exact ⟨qa, qb⟩ | (refine ⟨fun h => absurd h (by omega), ?_⟩; first | exact qb | (exact qa)) | (refine ⟨fun h => ?_, ?_⟩; (have qa := qa h); all_goals (first | exact qa | exact qb | (exact qa)))))
          refine wpT_nil ?_
          go_wp2_with (fail)
          go_roundw
          case rel => exact ⟨j + 1, _, by omega, by go_num, HB3.out, ROW3.out.cast (by rw [HS.out]; simp) (by rw [HS.out, nv_snoc]), F2'.out⟩
          case measure => simp [intOf]; omega
        
      · have HS := hid (ln (by simpa using hlv))
        have h1 : (sv == 1) = false := by rw [Bool.eq_false_iff]; intro e; exact hlv (by have : sv = 1 := by simpa using e
                                                                                         rw [this]; rfl)
        have h4 : (sv == 4) = false := by rw [Bool.eq_false_iff]; intro e; exact hlv (by have : sv = 4 := by simpa using e
                                                                                         rw [this]; rfl)
        clear ly ln hlv
        go_wp2_with (fail)
        refine wp_region_scr (.take 0 (.take 1 (.take 2 (.take 3 (.take 4 (.take 5 (.take 6 (.take 7 (.take 8 (.take 9 (.take 10 (.take 11 (.take 12 (.take 13 (.take 14 (.take 15 (.take 16 (.take 17 (.take 18 (.take 19 (.take 20 (.take 21 .done)))))))))))))))))))))) (fun kz w => (kz ≤ 22 → w.cell? ⟨g, j, none⟩ = some (.int .i64 y) ∧ w.cell? ⟨c, 2 + y, none⟩ = some (.int .i64 sv)) ∧ True) (by kernel_rfl) (by kernel_rfl) (by intro c a d v w h; cases d <;> exact h) ?_
        repeat
          first
          | (refine wpT_pure rfl rfl rfl ?_; apply Exists.intro; refine ⟨?_, ?_⟩; intro w; ((go_simp <;> rfl)); simp only [Act.put, List.setIfInBounds_toArray, List.set_cons_zero, List.set_cons_succ])
          | (refine wpT_take 22 rfl rfl (by decide +kernel) ⟨fun _ => ⟨q0, s0⟩, trivial⟩ ?_; apply Exists.intro; refine ⟨?_, ?_⟩; intro w hw; (have qa := hw.1 (Nat.le_refl _); have qb := hw.2); ((go_simp <;> rfl)); simp only [Act.put, List.setIfInBounds_toArray, List.set_cons_zero, List.set_cons_succ])
          | (refine wpT_skip rfl rfl ?_; simp only [Act.put, List.setIfInBounds_toArray, List.set_cons_zero, List.set_cons_succ])
        refine wpT_nil ?_
        go_wp2_with (fail)
        go_roundw
        case rel => exact ⟨j + 1, _, by omega, by go_num, HB.out.drew, by rw [HS.out]; exact ROW.out.fre ((Fr.refl (fun _ => False) wr).drew), FR.out.drew⟩
        case measure => simp [intOf]; omega
    · obtain rfl : j = m.n := by omega
      rw [LA.out] at row hB
      have gs := hB.all
      have hA := HA2.out.fr fr (by omega)
      have hT := hA.there 0 2 (by simp)
      have HB4 := hid (hA.put 0 [.int .i64 m.next, .slice va m.lives.length vc] (by simp))
      have F4 := hid (((F2.out.trans fr (T := fun k => k = bz + 1) (fun k hk hl => by have := HBB.out; omega)) : Fr (fun _ => False) w wr).put bz 0 [.int .i64 m.next, .slice va m.lives.length vc] (fun h => by have := HBB.out; omega))
      have ROW4 := hid ((row.low (A := bz) (by omega)).fr ((Fr.refl (fun k => k = bz) wr).put bz 0 [.int .i64 m.next, .slice va m.lives.length vc] (fun _ => rfl)) (fun k hk => by have := row.new k hk; omega))
      clear row hB fr hA
      go_wp2_with (first
        | (refine wpList_load_mid rfl 37 _ rfl (bz + 1) 0 rfl _ _ gs Try.underlying37 rfl Try.size_snap ?_)
        | (refine wpList_store_mid rfl 37 _ _ rfl bz 0 _ rfl rfl hT Try.size_snap (by simp [Value.oneCell']) ?_; rw [List.toList_toArray]))
      exact bodyPost_ret (v := .agg #[.int .i64 m.next, .slice va m.lives.length vc]) (results_cell_mid (b := bz) (o := 0) rfl _ _ rfl (cs := [.int .i64 m.next, .slice va m.lives.length vc]) (Blk.all _ HB4.out) Try.underlying37 rfl Try.size_snap) rfl ⟨_, rfl, by rw [HBB.out]; exact ROW4.out, F4.out⟩
set_option maxRecDepth 20000 in
set_option maxHeartbeats 2000000 in
theorem rOldest_go (h : RRep w c m) (ok : m.Ok) : Calls Try.prog 65 #[.pointer (some ⟨c, 0, none⟩)] w fun e w' => e = .returned (.int .i64 m.oldest) ∧ Fr (fun _ => False) w w' := by
  have HH := hid h
  unfold CM.oldest
  have HS := hid (rSnap_go h ok)
  have hrun := fun (x : Value) (a : Option Addr) (n q : Nat) (w : World) => run_snap_live x a n q w
  clear h
  generalize m.lives = L at *
  go_enter Try.func65, Try.ntmps65
  go_wp2_with (fail)
  refine HS.out.mono ?_
  rintro e w1 ⟨v, rfl, row, f⟩
  have l1 := RRep.next (RRep.fr HH.out f (fun h => h))
  obtain ⟨va, vc, rfl, hvc⟩ := row.slice
  cases L with
  | nil =>
    clear row HS
    go_wp2_with (fail)
    go_ret
    exact ⟨rfl, f⟩
  | cons a l =>
    obtain ⟨g, rfl, -, hr⟩ := row_cells row (by simp [nv])
    have q := hr 0 (.int .i64 a) rfl
    simp only [List.length_cons] at hvc ⊢
    have hp : 0 < l.length + 1 := by omega
    have hp2 : (0 : Int) < ((l.length + 1 : Nat) : Int) := by omega
    clear row hr HS
    generalize l.length + 1 = n at *
    go_wp2_with (fail)
    go_ret
    exact ⟨rfl, f⟩
set_option maxRecDepth 20000 in
set_option maxHeartbeats 2000000 in
theorem rFreeze_go (h : RRep w c m) (ok : m.Ok) (x : Int) : Calls Try.prog 62 #[.pointer (some ⟨c, 0, none⟩), .int .i64 x] w fun e w' => e = .returned (.tuple #[]) ∧ RRep w' c (m.freeze x) ∧ Fr (fun k => k = c) w w' := by
  have HH := hid h
  unfold CM.freeze CM.mayF
  cases ho : on x with
  | false =>
    rw [if_neg (by simp)]
    have HO := hid (fun w => rOn_is x w ho)
    have l0 := h.low
    clear h ho
    go_enter Try.func62, Try.ntmps62
    go_wp2_with (go_at_call 53; refine (HO.out _).mono ?_; rintro e w' ⟨rfl, rfl⟩)
    refine wp_region_scr (.take 0 (.take 1 (.take 2 (.take 3 (.take 4 (.take 5 (.take 6 (.take 8 (.take 9 (.take 10 (.take 11 (.take 12 (.op 7 (.op 13 (.op 14 (.take 15 (.take 16 .done))))))))))))))))) (fun kz w => (kz ≤ 17 → w.cell? ⟨c, 0, none⟩ = some (.int .i64 m.low)) ∧ True) (by kernel_rfl) (by kernel_rfl) (by intro c a d v w h; cases d <;> exact h) ?_
    repeat
      first
      | (refine wpT_pure rfl rfl rfl ?_; apply Exists.intro; refine ⟨?_, ?_⟩; intro w; ((go_simp <;> rfl)); simp only [Act.put, List.setIfInBounds_toArray, List.set_cons_zero, List.set_cons_succ])
      | (refine wpT_take 17 rfl rfl (by decide +kernel) ⟨fun _ => l0, trivial⟩ ?_; apply Exists.intro; refine ⟨?_, ?_⟩; intro w hw; (have qa := hw.1 (Nat.le_refl _); have qb := hw.2); ((go_simp <;> rfl)); simp only [Act.put, List.setIfInBounds_toArray, List.set_cons_zero, List.set_cons_succ])
      | (refine wpT_skip rfl rfl ?_; simp only [Act.put, List.setIfInBounds_toArray, List.set_cons_zero, List.set_cons_succ])
    refine wpT_op rfl ?_
    go_wp2_with (fail)
    (refine ⟨?_, ?_⟩; focus (intro kz hk hk2; rintro ⟨qa, qb⟩; first | (exfalso; simp at hk2; omega) | exact ⟨qa, qb⟩ | (refine ⟨fun h => absurd h (by omega), ?_⟩; first | exact qb | (exact qa)) | (refine ⟨fun h => ?_, ?_⟩; (have qa := qa h); all_goals (first | exact qa | exact qb | (exact qa)))))
    refine wpT_op rfl ?_
    go_wp2_with (fail)
    (refine ⟨?_, ?_⟩; focus (intro kz hk hk2; rintro ⟨qa, qb⟩; first | (exfalso; simp at hk2; omega) | exact ⟨qa, qb⟩ | (refine ⟨fun h => absurd h (by omega), ?_⟩; first | exact qb | (exact qa)) | (refine ⟨fun h => ?_, ?_⟩; (have qa := qa h); all_goals (first | exact qa | exact qb | (exact qa)))))
    refine wpT_op rfl ?_
    go_wp2_with (fail)
    (refine ⟨?_, ?_⟩; focus (intro kz hk hk2; rintro ⟨qa, qb⟩; first | (exfalso; simp at hk2; omega) | exact ⟨qa, qb⟩ | (refine ⟨fun h => absurd h (by omega), ?_⟩; first | exact qb | (exact qa)) | (refine ⟨fun h => ?_, ?_⟩; (have qa := qa h); all_goals (first | exact qa | exact qb | (exact qa)))))
    repeat
      first
      | (refine wpT_pure rfl rfl rfl ?_; apply Exists.intro; refine ⟨?_, ?_⟩; intro w; ((go_simp <;> rfl)); simp only [Act.put, List.setIfInBounds_toArray, List.set_cons_zero, List.set_cons_succ])
      | (refine wpT_take 17 rfl rfl (by decide +kernel) ⟨fun _ => l0, trivial⟩ ?_; apply Exists.intro; refine ⟨?_, ?_⟩; intro w hw; (have qa := hw.1 (Nat.le_refl _); have qb := hw.2); ((go_simp <;> rfl)); simp only [Act.put, List.setIfInBounds_toArray, List.set_cons_zero, List.set_cons_succ])
      | (refine wpT_skip rfl rfl ?_; simp only [Act.put, List.setIfInBounds_toArray, List.set_cons_zero, List.set_cons_succ])
    refine wpT_nil ?_
    go_wp2_with (fail)
    go_end0
    exact ⟨rfl, HH.out, (Fr.refl _ w).drew⟩
  | true =>
    have HO := hid (fun w => rOn_is x w ho)
    obtain ⟨k, rfl, k1, k2⟩ := on_nat ho
    have hl := ok.lo
    have hox := m.oldest_on ok
    have HS := hid (fun w => rSteps_go m.low k w hl ⟨k1, k2⟩)
    have HT := hid (fun w => rSteps_go m.low m.oldest w hl hox)
    have l0 := h.low
    rw [Int.toNat_natCast, Bool.true_and]
    have HOL := hid (rOldest_go (Blk.drew h) ok)
    by_cases hf : steps m.low k ≤ steps m.low m.oldest
    · rw [if_pos (by simp [hf])]
      have hd : decide (steps m.low k ≤ steps m.low m.oldest) = true := by simp; omega
      clear h ho
      go_enter Try.func62, Try.ntmps62
      go_wp2_with (go_at_call 53; refine (HO.out _).mono ?_; rintro e w' ⟨rfl, rfl⟩)
      refine wp_region_scr (.take 0 (.take 1 (.take 2 (.take 3 (.take 4 (.take 5 (.take 6 (.take 8 (.take 9 (.take 10 (.take 11 (.take 12 (.op 7 (.op 13 (.op 14 (.take 15 (.take 16 .done))))))))))))))))) (fun kz w => (kz ≤ 17 → w.cell? ⟨c, 0, none⟩ = some (.int .i64 m.low)) ∧ True) (by kernel_rfl) (by kernel_rfl) (by intro c a d v w h; cases d <;> exact h) ?_
      repeat
        first
        | (refine wpT_pure rfl rfl rfl ?_; apply Exists.intro; refine ⟨?_, ?_⟩; intro w; ((go_simp <;> rfl)); simp only [Act.put, List.setIfInBounds_toArray, List.set_cons_zero, List.set_cons_succ])
        | (refine wpT_take 17 rfl rfl (by decide +kernel) ⟨fun _ => l0, trivial⟩ ?_; apply Exists.intro; refine ⟨?_, ?_⟩; intro w hw; (have qa := hw.1 (Nat.le_refl _); have qb := hw.2); ((go_simp <;> rfl)); simp only [Act.put, List.setIfInBounds_toArray, List.set_cons_zero, List.set_cons_succ])
        | (refine wpT_skip rfl rfl ?_; simp only [Act.put, List.setIfInBounds_toArray, List.set_cons_zero, List.set_cons_succ])
      refine wpT_op rfl ?_
      go_wp2_with ((go_at_call 55; refine (HS.out _).mono ?_; rintro e w' ⟨rfl, rfl⟩))
      (refine ⟨?_, ?_⟩; focus (intro kz hk hk2; rintro ⟨qa, qb⟩; first | (exfalso; simp at hk2; omega) | exact ⟨qa, qb⟩ | (refine ⟨fun h => absurd h (by omega), ?_⟩; first | exact qb | (exact qa)) | (refine ⟨fun h => ?_, ?_⟩; (have qa := qa h); all_goals (first | exact qa | exact qb | (exact qa)))))
      refine wpT_op rfl ?_
      go_wp2_with ((go_at_call 65; refine HOL.out.mono ?_; rintro e w5 ⟨rfl, f5⟩))
      (refine ⟨?_, ?_⟩; focus (intro kz hk hk2; rintro ⟨qa, qb⟩; first | (exfalso; simp at hk2; omega) | exact ⟨qa, qb⟩ | (refine ⟨fun h => absurd h (by omega), ?_⟩; first | exact qb | (exact cell_fr qa f5 (fun h => h))) | (refine ⟨fun h => ?_, ?_⟩; (have qa := qa h); all_goals (first | exact qa | exact qb | (exact cell_fr qa f5 (fun h => h))))))
      refine wpT_op rfl ?_
      go_wp2_with ((go_at_call 55; refine (HT.out _).mono ?_; rintro e w' ⟨rfl, rfl⟩))
      (refine ⟨?_, ?_⟩; focus (intro kz hk hk2; rintro ⟨qa, qb⟩; first | (exfalso; simp at hk2; omega) | exact ⟨qa, qb⟩ | (refine ⟨fun h => absurd h (by omega), ?_⟩; first | exact qb | (exact qa)) | (refine ⟨fun h => ?_, ?_⟩; (have qa := qa h); all_goals (first | exact qa | exact qb | (exact qa)))))
      have l5 := cell_fr l0 ((Fr.refl (fun _ => False) w).drew.trans f5 (fun _ h _ => h)) (fun h => h)
      repeat
        first
        | (refine wpT_pure rfl rfl rfl ?_; apply Exists.intro; refine ⟨?_, ?_⟩; intro w; ((go_simp <;> rfl)); simp only [Act.put, List.setIfInBounds_toArray, List.set_cons_zero, List.set_cons_succ])
        | (refine wpT_take 17 rfl rfl (by decide +kernel) ⟨fun _ => l5, trivial⟩ ?_; apply Exists.intro; refine ⟨?_, ?_⟩; intro w hw; (have qa := hw.1 (Nat.le_refl _); have qb := hw.2); ((go_simp <;> rfl)); simp only [Act.put, List.setIfInBounds_toArray, List.set_cons_zero, List.set_cons_succ])
        | (refine wpT_skip rfl rfl ?_; simp only [Act.put, List.setIfInBounds_toArray, List.set_cons_zero, List.set_cons_succ])
      refine wpT_nil ?_
      have F5 := (Fr.refl (fun _ => False) w).drew.trans f5 (fun _ h _ => h)
      have hB := Blk.set (RRep.fr HH.out F5 (fun h => h)) 0 (.int .i64 k)
      rw [rcells_low m k] at hB
      have hz := Blk.frozen (RRep.fr HH.out F5 (fun h => h)) 0
      have F6 := (F5.mono (T := fun k => k = c) (fun _ h _ => h.elim)).setCell ⟨c, 0, none⟩ (.int .i64 k) (fun _ => rfl)
      have HB := hid hB
      have F6H := hid F6
      clear hB F6 F5 f5
      go_wp2_with (fail)
      go_end0
      exact ⟨rfl, HB.out, F6H.out⟩
    · rw [if_neg (by simp [hf])]
      have hd : decide (steps m.low k ≤ steps m.low m.oldest) = false := by simp; omega
      clear h ho
      go_enter Try.func62, Try.ntmps62
      go_wp2_with (go_at_call 53; refine (HO.out _).mono ?_; rintro e w' ⟨rfl, rfl⟩)
      refine wp_region_scr (.take 0 (.take 1 (.take 2 (.take 3 (.take 4 (.take 5 (.take 6 (.take 8 (.take 9 (.take 10 (.take 11 (.take 12 (.op 7 (.op 13 (.op 14 (.take 15 (.take 16 .done))))))))))))))))) (fun kz w => (kz ≤ 17 → w.cell? ⟨c, 0, none⟩ = some (.int .i64 m.low)) ∧ True) (by kernel_rfl) (by kernel_rfl) (by intro c a d v w h; cases d <;> exact h) ?_
      repeat
        first
        | (refine wpT_pure rfl rfl rfl ?_; apply Exists.intro; refine ⟨?_, ?_⟩; intro w; ((go_simp <;> rfl)); simp only [Act.put, List.setIfInBounds_toArray, List.set_cons_zero, List.set_cons_succ])
        | (refine wpT_take 17 rfl rfl (by decide +kernel) ⟨fun _ => l0, trivial⟩ ?_; apply Exists.intro; refine ⟨?_, ?_⟩; intro w hw; (have qa := hw.1 (Nat.le_refl _); have qb := hw.2); ((go_simp <;> rfl)); simp only [Act.put, List.setIfInBounds_toArray, List.set_cons_zero, List.set_cons_succ])
        | (refine wpT_skip rfl rfl ?_; simp only [Act.put, List.setIfInBounds_toArray, List.set_cons_zero, List.set_cons_succ])
      refine wpT_op rfl ?_
      go_wp2_with ((go_at_call 55; refine (HS.out _).mono ?_; rintro e w' ⟨rfl, rfl⟩))
      (refine ⟨?_, ?_⟩; focus (intro kz hk hk2; rintro ⟨qa, qb⟩; first | (exfalso; simp at hk2; omega) | exact ⟨qa, qb⟩ | (refine ⟨fun h => absurd h (by omega), ?_⟩; first | exact qb | (exact qa)) | (refine ⟨fun h => ?_, ?_⟩; (have qa := qa h); all_goals (first | exact qa | exact qb | (exact qa)))))
      refine wpT_op rfl ?_
      go_wp2_with ((go_at_call 65; refine HOL.out.mono ?_; rintro e w5 ⟨rfl, f5⟩))
      (refine ⟨?_, ?_⟩; focus (intro kz hk hk2; rintro ⟨qa, qb⟩; first | (exfalso; simp at hk2; omega) | exact ⟨qa, qb⟩ | (refine ⟨fun h => absurd h (by omega), ?_⟩; first | exact qb | (exact cell_fr qa f5 (fun h => h))) | (refine ⟨fun h => ?_, ?_⟩; (have qa := qa h); all_goals (first | exact qa | exact qb | (exact cell_fr qa f5 (fun h => h))))))
      refine wpT_op rfl ?_
      go_wp2_with ((go_at_call 55; refine (HT.out _).mono ?_; rintro e w' ⟨rfl, rfl⟩))
      (refine ⟨?_, ?_⟩; focus (intro kz hk hk2; rintro ⟨qa, qb⟩; first | (exfalso; simp at hk2; omega) | exact ⟨qa, qb⟩ | (refine ⟨fun h => absurd h (by omega), ?_⟩; first | exact qb | (exact qa)) | (refine ⟨fun h => ?_, ?_⟩; (have qa := qa h); all_goals (first | exact qa | exact qb | (exact qa)))))
      have F5 := (Fr.refl (fun _ => False) w).drew.trans f5 (fun _ h _ => h)
      have l5 := cell_fr l0 F5 (fun h => h)
      have HF5 := hid F5
      clear F5 f5
      repeat
        first
        | (refine wpT_pure rfl rfl rfl ?_; apply Exists.intro; refine ⟨?_, ?_⟩; intro w; ((go_simp <;> rfl)); simp only [Act.put, List.setIfInBounds_toArray, List.set_cons_zero, List.set_cons_succ])
        | (refine wpT_take 17 rfl rfl (by decide +kernel) ⟨fun _ => l5, trivial⟩ ?_; apply Exists.intro; refine ⟨?_, ?_⟩; intro w hw; (have qa := hw.1 (Nat.le_refl _); have qb := hw.2); ((go_simp <;> rfl)); simp only [Act.put, List.setIfInBounds_toArray, List.set_cons_zero, List.set_cons_succ])
        | (refine wpT_skip rfl rfl ?_; simp only [Act.put, List.setIfInBounds_toArray, List.set_cons_zero, List.set_cons_succ])
      refine wpT_nil ?_
      go_wp2_with (fail)
      go_end0
      exact ⟨rfl, RRep.fr HH.out HF5.out (fun h => h), HF5.out.mono (fun _ h _ => h.elim)⟩
end Go.Proofs.Ytbkebjgoaeddjaa
