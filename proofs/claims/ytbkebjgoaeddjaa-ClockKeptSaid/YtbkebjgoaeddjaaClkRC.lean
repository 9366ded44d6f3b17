import Derived.Test.YtbkebjgoaeddjaaClkRB
import Derived.Test.YtbkebjgoaeddjaaClkL
/- The reference's clock: Begin, Reach. -/
set_option linter.unusedVariables false
namespace Go.Proofs.Ytbkebjgoaeddjaa
open Go.RowKit Go.VB Go.VB.Clk
variable {w : World} {c : Nat} {m : CM}
theorem Try.size_got : (Try.prog.info? 58).map (·.size) = some 2 := by kernel_rfl
theorem got_ret {fn : Func} {p : Tmp} (hf : fn.results = #[.cell p 58]) {tmps : Array Value} {W : World} {b : Nat} {x e : Int} (hp : tmps.getD p undef = .pointer (some ⟨b, 0, none⟩)) (hb : Blk W b [.int .i64 x, .int .i64 e] 58) :
    (results fn tmps).run Try.prog W = .ok (.agg #[.int .i64 x, .int .i64 e]) W :=
  results_cell_mid (b := b) (o := 0) hf _ _ hp (cs := [.int .i64 x, .int .i64 e]) (Blk.all _ hb) Try.underlying58 rfl Try.size_got
theorem radd_of {W : World} {a : Int} {k : Nat} (h : a.toNat = k) (hb : RRep W c (m.add k)) : RRep W c (m.add a.toNat) := by subst h; exact hb
set_option maxRecDepth 20000 in
set_option maxHeartbeats 1000000 in
theorem rBegin_go (h : RRep w c m) (ok : m.Ok) (a : Int) : Calls Try.prog 45 #[.pointer (some ⟨c, 0, none⟩), .int .i64 a] w fun e w' => e = .returned (.agg #[.int .i64 (m.begin_ a).2.1, .int .i64 (m.begin_ a).2.2]) ∧ RRep w' c (m.begin_ a).1 ∧ Fr (fun k => k = c) w w' := by
  have hcl := Blk.lt h
  have F0 := (Fr.refl (fun _ => False) w).alloc (.cells #[Value.int .i64 0, .int .i64 0] 58)
  have B0 := Blk.new w [Value.int .i64 0, .int .i64 0] 58
  have R0 := RRep.fr h F0 (fun h => h)
  obtain ⟨W, hW⟩ : ∃ W, W = w.alloc (.cells #[Value.int .i64 0, .int .i64 0] 58) := ⟨_, rfl⟩
  have B0 : Blk W w.heap.size [.int .i64 0, .int .i64 0] 58 := by rw [hW]; exact B0
  rw [← hW] at F0 R0
  have HW := hid hW
  clear hW h
  unfold CM.begin_
  cases hb : m.mayB a with
  | false =>
    rw [if_neg (by simp)]
    simp only [CM.mayB, Bool.or_eq_false_iff, Bool.and_eq_false_iff, decide_eq_false_iff_not] at hb
    obtain ⟨h0, h1⟩ := hb
    have h0' : (a != 0) = true := by simpa using h0
    cases hk : m.knows a with
    | false =>
      have HK := hid (rknows_is R0 ok _ hk)
      clear hk h1 h0
      go_enter Try.func45, Try.ntmps45
      go_wp2_with (fail)
      rw [← HW.out]
      refine HK.out.mono ?_
      rintro e w1 ⟨rfl, f⟩
      have hT := (B0.fr f (fun h => h)).there 0 2 (by simp)
      have BF := (B0.fr f (fun h => h)).put 0 [.int .i64 0, .int .i64 1] (by simp)
      have FF := (((F0.trans f (fun _ h _ => h)).mono (T := fun k => k = c) (fun _ h _ => h.elim)).put w.heap.size 0 [.int .i64 0, .int .i64 1] (fun h => absurd h (by omega)))
      have RF := (Blk.put_ne (RRep.fr R0 f (fun h => h)) w.heap.size 0 [.int .i64 0, .int .i64 1] (by omega))
      have HBF := hid BF
      have HFF := hid FF
      have HRF := hid RF
      clear BF FF RF
      go_wp2_with (first | (refine wpList_store_mid rfl 58 _ _ rfl w.heap.size 0 _ rfl rfl hT Try.size_got (by simp [Value.oneCell']) ?_; rw [List.toList_toArray]))
      exact bodyPost_ret (got_ret rfl rfl HBF.out) rfl ⟨rfl, HRF.out, HFF.out⟩
    | true =>
      have HK := hid (rknows_is R0 ok _ hk)
      rw [hk] at h1
      obtain ⟨k, rfl, k1, k2, -⟩ := m.knows_nat hk
      have h1 : m.st k ≠ 1 := by simpa using h1
      have h1' : (m.st k != 1) = true := by simpa using h1
      have l0 := R0.st (x := k) (by omega)
      clear hk h1 h0
      go_enter Try.func45, Try.ntmps45
      go_wp2_with (fail)
      rw [← HW.out]
      refine HK.out.mono ?_
      rintro e w1 ⟨rfl, f⟩
      have l0 := cell_fr l0 f (fun h => h)
      have hT := (B0.fr f (fun h => h)).there 0 2 (by simp)
      have BF := (B0.fr f (fun h => h)).put 0 [.int .i64 0, .int .i64 1] (by simp)
      have FF := (((F0.trans f (fun _ h _ => h)).mono (T := fun k => k = c) (fun _ h _ => h.elim)).put w.heap.size 0 [.int .i64 0, .int .i64 1] (fun h => absurd h (by omega)))
      have RF := (Blk.put_ne (RRep.fr R0 f (fun h => h)) w.heap.size 0 [.int .i64 0, .int .i64 1] (by omega))
      have HBF := hid BF
      have HFF := hid FF
      have HRF := hid RF
      clear BF FF RF
      go_wp2_with (first | (refine wpList_store_mid rfl 58 _ _ rfl w.heap.size 0 _ rfl rfl hT Try.size_got (by simp [Value.oneCell']) ?_; rw [List.toList_toArray]))
      exact bodyPost_ret (got_ret rfl rfl HBF.out) rfl ⟨rfl, HRF.out, HFF.out⟩
  | true =>
    rw [if_pos rfl, show m.n = steps m.low m.next from rfl]
    obtain ⟨k, hak, hk⟩ := m.mayB_nat hb
    have hl := ok.lo
    have hx := ok.nx
    have HS := hid (fun w => rSteps_go m.low m.next w hl hx)
    have HN := hid (fun w => rNext_nat m.next w hx)
    have HK := hid (fun b => rknows_is (b := b) R0 ok a)
    clear hb
    go_enter Try.func45, Try.ntmps45
    rcases hk with rfl | ⟨hk, h1⟩
    case inl =>
      have hak2 : a = 0 := hak
      clear hak
      subst hak2
      have HT := hid (show RRep W c m ∧ Blk W w.heap.size [.int .i64 0, .int .i64 0] 58 ∧ Fr (fun _ => False) w W from ⟨R0, B0, F0⟩)
      clear R0 B0 F0
      go_wp2_with (fail)
      rw [← HW.out]
      clear HW HK
      have l0 := RRep.low HT.out.1
      have l1 := RRep.next HT.out.1
      refine wp_region_scr (.take 0 (.take 1 (.take 2 (.take 3 (.take 4 (.take 5 (.take 6 (.take 7 (.op 8 (.take 9 .done)))))))))) (fun kz w => (kz ≤ 10 → w.cell? ⟨c, 0, none⟩ = some (.int .i64 m.low) ∧ w.cell? ⟨c, 1, none⟩ = some (.int .i64 m.next)) ∧ True) (by kernel_rfl) (by kernel_rfl) (by intro c a d v w h; cases d <;> exact h) ?_
      repeat
        first
        | (refine wpT_pure rfl rfl rfl ?_; apply Exists.intro; refine ⟨?_, ?_⟩; intro w; ((go_simp <;> rfl)); simp only [Act.put, List.setIfInBounds_toArray, List.set_cons_zero, List.set_cons_succ])
        | (refine wpT_take 10 rfl rfl (by decide +kernel) ⟨fun _ => ⟨l0, l1⟩, trivial⟩ ?_; apply Exists.intro; refine ⟨?_, ?_⟩; intro w hw; (have qa := hw.1 (Nat.le_refl _); have qb := hw.2); ((go_simp <;> rfl)); simp only [Act.put, List.setIfInBounds_toArray, List.set_cons_zero, List.set_cons_succ])
        | (refine wpT_skip rfl rfl ?_; simp only [Act.put, List.setIfInBounds_toArray, List.set_cons_zero, List.set_cons_succ])
      refine wpT_op rfl ?_
      go_wp2_with ((go_at_call 55; refine (HS.out _).mono ?_; rintro e w' ⟨rfl, rfl⟩))
      (refine ⟨?_, ?_⟩; focus (intro kz hk hk2; rintro ⟨qa, qb⟩; first | (exfalso; simp at hk2; omega) | exact ⟨qa, qb⟩ | (refine ⟨fun h => absurd h (by omega), ?_⟩; first | exact qb | (exact qa)) | (refine ⟨fun h => ?_, ?_⟩; (have qa := qa h); all_goals (first | exact qa | exact qb | (exact qa)))))
      repeat
        first
        | (refine wpT_pure rfl rfl rfl ?_; apply Exists.intro; refine ⟨?_, ?_⟩; intro w; ((go_simp <;> rfl)); simp only [Act.put, List.setIfInBounds_toArray, List.set_cons_zero, List.set_cons_succ])
        | (refine wpT_take 10 rfl rfl (by decide +kernel) ⟨fun _ => ⟨l0, l1⟩, trivial⟩ ?_; apply Exists.intro; refine ⟨?_, ?_⟩; intro w hw; (have qa := hw.1 (Nat.le_refl _); have qb := hw.2); ((go_simp <;> rfl)); simp only [Act.put, List.setIfInBounds_toArray, List.set_cons_zero, List.set_cons_succ])
        | (refine wpT_skip rfl rfl ?_; simp only [Act.put, List.setIfInBounds_toArray, List.set_cons_zero, List.set_cons_succ])
      refine wpT_nil ?_
      obtain ⟨W0, HT0, hW0⟩ : ∃ W0, Hid (RRep W0 c m ∧ Blk W0 w.heap.size [.int .i64 0, .int .i64 0] 58 ∧ Fr (fun k => k = c) w W0) ∧ W0 = W.drew := ⟨_, hid ⟨Blk.drew HT.out.1, HT.out.2.1.drew, HT.out.2.2.drew.mono (fun _ h _ => h.elim)⟩, rfl⟩
      rw [← hW0]
      clear hW0 HT l0 l1
      by_cases hf : 60 ≤ steps m.low m.next
      · have hd : decide (60 ≤ steps m.low m.next) = true := by simpa using hf
        have hT := HT0.out.2.1.there 0 2 (by simp)
        have HBF := hid (HT0.out.2.1.put 0 [.int .i64 0, .int .i64 40] (by simp))
        have HFF := hid (HT0.out.2.2.put w.heap.size 0 [.int .i64 0, .int .i64 40] (fun h => absurd h (by omega)))
        have HRF := hid (Blk.put_ne HT0.out.1 w.heap.size 0 [.int .i64 0, .int .i64 40] (by omega))
        go_wp2_with (first | (refine wpList_store_mid rfl 58 _ _ rfl w.heap.size 0 _ rfl rfl hT Try.size_got (by simp [Value.oneCell']) ?_; rw [List.toList_toArray]))
        exact bodyPost_ret (got_ret rfl rfl HBF.out) rfl ⟨rfl, HRF.out, HFF.out⟩
      · have hd : decide (60 ≤ steps m.low m.next) = false := by simpa using hf
        have B1 := hid (Blk.set HT0.out.1 (2 + m.next) (.int .i64 1))
        rw [rcells_setst m m.next (by omega)] at B1
        have G1 := hid ((HT0.out.2.1.set_ne ⟨c, 2 + m.next, none⟩ (.int .i64 1) (by simp; omega)))
        have F1 := hid (HT0.out.2.2.setCell ⟨c, 2 + m.next, none⟩ (.int .i64 1) (fun _ => rfl))
        have l1 := RRep.next HT0.out.1
        have y1 := RRep.st HT0.out.1 (x := m.next) (by omega)
        have y2 := Blk.frozen HT0.out.1 (2 + m.next)
        go_upto_region 9 with (fail)
        generalize W0.setCell ⟨c, 2 + m.next, none⟩ (.int .i64 1) = W1 at *
        clear l1 y1 y2 HT0
        have B2 := hid (Blk.set B1.out (130 + m.next) (.int .i64 0))
        have B2 : Hid (Blk _ c (rcells { m with st := put m.st m.next 1, ab := putN m.ab m.next 0 }) _) := hid (by rw [← rcells_setab { m with st := put m.st m.next 1 } m.next (by omega)]; exact B2.out)
        have G2 := hid ((G1.out.set_ne ⟨c, 130 + m.next, none⟩ (.int .i64 0) (by simp; omega)))
        have F2 := hid (F1.out.setCell ⟨c, 130 + m.next, none⟩ (.int .i64 0) (fun _ => rfl))
        have y1 := RRep.ab B1.out (x := m.next) (by omega)
        have y2 := Blk.frozen B1.out (130 + m.next)
        go_upto_region 10 with (fail)
        generalize W1.setCell ⟨c, 130 + m.next, none⟩ (.int .i64 0) = W2 at *
        clear y1 y2 B1 G1 F1
        have B3 := hid (Blk.set B2.out 1 (.int .i64 (nxt m.next)))
        have G3 := hid ((G2.out.set_ne ⟨c, 1, none⟩ (.int .i64 (nxt m.next)) (by simp; omega)))
        have F3 := hid (F2.out.setCell ⟨c, 1, none⟩ (.int .i64 (nxt m.next)) (fun _ => rfl))
        rw [rcells_next] at B3
        have y1 := RRep.next B2.out
        have y2 := Blk.frozen B2.out 1
        go_upto_region 11 with (go_at_call 16; refine (HN.out _).mono ?_; rintro e w' ⟨rfl, rfl⟩)
        generalize W2.setCell ⟨c, 1, none⟩ (.int .i64 (nxt m.next)) = W3 at *
        clear y1 y2 B2 G2 F2
        have hT := G3.out.there 0 2 (by simp)
        have HBF := hid (G3.out.put 0 [.int .i64 m.next, .int .i64 0] (by simp))
        have HFF := hid (F3.out.put w.heap.size 0 [.int .i64 m.next, .int .i64 0] (fun h => absurd h (by omega)))
        have hB3 : RRep _ c (m.add 0) := B3.out
        have HRF := hid (Blk.put_ne hB3 w.heap.size 0 [.int .i64 m.next, .int .i64 0] (by omega))
        clear hB3
        go_wp2_with (first
          | (refine wpList_store_mid rfl 58 _ _ rfl w.heap.size 0 _ rfl rfl hT Try.size_got (by simp [Value.oneCell']) ?_; rw [List.toList_toArray]))
        exact bodyPost_ret (got_ret rfl rfl HBF.out) rfl ⟨rfl, HRF.out, HFF.out⟩
    case inr =>
      have k3 := CM.knows_iff.1 hk
      have k7 : k < 128 := by omega
      have h0' : (a != 0) = true := by simp; omega
      have ha1 : 0 ≤ a := by omega
      have ha2 : a < 128 := by omega
      have s0 : W.cell? ⟨c, 2 + a.toNat, none⟩ = some (.int .i64 1) := by rw [hak, Int.toNat_natCast, RRep.st R0 (x := k) (by omega), h1]
      have HA2 := hid hak
      have HKK := hid (HK.out true (by rw [hak]; exact hk))
      have HT := hid (show RRep W c m ∧ Blk W w.heap.size [.int .i64 0, .int .i64 0] 58 ∧ Fr (fun _ => False) w W from ⟨R0, B0, F0⟩)
      clear hak R0 B0 F0 hk h1 k3 HK
      go_wp2_with (fail)
      rw [← HW.out]
      refine HKK.out.mono ?_
      rintro e w1 ⟨rfl, f⟩
      have s1 := cell_fr s0 f (fun h => h)
      have HT := hid (show RRep w1 c m ∧ Blk w1 w.heap.size [.int .i64 0, .int .i64 0] 58 ∧ Fr (fun _ => False) w w1 from ⟨RRep.fr HT.out.1 f (fun h => h), HT.out.2.1.fr f (fun h => h), HT.out.2.2.trans f (fun _ h _ => h)⟩)
      clear f s0 HW HKK
      go_wp2_with (fail)
      clear s1 ha1 ha2 h0'
      have HA3 : a.toNat = k := by rw [HA2.out, Int.toNat_natCast]
      have l0 := RRep.low HT.out.1
      have l1 := RRep.next HT.out.1
      refine wp_region_scr (.take 0 (.take 1 (.take 2 (.take 3 (.take 4 (.take 5 (.take 6 (.take 7 (.op 8 (.take 9 .done)))))))))) (fun kz w => (kz ≤ 10 → w.cell? ⟨c, 0, none⟩ = some (.int .i64 m.low) ∧ w.cell? ⟨c, 1, none⟩ = some (.int .i64 m.next)) ∧ True) (by kernel_rfl) (by kernel_rfl) (by intro c a d v w h; cases d <;> exact h) ?_
      repeat
        first
        | (refine wpT_pure rfl rfl rfl ?_; apply Exists.intro; refine ⟨?_, ?_⟩; intro w; ((go_simp <;> rfl)); simp only [Act.put, List.setIfInBounds_toArray, List.set_cons_zero, List.set_cons_succ])
        | (refine wpT_take 10 rfl rfl (by decide +kernel) ⟨fun _ => ⟨l0, l1⟩, trivial⟩ ?_; apply Exists.intro; refine ⟨?_, ?_⟩; intro w hw; (have qa := hw.1 (Nat.le_refl _); have qb := hw.2); ((go_simp <;> rfl)); simp only [Act.put, List.setIfInBounds_toArray, List.set_cons_zero, List.set_cons_succ])
        | (refine wpT_skip rfl rfl ?_; simp only [Act.put, List.setIfInBounds_toArray, List.set_cons_zero, List.set_cons_succ])
      refine wpT_op rfl ?_
      go_wp2_with ((go_at_call 55; refine (HS.out _).mono ?_; rintro e w' ⟨rfl, rfl⟩))
      (refine ⟨?_, ?_⟩; focus (intro kz hk hk2; rintro ⟨qa, qb⟩; first | (exfalso; simp at hk2; omega) | exact ⟨qa, qb⟩ | (refine ⟨fun h => absurd h (by omega), ?_⟩; first | exact qb | (exact qa)) | (refine ⟨fun h => ?_, ?_⟩; (have qa := qa h); all_goals (first | exact qa | exact qb | (exact qa)))))
      repeat
        first
        | (refine wpT_pure rfl rfl rfl ?_; apply Exists.intro; refine ⟨?_, ?_⟩; intro w; ((go_simp <;> rfl)); simp only [Act.put, List.setIfInBounds_toArray, List.set_cons_zero, List.set_cons_succ])
        | (refine wpT_take 10 rfl rfl (by decide +kernel) ⟨fun _ => ⟨l0, l1⟩, trivial⟩ ?_; apply Exists.intro; refine ⟨?_, ?_⟩; intro w hw; (have qa := hw.1 (Nat.le_refl _); have qb := hw.2); ((go_simp <;> rfl)); simp only [Act.put, List.setIfInBounds_toArray, List.set_cons_zero, List.set_cons_succ])
        | (refine wpT_skip rfl rfl ?_; simp only [Act.put, List.setIfInBounds_toArray, List.set_cons_zero, List.set_cons_succ])
      refine wpT_nil ?_
      obtain ⟨W0, HT0, hW0⟩ : ∃ W0, Hid (RRep W0 c m ∧ Blk W0 w.heap.size [.int .i64 0, .int .i64 0] 58 ∧ Fr (fun k => k = c) w W0) ∧ W0 = w1.drew := ⟨_, hid ⟨Blk.drew HT.out.1, HT.out.2.1.drew, HT.out.2.2.drew.mono (fun _ h _ => h.elim)⟩, rfl⟩
      rw [← hW0]
      clear hW0 HT l0 l1
      by_cases hf : 60 ≤ steps m.low m.next
      · have hd : decide (60 ≤ steps m.low m.next) = true := by simpa using hf
        have hT := HT0.out.2.1.there 0 2 (by simp)
        have HBF := hid (HT0.out.2.1.put 0 [.int .i64 0, .int .i64 40] (by simp))
        have HFF := hid (HT0.out.2.2.put w.heap.size 0 [.int .i64 0, .int .i64 40] (fun h => absurd h (by omega)))
        have HRF := hid (Blk.put_ne HT0.out.1 w.heap.size 0 [.int .i64 0, .int .i64 40] (by omega))
        go_wp2_with (first | (refine wpList_store_mid rfl 58 _ _ rfl w.heap.size 0 _ rfl rfl hT Try.size_got (by simp [Value.oneCell']) ?_; rw [List.toList_toArray]))
        exact bodyPost_ret (got_ret rfl rfl HBF.out) rfl ⟨rfl, HRF.out, HFF.out⟩
      · have hd : decide (60 ≤ steps m.low m.next) = false := by simpa using hf
        have B1 := hid (Blk.set HT0.out.1 (2 + m.next) (.int .i64 1))
        rw [rcells_setst m m.next (by omega)] at B1
        have G1 := hid ((HT0.out.2.1.set_ne ⟨c, 2 + m.next, none⟩ (.int .i64 1) (by simp; omega)))
        have F1 := hid (HT0.out.2.2.setCell ⟨c, 2 + m.next, none⟩ (.int .i64 1) (fun _ => rfl))
        have l1 := RRep.next HT0.out.1
        have y1 := RRep.st HT0.out.1 (x := m.next) (by omega)
        have y2 := Blk.frozen HT0.out.1 (2 + m.next)
        go_upto_region 9 with (fail)
        generalize W0.setCell ⟨c, 2 + m.next, none⟩ (.int .i64 1) = W1 at *
        clear l1 y1 y2 HT0
        have B2 := hid (Blk.set B1.out (130 + m.next) (.int .i64 a))
        have B2 : Hid (Blk _ c ((rcells _).set (130 + m.next) (.int .i64 a)) _) := B2
        have B2 : Hid (Blk _ c (rcells { m with st := put m.st m.next 1, ab := putN m.ab m.next k }) _) := hid (by rw [← rcells_setab { m with st := put m.st m.next 1 } m.next (by omega), ← HA2.out]; exact B2.out)
        have G2 := hid ((G1.out.set_ne ⟨c, 130 + m.next, none⟩ (.int .i64 a) (by simp; omega)))
        have F2 := hid (F1.out.setCell ⟨c, 130 + m.next, none⟩ (.int .i64 a) (fun _ => rfl))
        have y1 := RRep.ab B1.out (x := m.next) (by omega)
        have y2 := Blk.frozen B1.out (130 + m.next)
        go_upto_region 10 with (fail)
        generalize W1.setCell ⟨c, 130 + m.next, none⟩ (.int .i64 a) = W2 at *
        clear y1 y2 B1 G1 F1
        have B3 := hid (Blk.set B2.out 1 (.int .i64 (nxt m.next)))
        have G3 := hid ((G2.out.set_ne ⟨c, 1, none⟩ (.int .i64 (nxt m.next)) (by simp; omega)))
        have F3 := hid (F2.out.setCell ⟨c, 1, none⟩ (.int .i64 (nxt m.next)) (fun _ => rfl))
        rw [rcells_next] at B3
        have y1 := RRep.next B2.out
        have y2 := Blk.frozen B2.out 1
        go_upto_region 11 with (go_at_call 16; refine (HN.out _).mono ?_; rintro e w' ⟨rfl, rfl⟩)
        generalize W2.setCell ⟨c, 1, none⟩ (.int .i64 (nxt m.next)) = W3 at *
        clear y1 y2 B2 G2 F2
        have hT := G3.out.there 0 2 (by simp)
        have HBF := hid (G3.out.put 0 [.int .i64 m.next, .int .i64 0] (by simp))
        have HFF := hid (F3.out.put w.heap.size 0 [.int .i64 m.next, .int .i64 0] (fun h => absurd h (by omega)))
        have hB3 : RRep _ c (m.add k) := B3.out
        have HRF := hid (Blk.put_ne hB3 w.heap.size 0 [.int .i64 m.next, .int .i64 0] (by omega))
        clear hB3
        go_wp2_with (first
          | (refine wpList_store_mid rfl 58 _ _ rfl w.heap.size 0 _ rfl rfl hT Try.size_got (by simp [Value.oneCell']) ?_; rw [List.toList_toArray]))
        exact bodyPost_ret (got_ret rfl rfl HBF.out) rfl ⟨rfl, HRF.out, HFF.out⟩
end Go.Proofs.Ytbkebjgoaeddjaa
