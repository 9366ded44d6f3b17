import Derived.Test.YtbkebjgoaeddjaaClkE
import Derived.Test.YtbkebjgoaeddjaaMap
/- The clock under test: Below. -/
set_option linter.unusedVariables false
namespace Go.VB
open Go.RowKit
open Go.Maps (Keyed)
theorem wpList_insert_F {P : Program} {ops : Array Oper} {rest : List Oper} {o : Oper} {a : Act} {w : World} {Q : Exit → Act → World → Prop} (hg : o.guard = none) {m x v : Operand} {t k e : TypeId} (hop : o.op = Op.insert t m x v)
    {b n : Nat} {z : Value} {f : Lit → Value} (hm : a.eval m = .map (some b)) (h : MapF P k w b n z f) (K : Keyed P k) (ht : P.underlying t = some (.map k e)) (hn : n < maxLen) {key val : Value} {l : Lit} (hx : a.eval x = key) (hv : a.eval v = val) (hkey : keyOf P k key = some l) (hl : Go.WideAt.IsKeyLit l)
    (hK : ∀ w', MapF P k w' b (n + 1) z (upd f l val) → Fr (fun j => j = b) w w' → wpList P ops Q rest (a.put o.dst undef) w') : wpList P ops Q (o :: rest) a w := by
  refine wpList_plain hg fun K' hK' => ?_
  obtain ⟨w', hrun, r1, r2⟩ := h.set K ht hn val hkey hl
  unfold Oper.wp
  simp [execOp, hop, hm, hx, hv, hrun, Result.andThen]
  exact hK' _ _ (hK w' r1 r2)
end Go.VB
namespace Go.Proofs.Ytbkebjgoaeddjaa
open Go.RowKit Go.VB Go.VB.Clk
attribute [local go_sem] Oper.semAt_some
theorem zero_bool (w : World) : (zeroValue 4).run Try.prog w = .ok (.bool false) w := by kernel_rfl
theorem wf_nat {n : Nat} (h : n < 9223372036854775808) : (Lit.int .i64 (n : Int)).wf = true := WalkArith.wf_i64 (by omega)
theorem key_nat {n : Nat} (h : n < 9223372036854775808) : keyOf Try.prog 3 (.int .i64 (n : Int)) = some (.int .i64 (n : Int)) := Go.Maps.keyOf_int_mk Try.underlying3 (wf_nat h)
theorem small_max {n : Nat} (h : n < 1000) : n < maxLen := Nat.lt_of_lt_of_le h (by decide)
def inBelow (m : CM) (x i y : Nat) : Bool := decide (y = x) || decide (y ∈ m.belowN x i)
structure BelInv (w W : World) (c x bm p : Nat) (m : CM) (i : Nat) : Prop where
  fr : Fr (fun _ => False) w W
  bc : Blk W w.heap.size [.pointer (some ⟨c, 0, none⟩)] 27
  bx : Blk W (w.heap.size + 1) [.int .i64 x] 3
  bmp : Blk W p [.map (some bm)] 32
  map : ∃ (n : Nat) (f : Lit → Value), n ≤ i + 1 ∧ MapF Try.prog 3 W bm n (.bool false) f ∧ ∀ y : Nat, f (.int .i64 (y : Int)) = .bool (inBelow m x i y)
  bo : ∃ v, Blk W (p + 1) [v] 26 ∧ NumRow w W v (m.belowN x i) ∧ ∀ k, v.ownBlock = some k → k ≠ bm ∧ k ≠ w.heap.size + 1 ∧ k ≠ p + 3 ∧ k ≠ p + 4
  bi : Blk W (p + 2) [.pointer (some ⟨c, 0, none⟩)] 27
  ge : w.heap.size + 2 ≤ bm
  lt : bm < p
theorem BelInv.keep {w W W' : World} {c x bm p : Nat} {m : CM} {i : Nat} (h : BelInv w W c x bm p m i) (f : Fr (fun k => k = p + 3 ∨ k = p + 4) W W') : BelInv w W' c x bm p m i := by
  obtain ⟨h1, h2, h3, h4, ⟨n, g, h5, h6, h7⟩, ⟨v, h8, h9, h10⟩, h11, h12, h13⟩ := h
  refine ⟨h1.trans f (fun i hi hl => by omega), h2.fr f (by omega), h3.fr f (by omega), h4.fr f (by omega), ⟨n, g, h5, h6.fr f (by omega), h7⟩, ⟨v, h8.fr f (by omega), ⟨own_fr h9.own f (fun k hk hn => by have := h10 k hk; omega), h9.new⟩, h10⟩, h11.fr f (by omega), h12, h13⟩
theorem BelInv.no {w W W' : World} {c x bm p : Nat} {m : CM} {i : Nat} (ok : m.Ok) (h : BelInv w W c x bm p m i) (f : Fr (fun _ => False) W W') (hi : i < m.n) (hc : m.climb x 128 (xat m.low i) = false) : BelInv w W' c x bm p m (i + 1) := by
  have h' := h.keep (f.mono (fun _ h _ => h.elim))
  obtain ⟨h1, h2, h3, h4, ⟨n, g, h5, h6, h7⟩, ⟨v, h8, h9, h10⟩, h11, h12, h13⟩ := h'
  have e : m.belowN x (i + 1) = m.belowN x i := by rw [m.belowN_succ x i hi, hc]; rfl
  refine ⟨h1, h2, h3, h4, ⟨n, g, by omega, h6, fun y => by rw [h7 y]; unfold inBelow; rw [e]⟩, ⟨v, h8, by rw [e]; exact h9, h10⟩, h11, h12, h13⟩
theorem BelInv.yes {w W W' : World} {c x bm p : Nat} {m : CM} {i n : Nat} {v v' : Value} {f : Lit → Value} (h : BelInv w W c x bm p m i) (hi : i < m.n) (hc : m.climb x 128 (xat m.low i) = true) (hn : n ≤ i + 1)
    (row0 : NumRow w W v (m.belowN x i)) (f' : Fr (fun k => k = bm ∨ v.ownBlock = some k ∨ k = p + 1) W W') (mp : MapF Try.prog 3 W' bm (n + 1) (.bool false) (upd f (.int .i64 (xat m.low i)) (.bool true))) (hff : ∀ y : Nat, f (.int .i64 (y : Int)) = .bool (inBelow m x i y))
    (bo : Blk W' (p + 1) [v'] 26) (row : NumRow w W' v' (m.belowN x i ++ [xat m.low i])) (hoff0 : ∀ k, v.ownBlock = some k → k ≠ w.heap.size + 1) (hoff : ∀ k, v'.ownBlock = some k → k ≠ bm ∧ k ≠ w.heap.size + 1 ∧ k ≠ p + 3 ∧ k ≠ p + 4) : BelInv w W' c x bm p m (i + 1) := by
  obtain ⟨h1, h2, h3, h4, -, -, h11, h12, h13⟩ := h
  have e : m.belowN x (i + 1) = m.belowN x i ++ [xat m.low i] := by rw [m.belowN_succ x i hi, hc]; rfl
  have ne : ∀ {b : Nat} {l : List Value} {t : TypeId}, Blk W b l t → t ≠ 3 → b ≠ bm → b ≠ p + 1 → ¬ (b = bm ∨ v.ownBlock = some b ∨ b = p + 1) := by
    rintro b l t hb ht h1 h2 (h | h | h)
    · exact h1 h
    · exact ownsRow_ne hb ht row0.own b h rfl
    · exact h2 h
  refine ⟨h1.trans f' ?_, h2.fr f' (ne h2 (by decide) (by omega) (by omega)), ?_, h4.fr f' (ne h4 (by decide) (by omega) (by omega)), ⟨n + 1, _, by omega, mp, fun y => ?_⟩, ⟨v', bo, by rw [e]; exact row, hoff⟩, h11.fr f' (ne h11 (by decide) (by omega) (by omega)), h12, h13⟩
  · rintro k (h | h | h) hl
    · omega
    · have := row0.new k h
      omega
    · omega
  · refine h3.fr f' ?_
    rintro (h | h | h)
    · omega
    · exact hoff0 _ h rfl
    · omega
  · unfold inBelow
    rw [e]
    by_cases hy : y = xat m.low i
    · subst hy
      rw [upd_same]
      simp
    · rw [upd_ne _ _ (by simp; omega), hff y]
      unfold inBelow
      simp [hy]
variable {w : World} {c : Nat} {m : CM}
theorem CRep.drew (h : CRep w c m) : CRep w.drew c m := h
set_option maxHeartbeats 2000000 in
set_option maxRecDepth 20000 in
theorem Below_go (h : CRep w c m) (ok : m.Ok) (x : Int) : Calls Try.prog 23 #[.pointer (some ⟨c, 0, none⟩), .int .i64 x] w fun e w' => ∃ v, e = .returned v ∧ NumRow w w' v (m.below x) ∧ Fr (fun _ => False) w w' := by
  have h1 := h.next
  have hlt := lt_of_cell h1
  have F0 := ((Fr.refl (fun _ => False) w).alloc (.cells #[Value.pointer (some ⟨c, 0, none⟩)] 27)).alloc (.cells #[Value.int .i64 x] 3)
  have B0 := (Blk.new w [Value.pointer (some ⟨c, 0, none⟩)] 27).alloc (.cells #[Value.int .i64 x] 3)
  have B1 := Blk.new (w.alloc (.cells #[Value.pointer (some ⟨c, 0, none⟩)] 27)) [Value.int .i64 x] 3
  rw [World.size_alloc] at B1
  refine calls_of_wp_marks Try.func23 rfl ?_
  simp only [Try.ntmps23, List.size_toArray, List.length_cons, List.length_nil, Nat.reduceAdd, Nat.reduceSub, Array.replicate_succ, Array.replicate_zero, List.push_toArray, List.append_toArray, List.nil_append, List.cons_append]
  cases hk : m.knows x with
  | false =>
    have hb : m.below x = [] := by unfold CM.below; rw [hk]; rfl
    rw [hb]
    have HK := hid (knows_is (CRep.fr h F0 (fun h => h)) ok _ hk)
    have HF0 := hid F0
    clear F0 B0 B1 hb hk h
    go_wp2_with (first | (go_at_call 56; refine HK.out.mono ?_; rintro e w1 ⟨rfl, f1⟩))
    exact leavesM_none (v := .slice none 0 0) (by simp [results, Try.results23, go_sem]) ⟨_, rfl, ⟨own_nil, fun k hk => by simp [Value.ownBlock] at hk⟩, HF0.out.trans f1 (fun _ h _ => h)⟩
  | true =>
    have HK := hid (knows_is (CRep.fr h F0 (fun h => h)) ok _ hk)
    have HF0 := hid F0
    have HB0 := hid B0
    have HB1 := hid B1
    have HH := hid h
    have hmm := @run_makeMap Try.prog
    obtain ⟨k, rfl, k1, k2, k3⟩ := m.knows_nat hk
    clear F0 B0 B1 h
    have HKK := hid hk
    clear hk
    go_wp2_with (fail)
    refine HK.out.mono ?_
    rintro e w1 ⟨rfl, f1⟩
    have hs1 := f1.size
    simp only [World.size_alloc] at hs1
    have b0 := HB0.out.fr f1 (fun h => h)
    have b1 := HB1.out.fr f1 (fun h => h)
    have q1 : w1.cell? ⟨w.heap.size + 1, 0, none⟩ = some (.int .i64 k) := b1.cell 0
    have F1 := HF0.out.trans f1 (fun _ h _ => h)
    have f2 := (Fr.refl (fun _ => False) w1).alloc (.map #[] 0)
    have hz0 : 0 < maxLen := small_max (by omega)
    have hkey := key_nat (n := k) (by omega)
    have mp := MapF.new Try.prog 3 w1 (.bool false)
    have q2 := cell_fr q1 f2 (fun h => h)
    go_wp2_with (first
      | (refine wpList_insert_F rfl (m := .tmp 12) (x := .tmp 13) (v := .const (.bool true)) rfl rfl mp (Go.Maps.int_keyed Try.underlying3) Try.underlying32 hz0 rfl rfl hkey trivial ?_
         intro w2 mp2 f3
         have f4 := ((Fr.refl (fun _ => False) w2).alloc (.cells #[Value.map (some w1.heap.size)] 32)).alloc (.cells #[Value.slice none 0 0] 26)
         have b2 := ((b0.fr f2 (fun h => h)).fr f3 (by omega)).fr f4 (fun h => h)
         have q3 : ((w2.alloc (.cells #[Value.map (some w1.heap.size)] 32)).alloc (.cells #[Value.slice none 0 0] 26)).cell? ⟨w.heap.size, 0, none⟩ = some (.pointer (some ⟨c, 0, none⟩)) := b2.cell 0
         have s2 := f3.size
         simp only [World.size_alloc] at s2)
      | (go_at_call 57; refine (all_go _ _).mono ?_; rintro e w9 ⟨rfl, rfl⟩))
    obtain ⟨W, hW⟩ : ∃ W, W = ((w2.alloc (.cells #[Value.map (some w1.heap.size)] 32)).alloc (.cells #[Value.slice none 0 0] 26)).alloc (.cells #[Value.pointer (some ⟨c, 0, none⟩)] 27) := ⟨_, rfl⟩
    have hz : W.heap.size = w2.heap.size + 3 := by rw [hW]; simp
    have f5 : Fr (fun _ => False) w2 W := by rw [hW]; exact f4.alloc _
    have inv0 : BelInv w W c k w1.heap.size w2.heap.size m 0 := by
      refine ⟨((F1.trans f2 (fun _ h _ => h)).trans f3 (fun i hi hl => by omega)).trans f5 (fun _ h _ => h), ((b0.fr f2 (fun h => h)).fr f3 (by omega)).fr f5 (fun h => h), ((b1.fr f2 (fun h => h)).fr f3 (by omega)).fr f5 (fun h => h), ?_, ⟨0 + 1, _, by omega, mp2.fr f5 (fun h => h), fun y => ?_⟩, ⟨.slice none 0 0, ?_, ?_, fun k hk => by simp [Value.ownBlock] at hk⟩, ?_, by omega, by omega⟩
      · rw [hW]
        exact ((Blk.new w2 [Value.map (some w1.heap.size)] 32).alloc _).alloc _
      · unfold inBelow
        rw [CM.belowN_zero]
        by_cases hy : y = k
        · subst hy
          rw [upd_same]
          simp [Act.eval]
        · rw [upd_ne _ _ (by simp; omega)]
          simp [hy]
      · have := (Blk.new (w2.alloc (.cells #[Value.map (some w1.heap.size)] 32)) [Value.slice none 0 0] 26).alloc (.cells #[Value.pointer (some ⟨c, 0, none⟩)] 27)
        rw [World.size_alloc] at this
        rw [hW]
        exact this
      · rw [CM.belowN_zero]
        exact ⟨own_nil, fun k hk => by simp [Value.ownBlock] at hk⟩
      · have := Blk.new ((w2.alloc (.cells #[Value.map (some w1.heap.size)] 32)).alloc (.cells #[Value.slice none 0 0] 26)) [Value.pointer (some ⟨c, 0, none⟩)] 27
        rw [World.size_alloc, World.size_alloc] at this
        rw [hW]
        exact this
    rw [← hW]
    have INV0 := hid inv0
    clear hW f5 f4 f3 mp2 mp b2 b1 b0 q1 q2 q3 f1 F1 f2 hmm inv0 hs1 s2 HB0 HB1 HF0 HK
    generalize w2.heap.size = p at *
    generalize w1.heap.size = bm at *
    clear w1 w2
    refine wp_range_J (n := m.n) (fun i => .int .i64 (xat m.low i)) (fun i W => BelInv w W c k bm p m i) (fun _ => False) ?a1 rfl (fun _ _ => rfl) rfl (fun i W1 W2 h f => h.keep (f.mono (by rw [hz]; exact fun k h _ => h))) (fun _ _ h _ => h.elim) ?it INV0.out ?asg ?round ?fin (fun _ h _ => h.elim)
    case asg =>
      intro i W1 K hK
      gi_wp2
      exact hK
    case it =>
      rw [hz]
      refine all_it (p + 3 + 1) (p + 1 + 1) c m.low m.next ok.lo ok.nx _ fun i W1 h => ⟨h.bi.cell 0, ?_, ?_⟩
      · exact (CRep.fr HH.out h.fr (fun h => h)).low
      · exact (CRep.fr HH.out h.fr (fun h => h)).next
    case round =>
      rw [hz]
      intro i Wb inv hi hsb
      have hx := xat_on m.low i
      have HC := hid (CRep.fr HH.out inv.fr (fun h => h))
      have hli := m.belowN_le k i
      have hf := ok.far
      have hstep := m.below_step ok HKK.out hi
      have hsucc := m.belowN_succ k i hi
      have hA := above_go (CRep.drew HC.out) ok (x := xat m.low i) (by omega)
      have hab : m.above (xat m.low i) < 128 := by unfold CM.above; split; exact ok.ab _; omega
      have INV := hid inv
      obtain ⟨f0, bc, bx, bmp, ⟨n, f, hn, mp, hff⟩, ⟨v, bo, row, hoff⟩, bi, hge, hlt2⟩ := inv
      have kc : Wb.cell? ⟨w.heap.size, 0, none⟩ = some (.pointer (some ⟨c, 0, none⟩)) := bc.cell 0
      have kx : Wb.cell? ⟨w.heap.size + 1, 0, none⟩ = some (.int .i64 k) := bx.cell 0
      have km : Wb.cell? ⟨p, 0, none⟩ = some (.map (some bm)) := bmp.cell 0
      have hkeyA := key_nat (n := m.above (xat m.low i)) (by omega)
      have hkeyY := key_nat (n := xat m.low i) (by omega)
      have hfA := hff (m.above (xat m.low i))
      have HFF := hid hff
      have HA := hid hA
      have HSU := hid hsucc
      have HHK := hid hkey
      clear hff hA hsucc hkey bc bx bmp bi f0 h1
      generalize hb0 : w.heap.size = b0 at *
      have HB0 := hid hb0
      clear hb0
      by_cases hy : xat m.low i = k
      · have hne : ((xat m.low i : Nat) : Int) = k := by omega
        have HEQ := hid hy
        simp only [hy, ne_eq, not_true_eq_false, decide_false, Bool.false_and] at hstep
        have HST := hid hstep
        clear hy hstep
        have hd : ((xat m.low i : Int) != (k : Int)) = false := by simp [hne]
        clear hne
        clear mp hfA hkeyA hkeyY HA
        gi_wp2_with (fail)
        refine wpIn_region_scriptE [(true, 0), (true, 1), (true, 2), (true, 3), (true, 4), (true, 5), (true, 6), (false, 7), (false, 8), (true, 9)] (fun kz w => (kz ≤ 10 → w.cell? ⟨b0, 0, none⟩ = some (.pointer (some ⟨c, 0, none⟩)) ∧ w.cell? ⟨b0 + 1, 0, none⟩ = some (.int .i64 k) ∧ w.cell? ⟨p, 0, none⟩ = some (.map (some bm))) ∧ True) (by kernel_rfl) (by kernel_rfl) (by intro c a d v w h; cases d <;> exact h) (by decide +kernel) (by rintro ⟨_, _, h⟩; exact h) ?_
        repeat
          first
          | (refine wpS_pureE rfl rfl rfl ?_; apply Exists.intro; refine ⟨?_, ?_⟩; intro w; ((go_simp <;> rfl)); simp only [Act.put, List.setIfInBounds_toArray, List.set_cons_zero, List.set_cons_succ])
          | (refine wpS_takeE 10 rfl rfl (by decide +kernel) ⟨fun _ => ⟨kc, kx, km⟩, trivial⟩ ?_; apply Exists.intro; refine ⟨?_, ?_⟩; intro w hw; (have qa := (hw rfl).1 (Nat.le_refl _); have qb := (hw rfl).2); ((go_simp <;> rfl)); simp only [Act.put, List.setIfInBounds_toArray, List.set_cons_zero, List.set_cons_succ])
          | (refine wpS_skipE rfl rfl ?_; simp only [Act.put, List.setIfInBounds_toArray, List.set_cons_zero, List.set_cons_succ])
        refine wpS_opE rfl ?_
        go_wp2_with (fail)
        (refine ⟨?_, ?_⟩; focus (intro kz hk hk2; rintro ⟨qa, qb⟩; first | (exfalso; simp at hk2; omega) | exact ⟨qa, qb⟩ | (refine ⟨fun h => absurd h (by omega), ?_⟩; first | exact qb | (exact qa)) | (refine ⟨fun h => ?_, ?_⟩; (have qa := qa h); all_goals (first | exact qa | exact qb | (exact qa)))))
        refine wpS_opE rfl ?_
        go_wp2_with (fail)
        (refine ⟨?_, ?_⟩; focus (intro kz hk hk2; rintro ⟨qa, qb⟩; first | (exfalso; simp at hk2; omega) | exact ⟨qa, qb⟩ | (refine ⟨fun h => absurd h (by omega), ?_⟩; first | exact qb | (exact qa)) | (refine ⟨fun h => ?_, ?_⟩; (have qa := qa h); all_goals (first | exact qa | exact qb | (exact qa)))))
        repeat
          first
          | (refine wpS_pureE rfl rfl rfl ?_; apply Exists.intro; refine ⟨?_, ?_⟩; intro w; ((go_simp <;> rfl)); simp only [Act.put, List.setIfInBounds_toArray, List.set_cons_zero, List.set_cons_succ])
          | (refine wpS_takeE 10 rfl rfl (by decide +kernel) ⟨fun _ => ⟨kc, kx, km⟩, trivial⟩ ?_; apply Exists.intro; refine ⟨?_, ?_⟩; intro w hw; (have qa := (hw rfl).1 (Nat.le_refl _); have qb := (hw rfl).2); ((go_simp <;> rfl)); simp only [Act.put, List.setIfInBounds_toArray, List.set_cons_zero, List.set_cons_succ])
          | (refine wpS_skipE rfl rfl ?_; simp only [Act.put, List.setIfInBounds_toArray, List.set_cons_zero, List.set_cons_succ])
        refine wpS_nilE ?_
        gi_wp2
        refine ⟨?_, (Fr.refl _ Wb).drew⟩
        show BelInv w _ c k bm p m (i + 1)
        exact BelInv.no ok INV.out (Fr.refl _ Wb).drew hi (by rw [HEQ.out]; exact HST.out)

      · have hd : ((xat m.low i : Int) != (k : Int)) = true := by simp; omega
        simp only [hy, ne_eq, not_false_eq_true, decide_true, Bool.true_and] at hstep
        have hstep : m.climb k 128 (xat m.low i) = inBelow m k i (m.above (xat m.low i)) := hstep
        rw [← hstep] at hfA
        clear hstep hy
        cases hcl : m.climb k 128 (xat m.low i) with
        | false =>
          rw [hcl] at hfA
          have HST := hid hcl
          clear hcl
          gi_wp2_with (fail)
          refine wpIn_region_scriptE [(true, 0), (true, 1), (true, 2), (true, 3), (true, 4), (true, 5), (true, 6), (false, 7), (false, 8), (true, 9)] (fun kz w => (kz ≤ 10 → w.cell? ⟨b0, 0, none⟩ = some (.pointer (some ⟨c, 0, none⟩)) ∧ w.cell? ⟨b0 + 1, 0, none⟩ = some (.int .i64 k) ∧ w.cell? ⟨p, 0, none⟩ = some (.map (some bm))) ∧ True) (by kernel_rfl) (by kernel_rfl) (by intro c a d v w h; cases d <;> exact h) (by decide +kernel) (by rintro ⟨_, _, h⟩; exact h) ?_
          repeat
            first
            | (refine wpS_pureE rfl rfl rfl ?_; apply Exists.intro; refine ⟨?_, ?_⟩; intro w; ((go_simp <;> rfl)); simp only [Act.put, List.setIfInBounds_toArray, List.set_cons_zero, List.set_cons_succ])
            | (refine wpS_takeE 10 rfl rfl (by decide +kernel) ⟨fun _ => ⟨kc, kx, km⟩, trivial⟩ ?_; apply Exists.intro; refine ⟨?_, ?_⟩; intro w hw; (have qa := (hw rfl).1 (Nat.le_refl _); have qb := (hw rfl).2); ((go_simp <;> rfl)); simp only [Act.put, List.setIfInBounds_toArray, List.set_cons_zero, List.set_cons_succ])
            | (refine wpS_skipE rfl rfl ?_; simp only [Act.put, List.setIfInBounds_toArray, List.set_cons_zero, List.set_cons_succ])
          refine wpS_opE rfl ?_
          go_wp2_with ((go_at_call 58; refine HA.out.mono ?_; rintro e w5 ⟨rfl, f5⟩))
          (refine ⟨?_, ?_⟩; focus (intro kz hk hk2; rintro ⟨qa, qb⟩; first | (exfalso; simp at hk2; omega) | exact ⟨qa, qb⟩ | (refine ⟨fun h => absurd h (by omega), ?_⟩; first | exact qb | (exact ⟨cell_fr qa.1 f5 (fun h => h), cell_fr qa.2.1 f5 (fun h => h), cell_fr qa.2.2 f5 (fun h => h)⟩)) | (refine ⟨fun h => ?_, ?_⟩; (have qa := qa h); all_goals (first | exact qa | exact qb | (exact ⟨cell_fr qa.1 f5 (fun h => h), cell_fr qa.2.1 f5 (fun h => h), cell_fr qa.2.2 f5 (fun h => h)⟩)))))
          have F5 := (Fr.refl (fun _ => False) Wb).drew.trans f5 (fun _ h _ => h)
          have mp5 := mp.fr F5 (fun h => h)
          have hlk := mp5.get (Go.Maps.int_keyed Try.underlying3) Try.underlying32 (zero_bool _) hkeyA trivial
          rw [hfA] at hlk
          replace kc := cell_fr kc F5 (fun h => h)
          replace kx := cell_fr kx F5 (fun h => h)
          replace km := cell_fr km F5 (fun h => h)
          repeat
            first
            | (refine wpS_pureE rfl rfl rfl ?_; apply Exists.intro; refine ⟨?_, ?_⟩; intro w; ((go_simp <;> rfl)); simp only [Act.put, List.setIfInBounds_toArray, List.set_cons_zero, List.set_cons_succ])
            | (refine wpS_takeE 10 rfl rfl (by decide +kernel) ⟨fun _ => ⟨kc, kx, km⟩, trivial⟩ ?_; apply Exists.intro; refine ⟨?_, ?_⟩; intro w hw; (have qa := (hw rfl).1 (Nat.le_refl _); have qb := (hw rfl).2); ((go_simp <;> rfl)); simp only [Act.put, List.setIfInBounds_toArray, List.set_cons_zero, List.set_cons_succ])
            | (refine wpS_skipE rfl rfl ?_; simp only [Act.put, List.setIfInBounds_toArray, List.set_cons_zero, List.set_cons_succ])
          refine wpS_opE rfl ?_
          go_wp2_with (fail)
          (refine ⟨?_, ?_⟩; focus (intro kz hk hk2; rintro ⟨qa, qb⟩; first | (exfalso; simp at hk2; omega) | exact ⟨qa, qb⟩ | (refine ⟨fun h => absurd h (by omega), ?_⟩; first | exact qb | (exact qa)) | (refine ⟨fun h => ?_, ?_⟩; (have qa := qa h); all_goals (first | exact qa | exact qb | (exact qa)))))
          repeat
            first
            | (refine wpS_pureE rfl rfl rfl ?_; apply Exists.intro; refine ⟨?_, ?_⟩; intro w; ((go_simp <;> rfl)); simp only [Act.put, List.setIfInBounds_toArray, List.set_cons_zero, List.set_cons_succ])
            | (refine wpS_takeE 10 rfl rfl (by decide +kernel) ⟨fun _ => ⟨kc, kx, km⟩, trivial⟩ ?_; apply Exists.intro; refine ⟨?_, ?_⟩; intro w hw; (have qa := (hw rfl).1 (Nat.le_refl _); have qb := (hw rfl).2); ((go_simp <;> rfl)); simp only [Act.put, List.setIfInBounds_toArray, List.set_cons_zero, List.set_cons_succ])
            | (refine wpS_skipE rfl rfl ?_; simp only [Act.put, List.setIfInBounds_toArray, List.set_cons_zero, List.set_cons_succ])
          refine wpS_nilE ?_
          gi_wp2
          refine ⟨?_, F5.mono (fun _ h _ => h.elim)⟩
          show BelInv w _ c k bm p m (i + 1)
          exact BelInv.no ok INV.out F5 hi HST.out
        | true =>
          rw [hcl] at hfA
          have HST := hid hcl
          clear hcl
          gi_wp2_with (fail)
          refine wpIn_region_scriptE [(true, 0), (true, 1), (true, 2), (true, 3), (true, 4), (true, 5), (true, 6), (false, 7), (false, 8), (true, 9)] (fun kz w => (kz ≤ 10 → w.cell? ⟨b0, 0, none⟩ = some (.pointer (some ⟨c, 0, none⟩)) ∧ w.cell? ⟨b0 + 1, 0, none⟩ = some (.int .i64 k) ∧ w.cell? ⟨p, 0, none⟩ = some (.map (some bm))) ∧ True) (by kernel_rfl) (by kernel_rfl) (by intro c a d v w h; cases d <;> exact h) (by decide +kernel) (by rintro ⟨_, _, h⟩; exact h) ?_
          repeat
            first
            | (refine wpS_pureE rfl rfl rfl ?_; apply Exists.intro; refine ⟨?_, ?_⟩; intro w; ((go_simp <;> rfl)); simp only [Act.put, List.setIfInBounds_toArray, List.set_cons_zero, List.set_cons_succ])
            | (refine wpS_takeE 10 rfl rfl (by decide +kernel) ⟨fun _ => ⟨kc, kx, km⟩, trivial⟩ ?_; apply Exists.intro; refine ⟨?_, ?_⟩; intro w hw; (have qa := (hw rfl).1 (Nat.le_refl _); have qb := (hw rfl).2); ((go_simp <;> rfl)); simp only [Act.put, List.setIfInBounds_toArray, List.set_cons_zero, List.set_cons_succ])
            | (refine wpS_skipE rfl rfl ?_; simp only [Act.put, List.setIfInBounds_toArray, List.set_cons_zero, List.set_cons_succ])
          refine wpS_opE rfl ?_
          go_wp2_with ((go_at_call 58; refine HA.out.mono ?_; rintro e w5 ⟨rfl, f5⟩))
          (refine ⟨?_, ?_⟩; focus (intro kz hk hk2; rintro ⟨qa, qb⟩; first | (exfalso; simp at hk2; omega) | exact ⟨qa, qb⟩ | (refine ⟨fun h => absurd h (by omega), ?_⟩; first | exact qb | (exact ⟨cell_fr qa.1 f5 (fun h => h), cell_fr qa.2.1 f5 (fun h => h), cell_fr qa.2.2 f5 (fun h => h)⟩)) | (refine ⟨fun h => ?_, ?_⟩; (have qa := qa h); all_goals (first | exact qa | exact qb | (exact ⟨cell_fr qa.1 f5 (fun h => h), cell_fr qa.2.1 f5 (fun h => h), cell_fr qa.2.2 f5 (fun h => h)⟩)))))
          have F5 := (Fr.refl (fun _ => False) Wb).drew.trans f5 (fun _ h _ => h)
          have mp5 := mp.fr F5 (fun h => h)
          have hlk := mp5.get (Go.Maps.int_keyed Try.underlying3) Try.underlying32 (zero_bool _) hkeyA trivial
          rw [hfA] at hlk
          replace kc := cell_fr kc F5 (fun h => h)
          replace kx := cell_fr kx F5 (fun h => h)
          replace km := cell_fr km F5 (fun h => h)
          repeat
            first
            | (refine wpS_pureE rfl rfl rfl ?_; apply Exists.intro; refine ⟨?_, ?_⟩; intro w; ((go_simp <;> rfl)); simp only [Act.put, List.setIfInBounds_toArray, List.set_cons_zero, List.set_cons_succ])
            | (refine wpS_takeE 10 rfl rfl (by decide +kernel) ⟨fun _ => ⟨kc, kx, km⟩, trivial⟩ ?_; apply Exists.intro; refine ⟨?_, ?_⟩; intro w hw; (have qa := (hw rfl).1 (Nat.le_refl _); have qb := (hw rfl).2); ((go_simp <;> rfl)); simp only [Act.put, List.setIfInBounds_toArray, List.set_cons_zero, List.set_cons_succ])
            | (refine wpS_skipE rfl rfl ?_; simp only [Act.put, List.setIfInBounds_toArray, List.set_cons_zero, List.set_cons_succ])
          refine wpS_opE rfl ?_
          go_wp2_with (fail)
          (refine ⟨?_, ?_⟩; focus (intro kz hk hk2; rintro ⟨qa, qb⟩; first | (exfalso; simp at hk2; omega) | exact ⟨qa, qb⟩ | (refine ⟨fun h => absurd h (by omega), ?_⟩; first | exact qb | (exact qa)) | (refine ⟨fun h => ?_, ?_⟩; (have qa := qa h); all_goals (first | exact qa | exact qb | (exact qa)))))
          repeat
            first
            | (refine wpS_pureE rfl rfl rfl ?_; apply Exists.intro; refine ⟨?_, ?_⟩; intro w; ((go_simp <;> rfl)); simp only [Act.put, List.setIfInBounds_toArray, List.set_cons_zero, List.set_cons_succ])
            | (refine wpS_takeE 10 rfl rfl (by decide +kernel) ⟨fun _ => ⟨kc, kx, km⟩, trivial⟩ ?_; apply Exists.intro; refine ⟨?_, ?_⟩; intro w hw; (have qa := (hw rfl).1 (Nat.le_refl _); have qb := (hw rfl).2); ((go_simp <;> rfl)); simp only [Act.put, List.setIfInBounds_toArray, List.set_cons_zero, List.set_cons_succ])
            | (refine wpS_skipE rfl rfl ?_; simp only [Act.put, List.setIfInBounds_toArray, List.set_cons_zero, List.set_cons_succ])
          refine wpS_nilE ?_
          obtain ⟨va, vc, rfl, hvc⟩ := own_slice row.own
          have bo5 := bo.fr F5 (fun h => h)
          have hnm : n < maxLen := small_max (by omega)
          have row0 := hid row
          have F5H := hid F5
          clear hlk mp hfA hkeyA HA hvc f5 F5
          gi_wp2_with (refine wpListIn_at 28 rfl (by rintro ⟨_, _, h⟩; exact h) (by decide +kernel) ?_)
          go_wp2_with (first
            | (at_mapUpdate
               refine wpList_update_F rfl (m := .tmp 28) (x := .tmp 29) (v := .const (.bool true)) rfl rfl mp5 (Go.Maps.int_keyed Try.underlying3) Try.underlying32 hnm rfl rfl hkeyY trivial ?_
               intro w6 mp6 f6
               have MP6 := hid mp6
               have bo6 := bo5.fr f6 (by omega)
               have F6 := (F5H.out.mono (T := fun j => j = bm) (fun _ h _ => h.elim)).trans f6 (fun _ h _ => h)
               have ko : w6.cell? ⟨p + 1, 0, none⟩ = some (.slice va (m.belowN k i).length vc) := bo6.cell 0
               clear mp6 mp5 f6 bo5 kc kx km))
          have F7 := hid ((Fr.refl (fun _ => False) w6).alloc (.cells #[Value.int .i64 (xat m.low i)] 3))
          have hsrc : Src Try.prog (w6.alloc (.cells #[Value.int .i64 (xat m.low i)] 3)) 1 (.slice (some ⟨w6.heap.size, 0, none⟩) 1 1) 1 [Value.int .i64 (xat m.low i)] := Src.slice (by simp) (by simp [Value.oneCell']) (Blk.new w6 [Value.int .i64 (xat m.low i)] 3).all
          have ho := own_fr (own_fr row.own F6 (fun k hk h => (hoff k hk).1 h)) F7.out (fun _ _ h => h)
          have F6H := hid F6
          have hs6 := F6.size
          clear F6
          gi_wp2_with (refine wpListIn_at 30 rfl (by rintro ⟨_, _, h⟩; exact h) (by decide +kernel) ?_)
          go_wp2_with (first
            | (refine wpList_append rfl (s := .tmp 30) (x := .tmp 32) (t := 26) (tx := 26) rfl Try.underlying26 Try.underlying26 (.inr ⟨_, rfl⟩) Try.info_int rfl rfl rfl ho hsrc (by omega) (by omega) ?_
               intro ab ac wg hown hg hat
               have hg : World.grownBy _ wg (Value.slice va (m.belowN k i).length vc).ownBlock := hg
               have hat : ∀ k', (Value.slice ab ((m.belowN k i).length + 1) ac).ownBlock = some k' → (Value.slice va (m.belowN k i).length vc).ownBlock = some k' ∨ k' = _ := hat
               obtain ⟨row', fg⟩ := NumRow.app ⟨own_fr row0.out.own F6H.out (fun k hk h => (hoff k hk).1 h), row0.out.new⟩ F7.out (by have := INV.out.fr.size; have := F6H.out.size; simp; omega) hg hown hat
               have hne : ∀ k', (Value.slice va (m.belowN k i).length vc).ownBlock = some k' → k' ≠ p + 1 := ownsRow_ne bo (by decide) row0.out.own
               have b3 := bo6.fr fg (fun h => hne _ h rfl)
               have k2 : wg.cell? ⟨p + 1, 0, none⟩ = some (.slice va (m.belowN k i).length vc) := b3.cell 0
               have z2 : wg.frozen? ⟨p + 1, 0, none⟩ = false := b3.frozen 0
               have hat : ∀ k', (Value.slice ab ((m.belowN k i).length + 1) ac).ownBlock = some k' → (Value.slice va (m.belowN k i).length vc).ownBlock = some k' ∨ k' = w6.heap.size + 1 := by simpa using hat
               have ROW := hid row'
               have HAT := hid hat
               have FG := hid fg
               have HNE := hid hne
               have hoff' := hid hoff
               have B3 := hid b3
               clear hg hown hat row' fg hne b3 ho hsrc hoff row ko bo6))
          have f2 := (Fr.refl (fun k => k = p + 1) wg).setCell ⟨p + 1, 0, none⟩ (.slice ab ((m.belowN k i).length + 1) ac) (fun _ => rfl)
          have f3 := ((F6H.out.mono (T := fun j => j = bm ∨ (Value.slice va (m.belowN k i).length vc).ownBlock = some j ∨ j = p + 1) (fun j h _ => .inl h)).trans FG.out (fun j h _ => .inr (.inl h))).trans f2 (fun j h _ => .inr (.inr h))
          have hp6 : p + 5 ≤ w6.heap.size := by omega
          have hb0 := HB0.out
          have mp9 : MapF Try.prog 3 _ bm (n + 1) (.bool false) (upd f (.int .i64 (xat m.low i)) (.bool true)) := (MP6.out.fr FG.out (fun h => (hoff'.out _ h).1 rfl)).fr f2 (by omega)
          refine ⟨?_, f3.mono fun j hj _ => ?_⟩
          · refine BelInv.yes INV.out hi HST.out hn row0.out f3 mp9 HFF.out (B3.out.set 0 _) ⟨own_fr ROW.out.own f2 fun k' hk' h => ?_, ROW.out.new⟩ (fun k' hk' => by rw [hb0]; exact (hoff'.out k' hk').2.1) fun k' hk' => ?_
            · rcases HAT.out k' hk' with h' | h'
              · exact HNE.out k' h' h
              · omega
            · rcases HAT.out k' hk' with h' | h'
              · rw [hb0]; exact hoff'.out k' h'
              · omega
          · rcases hj with hj | hj | hj
            · omega
            · have := hoff'.out j hj
              omega
            · omega
    case fin =>
      intro W1 inv hD
      obtain ⟨f0, bc, bx, bmp, -, ⟨v, bo, row, hoff⟩, bi, hge, hlt2⟩ := inv
      rw [hz] at hD
      rw [m.belowN_all k HKK.out] at row
      have ko : W1.cell? ⟨p + 1, 0, none⟩ = some v := bo.cell 0
      have hfin := f0.putObj (p + 3) (.deferred none) (fun h => absurd h (by omega))
      have hrow := own_fr (S := fun k => k = p + 3) row.own ((Fr.refl _ W1).putObj (p + 3) (.deferred none) (fun _ => rfl)) (fun k hk h => (hoff k hk).2.2.1 h)
      have HFIN := hid hfin
      have HROW := hid hrow
      have HNEW := hid row.new
      have HD := hid hD
      clear f0 bc bx bmp bo row hoff bi hfin hrow INV0 hD
      go_wp2_with (fail)
      rw [hz]
      exact leavesM_one HD.out (by simp [results, Try.results23, go_sem]) ⟨_, rfl, ⟨HROW.out, HNEW.out⟩, HFIN.out⟩
end Go.Proofs.Ytbkebjgoaeddjaa
