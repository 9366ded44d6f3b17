/- Proved: for every slice of calls and every integer the law ClockTurns of chapter 07 returns true, and its arguments read afterwards as before. Conditions: none beyond the given statement. -/
import Derived.Test.YtbkebjgoaeddjaaClkArgs
import Derived.Test.YtbkebjgoaeddjaaClkTurnM
import Derived.Test.YtbkebjgoaeddjaaClkRun
import Derived.Test.YtbkebjgoaeddjaaFin
set_option linter.unusedVariables false
namespace Go.Proofs.Ytbkebjgoaeddjaa
open Go.RowKit Go.VB Go.VB.Clk
structure TurnW (w wr : World) (c d r : Nat) (m m' : CM) : Prop where
  rc : CRep wr c m
  rd : CRep wr d m'
  ok : m.Ok
  ok' : m'.Ok
  rot : Rot r m m'
  fr : Fr (fun _ => False) w wr
theorem TurnW.fre {w wr wz : World} {c d r : Nat} {m m' : CM} (h : TurnW w wr c d r m m') (f : Fr (fun _ => False) wr wz) : TurnW w wz c d r m m' :=
  ⟨CRep.fr h.rc f (fun h => h), CRep.fr h.rd f (fun h => h), h.ok, h.ok', h.rot, h.fr.trans f (fun _ h _ => h)⟩
theorem tn_on {r a : Nat} (h : 3 ≤ a ∧ a ≤ 127) : tn r a = xat a r := by unfold tn; rw [if_neg (by omega)]
theorem Turn_tn (a n : Nat) (w : World) (ha : a = 0 ∨ (3 ≤ a ∧ a ≤ 127)) (hn : n ≤ 1000000) : Calls Try.prog 33 #[.int .i64 a, .int .i64 n] w fun e w' => e = .returned (.int .i64 (tn n a : Nat)) ∧ w = w' := by
  rcases ha with rfl | ha
  · exact Turn_off ((0 : Nat) : Int) n w (by decide)
  · rw [tn_on ha]
    exact Turn_go a n w ha hn
set_option maxRecDepth 20000 in
set_option maxHeartbeats 16000000 in
theorem ClockTurns_walk (L : List Cl) (by_ : Int) (w : World) (va : Value) (hA : Sl (fun k => k < w.heap.size) w va L.length (L.flatMap ccl)) (hLl : L.length ≤ maxLen) :
    Calls Try.prog 7 #[va, .int .i64 by_] w fun e w' => e = .returned (.bool true) ∧ Fr (fun _ => False) w w' := by
  have e63 : maxLen = 9223372036854775807 := rfl
  rw [e63] at hLl
  obtain ⟨aa, ac, rfl, hac, ha⟩ := hA
  have HA := hid (fun j (hj : j < L.length) => ccl_at ha hj)
  obtain ⟨r, hr⟩ : ∃ r : Nat, by_ % 125 = r := ⟨(by_ % 125).toNat, by omega⟩
  have hr5 : r < 125 := by omega
  have RB := hid (fun w => rest_any w by_ 125 (by omega) (by omega))
  rw [hr] at RB
  have T3 := hid (fun w => Turn_go 3 r w (by omega) (by omega))
  have ROT0 := hid (rot_new hr5)
  have hx3 := xat_on 3 r
  clear e63 ha hr
  go_enter Try.func7, Try.ntmps7
  go_wp2_with (fail)
  refine (sanity_go w).mono ?_
  rintro e w1 ⟨rfl, f1⟩
  go_wp2_with (fail)
  refine (RB.out _).mono ?_
  rintro e w2 ⟨rfl, rfl⟩
  go_wp2_with (fail)
  refine (New_go 3 w1).mono ?_
  rintro e w2 ⟨rfl, h2, f2⟩
  have s1 := f1.size
  have s2 := f2.size
  have hcl := Blk.lt h2
  generalize hc : w1.heap.size = c at *
  go_wp2_with (fail)
  refine (T3.out _).mono ?_
  rintro e w3 ⟨rfl, rfl⟩
  go_wp2_with (fail)
  refine (New_go (xat 3 r : Nat) w2).mono ?_
  rintro e w3 ⟨rfl, h3, f3⟩
  generalize hd : w2.heap.size = d at *
  have inv0 : TurnW w w3 c d r (CM.new 3) (CM.new (xat 3 r : Nat)) := ⟨CRep.fr h2 f3 (fun h => h), h3, Ok_new _, Ok_new _, ROT0.out, (f1.trans f2 (fun _ h _ => h)).trans f3 (fun _ h _ => h)⟩
  have INV := hid inv0
  clear inv0 h2 h3 f1 f2 f3 ROT0 hc hd s2
  generalize CM.new 3 = m0 at *
  generalize CM.new (xat 3 r : Nat) = m0' at *
  go_wp2_with (fail)
  go_loopw [9] (fun i wr => ∃ (j : Nat) (m m' : CM), j ≤ 60 ∧ j ≤ L.length ∧ i = .int .i64 j ∧ TurnW w wr c d r m m') (fun i _ => 60 - (intOf i).toNat)
  case atStart => exact ⟨0, m0, m0', by omega, by omega, rfl, INV.out⟩
  case round =>
    obtain ⟨j, m, m', hj, hjl, rfl, inv⟩ := hrel
    clear INV
    by_cases hg : j < L.length ∧ j < 60
    · obtain ⟨g1, g2⟩ := hg
      obtain ⟨g, o, rfl, hcell⟩ := HA.out j g1
      have hcell : wr.rangeAt g (o + j * 3) [.int .i64 L[j].kind, .int .i64 L[j].x, .int .i64 L[j].s] := range_fr hcell inv.fr (fun h => h)
      have i1 : (0 : Int) ≤ j := by omega
      have i2 : (j : Int) < L.length := by omega
      have hnx := inv.ok.nx
      generalize L[j] = p at *
      have NOWG := hid (fun W (f : Fr (fun _ => False) wr W) => Now_go (CRep.fr inv.rc f (fun h => h)))
      have NEAR := hid (fun w => near_go p.kind p.x p.s m.next hnx w)
      have hX := xat_on m.next (p.x % 125).toNat
      generalize hXX : xat m.next (p.x % 125).toNat = X at *
      generalize 1 + p.s % 4 = sv at *
      have hlt := lt_of_range (by simp) hcell
      have INV := hid inv
      clear inv hXX
      go_wp2_with (fail)
      refine wp_region_scr (.take 0 (.take 1 (.take 2 (.take 3 (.take 4 (.two 5 7 (.two 6 7 (.op 7 (.op 8 .done)) (.op 6 (.op 8 .done))) (.op 5 (.op 6 (.op 8 .done))))))))) (fun kz w => (kz ≤ 9 → w.rangeAt g (o + j * 3) [.int .i64 p.kind, .int .i64 p.x, .int .i64 p.s]) ∧ True) (by kernel_rfl) (by kernel_rfl) (by intro c a d v w h; cases d <;> exact h) ?_
      repeat
        first
        | (refine wpT_pure rfl rfl rfl ?_; apply Exists.intro; refine ⟨?_, ?_⟩; intro w; (first | (exact run_load_mid _ _ rfl g _ rfl _ _ qa Try.underlying48 rfl Try.size_call) | (go_simp <;> rfl)); simp only [Act.put, List.setIfInBounds_toArray, List.set_cons_zero, List.set_cons_succ])
        | (refine wpT_take 9 rfl rfl (by decide +kernel) ⟨fun _ => hcell, trivial⟩ ?_; apply Exists.intro; refine ⟨?_, ?_⟩; intro w hw; (have qa := hw.1 (Nat.le_refl _); have qb := hw.2); (first | (exact run_load_mid _ _ rfl g _ rfl _ _ qa Try.underlying48 rfl Try.size_call) | (go_simp <;> rfl)); simp only [Act.put, List.setIfInBounds_toArray, List.set_cons_zero, List.set_cons_succ])
        | (refine wpT_skip rfl rfl ?_; simp only [Act.put, List.setIfInBounds_toArray, List.set_cons_zero, List.set_cons_succ])
      have D0 := hid ((Fr.refl (fun _ => False) wr).drew)
      have DA := hid (((Fr.refl (fun _ => False) wr).alloc (.cells #[Value.int .i64 0, .int .i64 0, .int .i64 0] 48)).drew)
      have BA := hid ((Blk.new wr [Value.int .i64 0, .int .i64 0, .int .i64 0] 48).drew)
      refine wpT_two ?h1 (wpT_op rfl ?h3)
      case' h1 =>
        skip
        refine wpT_op rfl ?_
        go_wp2_with ((go_at_call 30; refine (NOWG.out _ D0.out).mono ?_; rintro e w5 ⟨rfl, rfl⟩))
        (refine ⟨?_, ?_⟩; focus (intro kz hk hk2; rintro ⟨qa, qb⟩; first | (exfalso; simp at hk2; omega) | exact ⟨qa, qb⟩ | (refine ⟨fun h => absurd h (by omega), ?_⟩; first | exact qb | (exact qa)) | (refine ⟨fun h => ?_, ?_⟩; (have qa := qa h); all_goals (first | exact qa | exact qb | (exact qa)))))
        refine wpT_two ?k1 ?k2
        case' k1 =>
          skip
          refine wpT_op rfl ?_
          go_wp2_with ((go_at_call 34; refine (NEAR.out _).mono ?_; rintro e w6 ⟨rfl, f6⟩))
          (refine ⟨?_, ?_⟩; focus (intro kz hk hk2; rintro ⟨qa, qb⟩; first | (exfalso; simp at hk2; omega) | exact ⟨qa, qb⟩ | (refine ⟨fun h => absurd h (by omega), ?_⟩; first | exact qb | (exact range_fr qa f6 (fun h => h))) | (refine ⟨fun h => ?_, ?_⟩; (have qa := qa h); all_goals (first | exact qa | exact qb | (exact range_fr qa f6 (fun h => h))))))
          refine wpT_op rfl ?_
          go_wp2_with (fail)
          (refine ⟨?_, ?_⟩; focus (intro kz hk hk2; rintro ⟨qa, qb⟩; first | (exfalso; simp at hk2; omega) | exact ⟨qa, qb⟩ | (refine ⟨fun h => absurd h (by omega), ?_⟩; first | exact qb | (exact range_fr qa ((Fr.refl (fun _ => False) _).alloc _) (fun h => h))) | (refine ⟨fun h => ?_, ?_⟩; (have qa := qa h); all_goals (first | exact qa | exact qb | (exact range_fr qa ((Fr.refl (fun _ => False) _).alloc _) (fun h => h))))))
          refine wpT_op rfl ?_
          go_wp2_with (fail)
          (refine ⟨?_, ?_⟩; focus (intro kz hk hk2; rintro ⟨qa, qb⟩; first | (exfalso; simp at hk2; omega) | exact ⟨qa, qb⟩ | (refine ⟨fun h => absurd h (by omega), ?_⟩; first | exact qb | (exact range_fr hcell ((D0.out.trans f6 (fun _ h _ => h)).alloc _) (fun h => h))) | (refine ⟨fun h => ?_, ?_⟩; (have qa := qa h); all_goals (first | exact qa | exact qb | (exact range_fr hcell ((D0.out.trans f6 (fun _ h _ => h)).alloc _) (fun h => h))))))
          refine wpT_nil ?_
          have hW : Blk (w6.alloc (.cells #[Value.int .i64 p.kind, .int .i64 X, .int .i64 sv] 48)) w6.heap.size [Value.int .i64 p.kind, .int .i64 X, .int .i64 sv] 48 ∧ Fr (fun _ => False) wr (w6.alloc (.cells #[Value.int .i64 p.kind, .int .i64 X, .int .i64 sv] 48)) ∧ wr.heap.size ≤ w6.heap.size := ⟨Blk.new _ [Value.int .i64 p.kind, .int .i64 X, .int .i64 sv] _, (D0.out.trans f6 (fun _ h _ => h)).alloc _, f6.size⟩
          generalize w6.alloc (.cells #[Value.int .i64 p.kind, .int .i64 X, .int .i64 sv] 48) = W at *
          generalize w6.heap.size = b10 at *
        case' k2 =>
          skip
          refine wpT_op rfl ?_
          go_wp2_with (fail)
          (refine ⟨?_, ?_⟩; focus (intro kz hk hk2; rintro ⟨qa, qb⟩; first | (exfalso; simp at hk2; omega) | exact ⟨qa, qb⟩ | (refine ⟨fun h => absurd h (by omega), ?_⟩; first | exact qb | (exact range_fr hcell DA.out (fun h => h))) | (refine ⟨fun h => ?_, ?_⟩; (have qa := qa h); all_goals (first | exact qa | exact qb | (exact range_fr hcell DA.out (fun h => h))))))
          refine wpT_op rfl ?_
          go_wp2_with ((go_at_call 34; refine (NEAR.out _).mono ?_; rintro e w6 ⟨rfl, f6⟩))
          (refine ⟨?_, ?_⟩; focus (intro kz hk hk2; rintro ⟨qa, qb⟩; first | (exfalso; simp at hk2; omega) | exact ⟨qa, qb⟩ | (refine ⟨fun h => absurd h (by omega), ?_⟩; first | exact qb | (exact range_fr qa f6 (fun h => h))) | (refine ⟨fun h => ?_, ?_⟩; (have qa := qa h); all_goals (first | exact qa | exact qb | (exact range_fr qa f6 (fun h => h))))))
          have b6 := BA.out.fr f6 (fun h => h)
          have hT := b6.there 0 3 (by simp)
          refine wpT_op rfl ?_
          refine wpList_store_mid rfl 48 _ _ rfl wr.heap.size 0 _ rfl rfl hT Try.size_call (by simp [Value.oneCell']) ?_
          rw [List.toList_toArray]
          go_wp2_with (fail)
          refine ⟨fun kz h1 h2 hh => ⟨fun h => range_fr (hh.1 h) ((Fr.refl (fun k => k = wr.heap.size) w6).put _ _ _ (fun _ => rfl)) (by omega), trivial⟩, ?_⟩
          refine wpT_nil ?_
          have hW : Blk (w6.setCells wr.heap.size 0 [Value.int .i64 p.kind, .int .i64 X, .int .i64 sv]) wr.heap.size [Value.int .i64 p.kind, .int .i64 X, .int .i64 sv] 48 ∧ Fr (fun _ => False) wr (w6.setCells wr.heap.size 0 [Value.int .i64 p.kind, .int .i64 X, .int .i64 sv]) ∧ wr.heap.size ≤ wr.heap.size := ⟨b6.put 0 [Value.int .i64 p.kind, .int .i64 X, .int .i64 sv] (by simp), (DA.out.trans f6 (fun _ h _ => h)).put _ _ _ (fun h => absurd h (by omega)), Nat.le_refl _⟩
          generalize w6.setCells wr.heap.size 0 [Value.int .i64 p.kind, .int .i64 X, .int .i64 sv] = W at *
          generalize hb10 : wr.heap.size = b10 at *
      case' h3 =>
        skip
        go_wp2_with (fail)
        refine ⟨fun kz h1 h2 hh => ⟨fun h => range_fr hcell DA.out (fun h => h), trivial⟩, ?_⟩
        refine wpT_op rfl ?_
        go_wp2_with ((go_at_call 30; refine (NOWG.out _ DA.out).mono ?_; rintro e w5 ⟨rfl, rfl⟩))
        (refine ⟨?_, ?_⟩; focus (intro kz hk hk2; rintro ⟨qa, qb⟩; first | (exfalso; simp at hk2; omega) | exact ⟨qa, qb⟩ | (refine ⟨fun h => absurd h (by omega), ?_⟩; first | exact qb | (exact qa)) | (refine ⟨fun h => ?_, ?_⟩; (have qa := qa h); all_goals (first | exact qa | exact qb | (exact qa)))))
        refine wpT_op rfl ?_
        go_wp2_with ((go_at_call 34; refine (NEAR.out _).mono ?_; rintro e w6 ⟨rfl, f6⟩))
        (refine ⟨?_, ?_⟩; focus (intro kz hk hk2; rintro ⟨qa, qb⟩; first | (exfalso; simp at hk2; omega) | exact ⟨qa, qb⟩ | (refine ⟨fun h => absurd h (by omega), ?_⟩; first | exact qb | (exact range_fr qa f6 (fun h => h))) | (refine ⟨fun h => ?_, ?_⟩; (have qa := qa h); all_goals (first | exact qa | exact qb | (exact range_fr qa f6 (fun h => h))))))
        have b6 := BA.out.fr f6 (fun h => h)
        have hT := b6.there 0 3 (by simp)
        refine wpT_op rfl ?_
        refine wpList_store_mid rfl 48 _ _ rfl wr.heap.size 0 _ rfl rfl hT Try.size_call (by simp [Value.oneCell']) ?_
        rw [List.toList_toArray]
        go_wp2_with (fail)
        refine ⟨fun kz h1 h2 hh => ⟨fun h => range_fr (hh.1 h) ((Fr.refl (fun k => k = wr.heap.size) w6).put _ _ _ (fun _ => rfl)) (by omega), trivial⟩, ?_⟩
        refine wpT_nil ?_
        have hW : Blk (w6.setCells wr.heap.size 0 [Value.int .i64 p.kind, .int .i64 X, .int .i64 sv]) wr.heap.size [Value.int .i64 p.kind, .int .i64 X, .int .i64 sv] 48 ∧ Fr (fun _ => False) wr (w6.setCells wr.heap.size 0 [Value.int .i64 p.kind, .int .i64 X, .int .i64 sv]) ∧ wr.heap.size ≤ wr.heap.size := ⟨b6.put 0 [Value.int .i64 p.kind, .int .i64 X, .int .i64 sv] (by simp), (DA.out.trans f6 (fun _ h _ => h)).put _ _ _ (fun h => absurd h (by omega)), Nat.le_refl _⟩
        generalize w6.setCells wr.heap.size 0 [Value.int .i64 p.kind, .int .i64 X, .int .i64 sv] = W at *
        generalize hb10 : wr.heap.size = b10 at *
      all_goals
        obtain ⟨q10, fW, hb10⟩ := hW
        have hcw := Blk.lt INV.out.rc
        have hdw := Blk.lt INV.out.rd
        have INVW := hid (INV.out.fre fW)
        have g10 := q10.all
        have p11 := (Blk.new W [Value.int .i64 p.kind, .int .i64 X, .int .i64 sv] 48)
        have b10' := (q10.alloc (.cells #[Value.int .i64 p.kind, .int .i64 X, .int .i64 sv] 48))
        have hW10 := q10.lt
        have k1 : (W.alloc (.cells #[Value.int .i64 p.kind, .int .i64 X, .int .i64 sv] 48)).cell? ⟨b10, 1, none⟩ = some (.int .i64 X) := b10'.cell 1
        have k2 : (W.alloc (.cells #[Value.int .i64 p.kind, .int .i64 X, .int .i64 sv] 48)).cell? ⟨W.heap.size, 1, none⟩ = some (.int .i64 X) := p11.cell 1
        have z2 := p11.frozen 1
        have p11 := (Blk.new W [Value.int .i64 p.kind, .int .i64 (xat X r : Nat), .int .i64 sv] 48)
        have b10' := (q10.alloc (.cells #[Value.int .i64 p.kind, .int .i64 (xat X r : Nat), .int .i64 sv] 48))
        have F3 := ((Fr.refl (fun _ => False) W).alloc (.cells #[Value.int .i64 p.kind, .int .i64 (xat X r : Nat), .int .i64 sv] 48))
        have INV3 := hid (INVW.out.fre F3)
        have g10' := b10'.all
        have B10 := hid b10'
        have B11 := hid p11
        have TX := hid (fun w => Turn_go X r w hX (by omega))
        clear NOWG NEAR INV INVW D0 DA BA HA RB T3 fW F3 p11 b10'
        go_wp2_with (first
          | (refine wpList_load_mid rfl 48 _ rfl b10 0 rfl _ _ g10 Try.underlying48 rfl Try.size_call ?_)
          | (refine wpList_load_mid rfl 48 _ rfl b10 0 rfl _ _ g10' Try.underlying48 rfl Try.size_call ?_)
          | (go_at_call 33; refine (TX.out _).mono ?_; rintro e w5 ⟨rfl, rfl⟩))
        obtain ⟨W3, hW3⟩ : ∃ W3, W3 = W.alloc (.cells #[Value.int .i64 p.kind, .int .i64 (xat X r : Nat), .int .i64 sv] 48) := ⟨_, rfl⟩
        have hB10 : Blk W3 b10 [.int .i64 p.kind, .int .i64 X, .int .i64 sv] 48 := by rw [hW3]; exact B10.out
        have hB11 : Blk W3 W.heap.size [.int .i64 p.kind, .int .i64 (xat X r : Nat), .int .i64 sv] 48 := by rw [hW3]; exact B11.out
        have inv3 : TurnW w W3 c d r m m' := by rw [hW3]; exact INV3.out
        rw [← hW3]
        clear hW3 B10 B11 INV3 k1 k2 z2 g10 g10' q10
        generalize W.heap.size = b11 at *
        have hXr := xat_on X r
        obtain ⟨ROT1, he, y, hy1, hy2, hy3⟩ := inv3.rot.dok hr5 inv3.ok p.kind sv hX
        have ok1 := Ok_dok inv3.ok p.kind X sv
        have ok1' := Ok_dok inv3.ok' p.kind (xat X r : Nat) sv
        have hdoc := do_go inv3.rc inv3.ok p.kind X sv
        have hdod := hid (fun W (h : CRep W d m') => do_go h inv3.ok' p.kind (xat X r : Nat) sv)
        rw [hy1] at hdoc
        rw [hy2, he] at hdod
        generalize (m.dok p.kind X sv).2.2 = er at *
        generalize (m.dok p.kind X sv).1 = m1 at *
        generalize (m'.dok p.kind (xat X r : Nat) sv).1 = m1' at *
        have hcb : c ≠ b10 ∧ d ≠ b10 ∧ c ≠ b11 ∧ d ≠ b11 ∧ c ≠ d := by omega
        have HDOC := hid hdoc
        have INV3 := hid inv3
        have HROT := hid ROT1
        have HY := hid hy3
        have HOK := hid ok1
        have HOK' := hid ok1'
        have HB10 := hid hB10
        have HB11 := hid hB11
        clear hdoc inv3 ROT1 hy1 hy2 he hB10 hB11 ok1 ok1' hy3
        refine HDOC.out.mono ?_
        rintro e w4 ⟨rfl, h4, f4⟩
        have hB10 := HB10.out.fr f4 (by omega)
        have hB11 := HB11.out.fr f4 (by omega)
        have g11 := hB11.all
        have H4 := hid h4
        have HD4 := hid (CRep.fr INV3.out.rd f4 (by omega))
        have F4 := hid (INV3.out.fr.trans f4 (fun k hk hl => by omega))
        clear HDOC INV3 HB10 HB11 f4 h4
        have HB10 := hid hB10
        have HB11 := hid hB11
        clear hB10 hB11
        go_wp2_with (first | (refine wpList_load_mid rfl 48 _ rfl b11 0 rfl _ _ g11 Try.underlying48 rfl Try.size_call ?_))
        refine (hdod.out _ HD4.out).mono ?_
        rintro e w6 ⟨rfl, h6, f6⟩
        have hB10 := hid (HB10.out.fr f6 (by omega))
        have hB11 := hid (HB11.out.fr f6 (by omega))
        have HC := hid (CRep.fr H4.out f6 (by omega))
        have HD := hid h6
        have F6 := hid (F4.out.trans f6 (fun k hk hl => by omega))
        clear H4 HD4 F4 HB10 HB11 f6 h6 hdod g11
        have TY := hid (fun w => Turn_tn y r w HY.out (by omega))
        have TN := hid (fun w => Turn_go m1.next r w HOK.out.nx (by omega))
        have TO := hid (fun w => Turn_go m1.oldest r w (m1.oldest_on HOK.out) (by omega))
        go_wp2_with (fail)
        refine (TY.out _).mono ?_
        rintro e w7 ⟨rfl, rfl⟩
        go_wp2_with (fail)
        refine (Now_go HC.out).mono ?_
        rintro e w7 ⟨rfl, rfl⟩
        go_wp2_with (fail)
        refine (TN.out _).mono ?_
        rintro e w7 ⟨rfl, rfl⟩
        have hnd := Now_go HD.out
        rw [HROT.out.next] at hnd
        go_wp2_with (fail)
        refine hnd.mono ?_
        rintro e w7 ⟨rfl, rfl⟩
        clear hnd
        go_wp2_with (fail)
        refine (Oldest_go HC.out HOK.out).mono ?_
        rintro e w8 ⟨rfl, f8⟩
        go_wp2_with (fail)
        refine (TO.out _).mono ?_
        rintro e w9 ⟨rfl, rfl⟩
        have hD8 := CRep.fr HD.out f8 (fun h => h)
        have hod := Oldest_go hD8 HOK'.out
        rw [HROT.out.oldest hr5 HOK.out] at hod
        go_wp2_with (fail)
        refine hod.mono ?_
        rintro e w9 ⟨rfl, f9⟩
        have HC9 := hid (CRep.fr (CRep.fr HC.out f8 (fun h => h)) f9 (fun h => h))
        have HD9 := hid (CRep.fr hD8 f9 (fun h => h))
        have B10 := hid ((hB10.out.fr f8 (fun h => h)).fr f9 (fun h => h))
        have B11 := hid ((hB11.out.fr f8 (fun h => h)).fr f9 (fun h => h))
        have F9 := hid ((F6.out.trans f8 (fun _ h _ => h)).trans f9 (fun _ h _ => h))
        clear HC HD hB10 hB11 F6 f8 f9 hD8 hod TY TN TO
        have hsc := Snap_go HC9.out HOK.out
        have HSD := hid (fun W (h : CRep W d m1') => Snap_go h HOK'.out)
        rw [HROT.out.lives hr5 HOK.out, HROT.out.next] at HSD
        have hlv := hid (fun x (hx : x ∈ m1.lives) => CM.knows_iff.1 ((m1.known_mem HOK.out).1 (List.mem_filter.1 hx |>.1)))
        have hl60 : m1.lives.length ≤ 60 := by
          have h1 := List.length_filter_le m1.live m1.known
          have h2 : m1.known.length = m1.n := by simp [CM.known]
          have h3 := HOK.out.far
          unfold CM.lives
          omega
        generalize m1.lives = lv at *
        go_wp2_with (fail)
        refine hsc.mono ?_
        rintro e w10 ⟨v16, rfl, row, f10⟩
        obtain ⟨a16, c16, rfl, hc16⟩ := own_slice row.own
        have ROW := hid row
        have HD10 := hid (CRep.fr HD9.out f10 (fun h => h))
        have F10 := hid f10
        have Bn := hid (Blk.new w10 [Value.int .i64 m1.next, .slice a16 lv.length c16] 37)
        have F11 := hid ((Fr.refl (fun _ => False) w10).alloc (.cells #[Value.int .i64 m1.next, .slice a16 lv.length c16] 37))
        clear hsc row f10
        go_wp2_with (fail)
        obtain ⟨w11, hw11⟩ : ∃ w11, w11 = w10.alloc (.cells #[Value.int .i64 m1.next, .slice a16 lv.length c16] 37) := ⟨_, rfl⟩
        have B16 : Blk w11 w10.heap.size [Value.int .i64 m1.next, .slice a16 lv.length c16] 37 := by rw [hw11]; exact Bn.out
        have F11' : Fr (fun _ => False) w10 w11 := by rw [hw11]; exact F11.out
        rw [← hw11]
        clear hw11 Bn F11
        generalize w10.heap.size = b16 at *
        refine (HSD.out _ (CRep.fr HD10.out F11' (fun h => h))).mono ?_
        rintro e w12 ⟨v17, rfl, row2, f12⟩
        obtain ⟨a17, c17, rfl, hc17⟩ := own_slice row2.own
        have ROW2 := hid row2
        have F12 := hid f12
        have hln : (lv.map fun x => xat x r).length = lv.length := List.length_map ..
        rw [hln] at ROW2 hc17
        have Bn := hid (Blk.new w12 [Value.int .i64 (xat m1.next r : Nat), .slice a17 lv.length c17] 37)
        have F13 := hid ((Fr.refl (fun _ => False) w12).alloc (.cells #[Value.int .i64 (xat m1.next r : Nat), .slice a17 lv.length c17] 37))
        have HLN := hid hln
        rw [hln]
        clear row2 f12 hln
        go_wp2_with (fail)
        obtain ⟨w13, hw13⟩ : ∃ w13, w13 = w12.alloc (.cells #[Value.int .i64 (xat m1.next r : Nat), .slice a17 lv.length c17] 37) := ⟨_, rfl⟩
        have B17 : Blk w13 w12.heap.size [Value.int .i64 (xat m1.next r : Nat), .slice a17 lv.length c17] 37 := by rw [hw13]; exact Bn.out
        have F13' : Fr (fun _ => False) w12 w13 := by rw [hw13]; exact F13.out
        rw [← hw13]
        clear hw13 Bn F13
        generalize w12.heap.size = b17 at *
        have F1113 := F12.out.trans F13' (fun _ h _ => h)
        have F1013 := F11'.trans F1113 (fun _ h _ => h)
        have F913 := F10.out.trans F1013 (fun _ h _ => h)
        have F4 := hid (F9.out.trans F913 (fun _ h _ => h))
        have HCz := hid (CRep.fr HC9.out F913 (fun h => h))
        have HDz := hid (CRep.fr HD9.out F913 (fun h => h))
        have k16 : w13.cell? ⟨b16, 1, none⟩ = some (.slice a16 lv.length c16) := (B16.fr F1113 (fun h => h)).cell 1
        have k17 : w13.cell? ⟨b17, 1, none⟩ = some (.slice a17 lv.length c17) := B17.cell 1
        have k10 : w13.cell? ⟨b10, 1, none⟩ = some (.int .i64 X) := (B10.out.fr F913 (fun h => h)).cell 1
        have k11 : w13.cell? ⟨b11, 1, none⟩ = some (.int .i64 (xat X r : Nat)) := (B11.out.fr F913 (fun h => h)).cell 1
        have S16 := hid (Sl.fr (nv_range ROW.out) F1013 (fun _ _ h => h))
        have S17 := hid (Sl.fr (own_sl (R := fun _ => True) ROW2.out.own (fun _ _ => trivial)) F13' (fun _ _ h => h))
        clear HC9 HD9 HD10 F9 F10 F11' F12 F13' F1113 F1013 F913 B10 B11 B16 B17 ROW ROW2 HSD
        have hSC := hid (fun W (f : Fr (fun _ => False) w13 W) => State_go (CRep.fr HCz.out f (fun h => h)) HOK.out X)
        have hSD := hid (fun W (f : Fr (fun _ => False) w13 W) => State_go (CRep.fr HDz.out f (fun h => h)) HOK'.out (xat X r : Nat))
        rw [HROT.out.state hr5 HOK.out hX] at hSD
        generalize m1.state X = stX at *
        refine wp_region_scr (.take 0 (.take 1 (.take 2 (.take 3 (.take 4 (.take 5 (.take 6 (.take 7 (.take 8 (.take 9 (.take 10 (.take 12 (.take 13 (.take 14 (.op 11 (.op 15 (.take 16 (.take 17 .done)))))))))))))))))) (fun kz w => (kz ≤ 18 → w.cell? ⟨b16, 1, none⟩ = some (.slice a16 lv.length c16) ∧ w.cell? ⟨b17, 1, none⟩ = some (.slice a17 lv.length c17) ∧ w.cell? ⟨b10, 1, none⟩ = some (.int .i64 X) ∧ w.cell? ⟨b11, 1, none⟩ = some (.int .i64 (xat X r : Nat))) ∧ True) (by kernel_rfl) (by kernel_rfl) (by intro c a d v w h; cases d <;> exact h) ?_
        repeat
          first
          | (refine wpT_pure rfl rfl rfl ?_; apply Exists.intro; refine ⟨?_, ?_⟩; intro w; ((go_simp <;> rfl)); simp only [Act.put, List.setIfInBounds_toArray, List.set_cons_zero, List.set_cons_succ])
          | (refine wpT_take 18 rfl rfl (by decide +kernel) ⟨fun _ => ⟨k16, k17, k10, k11⟩, trivial⟩ ?_; apply Exists.intro; refine ⟨?_, ?_⟩; intro w hw; (have qa := hw.1 (Nat.le_refl _); have qb := hw.2); ((go_simp <;> rfl)); simp only [Act.put, List.setIfInBounds_toArray, List.set_cons_zero, List.set_cons_succ])
          | (refine wpT_skip rfl rfl ?_; simp only [Act.put, List.setIfInBounds_toArray, List.set_cons_zero, List.set_cons_succ])
        have D0 := (Fr.refl (fun _ => False) w13).drew
        refine wpT_op rfl ?_
        go_wp2_with ((go_at_call 25; refine (hSC.out _ D0).mono ?_; rintro e w14 ⟨rfl, f14⟩))
        (refine ⟨?_, ?_⟩; focus (intro kz hk hk2; rintro ⟨qa, qb⟩; first | (exfalso; simp at hk2; omega) | exact ⟨qa, qb⟩ | (refine ⟨fun h => absurd h (by omega), ?_⟩; first | exact qb | (exact ⟨cell_fr qa.1 f14 (fun h => h), cell_fr qa.2.1 f14 (fun h => h), cell_fr qa.2.2.1 f14 (fun h => h), cell_fr qa.2.2.2 f14 (fun h => h)⟩)) | (refine ⟨fun h => ?_, ?_⟩; (have qa := qa h); all_goals (first | exact qa | exact qb | (exact ⟨cell_fr qa.1 f14 (fun h => h), cell_fr qa.2.1 f14 (fun h => h), cell_fr qa.2.2.1 f14 (fun h => h), cell_fr qa.2.2.2 f14 (fun h => h)⟩)))))
        have F14 := D0.trans f14 (fun _ h _ => h)
        refine wpT_op rfl ?_
        go_wp2_with ((go_at_call 25; refine (hSD.out _ F14).mono ?_; rintro e w15 ⟨rfl, f15⟩))
        (refine ⟨?_, ?_⟩; focus (intro kz hk hk2; rintro ⟨qa, qb⟩; first | (exfalso; simp at hk2; omega) | exact ⟨qa, qb⟩ | (refine ⟨fun h => absurd h (by omega), ?_⟩; first | exact qb | (exact ⟨cell_fr qa.1 f15 (fun h => h), cell_fr qa.2.1 f15 (fun h => h), cell_fr qa.2.2.1 f15 (fun h => h), cell_fr qa.2.2.2 f15 (fun h => h)⟩)) | (refine ⟨fun h => ?_, ?_⟩; (have qa := qa h); all_goals (first | exact qa | exact qb | (exact ⟨cell_fr qa.1 f15 (fun h => h), cell_fr qa.2.1 f15 (fun h => h), cell_fr qa.2.2.1 f15 (fun h => h), cell_fr qa.2.2.2 f15 (fun h => h)⟩)))))
        have F15 := F14.trans f15 (fun _ h _ => h)
        have k16' := cell_fr k16 F15 (fun h => h)
        have k17' := cell_fr k17 F15 (fun h => h)
        have k10' := cell_fr k10 F15 (fun h => h)
        have k11' := cell_fr k11 F15 (fun h => h)
        repeat
          first
          | (refine wpT_pure rfl rfl rfl ?_; apply Exists.intro; refine ⟨?_, ?_⟩; intro w; ((go_simp <;> rfl)); simp only [Act.put, List.setIfInBounds_toArray, List.set_cons_zero, List.set_cons_succ])
          | (refine wpT_take 18 rfl rfl (by decide +kernel) ⟨fun _ => ⟨k16', k17', k10', k11'⟩, trivial⟩ ?_; apply Exists.intro; refine ⟨?_, ?_⟩; intro w hw; (have qa := hw.1 (Nat.le_refl _); have qb := hw.2); ((go_simp <;> rfl)); simp only [Act.put, List.setIfInBounds_toArray, List.set_cons_zero, List.set_cons_succ])
          | (refine wpT_skip rfl rfl ?_; simp only [Act.put, List.setIfInBounds_toArray, List.set_cons_zero, List.set_cons_succ])
        refine wpT_nil ?_
        have K15 := hid F15
        clear hSC hSD F15 F14 f14 f15 D0 k10 k11 k10' k11' k16 k17
        go_wp2_with (fail)
        go_loopw [18] (fun i wz => ∃ t : Nat, t ≤ lv.length ∧ i = .int .i64 t ∧ Fr (fun _ => False) w15 wz) (fun i _ => lv.length - (intOf i).toNat)
        case atStart => exact ⟨0, by omega, rfl, Fr.refl _ _⟩
        case round =>
          obtain ⟨t, ht, rfl, fz⟩ := hrel
          have kz16 := cell_fr k16' fz (fun h => h)
          have kz17 := cell_fr k17' fz (fun h => h)
          by_cases htl : t < lv.length
          · obtain ⟨x16, y16, hs16, -, hr16⟩ := S16.out
            obtain ⟨x17, y17, hs17, -, hr17⟩ := S17.out
            obtain ⟨rfl, rfl⟩ : a16 = x16 ∧ c16 = y16 := by simpa using hs16
            obtain ⟨rfl, rfl⟩ : a17 = x17 ∧ c17 = y17 := by simpa using hs17
            obtain ⟨g16, o16, rfl, hc16'⟩ := nv_cell (n := 0) (c := 0) hr16 htl
            obtain ⟨g17, o17, rfl, hc17'⟩ := nv_cell (n := 0) (c := 0) hr17 (show t < (lv.map fun x => xat x r).length by rw [HLN.out]; exact htl)
            have hx := hlv.out _ (List.getElem_mem htl)
            rw [List.getElem_map] at hc17'
            generalize lv[t] = x at *
            have kc16 := cell_fr (cell_fr hc16' K15.out (fun h => h)) fz (fun h => h)
            have kc17 := cell_fr (cell_fr hc17' K15.out (fun h => h)) fz (fun h => h)
            have TX := hid (fun w => Turn_go x r w ⟨hx.1, hx.2.1⟩ (by omega))
            have FZ := hid fz
            have i1 : (0 : Int) ≤ t := by omega
            have i2 : (t : Int) < lv.length := by omega
            clear hr16 hr17 hs16 hs17 hc16' hc17' hx fz
            go_wp2_with (fail)
            refine wp_region_scr (.take 0 (.take 1 (.take 2 (.take 3 (.take 4 (.take 5 (.take 7 (.take 8 (.take 9 (.take 10 (.take 11 (.op 6 (.take 12 .done))))))))))))) (fun kz w => (kz ≤ 13 → w.cell? ⟨b16, 1, none⟩ = some (.slice (some ⟨g16, o16, none⟩) lv.length c16) ∧ w.cell? ⟨b17, 1, none⟩ = some (.slice (some ⟨g17, o17, none⟩) lv.length c17) ∧ w.cell? ⟨g16, o16 + t, none⟩ = some (.int .i64 (x : Nat)) ∧ w.cell? ⟨g17, o17 + t, none⟩ = some (.int .i64 (xat x r : Nat))) ∧ True) (by kernel_rfl) (by kernel_rfl) (by intro c a d v w h; cases d <;> exact h) ?_
            repeat
              first
              | (refine wpT_pure rfl rfl rfl ?_; apply Exists.intro; refine ⟨?_, ?_⟩; intro w; ((go_simp <;> rfl)); simp only [Act.put, List.setIfInBounds_toArray, List.set_cons_zero, List.set_cons_succ])
              | (refine wpT_take 13 rfl rfl (by decide +kernel) ⟨fun _ => ⟨kz16, kz17, kc16, kc17⟩, trivial⟩ ?_; apply Exists.intro; refine ⟨?_, ?_⟩; intro w hw; (have qa := hw.1 (Nat.le_refl _); have qb := hw.2); ((go_simp <;> rfl)); simp only [Act.put, List.setIfInBounds_toArray, List.set_cons_zero, List.set_cons_succ])
              | (refine wpT_skip rfl rfl ?_; simp only [Act.put, List.setIfInBounds_toArray, List.set_cons_zero, List.set_cons_succ])
            refine wpT_op rfl ?_
            go_wp2_with ((go_at_call 33; refine (TX.out _).mono ?_; rintro e w16 ⟨rfl, rfl⟩))
            (refine ⟨?_, ?_⟩; focus (intro kz hk hk2; rintro ⟨qa, qb⟩; first | (exfalso; simp at hk2; omega) | exact ⟨qa, qb⟩ | (refine ⟨fun h => absurd h (by omega), ?_⟩; first | exact qb | (exact qa)) | (refine ⟨fun h => ?_, ?_⟩; (have qa := qa h); all_goals (first | exact qa | exact qb | (exact qa)))))
            repeat
              first
              | (refine wpT_pure rfl rfl rfl ?_; apply Exists.intro; refine ⟨?_, ?_⟩; intro w; ((go_simp <;> rfl)); simp only [Act.put, List.setIfInBounds_toArray, List.set_cons_zero, List.set_cons_succ])
              | (refine wpT_take 13 rfl rfl (by decide +kernel) ⟨fun _ => ⟨kz16, kz17, kc16, kc17⟩, trivial⟩ ?_; apply Exists.intro; refine ⟨?_, ?_⟩; intro w hw; (have qa := hw.1 (Nat.le_refl _); have qb := hw.2); ((go_simp <;> rfl)); simp only [Act.put, List.setIfInBounds_toArray, List.set_cons_zero, List.set_cons_succ])
              | (refine wpT_skip rfl rfl ?_; simp only [Act.put, List.setIfInBounds_toArray, List.set_cons_zero, List.set_cons_succ])
            refine wpT_nil ?_
            go_wp2_with (fail)
            go_roundw
            case rel => exact ⟨t + 1, by omega, by go_num, FZ.out.drew⟩
            case measure => simp [intOf]; omega
          · obtain rfl : t = lv.length := by omega
            have F16 := hid (K15.out.trans fz (fun _ h _ => h))
            have FF := hid (F4.out.trans F16.out (fun _ h _ => h))
            have hinv : TurnW w _ c d r m1 m1' := ⟨CRep.fr HCz.out F16.out (fun h => h), CRep.fr HDz.out F16.out (fun h => h), HOK.out, HOK'.out, HROT.out, FF.out⟩
            have HI := hid hinv
            clear hinv
            go_wp2_with (fail)
            go_roundw
            case rel => exact ⟨j + 1, m1, m1', by omega, by omega, by go_num, HI.out⟩
            case measure => simp [intOf]; omega
    · have h3 : ¬ j < L.length ∨ (j < L.length ∧ ¬ j < 60) := by omega
      rcases h3 with h3 | ⟨h3, h4⟩
      all_goals
        go_wp2_with (fail)
        go_ret
        exact ⟨rfl, inv.fr⟩
end Go.Proofs.Ytbkebjgoaeddjaa
namespace Go.Proofs.Ytbkebjgoaeddjaa.clockTurns
open Go.ChangeShapes Go.WideShapes Go.ChangeAt Go.RowKit Go.VB Go.VB.Clk
set_option maxHeartbeats 400000 in
set_option maxRecDepth 100000 in
theorem lifted (os : Os) (started : os.Started) (H : Type) (enc : TypeId × Value → H) :
    ReturnsInHanded {} Try.checked os 7 .any (Rows.clockTurnsSpec.pre6 enc Try.prog Try.f7 Rows.clockTurnsRow.domain false) (Rows.clockTurnsSpec.post enc Try.prog Try.f7 false true false false) := by
  refine returnsInHanded_of_change (C := Try.checked) own started (by kernel_rfl) Try.func7
    (ChangeSpec.witness6 (enc := enc) (C := Try.checked) false ⟨#[], #[.slice none 0 0, .int .i64 0], []⟩ 8 (by kernel_rfl) (by kernel_rfl) (by kernel_rfl) (by kernel_rfl)) ?_
  intro W base args ds gs before hval0 hW hcnd _
  have hval : ∀ (j : Nat) t v, Try.f7.params[j]? = some t → args[j]? = some v → Value.okWide Try.prog W .any base t v := hval0
  have hW' := hW
  obtain ⟨p, q, hA0, hV, rfl, hfz, hnd⟩ := hW
  have hA : DataW.TrodAll enc Try.prog W 0 (fun _ => true) true Try.f7.params.toList args.toList ds p := hA0
  rw [Try.params7] at hA hval
  obtain ⟨v0, vs0, d0, ds0, p0, q0, hargs, rfl, rfl, h0, r0⟩ := trodAll_cons hA
  obtain ⟨v1, vs1, d1, ds1, p1, q1, rfl, rfl, rfl, h1, r1⟩ := trodAll_cons r0
  obtain ⟨rfl, rfl, rfl⟩ := trodAll_nil r1
  obtain rfl : args = #[v0, v1] := by cases args; simp_all
  obtain ⟨rfl, rfl⟩ := trodVars_none hV
  clear hA0 hval0
  refine Calls.mono (R := fun e w' => e = .returned (.bool true) ∧ Fr (fun _ => False) W w') ?_ fun e W' ⟨he, hf⟩ => ⟨_, he, post_law sound (by decide +kernel) rfl rfl (ht := Try.underlying4) (by rfl) hW' hf⟩
  obtain ⟨L, sL, lL⟩ := open_calls (hval 0 46 v0 rfl rfl) h0
  obtain ⟨a1, rfl, -, -, w1⟩ := open_int Try.underlying3 (hval 1 3 v1 rfl rfl) h1
  exact ClockTurns_walk L a1 W v0 sL lL
theorem proved : Rows.ClockTurnsSaid :=
  OpenClaim.holds_of_wide 7 Try.f7 rfl rfl rfl rfl rfl rfl rfl ⟨rfl, rfl, rfl, rfl, rfl⟩ rfl rfl rfl rfl rfl (by kernel_rfl) Try.func7 (by kernel_rfl)
    (of_decide_eq_true (by kernel_rfl)) (by unfold Func.isWrapper; first | (rw [if_pos (by decide +kernel)]; kernel_rfl) | (rw [if_neg (by decide +kernel)]; exact ⟨rfl, rfl⟩))
    (fun os started H enc _ => lifted os started H enc)
end Go.Proofs.Ytbkebjgoaeddjaa.clockTurns
