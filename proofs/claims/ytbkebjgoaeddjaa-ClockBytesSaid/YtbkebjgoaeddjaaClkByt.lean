/- Proved: for every slice of calls, every string and every pair of integers the law ClockBytes of chapter 07 returns true, and its arguments read afterwards as before. Conditions: none beyond the given statement. -/
import Derived.Test.YtbkebjgoaeddjaaClkArgs
import Derived.Test.YtbkebjgoaeddjaaClkRun
import Derived.Test.YtbkebjgoaeddjaaClkS
import Derived.Test.YtbkebjgoaeddjaaClkRH
import Derived.Test.YtbkebjgoaeddjaaStr
import Derived.Test.YtbkebjgoaeddjaaFin
set_option linter.unusedVariables false
namespace Go.Proofs.Ytbkebjgoaeddjaa
open Go.RowKit Go.VB Go.VB.Clk
structure BytW (w wr : World) (d bq : Nat) (m : CM) (q0 q1 : Int) : Prop where
  rr : RRep wr d m
  ok : m.Ok
  q : Blk wr bq [.int .i64 q0, .int .i64 q1] 63
  fr : Fr (fun _ => False) w wr
theorem BytW.fre {w wr wz : World} {d bq : Nat} {m : CM} {q0 q1 : Int} (h : BytW w wr d bq m q0 q1) (f : Fr (fun _ => False) wr wz) : BytW w wz d bq m q0 q1 := ⟨RRep.fr h.rr f (fun h => h), h.ok, h.q.fr f (fun h => h), h.fr.trans f (fun _ h _ => h)⟩
theorem run_conv_op {op : Oper} {a : Act} {w : World} (x : Operand) (ho : op.op = .convert 64 9 x) {b o n c : Nat} {l : List UInt8} (hx : a.eval x = .slice (some ⟨b, o, none⟩) n c) (h : w.rangeAt b o (bv l)) (hn : n = l.length) : (execOp a.eval op).run Try.prog w = .ok (.value (.string (bs l))) w := by
  unfold execOp
  simp only [ho, hx, Sem.run_bind, Sem.run_pure, Result.andThen_ok, run_bytes_string (P := Try.prog) h Try.underlying64 Try.underlying5 Try.underlying9 n c hn]
theorem cut_str (t : List UInt8) (c : Nat) : ∃ q : Nat, (∀ z : Int, z = c → (if z < (t.length : Int) then z else (t.length : Int)) = (q : Int)) ∧ (bs t).extract 0 q = bs (t.take c) ∧ (q : Int) ≤ t.length := by
  refine ⟨min c t.length, fun z hz => by subst hz; split <;> omega, ?_, by omega⟩
  apply ByteArray.ext
  simp [bs]
set_option maxRecDepth 20000 in
set_option maxHeartbeats 16000000 in
theorem ClockBytes_walk (L : List Cl) (T : List UInt8) (q0 q1 : Int) (w : World) (va : Value) (hA : Sl (fun k => k < w.heap.size) w va L.length (L.flatMap ccl)) (hLl : L.length ≤ maxLen) (hTl : T.length ≤ maxLen) :
    Calls Try.prog 10 #[va, .string (bs T), .agg #[.int .i64 q0, .int .i64 q1]] w fun e w' => e = .returned (.bool true) ∧ Fr (fun _ => False) w w' := by
  have e63 : maxLen = 9223372036854775807 := rfl
  rw [e63] at hLl hTl
  obtain ⟨aa, ac, rfl, hac, ha⟩ := hA
  have HA := hid (fun j (hj : j < L.length) => ccl_at ha hj)
  have FQ := (Fr.refl (fun _ => False) w).alloc (.cells #[Value.int .i64 q0, .int .i64 q1] 63)
  have BQ := Blk.new w [Value.int .i64 q0, .int .i64 q1] 63
  have hsan := hid (fun w => sanity_go w)
  clear e63 ha
  go_enter Try.func10, Try.ntmps10
  go_wp2_with (fail)
  refine (hsan.out _).mono ?_
  rintro e w1 ⟨rfl, f1⟩
  have BQ1 := hid (BQ.fr f1 (fun h => h))
  have F1 := hid (FQ.trans f1 (fun _ h _ => h))
  clear FQ BQ f1 hsan
  generalize hbq : w.heap.size = bq at *
  have HBQ := hid hbq
  clear hbq
  go_wp2_with (fail)
  refine (rNew_go 60 w1).mono ?_
  rintro e w2 ⟨rfl, h2, f2⟩
  have INV := hid (show BytW w w2 w1.heap.size bq (CM.new 60) q0 q1 from ⟨h2, Ok_new 60, BQ1.out.fr f2 (fun h => h), F1.out.trans f2 (fun _ h _ => h)⟩)
  have hd1 := F1.out.size
  have hbd := BQ1.out.lt
  clear BQ1 F1 h2 f2
  generalize hdd : w1.heap.size = d at *
  clear hdd
  generalize CM.new 60 = m0 at *
  go_wp2_with (fail)
  go_loopw [9] (fun i wr => ∃ (j : Nat) (m : CM), j ≤ 60 ∧ j ≤ L.length ∧ i = .int .i64 j ∧ BytW w wr d bq m q0 q1) (fun i _ => 60 - (intOf i).toNat)
  case atStart => exact ⟨0, _, by omega, by omega, rfl, INV.out⟩
  case round =>
    obtain ⟨j, m, hj, hjl, rfl, inv⟩ := hrel
    clear INV
    by_cases hg : j < L.length ∧ j < 60
    · obtain ⟨g1, g2⟩ := hg
      obtain ⟨g, o, rfl, hcell0⟩ := HA.out j g1
      have hcell0 : w.rangeAt g (o + j * 3) [.int .i64 L[j].kind, .int .i64 L[j].x, .int .i64 L[j].s] := hcell0
      have hcell : wr.rangeAt g (o + j * 3) [.int .i64 L[j].kind, .int .i64 L[j].x, .int .i64 L[j].s] := range_fr hcell0 inv.fr (fun h => h)
      have i1 : (0 : Int) ≤ j := by omega
      have i2 : (j : Int) < L.length := by omega
      have hnx := inv.ok.nx
      obtain ⟨p, hp⟩ : ∃ p, p = L[j] := ⟨_, rfl⟩
      rw [← hp] at hcell hcell0
      clear hp
      obtain ⟨kind, x, s⟩ := p
      dsimp only at hcell hcell0
      have NEAR := hid (fun w => near_go kind x s m.next hnx w)
      have INV := hid inv
      have l1 := RRep.next inv.rr
      clear inv
      go_wp2_with (fail)
      have hgd : g ≠ d := by have := lt_of_range (by simp) hcell0; omega
      refine wp_region_scr (.take 0 (.take 1 (.take 2 (.take 3 (.take 4 (.take 5 (.take 6 (.take 7 (.op 8 (.op 9 (.op 10 .done))))))))))) (fun kz w => (kz ≤ 11 → w.rangeAt g (o + j * 3) [.int .i64 kind, .int .i64 x, .int .i64 s]) ∧ True) (by kernel_rfl) (by kernel_rfl) (by intro c a d v w h; cases d <;> exact h) ?_
      repeat
        first
        | (refine wpT_pure rfl rfl rfl ?_; apply Exists.intro; refine ⟨?_, ?_⟩; intro w; (first | (exact run_load_mid _ _ rfl g _ rfl _ _ qa Try.underlying48 rfl Try.size_call) | (go_simp <;> rfl)); simp only [Act.put, List.setIfInBounds_toArray, List.set_cons_zero, List.set_cons_succ])
        | (refine wpT_take 11 rfl rfl (by decide +kernel) ⟨fun _ => hcell, trivial⟩ ?_; apply Exists.intro; refine ⟨?_, ?_⟩; intro w hw; (have qa := hw.1 (Nat.le_refl _); have qb := hw.2); (first | (exact run_load_mid _ _ rfl g _ rfl _ _ qa Try.underlying48 rfl Try.size_call) | (go_simp <;> rfl)); simp only [Act.put, List.setIfInBounds_toArray, List.set_cons_zero, List.set_cons_succ])
        | (refine wpT_skip rfl rfl ?_; simp only [Act.put, List.setIfInBounds_toArray, List.set_cons_zero, List.set_cons_succ])
      refine wpT_op rfl ?_
      go_wp2_with (fail)
      (refine ⟨?_, ?_⟩; focus (intro kz hk hk2 hh; first | (exfalso; simp at hk2; omega) | exact hh | exact (fun h => absurd h (by omega)) | obtain ⟨qa, qb⟩ := hh; first | exact ⟨qa, qb⟩ | (refine ⟨fun h => absurd h (by omega), ?_⟩; first | exact qb | (exact qa)) | (refine ⟨fun h => ?_, ?_⟩; (have qa := qa h); all_goals (first | exact qa | exact qb | (exact qa)))))
      refine wpT_op rfl ?_
      go_wp2_with ((go_at_call 34; refine (NEAR.out _).mono ?_; rintro e w6 ⟨rfl, f6⟩))
      (refine ⟨?_, ?_⟩; focus (intro kz hk hk2 hh; first | (exfalso; simp at hk2; omega) | exact hh | exact (fun h => absurd h (by omega)) | obtain ⟨qa, qb⟩ := hh; first | exact ⟨qa, qb⟩ | (refine ⟨fun h => absurd h (by omega), ?_⟩; first | exact qb | (exact range_fr qa f6 (fun h => h))) | (refine ⟨fun h => ?_, ?_⟩; (have qa := qa h); all_goals (first | exact qa | exact qb | (exact range_fr qa f6 (fun h => h))))))
      have INV6 := hid (INV.out.fre ((Fr.refl (fun _ => False) wr).drew.trans f6 (fun _ h _ => h)))
      generalize ((xat m.next (x % 125).toNat : Nat) : Int) = X at *
      generalize 1 + s % 4 = S at *
      have hrd := hid (rDo_go INV6.out.rr INV6.out.ok kind X S)
      have hok := hid (Ok_dok INV6.out.ok kind X S)
      refine wpT_op rfl ?_
      go_wp2_with ((go_at_call 38; refine hrd.out.mono ?_; rintro e w7 ⟨rfl, h7, f7⟩))
      (refine ⟨?_, ?_⟩; focus (intro kz hk hk2 hh; first | (exfalso; simp at hk2; omega) | exact hh | exact (fun h => absurd h (by omega)) | obtain ⟨qa, qb⟩ := hh; first | exact ⟨qa, qb⟩ | (refine ⟨fun h => absurd h (by omega), ?_⟩; first | exact qb | (exact range_fr qa f7 hgd)) | (refine ⟨fun h => ?_, ?_⟩; (have qa := qa h); all_goals (first | exact qa | exact qb | (exact range_fr qa f7 hgd)))))
      refine wpT_nil ?_
      have INV7 := hid (show BytW w w7 d bq (m.dok kind X S).1 q0 q1 from ⟨h7, hok.out, INV6.out.q.fr f7 (by omega), INV6.out.fr.trans f7 (fun k hk hl => by omega)⟩)
      clear hrd h7 f7 f6 INV6 INV hcell l1 hok NEAR
      go_wp2_with (fail)
      go_roundw
      case rel => exact ⟨j + 1, _, by omega, by omega, by go_num, INV7.out⟩
      case measure => simp [intOf]; omega
    · have h3 : ¬ j < L.length ∨ (j < L.length ∧ ¬ j < 60) := by omega
      have INV := hid inv
      have hrb := hid (rBytes_go inv.rr inv.ok)
      have hbl := m.bytes_length
      have hfar := inv.ok.far
      clear inv
      generalize hlb : m.bytes = lb at *
      have hn1 : 2 ≤ lb.length := by omega
      have hn2 : lb.length ≤ 122 := by omega
      clear hlb hbl hfar
      -- the byte that is written
      obtain ⟨r, hr1, hr2⟩ : ∃ r : Nat, q0 % (lb.length : Int) = r ∧ r < lb.length := ⟨(q0 % (lb.length : Int)).toNat, by have := Int.emod_nonneg q0 (b := (lb.length : Int)) (by omega); omega, by have := Int.emod_lt_of_pos q0 (b := (lb.length : Int)) (by omega); omega⟩
      have HRE := hid (fun w => rest_any w q0 (lb.length : Int) (by omega) (by omega))
      rw [hr1] at HRE
      obtain ⟨y, hy⟩ : ∃ y : UInt8, IntKind.u8.wrap q1 = (y.toNat : Int) := ⟨UInt8.ofNat (q1 % 256).toNat, by rw [UInt8.toNat_ofNat', IntKind.wrap_u8]; omega⟩
      rcases h3 with h3 | ⟨h3, h4⟩
      · go_wp2_with (fail)
        refine hrb.out.mono ?_
        rintro e w8 ⟨rfl, f8⟩
        have INV8 := hid (INV.out.fre f8)
        clear f8 hrb INV
        go_upto_region 9 with (first | (refine wpList_str_bytes rfl rfl Try.underlying9 Try.underlying64 Try.underlying5 rfl ?_; intro cb w9 sb))
        have INV9 := hid (INV8.out.fre sb.fr)
        have kq0 : w9.cell? ⟨bq, 0, none⟩ = some (.int .i64 q0) := INV9.out.q.cell 0
        have kq1 : w9.cell? ⟨bq, 1, none⟩ = some (.int .i64 q1) := INV9.out.q.cell 1
        have cb1 := sb.at 5 hr2
        have cb2 := sb.free hr2
        have SB2 := hid (sb.set hr2 y)
        have FB2 := hid (((Fr.refl (fun k => k = w8.heap.size) w9).setCell ⟨w8.heap.size, r, none⟩ (.int .u8 (y.toNat : Int)) (fun _ => rfl)).drew)
        have i1 : (0 : Int) ≤ (r : Int) := by omega
        have i2 : (r : Int) < lb.length := by omega
        have hbw := INV8.out.fr.size
        clear sb INV8
        generalize hbb : w8.heap.size = bb at *
        clear hbb
        refine wp_region_scr (.take 0 (.take 1 (.take 2 (.take 3 (.take 4 (.take 6 (.take 7 (.take 8 (.op 5 (.take 9 (.op 10 .done))))))))))) (fun kz w => (kz ≤ 10 → w.cell? ⟨bq, 0, none⟩ = some (.int .i64 q0) ∧ w.cell? ⟨bq, 1, none⟩ = some (.int .i64 q1)) ∧ True) (by kernel_rfl) (by kernel_rfl) (by intro c a d v w h; cases d <;> exact h) ?_
        repeat
          first
          | (refine wpT_pure rfl rfl rfl ?_; apply Exists.intro; refine ⟨?_, ?_⟩; intro w; ((go_simp <;> rfl)); simp only [Act.put, List.setIfInBounds_toArray, List.set_cons_zero, List.set_cons_succ])
          | (refine wpT_take 10 rfl rfl (by decide +kernel) ⟨fun _ => ⟨kq0, kq1⟩, trivial⟩ ?_; apply Exists.intro; refine ⟨?_, ?_⟩; intro w hw; (have qa := hw.1 (Nat.le_refl _); have qb := hw.2); ((go_simp <;> rfl)); simp only [Act.put, List.setIfInBounds_toArray, List.set_cons_zero, List.set_cons_succ])
          | (refine wpT_skip rfl rfl ?_; simp only [Act.put, List.setIfInBounds_toArray, List.set_cons_zero, List.set_cons_succ])
        refine wpT_op rfl ?_
        go_wp2_with ((go_at_call 14; refine (HRE.out _).mono ?_; rintro e w' ⟨rfl, rfl⟩))
        (refine ⟨?_, ?_⟩; focus (intro kz hk hk2 hh; first | (exfalso; simp at hk2; omega) | exact hh | exact (fun h => absurd h (by omega)) | obtain ⟨qa, qb⟩ := hh; first | exact ⟨qa, qb⟩ | (refine ⟨fun h => absurd h (by omega), ?_⟩; first | exact qb | (exact qa)) | (refine ⟨fun h => ?_, ?_⟩; (have qa := qa h); all_goals (first | exact qa | exact qb | (exact qa)))))
        repeat
          first
          | (refine wpT_pure rfl rfl rfl ?_; apply Exists.intro; refine ⟨?_, ?_⟩; intro w; ((go_simp <;> rfl)); simp only [Act.put, List.setIfInBounds_toArray, List.set_cons_zero, List.set_cons_succ])
          | (refine wpT_take 10 rfl rfl (by decide +kernel) ⟨fun _ => ⟨kq0, kq1⟩, trivial⟩ ?_; apply Exists.intro; refine ⟨?_, ?_⟩; intro w hw; (have qa := hw.1 (Nat.le_refl _); have qb := hw.2); ((go_simp <;> rfl)); simp only [Act.put, List.setIfInBounds_toArray, List.set_cons_zero, List.set_cons_succ])
          | (refine wpT_skip rfl rfl ?_; simp only [Act.put, List.setIfInBounds_toArray, List.set_cons_zero, List.set_cons_succ])
        refine wpT_op rfl ?_
        go_wp2_with (fail)
        (refine ⟨?_, ?_⟩; focus (intro kz hk hk2 hh; first | (exfalso; simp at hk2; omega) | exact hh | exact (fun h => absurd h (by omega)) | obtain ⟨qa, qb⟩ := hh; first | exact ⟨qa, qb⟩ | (refine ⟨fun h => absurd h (by omega), ?_⟩; first | exact qb | (exact qa)) | (refine ⟨fun h => ?_, ?_⟩; (have qa := qa h); all_goals (first | exact qa | exact qb | (exact qa)))))
        refine wpT_nil ?_
        have FW := hid (INV9.out.fr.trans FB2.out (fun k hk hl => by omega))
        have hrng : ((w9.setCell ⟨bb, r, none⟩ (.int .u8 (y.toNat : Int))).drew).rangeAt bb 0 (bv (lb.set r y)) := SBlk.head (SBlk.drew SB2.out) _ _ rfl
        have hl1 : lb.length = (lb.set r y).length := by simp
        generalize (w9.setCell ⟨bb, r, none⟩ (.int .u8 (y.toNat : Int))).drew = WA at *
        generalize lb.set r y = l1 at *
        obtain ⟨qq, hqq, hqx, hql⟩ := cut_str T 130
        have hq1 := hqq 130 rfl
        have hT3 : (T.take 130).length ≤ 1000000 := by rw [List.length_take]; omega
        generalize T.take 130 = l2 at *
        have e2 := bs_size T
        have hL0 : lb.length ≤ 1000000 := by omega
        have hL1 : l1.length ≤ 1000000 := by omega
        have HL1 := hid hl1
        clear hl1
        clear hqq kq0 kq1 cb1 cb2 SB2 FB2 INV9 hy HRE hr1 i1 i2 hr2 hn1 hn2 hd1 hbd HBQ
        go_wp2_with (fail)
        refine wp_region_scr (.take 0 (.take 1 (.take 2 (.take 3 (.take 4 (.take 5 (.take 6 (.take 7 (.two 8 9 (.op 9 (.op 10 .done)) (.op 8 (.op 10 .done))))))))))) (fun kz w => (kz ≤ 10 → w.rangeAt bb 0 (bv l1)) ∧ True) (by kernel_rfl) (by kernel_rfl) (by intro c a d v w h; cases d <;> exact h) ?_
        repeat
          first
          | (refine wpT_pure rfl rfl rfl ?_; apply Exists.intro; refine ⟨?_, ?_⟩; intro w; (first | (exact run_conv_op _ rfl rfl qa HL1.out) | (go_simp <;> rfl)); simp only [Act.put, List.setIfInBounds_toArray, List.set_cons_zero, List.set_cons_succ])
          | (refine wpT_take 10 rfl rfl (by decide +kernel) ⟨fun _ => hrng, trivial⟩ ?_; apply Exists.intro; refine ⟨?_, ?_⟩; intro w hw; (have qa := hw.1 (Nat.le_refl _); have qb := hw.2); (first | (exact run_conv_op _ rfl rfl qa HL1.out) | (go_simp <;> rfl)); simp only [Act.put, List.setIfInBounds_toArray, List.set_cons_zero, List.set_cons_succ])
          | (refine wpT_skip rfl rfl ?_; simp only [Act.put, List.setIfInBounds_toArray, List.set_cons_zero, List.set_cons_succ])
        refine wpT_two ?h11 ?h21
        case' h11 =>
          skip
          refine wpT_op rfl ?_
          go_wp2_with (fail)
          (refine ⟨?_, ?_⟩; focus (intro kz hk hk2 hh; first | (exfalso; simp at hk2; omega) | exact hh | exact (fun h => absurd h (by omega)) | obtain ⟨qa, qb⟩ := hh; first | exact ⟨qa, qb⟩ | (refine ⟨fun h => absurd h (by omega), ?_⟩; first | exact qb | (exact qa)) | (refine ⟨fun h => ?_, ?_⟩; (have qa := qa h); all_goals (first | exact qa | exact qb | (exact qa)))))
          refine wpT_op rfl ?_
          go_wp2_with (fail)
          (refine ⟨?_, ?_⟩; focus (intro kz hk hk2 hh; first | (exfalso; simp at hk2; omega) | exact hh | exact (fun h => absurd h (by omega)) | obtain ⟨qa, qb⟩ := hh; first | exact ⟨qa, qb⟩ | (refine ⟨fun h => absurd h (by omega), ?_⟩; first | exact qb | (exact range_fr qa ((Fr.refl (fun _ => False) _).alloc _) (fun h => h))) | (refine ⟨fun h => ?_, ?_⟩; (have qa := qa h); all_goals (first | exact qa | exact qb | (exact range_fr qa ((Fr.refl (fun _ => False) _).alloc _) (fun h => h))))))
          refine wpT_op rfl ?_
          go_wp2_with (fail)
          (refine ⟨?_, ?_⟩; focus (intro kz hk hk2 hh; first | (exfalso; simp at hk2; omega) | exact hh | exact (fun h => absurd h (by omega)) | obtain ⟨qa, qb⟩ := hh; first | exact ⟨qa, qb⟩ | (refine ⟨fun h => absurd h (by omega), ?_⟩; first | exact qb | (exact qa)) | (refine ⟨fun h => ?_, ?_⟩; (have qa := qa h); all_goals (first | exact qa | exact qb | (exact qa)))))
          refine wpT_nil ?_
        case' h21 =>
          skip
          refine wpT_op rfl ?_
          go_wp2_with (fail)
          (refine ⟨?_, ?_⟩; focus (intro kz hk hk2 hh; first | (exfalso; simp at hk2; omega) | exact hh | exact (fun h => absurd h (by omega)) | obtain ⟨qa, qb⟩ := hh; first | exact ⟨qa, qb⟩ | (refine ⟨fun h => absurd h (by omega), ?_⟩; first | exact qb | (exact range_fr qa ((Fr.refl (fun _ => False) _).alloc _) (fun h => h))) | (refine ⟨fun h => ?_, ?_⟩; (have qa := qa h); all_goals (first | exact qa | exact qb | (exact range_fr qa ((Fr.refl (fun _ => False) _).alloc _) (fun h => h))))))
          refine wpT_op rfl ?_
          go_wp2_with (fail)
          (refine ⟨?_, ?_⟩; focus (intro kz hk hk2 hh; first | (exfalso; simp at hk2; omega) | exact hh | exact (fun h => absurd h (by omega)) | obtain ⟨qa, qb⟩ := hh; first | exact ⟨qa, qb⟩ | (refine ⟨fun h => absurd h (by omega), ?_⟩; first | exact qb | (exact qa)) | (refine ⟨fun h => ?_, ?_⟩; (have qa := qa h); all_goals (first | exact qa | exact qb | (exact qa)))))
          refine wpT_op rfl ?_
          go_wp2_with (fail)
          (refine ⟨?_, ?_⟩; focus (intro kz hk hk2 hh; first | (exfalso; simp at hk2; omega) | exact hh | exact (fun h => absurd h (by omega)) | obtain ⟨qa, qb⟩ := hh; first | exact ⟨qa, qb⟩ | (refine ⟨fun h => absurd h (by omega), ?_⟩; first | exact qb | (exact qa)) | (refine ⟨fun h => ?_, ?_⟩; (have qa := qa h); all_goals (first | exact qa | exact qb | (exact qa)))))
          refine wpT_nil ?_
        · have FB := hid ((FW.out.alloc (.cells #[Value.string (bs lb), .string (bs l1), .string (bs l2)] 65)).drew)
          have BA := (Blk.new WA [Value.string (bs lb), .string (bs l1), .string (bs l2)] 65).drew
          have hsz : WA.heap.size < ((WA.alloc (.cells #[Value.string (bs lb), .string (bs l1), .string (bs l2)] 65)).drew).heap.size := BA.lt
          have HC := hid (fun k (hk : k < 3) => show ∃ l : List UInt8, l.length ≤ 1000000 ∧ ((WA.alloc (.cells #[Value.string (bs lb), .string (bs l1), .string (bs l2)] 65)).drew).cell? ⟨WA.heap.size, k, none⟩ = some (.string (bs l)) by
            have : k = 0 ∨ k = 1 ∨ k = 2 := by omega
            rcases this with rfl | rfl | rfl
            · exact ⟨lb, hL0, BA.cell 0⟩
            · exact ⟨l1, hL1, BA.cell 1⟩
            · exact ⟨l2, hT3, BA.cell 2⟩)
          clear BA FW hrng hqx hql hq1 e2 hL0 hL1 hT3 HL1
          generalize (WA.alloc (.cells #[Value.string (bs lb), .string (bs l1), .string (bs l2)] 65)).drew = WB at *
          generalize WA.heap.size = ba at *
          go_wp2_with (fail)
          go_loopw [13] (fun i wz => ∃ k : Nat, k ≤ 3 ∧ i = .int .i64 k ∧ Fr (fun _ => False) WB wz) (fun i _ => 3 - (intOf i).toNat)
          case atStart => exact ⟨0, by omega, rfl, Fr.refl _ _⟩
          case round =>
            obtain ⟨k, hk, rfl, fr⟩ := hrel
            by_cases hk3 : k < 3
            · obtain ⟨l, hl, hc⟩ := HC.out k hk3
              have c0 := cell_fr hc fr (fun h => h)
              have j1 : (0 : Int) ≤ (k : Int) := by omega
              have j2 : (k : Int) < 3 := by omega
              have hfs := fr.size
              have FR := hid fr
              clear hc fr
              go_wp2_with (fail)
              refine (Read_go l _ hl).mono ?_
              rintro e w1 (⟨n1, rfl, f1⟩ | ⟨d1, m1, n1, rfl, hd1, hc1, f1⟩)
              · have c1 := cell_fr c0 f1 (fun h => h)
                have N1 := hid n1
                clear n1
                go_wp2_with (fail)
                refine (rRead_go l _ hl).mono ?_
                rintro e w2 (⟨n2, rfl, f2⟩ | ⟨d2, m2, n2, rfl, hd2, hc2, f2⟩)
                · have FE := hid ((FR.out.trans f1 (fun _ h _ => h)).trans f2 (fun _ h _ => h))
                  clear n2 f1 f2
                  go_wp2_with (fail)
                  go_roundw
                  case rel => exact ⟨k + 1, by omega, by go_num, FE.out⟩
                  case measure => simp [intOf]; omega
                · rw [N1.out] at n2
                  cases n2
              · have c1 := cell_fr c0 f1 (fun h => h)
                have N1 := hid n1
                have H1 := hid hc1
                have hlt1 := Blk.lt hc1
                have F1 := hid (FR.out.trans f1 (fun _ h _ => h))
                clear n1 hc1 f1
                go_wp2_with (fail)
                refine (rRead_go l _ hl).mono ?_
                rintro e w2 (⟨n2, rfl, f2⟩ | ⟨d2, m2, n2, rfl, hd2, hc2, f2⟩)
                · rw [N1.out] at n2
                  cases n2
                · rw [N1.out] at n2
                  obtain rfl : m1 = m2 := Option.some.inj n2
                  have ok := hid (read_ok N1.out)
                  have hby := read_bytes N1.out
                  have c2 := cell_fr c1 f2 (fun h => h)
                  have H2 := hid (CRep.fr H1.out f2 (fun h => h))
                  have R2 := hid hc2
                  have F2 := hid (F1.out.trans f2 (fun _ h _ => h))
                  have hlt2 := Blk.lt hc2
                  have hd12 : d1 < d2 := by omega
                  have hB := Bytes_go (CRep.drew H2.out) ok.out
                  rw [hby] at hB
                  have HBY := hid hB
                  clear n2 hc2 f2 H1 F1 hB hby
                  go_wp2_with (fail)
                  refine wp_region_scr (.take 0 (.take 1 (.take 2 (.take 3 (.take 5 (.take 6 (.take 7 (.op 4 (.take 8 (.take 9 .done)))))))))) (fun kz w => (kz ≤ 10 → w.cell? ⟨ba, k, none⟩ = some (.string (bs l))) ∧ True) (by kernel_rfl) (by kernel_rfl) (by intro c a d v w h; cases d <;> exact h) ?_
                  repeat
                    first
                    | (refine wpT_pure rfl rfl rfl ?_; apply Exists.intro; refine ⟨?_, ?_⟩; intro w; ((go_simp <;> rfl)); simp only [Act.put, List.setIfInBounds_toArray, List.set_cons_zero, List.set_cons_succ])
                    | (refine wpT_take 10 rfl rfl (by decide +kernel) ⟨fun _ => c2, trivial⟩ ?_; apply Exists.intro; refine ⟨?_, ?_⟩; intro w hw; (have qa := hw.1 (Nat.le_refl _); have qb := hw.2); ((go_simp <;> rfl)); simp only [Act.put, List.setIfInBounds_toArray, List.set_cons_zero, List.set_cons_succ])
                    | (refine wpT_skip rfl rfl ?_; simp only [Act.put, List.setIfInBounds_toArray, List.set_cons_zero, List.set_cons_succ])
                  refine wpT_op rfl ?_
                  go_wp2_with ((go_at_call 41; refine HBY.out.mono ?_; rintro e w3 ⟨rfl, f3⟩))
                  (refine ⟨?_, ?_⟩; focus (intro kz hk hk2 hh; first | (exfalso; simp at hk2; omega) | exact hh | exact (fun h => absurd h (by omega)) | obtain ⟨qa, qb⟩ := hh; first | exact ⟨qa, qb⟩ | (refine ⟨fun h => absurd h (by omega), ?_⟩; first | exact qb | (exact cell_fr qa f3 (fun h => h))) | (refine ⟨fun h => ?_, ?_⟩; (have qa := qa h); all_goals (first | exact qa | exact qb | (exact cell_fr qa f3 (fun h => h))))))
                  have f23 := (Fr.refl (fun _ => False) w2).drew.trans f3 (fun _ h _ => h)
                  have H3 := hid (CRep.fr H2.out f23 (fun h => h))
                  have R3 := hid (RRep.fr R2.out f23 (fun h => h))
                  have F3 := hid (F2.out.trans f23 (fun _ h _ => h))
                  repeat
                    first
                    | (refine wpT_pure rfl rfl rfl ?_; apply Exists.intro; refine ⟨?_, ?_⟩; intro w; ((go_simp <;> rfl)); simp only [Act.put, List.setIfInBounds_toArray, List.set_cons_zero, List.set_cons_succ])
                    | (refine wpT_take 10 rfl rfl (by decide +kernel) ⟨fun _ => cell_fr c2 f23 (fun h => h), trivial⟩ ?_; apply Exists.intro; refine ⟨?_, ?_⟩; intro w hw; (have qa := hw.1 (Nat.le_refl _); have qb := hw.2); ((go_simp <;> rfl)); simp only [Act.put, List.setIfInBounds_toArray, List.set_cons_zero, List.set_cons_succ])
                    | (refine wpT_skip rfl rfl ?_; simp only [Act.put, List.setIfInBounds_toArray, List.set_cons_zero, List.set_cons_succ])
                  refine wpT_nil ?_
                  clear HBY f3 f23 H2 R2 F2 c2 c1 c0
                  go_wp2_with (fail)
                  refine (same_go H3.out R3.out ok.out).mono ?_
                  rintro e w4 ⟨rfl, f4⟩
                  have H4 := hid (CRep.fr H3.out f4 (fun h => h))
                  have R4 := hid (RRep.fr R3.out f4 (fun h => h))
                  have F4 := hid (F3.out.trans f4 (fun _ h _ => h))
                  clear f4 H3 R3 F3
                  go_wp2_with (fail)
                  refine (Begin_go H4.out ok.out 0).mono ?_
                  rintro e w5 ⟨rfl, h5, f5⟩
                  have R5 := hid (RRep.fr R4.out f5 (by omega))
                  have F5 := hid (F4.out.trans f5 (fun k hk hl => by omega))
                  clear h5 f5 H4 R4 F4
                  go_wp2_with (fail)
                  refine (rBegin_go R5.out ok.out 0).mono ?_
                  rintro e w6 ⟨rfl, h6, f6⟩
                  have F6 := hid ((F5.out.trans f6 (fun k hk hl => by omega)).alloc (.cells #[.int .i64 (m1.begin_ 0).2.1, .int .i64 (m1.begin_ 0).2.2] 58))
                  clear h6 f6 R5 F5 ok
                  generalize (m1.begin_ 0).2.1 = rx at *
                  generalize (m1.begin_ 0).2.2 = re at *
                  go_wp2_with (fail)
                  go_roundw
                  case rel => exact ⟨k + 1, by omega, by go_num, F6.out⟩
                  case measure => simp [intOf]; omega
            · go_wp2_with (fail)
              go_ret
              exact ⟨rfl, FB.out.trans fr (fun _ h _ => h)⟩
        · have FB := hid ((FW.out.alloc (.cells #[Value.string (bs lb), .string (bs l1), .string (bs l2)] 65)).drew)
          have BA := (Blk.new WA [Value.string (bs lb), .string (bs l1), .string (bs l2)] 65).drew
          have hsz : WA.heap.size < ((WA.alloc (.cells #[Value.string (bs lb), .string (bs l1), .string (bs l2)] 65)).drew).heap.size := BA.lt
          have HC := hid (fun k (hk : k < 3) => show ∃ l : List UInt8, l.length ≤ 1000000 ∧ ((WA.alloc (.cells #[Value.string (bs lb), .string (bs l1), .string (bs l2)] 65)).drew).cell? ⟨WA.heap.size, k, none⟩ = some (.string (bs l)) by
            have : k = 0 ∨ k = 1 ∨ k = 2 := by omega
            rcases this with rfl | rfl | rfl
            · exact ⟨lb, hL0, BA.cell 0⟩
            · exact ⟨l1, hL1, BA.cell 1⟩
            · exact ⟨l2, hT3, BA.cell 2⟩)
          clear BA FW hrng hqx hql hq1 e2 hL0 hL1 hT3 HL1
          generalize (WA.alloc (.cells #[Value.string (bs lb), .string (bs l1), .string (bs l2)] 65)).drew = WB at *
          generalize WA.heap.size = ba at *
          go_wp2_with (fail)
          go_loopw [13] (fun i wz => ∃ k : Nat, k ≤ 3 ∧ i = .int .i64 k ∧ Fr (fun _ => False) WB wz) (fun i _ => 3 - (intOf i).toNat)
          case atStart => exact ⟨0, by omega, rfl, Fr.refl _ _⟩
          case round =>
            obtain ⟨k, hk, rfl, fr⟩ := hrel
            by_cases hk3 : k < 3
            · obtain ⟨l, hl, hc⟩ := HC.out k hk3
              have c0 := cell_fr hc fr (fun h => h)
              have j1 : (0 : Int) ≤ (k : Int) := by omega
              have j2 : (k : Int) < 3 := by omega
              have hfs := fr.size
              have FR := hid fr
              clear hc fr
              go_wp2_with (fail)
              refine (Read_go l _ hl).mono ?_
              rintro e w1 (⟨n1, rfl, f1⟩ | ⟨d1, m1, n1, rfl, hd1, hc1, f1⟩)
              · have c1 := cell_fr c0 f1 (fun h => h)
                have N1 := hid n1
                clear n1
                go_wp2_with (fail)
                refine (rRead_go l _ hl).mono ?_
                rintro e w2 (⟨n2, rfl, f2⟩ | ⟨d2, m2, n2, rfl, hd2, hc2, f2⟩)
                · have FE := hid ((FR.out.trans f1 (fun _ h _ => h)).trans f2 (fun _ h _ => h))
                  clear n2 f1 f2
                  go_wp2_with (fail)
                  go_roundw
                  case rel => exact ⟨k + 1, by omega, by go_num, FE.out⟩
                  case measure => simp [intOf]; omega
                · rw [N1.out] at n2
                  cases n2
              · have c1 := cell_fr c0 f1 (fun h => h)
                have N1 := hid n1
                have H1 := hid hc1
                have hlt1 := Blk.lt hc1
                have F1 := hid (FR.out.trans f1 (fun _ h _ => h))
                clear n1 hc1 f1
                go_wp2_with (fail)
                refine (rRead_go l _ hl).mono ?_
                rintro e w2 (⟨n2, rfl, f2⟩ | ⟨d2, m2, n2, rfl, hd2, hc2, f2⟩)
                · rw [N1.out] at n2
                  cases n2
                · rw [N1.out] at n2
                  obtain rfl : m1 = m2 := Option.some.inj n2
                  have ok := hid (read_ok N1.out)
                  have hby := read_bytes N1.out
                  have c2 := cell_fr c1 f2 (fun h => h)
                  have H2 := hid (CRep.fr H1.out f2 (fun h => h))
                  have R2 := hid hc2
                  have F2 := hid (F1.out.trans f2 (fun _ h _ => h))
                  have hlt2 := Blk.lt hc2
                  have hd12 : d1 < d2 := by omega
                  have hB := Bytes_go (CRep.drew H2.out) ok.out
                  rw [hby] at hB
                  have HBY := hid hB
                  clear n2 hc2 f2 H1 F1 hB hby
                  go_wp2_with (fail)
                  refine wp_region_scr (.take 0 (.take 1 (.take 2 (.take 3 (.take 5 (.take 6 (.take 7 (.op 4 (.take 8 (.take 9 .done)))))))))) (fun kz w => (kz ≤ 10 → w.cell? ⟨ba, k, none⟩ = some (.string (bs l))) ∧ True) (by kernel_rfl) (by kernel_rfl) (by intro c a d v w h; cases d <;> exact h) ?_
                  repeat
                    first
                    | (refine wpT_pure rfl rfl rfl ?_; apply Exists.intro; refine ⟨?_, ?_⟩; intro w; ((go_simp <;> rfl)); simp only [Act.put, List.setIfInBounds_toArray, List.set_cons_zero, List.set_cons_succ])
                    | (refine wpT_take 10 rfl rfl (by decide +kernel) ⟨fun _ => c2, trivial⟩ ?_; apply Exists.intro; refine ⟨?_, ?_⟩; intro w hw; (have qa := hw.1 (Nat.le_refl _); have qb := hw.2); ((go_simp <;> rfl)); simp only [Act.put, List.setIfInBounds_toArray, List.set_cons_zero, List.set_cons_succ])
                    | (refine wpT_skip rfl rfl ?_; simp only [Act.put, List.setIfInBounds_toArray, List.set_cons_zero, List.set_cons_succ])
                  refine wpT_op rfl ?_
                  go_wp2_with ((go_at_call 41; refine HBY.out.mono ?_; rintro e w3 ⟨rfl, f3⟩))
                  (refine ⟨?_, ?_⟩; focus (intro kz hk hk2 hh; first | (exfalso; simp at hk2; omega) | exact hh | exact (fun h => absurd h (by omega)) | obtain ⟨qa, qb⟩ := hh; first | exact ⟨qa, qb⟩ | (refine ⟨fun h => absurd h (by omega), ?_⟩; first | exact qb | (exact cell_fr qa f3 (fun h => h))) | (refine ⟨fun h => ?_, ?_⟩; (have qa := qa h); all_goals (first | exact qa | exact qb | (exact cell_fr qa f3 (fun h => h))))))
                  have f23 := (Fr.refl (fun _ => False) w2).drew.trans f3 (fun _ h _ => h)
                  have H3 := hid (CRep.fr H2.out f23 (fun h => h))
                  have R3 := hid (RRep.fr R2.out f23 (fun h => h))
                  have F3 := hid (F2.out.trans f23 (fun _ h _ => h))
                  repeat
                    first
                    | (refine wpT_pure rfl rfl rfl ?_; apply Exists.intro; refine ⟨?_, ?_⟩; intro w; ((go_simp <;> rfl)); simp only [Act.put, List.setIfInBounds_toArray, List.set_cons_zero, List.set_cons_succ])
                    | (refine wpT_take 10 rfl rfl (by decide +kernel) ⟨fun _ => cell_fr c2 f23 (fun h => h), trivial⟩ ?_; apply Exists.intro; refine ⟨?_, ?_⟩; intro w hw; (have qa := hw.1 (Nat.le_refl _); have qb := hw.2); ((go_simp <;> rfl)); simp only [Act.put, List.setIfInBounds_toArray, List.set_cons_zero, List.set_cons_succ])
                    | (refine wpT_skip rfl rfl ?_; simp only [Act.put, List.setIfInBounds_toArray, List.set_cons_zero, List.set_cons_succ])
                  refine wpT_nil ?_
                  clear HBY f3 f23 H2 R2 F2 c2 c1 c0
                  go_wp2_with (fail)
                  refine (same_go H3.out R3.out ok.out).mono ?_
                  rintro e w4 ⟨rfl, f4⟩
                  have H4 := hid (CRep.fr H3.out f4 (fun h => h))
                  have R4 := hid (RRep.fr R3.out f4 (fun h => h))
                  have F4 := hid (F3.out.trans f4 (fun _ h _ => h))
                  clear f4 H3 R3 F3
                  go_wp2_with (fail)
                  refine (Begin_go H4.out ok.out 0).mono ?_
                  rintro e w5 ⟨rfl, h5, f5⟩
                  have R5 := hid (RRep.fr R4.out f5 (by omega))
                  have F5 := hid (F4.out.trans f5 (fun k hk hl => by omega))
                  clear h5 f5 H4 R4 F4
                  go_wp2_with (fail)
                  refine (rBegin_go R5.out ok.out 0).mono ?_
                  rintro e w6 ⟨rfl, h6, f6⟩
                  have F6 := hid ((F5.out.trans f6 (fun k hk hl => by omega)).alloc (.cells #[.int .i64 (m1.begin_ 0).2.1, .int .i64 (m1.begin_ 0).2.2] 58))
                  clear h6 f6 R5 F5 ok
                  generalize (m1.begin_ 0).2.1 = rx at *
                  generalize (m1.begin_ 0).2.2 = re at *
                  go_wp2_with (fail)
                  go_roundw
                  case rel => exact ⟨k + 1, by omega, by go_num, F6.out⟩
                  case measure => simp [intOf]; omega
            · go_wp2_with (fail)
              go_ret
              exact ⟨rfl, FB.out.trans fr (fun _ h _ => h)⟩
      
      · go_wp2_with (fail)
        refine hrb.out.mono ?_
        rintro e w8 ⟨rfl, f8⟩
        have INV8 := hid (INV.out.fre f8)
        clear f8 hrb INV
        go_upto_region 9 with (first | (refine wpList_str_bytes rfl rfl Try.underlying9 Try.underlying64 Try.underlying5 rfl ?_; intro cb w9 sb))
        have INV9 := hid (INV8.out.fre sb.fr)
        have kq0 : w9.cell? ⟨bq, 0, none⟩ = some (.int .i64 q0) := INV9.out.q.cell 0
        have kq1 : w9.cell? ⟨bq, 1, none⟩ = some (.int .i64 q1) := INV9.out.q.cell 1
        have cb1 := sb.at 5 hr2
        have cb2 := sb.free hr2
        have SB2 := hid (sb.set hr2 y)
        have FB2 := hid (((Fr.refl (fun k => k = w8.heap.size) w9).setCell ⟨w8.heap.size, r, none⟩ (.int .u8 (y.toNat : Int)) (fun _ => rfl)).drew)
        have i1 : (0 : Int) ≤ (r : Int) := by omega
        have i2 : (r : Int) < lb.length := by omega
        have hbw := INV8.out.fr.size
        clear sb INV8
        generalize hbb : w8.heap.size = bb at *
        clear hbb
        refine wp_region_scr (.take 0 (.take 1 (.take 2 (.take 3 (.take 4 (.take 6 (.take 7 (.take 8 (.op 5 (.take 9 (.op 10 .done))))))))))) (fun kz w => (kz ≤ 10 → w.cell? ⟨bq, 0, none⟩ = some (.int .i64 q0) ∧ w.cell? ⟨bq, 1, none⟩ = some (.int .i64 q1)) ∧ True) (by kernel_rfl) (by kernel_rfl) (by intro c a d v w h; cases d <;> exact h) ?_
        repeat
          first
          | (refine wpT_pure rfl rfl rfl ?_; apply Exists.intro; refine ⟨?_, ?_⟩; intro w; ((go_simp <;> rfl)); simp only [Act.put, List.setIfInBounds_toArray, List.set_cons_zero, List.set_cons_succ])
          | (refine wpT_take 10 rfl rfl (by decide +kernel) ⟨fun _ => ⟨kq0, kq1⟩, trivial⟩ ?_; apply Exists.intro; refine ⟨?_, ?_⟩; intro w hw; (have qa := hw.1 (Nat.le_refl _); have qb := hw.2); ((go_simp <;> rfl)); simp only [Act.put, List.setIfInBounds_toArray, List.set_cons_zero, List.set_cons_succ])
          | (refine wpT_skip rfl rfl ?_; simp only [Act.put, List.setIfInBounds_toArray, List.set_cons_zero, List.set_cons_succ])
        refine wpT_op rfl ?_
        go_wp2_with ((go_at_call 14; refine (HRE.out _).mono ?_; rintro e w' ⟨rfl, rfl⟩))
        (refine ⟨?_, ?_⟩; focus (intro kz hk hk2 hh; first | (exfalso; simp at hk2; omega) | exact hh | exact (fun h => absurd h (by omega)) | obtain ⟨qa, qb⟩ := hh; first | exact ⟨qa, qb⟩ | (refine ⟨fun h => absurd h (by omega), ?_⟩; first | exact qb | (exact qa)) | (refine ⟨fun h => ?_, ?_⟩; (have qa := qa h); all_goals (first | exact qa | exact qb | (exact qa)))))
        repeat
          first
          | (refine wpT_pure rfl rfl rfl ?_; apply Exists.intro; refine ⟨?_, ?_⟩; intro w; ((go_simp <;> rfl)); simp only [Act.put, List.setIfInBounds_toArray, List.set_cons_zero, List.set_cons_succ])
          | (refine wpT_take 10 rfl rfl (by decide +kernel) ⟨fun _ => ⟨kq0, kq1⟩, trivial⟩ ?_; apply Exists.intro; refine ⟨?_, ?_⟩; intro w hw; (have qa := hw.1 (Nat.le_refl _); have qb := hw.2); ((go_simp <;> rfl)); simp only [Act.put, List.setIfInBounds_toArray, List.set_cons_zero, List.set_cons_succ])
          | (refine wpT_skip rfl rfl ?_; simp only [Act.put, List.setIfInBounds_toArray, List.set_cons_zero, List.set_cons_succ])
        refine wpT_op rfl ?_
        go_wp2_with (fail)
        (refine ⟨?_, ?_⟩; focus (intro kz hk hk2 hh; first | (exfalso; simp at hk2; omega) | exact hh | exact (fun h => absurd h (by omega)) | obtain ⟨qa, qb⟩ := hh; first | exact ⟨qa, qb⟩ | (refine ⟨fun h => absurd h (by omega), ?_⟩; first | exact qb | (exact qa)) | (refine ⟨fun h => ?_, ?_⟩; (have qa := qa h); all_goals (first | exact qa | exact qb | (exact qa)))))
        refine wpT_nil ?_
        have FW := hid (INV9.out.fr.trans FB2.out (fun k hk hl => by omega))
        have hrng : ((w9.setCell ⟨bb, r, none⟩ (.int .u8 (y.toNat : Int))).drew).rangeAt bb 0 (bv (lb.set r y)) := SBlk.head (SBlk.drew SB2.out) _ _ rfl
        have hl1 : lb.length = (lb.set r y).length := by simp
        generalize (w9.setCell ⟨bb, r, none⟩ (.int .u8 (y.toNat : Int))).drew = WA at *
        generalize lb.set r y = l1 at *
        obtain ⟨qq, hqq, hqx, hql⟩ := cut_str T 130
        have hq1 := hqq 130 rfl
        have hT3 : (T.take 130).length ≤ 1000000 := by rw [List.length_take]; omega
        generalize T.take 130 = l2 at *
        have e2 := bs_size T
        have hL0 : lb.length ≤ 1000000 := by omega
        have hL1 : l1.length ≤ 1000000 := by omega
        have HL1 := hid hl1
        clear hl1
        clear hqq kq0 kq1 cb1 cb2 SB2 FB2 INV9 hy HRE hr1 i1 i2 hr2 hn1 hn2 hd1 hbd HBQ
        go_wp2_with (fail)
        refine wp_region_scr (.take 0 (.take 1 (.take 2 (.take 3 (.take 4 (.take 5 (.take 6 (.take 7 (.two 8 9 (.op 9 (.op 10 .done)) (.op 8 (.op 10 .done))))))))))) (fun kz w => (kz ≤ 10 → w.rangeAt bb 0 (bv l1)) ∧ True) (by kernel_rfl) (by kernel_rfl) (by intro c a d v w h; cases d <;> exact h) ?_
        repeat
          first
          | (refine wpT_pure rfl rfl rfl ?_; apply Exists.intro; refine ⟨?_, ?_⟩; intro w; (first | (exact run_conv_op _ rfl rfl qa HL1.out) | (go_simp <;> rfl)); simp only [Act.put, List.setIfInBounds_toArray, List.set_cons_zero, List.set_cons_succ])
          | (refine wpT_take 10 rfl rfl (by decide +kernel) ⟨fun _ => hrng, trivial⟩ ?_; apply Exists.intro; refine ⟨?_, ?_⟩; intro w hw; (have qa := hw.1 (Nat.le_refl _); have qb := hw.2); (first | (exact run_conv_op _ rfl rfl qa HL1.out) | (go_simp <;> rfl)); simp only [Act.put, List.setIfInBounds_toArray, List.set_cons_zero, List.set_cons_succ])
          | (refine wpT_skip rfl rfl ?_; simp only [Act.put, List.setIfInBounds_toArray, List.set_cons_zero, List.set_cons_succ])
        refine wpT_two ?h12 ?h22
        case' h12 =>
          skip
          refine wpT_op rfl ?_
          go_wp2_with (fail)
          (refine ⟨?_, ?_⟩; focus (intro kz hk hk2 hh; first | (exfalso; simp at hk2; omega) | exact hh | exact (fun h => absurd h (by omega)) | obtain ⟨qa, qb⟩ := hh; first | exact ⟨qa, qb⟩ | (refine ⟨fun h => absurd h (by omega), ?_⟩; first | exact qb | (exact qa)) | (refine ⟨fun h => ?_, ?_⟩; (have qa := qa h); all_goals (first | exact qa | exact qb | (exact qa)))))
          refine wpT_op rfl ?_
          go_wp2_with (fail)
          (refine ⟨?_, ?_⟩; focus (intro kz hk hk2 hh; first | (exfalso; simp at hk2; omega) | exact hh | exact (fun h => absurd h (by omega)) | obtain ⟨qa, qb⟩ := hh; first | exact ⟨qa, qb⟩ | (refine ⟨fun h => absurd h (by omega), ?_⟩; first | exact qb | (exact range_fr qa ((Fr.refl (fun _ => False) _).alloc _) (fun h => h))) | (refine ⟨fun h => ?_, ?_⟩; (have qa := qa h); all_goals (first | exact qa | exact qb | (exact range_fr qa ((Fr.refl (fun _ => False) _).alloc _) (fun h => h))))))
          refine wpT_op rfl ?_
          go_wp2_with (fail)
          (refine ⟨?_, ?_⟩; focus (intro kz hk hk2 hh; first | (exfalso; simp at hk2; omega) | exact hh | exact (fun h => absurd h (by omega)) | obtain ⟨qa, qb⟩ := hh; first | exact ⟨qa, qb⟩ | (refine ⟨fun h => absurd h (by omega), ?_⟩; first | exact qb | (exact qa)) | (refine ⟨fun h => ?_, ?_⟩; (have qa := qa h); all_goals (first | exact qa | exact qb | (exact qa)))))
          refine wpT_nil ?_
        case' h22 =>
          skip
          refine wpT_op rfl ?_
          go_wp2_with (fail)
          (refine ⟨?_, ?_⟩; focus (intro kz hk hk2 hh; first | (exfalso; simp at hk2; omega) | exact hh | exact (fun h => absurd h (by omega)) | obtain ⟨qa, qb⟩ := hh; first | exact ⟨qa, qb⟩ | (refine ⟨fun h => absurd h (by omega), ?_⟩; first | exact qb | (exact range_fr qa ((Fr.refl (fun _ => False) _).alloc _) (fun h => h))) | (refine ⟨fun h => ?_, ?_⟩; (have qa := qa h); all_goals (first | exact qa | exact qb | (exact range_fr qa ((Fr.refl (fun _ => False) _).alloc _) (fun h => h))))))
          refine wpT_op rfl ?_
          go_wp2_with (fail)
          (refine ⟨?_, ?_⟩; focus (intro kz hk hk2 hh; first | (exfalso; simp at hk2; omega) | exact hh | exact (fun h => absurd h (by omega)) | obtain ⟨qa, qb⟩ := hh; first | exact ⟨qa, qb⟩ | (refine ⟨fun h => absurd h (by omega), ?_⟩; first | exact qb | (exact qa)) | (refine ⟨fun h => ?_, ?_⟩; (have qa := qa h); all_goals (first | exact qa | exact qb | (exact qa)))))
          refine wpT_op rfl ?_
          go_wp2_with (fail)
          (refine ⟨?_, ?_⟩; focus (intro kz hk hk2 hh; first | (exfalso; simp at hk2; omega) | exact hh | exact (fun h => absurd h (by omega)) | obtain ⟨qa, qb⟩ := hh; first | exact ⟨qa, qb⟩ | (refine ⟨fun h => absurd h (by omega), ?_⟩; first | exact qb | (exact qa)) | (refine ⟨fun h => ?_, ?_⟩; (have qa := qa h); all_goals (first | exact qa | exact qb | (exact qa)))))
          refine wpT_nil ?_
        · have FB := hid ((FW.out.alloc (.cells #[Value.string (bs lb), .string (bs l1), .string (bs l2)] 65)).drew)
          have BA := (Blk.new WA [Value.string (bs lb), .string (bs l1), .string (bs l2)] 65).drew
          have hsz : WA.heap.size < ((WA.alloc (.cells #[Value.string (bs lb), .string (bs l1), .string (bs l2)] 65)).drew).heap.size := BA.lt
          have HC := hid (fun k (hk : k < 3) => show ∃ l : List UInt8, l.length ≤ 1000000 ∧ ((WA.alloc (.cells #[Value.string (bs lb), .string (bs l1), .string (bs l2)] 65)).drew).cell? ⟨WA.heap.size, k, none⟩ = some (.string (bs l)) by
            have : k = 0 ∨ k = 1 ∨ k = 2 := by omega
            rcases this with rfl | rfl | rfl
            · exact ⟨lb, hL0, BA.cell 0⟩
            · exact ⟨l1, hL1, BA.cell 1⟩
            · exact ⟨l2, hT3, BA.cell 2⟩)
          clear BA FW hrng hqx hql hq1 e2 hL0 hL1 hT3 HL1
          generalize (WA.alloc (.cells #[Value.string (bs lb), .string (bs l1), .string (bs l2)] 65)).drew = WB at *
          generalize WA.heap.size = ba at *
          go_wp2_with (fail)
          go_loopw [13] (fun i wz => ∃ k : Nat, k ≤ 3 ∧ i = .int .i64 k ∧ Fr (fun _ => False) WB wz) (fun i _ => 3 - (intOf i).toNat)
          case atStart => exact ⟨0, by omega, rfl, Fr.refl _ _⟩
          case round =>
            obtain ⟨k, hk, rfl, fr⟩ := hrel
            by_cases hk3 : k < 3
            · obtain ⟨l, hl, hc⟩ := HC.out k hk3
              have c0 := cell_fr hc fr (fun h => h)
              have j1 : (0 : Int) ≤ (k : Int) := by omega
              have j2 : (k : Int) < 3 := by omega
              have hfs := fr.size
              have FR := hid fr
              clear hc fr
              go_wp2_with (fail)
              refine (Read_go l _ hl).mono ?_
              rintro e w1 (⟨n1, rfl, f1⟩ | ⟨d1, m1, n1, rfl, hd1, hc1, f1⟩)
              · have c1 := cell_fr c0 f1 (fun h => h)
                have N1 := hid n1
                clear n1
                go_wp2_with (fail)
                refine (rRead_go l _ hl).mono ?_
                rintro e w2 (⟨n2, rfl, f2⟩ | ⟨d2, m2, n2, rfl, hd2, hc2, f2⟩)
                · have FE := hid ((FR.out.trans f1 (fun _ h _ => h)).trans f2 (fun _ h _ => h))
                  clear n2 f1 f2
                  go_wp2_with (fail)
                  go_roundw
                  case rel => exact ⟨k + 1, by omega, by go_num, FE.out⟩
                  case measure => simp [intOf]; omega
                · rw [N1.out] at n2
                  cases n2
              · have c1 := cell_fr c0 f1 (fun h => h)
                have N1 := hid n1
                have H1 := hid hc1
                have hlt1 := Blk.lt hc1
                have F1 := hid (FR.out.trans f1 (fun _ h _ => h))
                clear n1 hc1 f1
                go_wp2_with (fail)
                refine (rRead_go l _ hl).mono ?_
                rintro e w2 (⟨n2, rfl, f2⟩ | ⟨d2, m2, n2, rfl, hd2, hc2, f2⟩)
                · rw [N1.out] at n2
                  cases n2
                · rw [N1.out] at n2
                  obtain rfl : m1 = m2 := Option.some.inj n2
                  have ok := hid (read_ok N1.out)
                  have hby := read_bytes N1.out
                  have c2 := cell_fr c1 f2 (fun h => h)
                  have H2 := hid (CRep.fr H1.out f2 (fun h => h))
                  have R2 := hid hc2
                  have F2 := hid (F1.out.trans f2 (fun _ h _ => h))
                  have hlt2 := Blk.lt hc2
                  have hd12 : d1 < d2 := by omega
                  have hB := Bytes_go (CRep.drew H2.out) ok.out
                  rw [hby] at hB
                  have HBY := hid hB
                  clear n2 hc2 f2 H1 F1 hB hby
                  go_wp2_with (fail)
                  refine wp_region_scr (.take 0 (.take 1 (.take 2 (.take 3 (.take 5 (.take 6 (.take 7 (.op 4 (.take 8 (.take 9 .done)))))))))) (fun kz w => (kz ≤ 10 → w.cell? ⟨ba, k, none⟩ = some (.string (bs l))) ∧ True) (by kernel_rfl) (by kernel_rfl) (by intro c a d v w h; cases d <;> exact h) ?_
                  repeat
                    first
                    | (refine wpT_pure rfl rfl rfl ?_; apply Exists.intro; refine ⟨?_, ?_⟩; intro w; ((go_simp <;> rfl)); simp only [Act.put, List.setIfInBounds_toArray, List.set_cons_zero, List.set_cons_succ])
                    | (refine wpT_take 10 rfl rfl (by decide +kernel) ⟨fun _ => c2, trivial⟩ ?_; apply Exists.intro; refine ⟨?_, ?_⟩; intro w hw; (have qa := hw.1 (Nat.le_refl _); have qb := hw.2); ((go_simp <;> rfl)); simp only [Act.put, List.setIfInBounds_toArray, List.set_cons_zero, List.set_cons_succ])
                    | (refine wpT_skip rfl rfl ?_; simp only [Act.put, List.setIfInBounds_toArray, List.set_cons_zero, List.set_cons_succ])
                  refine wpT_op rfl ?_
                  go_wp2_with ((go_at_call 41; refine HBY.out.mono ?_; rintro e w3 ⟨rfl, f3⟩))
                  (refine ⟨?_, ?_⟩; focus (intro kz hk hk2 hh; first | (exfalso; simp at hk2; omega) | exact hh | exact (fun h => absurd h (by omega)) | obtain ⟨qa, qb⟩ := hh; first | exact ⟨qa, qb⟩ | (refine ⟨fun h => absurd h (by omega), ?_⟩; first | exact qb | (exact cell_fr qa f3 (fun h => h))) | (refine ⟨fun h => ?_, ?_⟩; (have qa := qa h); all_goals (first | exact qa | exact qb | (exact cell_fr qa f3 (fun h => h))))))
                  have f23 := (Fr.refl (fun _ => False) w2).drew.trans f3 (fun _ h _ => h)
                  have H3 := hid (CRep.fr H2.out f23 (fun h => h))
                  have R3 := hid (RRep.fr R2.out f23 (fun h => h))
                  have F3 := hid (F2.out.trans f23 (fun _ h _ => h))
                  repeat
                    first
                    | (refine wpT_pure rfl rfl rfl ?_; apply Exists.intro; refine ⟨?_, ?_⟩; intro w; ((go_simp <;> rfl)); simp only [Act.put, List.setIfInBounds_toArray, List.set_cons_zero, List.set_cons_succ])
                    | (refine wpT_take 10 rfl rfl (by decide +kernel) ⟨fun _ => cell_fr c2 f23 (fun h => h), trivial⟩ ?_; apply Exists.intro; refine ⟨?_, ?_⟩; intro w hw; (have qa := hw.1 (Nat.le_refl _); have qb := hw.2); ((go_simp <;> rfl)); simp only [Act.put, List.setIfInBounds_toArray, List.set_cons_zero, List.set_cons_succ])
                    | (refine wpT_skip rfl rfl ?_; simp only [Act.put, List.setIfInBounds_toArray, List.set_cons_zero, List.set_cons_succ])
                  refine wpT_nil ?_
                  clear HBY f3 f23 H2 R2 F2 c2 c1 c0
                  go_wp2_with (fail)
                  refine (same_go H3.out R3.out ok.out).mono ?_
                  rintro e w4 ⟨rfl, f4⟩
                  have H4 := hid (CRep.fr H3.out f4 (fun h => h))
                  have R4 := hid (RRep.fr R3.out f4 (fun h => h))
                  have F4 := hid (F3.out.trans f4 (fun _ h _ => h))
                  clear f4 H3 R3 F3
                  go_wp2_with (fail)
                  refine (Begin_go H4.out ok.out 0).mono ?_
                  rintro e w5 ⟨rfl, h5, f5⟩
                  have R5 := hid (RRep.fr R4.out f5 (by omega))
                  have F5 := hid (F4.out.trans f5 (fun k hk hl => by omega))
                  clear h5 f5 H4 R4 F4
                  go_wp2_with (fail)
                  refine (rBegin_go R5.out ok.out 0).mono ?_
                  rintro e w6 ⟨rfl, h6, f6⟩
                  have F6 := hid ((F5.out.trans f6 (fun k hk hl => by omega)).alloc (.cells #[.int .i64 (m1.begin_ 0).2.1, .int .i64 (m1.begin_ 0).2.2] 58))
                  clear h6 f6 R5 F5 ok
                  generalize (m1.begin_ 0).2.1 = rx at *
                  generalize (m1.begin_ 0).2.2 = re at *
                  go_wp2_with (fail)
                  go_roundw
                  case rel => exact ⟨k + 1, by omega, by go_num, F6.out⟩
                  case measure => simp [intOf]; omega
            · go_wp2_with (fail)
              go_ret
              exact ⟨rfl, FB.out.trans fr (fun _ h _ => h)⟩
        · have FB := hid ((FW.out.alloc (.cells #[Value.string (bs lb), .string (bs l1), .string (bs l2)] 65)).drew)
          have BA := (Blk.new WA [Value.string (bs lb), .string (bs l1), .string (bs l2)] 65).drew
          have hsz : WA.heap.size < ((WA.alloc (.cells #[Value.string (bs lb), .string (bs l1), .string (bs l2)] 65)).drew).heap.size := BA.lt
          have HC := hid (fun k (hk : k < 3) => show ∃ l : List UInt8, l.length ≤ 1000000 ∧ ((WA.alloc (.cells #[Value.string (bs lb), .string (bs l1), .string (bs l2)] 65)).drew).cell? ⟨WA.heap.size, k, none⟩ = some (.string (bs l)) by
            have : k = 0 ∨ k = 1 ∨ k = 2 := by omega
            rcases this with rfl | rfl | rfl
            · exact ⟨lb, hL0, BA.cell 0⟩
            · exact ⟨l1, hL1, BA.cell 1⟩
            · exact ⟨l2, hT3, BA.cell 2⟩)
          clear BA FW hrng hqx hql hq1 e2 hL0 hL1 hT3 HL1
          generalize (WA.alloc (.cells #[Value.string (bs lb), .string (bs l1), .string (bs l2)] 65)).drew = WB at *
          generalize WA.heap.size = ba at *
          go_wp2_with (fail)
          go_loopw [13] (fun i wz => ∃ k : Nat, k ≤ 3 ∧ i = .int .i64 k ∧ Fr (fun _ => False) WB wz) (fun i _ => 3 - (intOf i).toNat)
          case atStart => exact ⟨0, by omega, rfl, Fr.refl _ _⟩
          case round =>
            obtain ⟨k, hk, rfl, fr⟩ := hrel
            by_cases hk3 : k < 3
            · obtain ⟨l, hl, hc⟩ := HC.out k hk3
              have c0 := cell_fr hc fr (fun h => h)
              have j1 : (0 : Int) ≤ (k : Int) := by omega
              have j2 : (k : Int) < 3 := by omega
              have hfs := fr.size
              have FR := hid fr
              clear hc fr
              go_wp2_with (fail)
              refine (Read_go l _ hl).mono ?_
              rintro e w1 (⟨n1, rfl, f1⟩ | ⟨d1, m1, n1, rfl, hd1, hc1, f1⟩)
              · have c1 := cell_fr c0 f1 (fun h => h)
                have N1 := hid n1
                clear n1
                go_wp2_with (fail)
                refine (rRead_go l _ hl).mono ?_
                rintro e w2 (⟨n2, rfl, f2⟩ | ⟨d2, m2, n2, rfl, hd2, hc2, f2⟩)
                · have FE := hid ((FR.out.trans f1 (fun _ h _ => h)).trans f2 (fun _ h _ => h))
                  clear n2 f1 f2
                  go_wp2_with (fail)
                  go_roundw
                  case rel => exact ⟨k + 1, by omega, by go_num, FE.out⟩
                  case measure => simp [intOf]; omega
                · rw [N1.out] at n2
                  cases n2
              · have c1 := cell_fr c0 f1 (fun h => h)
                have N1 := hid n1
                have H1 := hid hc1
                have hlt1 := Blk.lt hc1
                have F1 := hid (FR.out.trans f1 (fun _ h _ => h))
                clear n1 hc1 f1
                go_wp2_with (fail)
                refine (rRead_go l _ hl).mono ?_
                rintro e w2 (⟨n2, rfl, f2⟩ | ⟨d2, m2, n2, rfl, hd2, hc2, f2⟩)
                · rw [N1.out] at n2
                  cases n2
                · rw [N1.out] at n2
                  obtain rfl : m1 = m2 := Option.some.inj n2
                  have ok := hid (read_ok N1.out)
                  have hby := read_bytes N1.out
                  have c2 := cell_fr c1 f2 (fun h => h)
                  have H2 := hid (CRep.fr H1.out f2 (fun h => h))
                  have R2 := hid hc2
                  have F2 := hid (F1.out.trans f2 (fun _ h _ => h))
                  have hlt2 := Blk.lt hc2
                  have hd12 : d1 < d2 := by omega
                  have hB := Bytes_go (CRep.drew H2.out) ok.out
                  rw [hby] at hB
                  have HBY := hid hB
                  clear n2 hc2 f2 H1 F1 hB hby
                  go_wp2_with (fail)
                  refine wp_region_scr (.take 0 (.take 1 (.take 2 (.take 3 (.take 5 (.take 6 (.take 7 (.op 4 (.take 8 (.take 9 .done)))))))))) (fun kz w => (kz ≤ 10 → w.cell? ⟨ba, k, none⟩ = some (.string (bs l))) ∧ True) (by kernel_rfl) (by kernel_rfl) (by intro c a d v w h; cases d <;> exact h) ?_
                  repeat
                    first
                    | (refine wpT_pure rfl rfl rfl ?_; apply Exists.intro; refine ⟨?_, ?_⟩; intro w; ((go_simp <;> rfl)); simp only [Act.put, List.setIfInBounds_toArray, List.set_cons_zero, List.set_cons_succ])
                    | (refine wpT_take 10 rfl rfl (by decide +kernel) ⟨fun _ => c2, trivial⟩ ?_; apply Exists.intro; refine ⟨?_, ?_⟩; intro w hw; (have qa := hw.1 (Nat.le_refl _); have qb := hw.2); ((go_simp <;> rfl)); simp only [Act.put, List.setIfInBounds_toArray, List.set_cons_zero, List.set_cons_succ])
                    | (refine wpT_skip rfl rfl ?_; simp only [Act.put, List.setIfInBounds_toArray, List.set_cons_zero, List.set_cons_succ])
                  refine wpT_op rfl ?_
                  go_wp2_with ((go_at_call 41; refine HBY.out.mono ?_; rintro e w3 ⟨rfl, f3⟩))
                  (refine ⟨?_, ?_⟩; focus (intro kz hk hk2 hh; first | (exfalso; simp at hk2; omega) | exact hh | exact (fun h => absurd h (by omega)) | obtain ⟨qa, qb⟩ := hh; first | exact ⟨qa, qb⟩ | (refine ⟨fun h => absurd h (by omega), ?_⟩; first | exact qb | (exact cell_fr qa f3 (fun h => h))) | (refine ⟨fun h => ?_, ?_⟩; (have qa := qa h); all_goals (first | exact qa | exact qb | (exact cell_fr qa f3 (fun h => h))))))
                  have f23 := (Fr.refl (fun _ => False) w2).drew.trans f3 (fun _ h _ => h)
                  have H3 := hid (CRep.fr H2.out f23 (fun h => h))
                  have R3 := hid (RRep.fr R2.out f23 (fun h => h))
                  have F3 := hid (F2.out.trans f23 (fun _ h _ => h))
                  repeat
                    first
                    | (refine wpT_pure rfl rfl rfl ?_; apply Exists.intro; refine ⟨?_, ?_⟩; intro w; ((go_simp <;> rfl)); simp only [Act.put, List.setIfInBounds_toArray, List.set_cons_zero, List.set_cons_succ])
                    | (refine wpT_take 10 rfl rfl (by decide +kernel) ⟨fun _ => cell_fr c2 f23 (fun h => h), trivial⟩ ?_; apply Exists.intro; refine ⟨?_, ?_⟩; intro w hw; (have qa := hw.1 (Nat.le_refl _); have qb := hw.2); ((go_simp <;> rfl)); simp only [Act.put, List.setIfInBounds_toArray, List.set_cons_zero, List.set_cons_succ])
                    | (refine wpT_skip rfl rfl ?_; simp only [Act.put, List.setIfInBounds_toArray, List.set_cons_zero, List.set_cons_succ])
                  refine wpT_nil ?_
                  clear HBY f3 f23 H2 R2 F2 c2 c1 c0
                  go_wp2_with (fail)
                  refine (same_go H3.out R3.out ok.out).mono ?_
                  rintro e w4 ⟨rfl, f4⟩
                  have H4 := hid (CRep.fr H3.out f4 (fun h => h))
                  have R4 := hid (RRep.fr R3.out f4 (fun h => h))
                  have F4 := hid (F3.out.trans f4 (fun _ h _ => h))
                  clear f4 H3 R3 F3
                  go_wp2_with (fail)
                  refine (Begin_go H4.out ok.out 0).mono ?_
                  rintro e w5 ⟨rfl, h5, f5⟩
                  have R5 := hid (RRep.fr R4.out f5 (by omega))
                  have F5 := hid (F4.out.trans f5 (fun k hk hl => by omega))
                  clear h5 f5 H4 R4 F4
                  go_wp2_with (fail)
                  refine (rBegin_go R5.out ok.out 0).mono ?_
                  rintro e w6 ⟨rfl, h6, f6⟩
                  have F6 := hid ((F5.out.trans f6 (fun k hk hl => by omega)).alloc (.cells #[.int .i64 (m1.begin_ 0).2.1, .int .i64 (m1.begin_ 0).2.2] 58))
                  clear h6 f6 R5 F5 ok
                  generalize (m1.begin_ 0).2.1 = rx at *
                  generalize (m1.begin_ 0).2.2 = re at *
                  go_wp2_with (fail)
                  go_roundw
                  case rel => exact ⟨k + 1, by omega, by go_num, F6.out⟩
                  case measure => simp [intOf]; omega
            · go_wp2_with (fail)
              go_ret
              exact ⟨rfl, FB.out.trans fr (fun _ h _ => h)⟩
      
end Go.Proofs.Ytbkebjgoaeddjaa
namespace Go.Proofs.Ytbkebjgoaeddjaa.clockBytes
open Go.ChangeShapes Go.ChangeMaps Go.WideShapes Go.ChangeAt Go.RowKit Go.VB Go.VB.Clk
theorem list2 {α : Type} : ∀ L : List α, L.length = 2 → ∃ a b, L = [a, b]
  | [a, b], _ => ⟨a, b, rfl⟩
set_option maxHeartbeats 400000 in
set_option maxRecDepth 100000 in
theorem lifted (os : Os) (started : os.Started) (H : Type) (enc : TypeId × Value → H) :
    ReturnsInHanded {} Try.checked os 10 .any (Rows.clockBytesSpec.pre6 enc Try.prog Try.f10 Rows.clockBytesRow.domain false) (Rows.clockBytesSpec.post enc Try.prog Try.f10 false true false false) := by
  refine returnsInHanded_of_change (C := Try.checked) own started (by kernel_rfl) Try.func10
    (ChangeSpec.witness6 (enc := enc) (C := Try.checked) false ⟨#[], #[.slice none 0 0, .string ⟨#[]⟩, .agg #[.int .i64 0, .int .i64 0]], []⟩ 8 (by kernel_rfl) (by kernel_rfl) (by kernel_rfl) (by kernel_rfl)) ?_
  intro W base args ds gs before hval0 hW hcnd _
  have hval : ∀ (j : Nat) t v, Try.f10.params[j]? = some t → args[j]? = some v → Value.okWide Try.prog W .any base t v := hval0
  have hW' := hW
  obtain ⟨p, q, hA0, hV, rfl, hfz, hnd⟩ := hW
  have hA : DataW.TrodAll enc Try.prog W 0 (fun _ => true) true Try.f10.params.toList args.toList ds p := hA0
  rw [Try.params10] at hA hval
  obtain ⟨v0, vs0, d0, ds0, p0, q0, hargs, rfl, rfl, h0, r0⟩ := trodAll_cons hA
  obtain ⟨v1, vs1, d1, ds1, p1, q1, rfl, rfl, rfl, h1, r1⟩ := trodAll_cons r0
  obtain ⟨v2, vs2, d2, ds2, p2, q2, rfl, rfl, rfl, h2, r2⟩ := trodAll_cons r1
  obtain ⟨rfl, rfl, rfl⟩ := trodAll_nil r2
  obtain rfl : args = #[v0, v1, v2] := by cases args; simp_all
  obtain ⟨rfl, rfl⟩ := trodVars_none hV
  clear hA0 hval0
  refine Calls.mono (R := fun e w' => e = .returned (.bool true) ∧ Fr (fun _ => False) W w') ?_ fun e W' ⟨he, hf⟩ => ⟨_, he, post_law sound (by decide +kernel) rfl rfl (ht := Try.underlying4) (by rfl) hW' hf⟩
  obtain ⟨L, sL, lL⟩ := open_calls (hval 0 46 v0 rfl rfl) h0
  obtain ⟨s, rfl, -, -, ws⟩ := open_string Try.underlying9 (hval 1 9 v1 rfl rfl) h1
  obtain ⟨Q, rfl, hql, -⟩ := open_ar Try.underlying63 (k := 1) (by kernel_rfl) (by kernel_rfl) (hval 2 63 v2 rfl rfl) h2 (fun x => [Value.int .i64 x]) (fun x => (Lit.int .i64 x).wf = true) (fun fuel cs r h => elem_int Try.underlying3 fuel cs r h)
  obtain ⟨a, b, rfl⟩ := list2 Q hql
  rw [← bs_toList s]
  exact ClockBytes_walk L s.data.toList a b W v0 sL lL (by rw [Array.length_toList]; exact ws)
theorem proved : Rows.ClockBytesSaid :=
  OpenClaim.holds_of_wide 10 Try.f10 rfl rfl rfl rfl rfl rfl rfl ⟨rfl, rfl, rfl, rfl, rfl⟩ rfl rfl rfl rfl rfl (by kernel_rfl) Try.func10 (by kernel_rfl)
    (of_decide_eq_true (by kernel_rfl)) (by unfold Func.isWrapper; first | (rw [if_pos (by decide +kernel)]; kernel_rfl) | (rw [if_neg (by decide +kernel)]; exact ⟨rfl, rfl⟩))
    (fun os started H enc _ => lifted os started H enc)
end Go.Proofs.Ytbkebjgoaeddjaa.clockBytes
