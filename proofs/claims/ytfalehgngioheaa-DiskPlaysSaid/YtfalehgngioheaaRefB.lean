import Derived.Test.YtfalehgngioheaaRefA
/- The reference's disk: Append, Flush, Cut, Arm, is. -/
set_option linter.unusedVariables false
namespace Go.Proofs.Ytfalehgngioheaa
open Go.RowKit Go.VB Go.VB.Disk
variable {S : Nat → Prop} {w : World} {d : Nat} {m : DM} {pv : Value} {wv : List Value}
theorem operate_off' {m : DM} {wrong : Int} {f : DM → DM} (h : m.off = true) : m.operate wrong f = (m, 24) := by unfold DM.operate; rw [if_pos h]
theorem operate_wrong' {m : DM} {wrong : Int} {f : DM → DM} (h : m.off = false) (hw : wrong ≠ 0) : m.operate wrong f = (m, wrong) := by unfold DM.operate; rw [if_neg (by simp [h]), if_pos hw]
theorem may_off (m : DM) (h : (m.armed && decide (m.left ≤ 0)) = true) : mayM m = { m with off := true } := by unfold mayM; rw [if_pos h]
theorem may_on (m : DM) (h : (m.armed && decide (m.left ≤ 0)) = false) : mayM m = { m with left := wrap64 (m.left - 1) } := by unfold mayM; rw [if_neg (by simp [h])]
set_option maxHeartbeats 1000000 in
theorem Arm_ref (h : RRep S w d m pv wv) (n : Int) :
    Calls Try.prog 57 #[.pointer (some ⟨d, 0, none⟩), .int .i64 n] w fun e w' => e = .returned (.tuple #[]) ∧ RRep S w' d (m.arm n) pv wv ∧ Fr (fun j => j = d) w w' := by
  have c4 : w.cell? ⟨d, 4, none⟩ = some (.bool m.armed) := h.b.cell 4
  have c5 : w.cell? ⟨d, 5, none⟩ = some (.int .i64 m.left) := h.b.cell 5
  have z4 := h.b.frozen 4
  have z5 := h.b.frozen 5
  have hH := hid h
  clear h
  go_enter Try.func57, Try.ntmps57
  go_wp2
  go_end0
  have f := ((Fr.refl (fun j => j = d) w).setCell ⟨d, 4, none⟩ (.bool (decide (0 ≤ n))) (fun _ => rfl)).setCell ⟨d, 5, none⟩ (.int .i64 n) (fun _ => rfl)
  exact ⟨rfl, hH.out.upd f rfl ((hH.out.b.set 4 _).set 5 _), f⟩
set_option maxHeartbeats 1000000 in
theorem Flush_ref (h : RRep S w d m pv wv) :
    Calls Try.prog 54 #[.pointer (some ⟨d, 0, none⟩)] w fun e w' => e = .returned (.int .i64 m.flush.2) ∧ RRep S w' d m.flush.1 pv wv ∧ Fr (fun j => j = d) w w' := by
  have c3 : w.cell? ⟨d, 3, none⟩ = some (.bool (!m.off)) := h.b.cell 3
  have z2 := h.b.frozen 2
  have hH := hid h
  cases ho : m.off with
  | true =>
    have hr : m.flush = (m, 24) := operate_off' ho
    rw [ho] at c3
    rw [hr]
    clear h ho hr
    go_enter Try.func54, Try.ntmps54
    go_wp2
    go_ret
    exact ⟨rfl, hH.out, Fr.refl _ _⟩
  | false =>
    have hm := may_rep h ho
    rw [ho] at c3
    have hr : m.flush = if m.armed && decide (m.left ≤ 0) then (mayM m, 24) else ({ mayM m with flushed := m.log.length }, 0) := by
      unfold DM.flush
      rw [operate_may m 0 _ ho rfl]
      split
      · rfl
      · rename_i hc
        rw [may_on m (by simpa using hc)]
    cases hb : (m.armed && decide (m.left ≤ 0)) with
    | true =>
      rw [hb] at hm hr
      rw [if_pos rfl] at hr
      rw [hr]
      have hM := hid hm
      clear h ho hr hb hm
      go_enter Try.func54, Try.ntmps54
      go_wp2_with (go_at_call 62; refine hM.out.mono ?_; rintro e w1 ⟨rfl, h1, f1⟩)
      go_ret
      exact ⟨rfl, h1, f1⟩
    | false =>
      rw [hb] at hm hr
      rw [if_neg (by simp)] at hr
      have hlog : (mayM m).log = m.log := by rw [may_on m hb]
      rw [hr]
      have hM := hid hm
      have hl := bs_size m.log
      have HB := hid hb
      have HL := hid hlog
      clear h ho hr hb hm hlog
      go_enter Try.func54, Try.ntmps54
      go_wp2_with (go_at_call 62; refine hM.out.mono ?_; rintro e w1 ⟨rfl, h1, f1⟩; (have d1 : w1.cell? ⟨d, 1, none⟩ = some (.string (bs m.log)) := by rw [h1.b.cell, HL.out]; rfl); (have d2 : w1.cell? ⟨d, 2, none⟩ = some (.int .i64 ((mayM m).flushed : Int)) := h1.b.cell 2); have y2 := h1.b.frozen 2)
      go_ret
      have f2 := (Fr.refl (fun j => j = d) w1).setCell ⟨d, 2, none⟩ (.int .i64 m.log.length) (fun _ => rfl)
      exact ⟨rfl, h1.upd f2 rfl (h1.b.set 2 _), f1.trans f2 (fun _ h _ => h)⟩
set_option maxHeartbeats 1000000 in
theorem Append_ref (h : RRep S w d m pv wv) (l : Bytes) (hl : l.length ≤ 1000000) (hlog : m.log.length ≤ 1048576) :
    Calls Try.prog 53 #[.pointer (some ⟨d, 0, none⟩), .string (bs l)] w fun e w' => e = .returned (.int .i64 (m.append l).2) ∧ RRep S w' d (m.append l).1 pv wv ∧ Fr (fun j => j = d) w w' := by
  have c1 : w.cell? ⟨d, 1, none⟩ = some (.string (bs m.log)) := h.b.cell 1
  have c3 : w.cell? ⟨d, 3, none⟩ = some (.bool (!m.off)) := h.b.cell 3
  have hH := hid h
  have s1 := bs_size m.log
  have s2 := bs_size l
  cases ho : m.off with
  | true =>
    have hr : m.append l = (m, 24) := operate_off' ho
    rw [ho] at c3
    rw [hr]
    clear h ho hr
    go_enter Try.func53, Try.ntmps53
    go_wp2
    go_ret
    exact ⟨rfl, hH.out, Fr.refl _ _⟩
  | false =>
    have hm := may_rep h ho
    rw [ho] at c3
    by_cases hlt : 1048576 < m.log.length + l.length
    · have hr : m.append l = (m, 31) := by
        unfold DM.append
        rw [if_pos hlt]
        exact operate_wrong' ho (by decide)
      rw [hr]
      clear h ho hr hm
      go_enter Try.func53, Try.ntmps53
      go_wp2
      go_ret
      exact ⟨rfl, hH.out, Fr.refl _ _⟩
    · have hr : m.append l = if m.armed && decide (m.left ≤ 0) then (mayM m, 24) else ({ mayM m with log := m.log ++ l }, 0) := by
        unfold DM.append
        rw [if_neg hlt, operate_may m 0 _ ho rfl]
        split
        · rfl
        · rename_i hc
          rw [may_on m (by simpa using hc)]
      cases hb : (m.armed && decide (m.left ≤ 0)) with
      | true =>
        rw [hb] at hm hr
        rw [if_pos rfl] at hr
        rw [hr]
        have hM := hid hm
        clear h ho hr hb hm
        go_enter Try.func53, Try.ntmps53
        go_wp2_with (go_at_call 62; refine hM.out.mono ?_; rintro e w1 ⟨rfl, h1, f1⟩)
        go_ret
        exact ⟨rfl, h1, f1⟩
      | false =>
        rw [hb] at hm hr
        rw [if_neg (by simp)] at hr
        have hlg : (mayM m).log = m.log := by rw [may_on m hb]
        rw [hr]
        have hM := hid hm
        have e5 := fun w => run_add_bs (P := Try.prog) w m.log l (by omega)
        have HL := hid hlg
        clear h ho hr hb hm hlg
        go_enter Try.func53, Try.ntmps53
        go_wp2_with (go_at_call 62; refine hM.out.mono ?_; rintro e w1 ⟨rfl, h1, f1⟩; (have d1 : w1.cell? ⟨d, 1, none⟩ = some (.string (bs m.log)) := by rw [h1.b.cell, HL.out]; rfl); have y1 := h1.b.frozen 1)
        go_ret
        have f2 := (Fr.refl (fun j => j = d) w1).setCell ⟨d, 1, none⟩ (.string (bs (m.log ++ l))) (fun _ => rfl)
        exact ⟨rfl, h1.upd f2 rfl (h1.b.set 1 _), f1.trans f2 (fun _ h _ => h)⟩
set_option maxHeartbeats 1000000 in
theorem Cut_ref (h : RRep S w d m pv wv) (n : Int) (hlog : m.log.length ≤ 1048576) (hfl : m.flushed ≤ m.log.length) :
    Calls Try.prog 58 #[.pointer (some ⟨d, 0, none⟩), .int .i64 n] w fun e w' => e = .returned (.int .i64 (m.cut n).2) ∧ RRep S w' d (m.cut n).1 pv wv ∧ Fr (fun j => j = d) w w' := by
  have c1 : w.cell? ⟨d, 1, none⟩ = some (.string (bs m.log)) := h.b.cell 1
  have c3 : w.cell? ⟨d, 3, none⟩ = some (.bool (!m.off)) := h.b.cell 3
  have hH := hid h
  have s1 := bs_size m.log
  cases ho : m.off with
  | true =>
    have hr : m.cut n = (m, 24) := operate_off' ho
    rw [ho] at c3
    rw [hr]
    clear h ho hr
    go_enter Try.func58, Try.ntmps58
    go_wp2
    go_ret
    exact ⟨rfl, hH.out, Fr.refl _ _⟩
  | false =>
    have hm := may_rep h ho
    rw [ho] at c3
    by_cases hw : n < 0 ∨ (m.log.length : Int) < n
    · have hr : m.cut n = (m, 1) := by
        unfold DM.cut
        rw [if_pos hw]
        exact operate_wrong' ho (by decide)
      rw [hr]
      clear h ho hr hm
      by_cases hn : n < 0
      all_goals
        go_enter Try.func58, Try.ntmps58
        go_wp2
        go_ret
        exact ⟨rfl, hH.out, Fr.refl _ _⟩
    · obtain ⟨k, rfl⟩ : ∃ k : Nat, n = k := ⟨n.toNat, by omega⟩
      have hr : m.cut k = if m.armed && decide (m.left ≤ 0) then (mayM m, 24) else ({ mayM m with log := m.log.take k, flushed := min m.flushed k }, 0) := by
        unfold DM.cut
        rw [if_neg hw, operate_may m 0 _ ho rfl]
        split
        · rfl
        · rename_i hc
          rw [may_on m (by simpa using hc)]
          rfl
      cases hb : (m.armed && decide (m.left ≤ 0)) with
      | true =>
        rw [hb] at hm hr
        rw [if_pos rfl] at hr
        rw [hr]
        have hM := hid hm
        clear h ho hr hb hm
        go_enter Try.func58, Try.ntmps58
        go_wp2_with (go_at_call 62; refine hM.out.mono ?_; rintro e w1 ⟨rfl, h1, f1⟩)
        go_ret
        exact ⟨rfl, h1, f1⟩
      | false =>
        rw [hb] at hm hr
        rw [if_neg (by simp)] at hr
        have hlg : (mayM m).log = m.log ∧ (mayM m).flushed = m.flushed := by rw [may_on m hb]; exact ⟨rfl, rfl⟩
        rw [hr]
        have hM := hid hm
        have ee : (bs m.log).extract 0 k = bs (m.log.take k) := by apply ByteArray.ext; simp [bs]
        have HL := hid hlg
        obtain ⟨q, hq⟩ : ∃ q : Nat, q = min m.flushed k := ⟨_, rfl⟩
        have hm1 : (if (k : Int) < (m.flushed : Int) then (k : Int) else (m.flushed : Int)) = (q : Int) := by split <;> omega
        have hm2 : (if k < m.flushed then (k : Int) else (m.flushed : Int)) = (q : Int) := by split <;> omega
        rw [← hq]
        have hk1 : ¬ (k : Int) < 0 := by omega
        have hk2 : (k : Int) ≤ m.log.length := by omega
        clear h ho hr hb hm hlg hq hw
        go_enter Try.func58, Try.ntmps58
        go_wp2_with (go_at_call 62; refine hM.out.mono ?_; rintro e w1 ⟨rfl, h1, f1⟩; (have d1 : w1.cell? ⟨d, 1, none⟩ = some (.string (bs m.log)) := by rw [h1.b.cell, HL.out.1]; rfl); (have d2 : w1.cell? ⟨d, 2, none⟩ = some (.int .i64 (m.flushed : Int)) := by rw [h1.b.cell, HL.out.2]; rfl); have y1 := h1.b.frozen 1; have y2 := h1.b.frozen 2)
        go_ret
        have f2 := ((Fr.refl (fun j => j = d) w1).setCell ⟨d, 1, none⟩ (.string (bs (m.log.take k))) (fun _ => rfl)).setCell ⟨d, 2, none⟩ (.int .i64 (q : Int)) (fun _ => rfl)
        exact ⟨rfl, h1.upd f2 rfl ((h1.b.set 1 _).set 2 _), f1.trans f2 (fun _ h _ => h)⟩
theorem is_ref (h : RRep S w d m pv wv) (n : Int) :
    Calls Try.prog 61 #[.pointer (some ⟨d, 0, none⟩), .int .i64 n] w fun e w' => e = .returned (.bool (m.is n)) ∧ w = w' := by
  have c0 : w.cell? ⟨d, 0, none⟩ = some pv := h.b.cell 0
  obtain ⟨a, c, rfl, hc⟩ := own_slice h.own
  have hi : m.is n = (decide (0 ≤ n) && decide (n < (m.pages.length : Int))) := rfl
  rw [hi]
  by_cases h0 : 0 ≤ n
  · by_cases h1 : n < (m.pages.length : Int)
    · rw [decide_eq_true h0, decide_eq_true h1]
      go_enter Try.func61, Try.ntmps61
      go_wp2
      go_ret
      exact ⟨rfl, rfl⟩
    · rw [decide_eq_true h0, decide_eq_false h1]
      go_enter Try.func61, Try.ntmps61
      go_wp2
      go_ret
      exact ⟨rfl, rfl⟩
  · rw [decide_eq_false h0]
    go_enter Try.func61, Try.ntmps61
    go_wp2
    go_ret
    exact ⟨rfl, rfl⟩
