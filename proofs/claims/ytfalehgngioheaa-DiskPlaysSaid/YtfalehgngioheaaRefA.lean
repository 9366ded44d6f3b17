import Derived.Test.YtfalehgngioheaaDiskDo
import Derived.Test.YtfalehgngioheaaDiskLogM
/- The reference's disk: how it lies in memory, and its small methods. It stands for the same model as the disk under test. -/
set_option linter.unusedVariables false
namespace Go.Proofs.Ytfalehgngioheaa
open Go.RowKit Go.VB Go.VB.Disk
def rcells (ps : List Pg) (wv : List Value) : List Value := (ps.zip wv).flatMap fun p => [.string (bs p.1.safe), p.2]
structure RRep (S : Nat → Prop) (w : World) (d : Nat) (m : DM) (pv : Value) (wv : List Value) : Prop where
  sd : S d
  lt : ∀ k, S k → k < w.heap.size
  b : Blk w d [pv, .string (bs m.log), .int .i64 m.flushed, .bool (!m.off), .bool m.armed, .int .i64 m.left] 87
  own : w.ownsRow 0 89 2 pv m.pages.length (rcells m.pages wv)
  reg : ∀ k, pv.ownBlock = some k → S k
  len : wv.length = m.pages.length
  ws : ∀ (i : Nat) (p : Pg) (v : Value), m.pages[i]? = some p → wv[i]? = some v → w.ownsRow 0 9 1 v p.ws.length (sv p.ws) ∧ ∀ k, v.ownBlock = some k → S k
  ne : ∀ (i j : Nat) (v v' : Value) (k : Nat), i ≠ j → wv[i]? = some v → wv[j]? = some v' → v.ownBlock = some k → v'.ownBlock = some k → False
theorem RRep.fr {S R : Nat → Prop} {w w' : World} {d : Nat} {m : DM} {pv : Value} {wv : List Value} (h : RRep S w d m pv wv) (hf : Fr R w w') (hR : ∀ k, S k → ¬ R k) : RRep S w' d m pv wv :=
  ⟨h.sd, fun k hk => Nat.lt_of_lt_of_le (h.lt k hk) hf.size, h.b.fr hf (hR d h.sd), own_fr h.own hf (fun k hk => hR k (h.reg k hk)), h.reg, h.len,
    fun i p v hp hv => ⟨own_fr (h.ws i p v hp hv).1 hf (fun k hk => hR k ((h.ws i p v hp hv).2 k hk)), (h.ws i p v hp hv).2⟩, h.ne⟩
theorem RRep.upd {S : Nat → Prop} {w w' : World} {d : Nat} {m m' : DM} {pv : Value} {wv : List Value} (h : RRep S w d m pv wv) (hf : Fr (fun j => j = d) w w') (hp : m'.pages = m.pages)
    (hb : Blk w' d [pv, .string (bs m'.log), .int .i64 m'.flushed, .bool (!m'.off), .bool m'.armed, .int .i64 m'.left] 87) : RRep S w' d m' pv wv := by
  refine ⟨h.sd, fun k hk => Nat.lt_of_lt_of_le (h.lt k hk) hf.size, hb, ?_, h.reg, by rw [hp]; exact h.len, fun i p v hpp hv => ?_, h.ne⟩
  · rw [hp]
    exact own_fr h.own hf (fun k hk e => ownsRow_ne h.b (by decide) h.own k hk e)
  · rw [hp] at hpp
    have := h.ws i p v hpp hv
    exact ⟨own_fr this.1 hf (fun k hk e => ownsRow_ne h.b (by decide) this.1 k hk e), this.2⟩
def mayM (m : DM) : DM := if m.armed && decide (m.left ≤ 0) then { m with off := true } else { m with left := wrap64 (m.left - 1) }
theorem operate_may (m : DM) (wrong : Int) (f : DM → DM) (ho : m.off = false) (hw : wrong = 0) : m.operate wrong f = if m.armed && decide (m.left ≤ 0) then (mayM m, 24) else (f (mayM m), 0) := by
  unfold DM.operate mayM
  rw [ho, hw]
  simp only [Bool.false_eq_true, if_false, ne_eq, not_true_eq_false]
  split <;> rfl
set_option maxHeartbeats 1000000 in
theorem may_rep {S : Nat → Prop} {w : World} {d : Nat} {m : DM} {pv : Value} {wv : List Value} (h : RRep S w d m pv wv) (ho : m.off = false) :
    Calls Try.prog 62 #[.pointer (some ⟨d, 0, none⟩)] w fun e w' => e = .returned (.bool (!(m.armed && decide (m.left ≤ 0)))) ∧ RRep S w' d (mayM m) pv wv ∧ Fr (fun j => j = d) w w' := by
  have c3 : w.cell? ⟨d, 3, none⟩ = some (.bool (!m.off)) := h.b.cell 3
  have c4 : w.cell? ⟨d, 4, none⟩ = some (.bool m.armed) := h.b.cell 4
  have c5 : w.cell? ⟨d, 5, none⟩ = some (.int .i64 m.left) := h.b.cell 5
  have z3 := h.b.frozen 3
  have z5 := h.b.frozen 5
  have hH := hid h
  have hO := hid ho
  rw [ho] at c3
  clear h ho
  cases ha : m.armed with
  | false =>
    rw [ha] at c4
    have hA := hid ha
    clear ha
    go_enter Try.func62, Try.ntmps62
    go_wp2
    go_ret
    have f := (Fr.refl (fun j => j = d) w).setCell ⟨d, 5, none⟩ (.int .i64 (wrap64 (m.left - 1))) (fun _ => rfl)
    have hm : mayM m = { m with left := wrap64 (m.left - 1) } := by unfold mayM; rw [hA.out]; rfl
    refine ⟨rfl, hH.out.upd f (by rw [hm]) ?_, f⟩
    rw [hm]
    exact hH.out.b.set 5 _
  | true =>
    rw [ha] at c4
    have hA := hid ha
    clear ha
    by_cases hl : m.left ≤ 0
    · have hm : mayM m = { m with off := true } := by unfold mayM; rw [hA.out]; simp [hl]
      have HM := hid hm
      clear hm
      go_enter Try.func62, Try.ntmps62
      go_wp2
      go_ret
      have f := (Fr.refl (fun j => j = d) w).setCell ⟨d, 3, none⟩ (.bool false) (fun _ => rfl)
      refine ⟨by simp [hl], hH.out.upd f (by rw [HM.out]) ?_, f⟩
      rw [HM.out]
      exact hH.out.b.set 3 _
    · have hm : mayM m = { m with left := wrap64 (m.left - 1) } := by unfold mayM; rw [hA.out]; simp [hl]
      have HM := hid hm
      clear hm
      go_enter Try.func62, Try.ntmps62
      go_wp2
      go_ret
      have f := (Fr.refl (fun j => j = d) w).setCell ⟨d, 5, none⟩ (.int .i64 (wrap64 (m.left - 1))) (fun _ => rfl)
      refine ⟨by simp [hl], hH.out.upd f (by rw [HM.out]) ?_, f⟩
      rw [HM.out]
      exact hH.out.b.set 5 _
