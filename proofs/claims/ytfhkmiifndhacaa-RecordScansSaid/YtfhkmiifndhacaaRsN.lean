/- Proved: what the reference's Scan holds between two rounds (a log in a variable, its two lists), kept by a round's own writing and by one more record. Conditions: each theorem's own premises. -/
import Derived.Test.YtfhkmiifndhacaaRdC
import Derived.Test.YtfhkmiifndhacaaScA
set_option linter.unusedVariables false
namespace Go.VB.Rec
open Go.VB.Oct
theorem take_keep {r : RM} (h : r.failed = true) (n : Nat) : (r.take n).1.failed = true := by
  unfold RM.take RM.bad
  rw [if_pos (by rw [h]; rfl)]
theorem take_fail {r : RM} {n : Nat} (h : r.left < n) : (r.take n).1.failed = true := by
  unfold RM.take RM.bad
  rw [if_pos (by simp [h])]
theorem take_good {r : RM} {n : Nat} (h : r.failed = false) (hn : ¬ r.left < n) : r.take n = ({ r with at_ := r.at_ + n }, (r.s.drop r.at_).take n) := by
  unfold RM.take RM.bad
  rw [if_neg (by rw [h]; simpa using hn)]
theorem scan1_shortR {s : List UInt8} {a : Nat} {m1 m2 : RM × Nat} (h1 : (RM.mk s a false).num 4 = m1) (h2 : m1.1.num 4 = m2) (hf : m2.1.failed = true) : scan1 s a = none := by
  subst h1 h2
  unfold scan1
  dsimp only
  rw [if_pos (by rw [take_keep hf]; rfl)]
theorem scan1_left {s : List UInt8} {a : Nat} {m1 m2 : RM × Nat} (h1 : (RM.mk s a false).num 4 = m1) (h2 : m1.1.num 4 = m2) (hl : m2.1.left < m1.2) : scan1 s a = none := by
  subst h1 h2
  unfold scan1
  dsimp only
  rw [if_pos (by rw [take_fail hl]; rfl)]
theorem scan1_at {s : List UInt8} {a : Nat} {m1 m2 : RM × Nat} (h1 : (RM.mk s a false).num 4 = m1) (h2 : m1.1.num 4 = m2) (hf : m2.1.failed = false) : m2.1 = ⟨s, a + 8, false⟩ ∧ a + 8 ≤ s.length := by
  subst h1 h2
  obtain ⟨g1, g2, g3⟩ := take_at ((RM.mk s a false).num 4).1 4 hf
  obtain ⟨k1, k2, k3⟩ := take_at (RM.mk s a false) 4 g1
  have hs : ((RM.mk s a false).num 4).1.s = s := RM.take_s _ _
  have hs2 : (((RM.mk s a false).num 4).1.num 4).1.s = s := by rw [show (((RM.mk s a false).num 4).1.num 4).1 = (((RM.mk s a false).num 4).1.take 4).1 from rfl, RM.take_s, hs]
  have e1 : (RM.mk s a false).left = s.length - a := rfl
  have k2' : ((RM.mk s a false).num 4).1.at_ = a + 4 := k2
  have g2' : (((RM.mk s a false).num 4).1.num 4).1.at_ = ((RM.mk s a false).num 4).1.at_ + 4 := g2
  have e2 : ((RM.mk s a false).num 4).1.left = s.length - ((RM.mk s a false).num 4).1.at_ := by unfold RM.left; rw [hs]
  generalize (((RM.mk s a false).num 4).1.num 4) = m at *
  obtain ⟨⟨ms, ma, mf⟩, mn⟩ := m
  dsimp only at *
  subst hs2 hf
  exact ⟨by rw [g2', k2'], by omega⟩
theorem scan1_rest {s : List UInt8} {a : Nat} {m1 m2 : RM × Nat} (h1 : (RM.mk s a false).num 4 = m1) (h2 : m1.1.num 4 = m2) (hf : m2.1.failed = false) (hl : ¬ s.length - (a + 8) < m1.2) :
    scan1 s a = if sum ((s.drop (a + 8)).take m1.2) ≠ m2.2 then none else if (readR ((s.drop (a + 8)).take m1.2)).2 ≠ 0 then none else some ((readR ((s.drop (a + 8)).take m1.2)).1, a + 8 + m1.2) := by
  obtain ⟨e, hle⟩ := scan1_at h1 h2 hf
  subst h1 h2
  have ht := take_good (r := (((RM.mk s a false).num 4).1.num 4).1) (n := ((RM.mk s a false).num 4).2) hf (by rw [e]; exact hl)
  unfold scan1
  dsimp only
  rw [ht, e]
  simp
end Go.VB.Rec
namespace Go.Proofs.Ytfhkmiifndhacaa
open Go.RowKit Go.VB Go.VB.Oct Go.VB.Rec
/-- the reference's log so far: the result's cells, the log's cells behind them, both lists -/
structure ScR (w0 W : World) (vl va : Value) (qs : List Q) (ats : List Int) : Prop where
  res : Blk W w0.heap.size [.slice none 0 0, .slice none 0 0] 90
  out : Blk W (w0.heap.size + 1) [vl, va] 90
  l : Row 27 8 w0.heap.size W vl qs.length (qs.flatMap Q.cells)
  a : Row 3 1 w0.heap.size W va ats.length (ats.flatMap icell)
  q : ∀ q ∈ qs, q.RV (PS (w0.heap.size + 1) W vl va) W
  fr : Fr (fun _ => False) w0 W
namespace ScR
variable {w0 W W' wg : World} {vl va v' : Value} {qs : List Q} {ats : List Int}
theorem fre (h : ScR w0 W vl va qs ats) (f : Fr (fun _ => False) W W') : ScR w0 W' vl va qs ats :=
  ⟨h.res.fr f (fun h => h), h.out.fr f (fun h => h), h.l.fr f (fun _ _ h => h), h.a.fr f (fun _ _ h => h),
    fun q hq => ((h.q q hq).fr f (fun _ _ h => h)).mono (fun k hk => ⟨hk.1, Nat.lt_of_lt_of_le hk.2.1 f.size, hk.2.2⟩) (fun k hk => hk.2.1), h.fr.trans f (fun _ h _ => h)⟩
/-- one more record: the list grows, and the log's cell takes the new list -/
theorem growL (h : ScR w0 W vl va qs ats) {x : Q} (hx : x.RV (PS (w0.heap.size + 1) W vl va) W) (hg : App 27 8 w0.heap.size W wg vl v' qs.length (qs.flatMap Q.cells) x.cells) : ScR w0 (wg.setCell ⟨w0.heap.size + 1, 0, none⟩ v') v' va (qs ++ [x]) ats := by
  have hne : ∀ {d l t}, Blk W d l t → t ≠ 27 → ¬ (vl.ownBlock = some d) := fun b ht hk => h.l.ne b ht _ hk rfl
  have hq : ∀ q : Q, q.RV (PS (w0.heap.size + 1) W vl va) W → q.RV (PS (w0.heap.size + 1) wg v' va) wg := fun q hq => (hq.fr hg.fr (fun k hk e => hk.2.2.1 e)).mono (fun k hk => ⟨hk.1, Nat.lt_of_lt_of_le hk.2.1 hg.fr.size, fun e => (hg.at_ k e).elim hk.2.2.1 (fun e => by have := hk.2.1; omega), hk.2.2.2⟩) (fun k hk => hk.2.1)
  have FS : Fr (fun k => k = w0.heap.size + 1) wg (wg.setCell ⟨w0.heap.size + 1, 0, none⟩ v') := (Fr.refl _ wg).setCell _ _ (fun _ => rfl)
  have ho : Blk wg (w0.heap.size + 1) [vl, va] 90 := h.out.fr hg.fr (hne h.out (by decide))
  have hl : Row 27 8 w0.heap.size wg v' (qs ++ [x]).length ((qs ++ [x]).flatMap Q.cells) := hg.row.cast (by simp) (by simp)
  have ha : Row 3 1 w0.heap.size wg va ats.length (ats.flatMap icell) := h.a.fr hg.fr (fun k hk => row_apart h.a h.l (by decide) k hk)
  refine ⟨(h.res.fr hg.fr (hne h.res (by decide))).fr FS (by omega), ho.set 0 v', hl.fr FS (fun k hk e => hl.ne ho (by decide) k hk e), ha.fr FS (fun k hk e => ha.ne ho (by decide) k hk e), ?_, ?_⟩
  · intro q hm
    have h1 : q.RV (PS (w0.heap.size + 1) wg v' va) wg := by
      rcases List.mem_append.1 hm with hm | hm
      · exact hq q (h.q q hm)
      · obtain rfl := List.mem_singleton.1 hm
        exact hq _ hx
    exact (h1.fr FS (fun k hk e => by have := hk.1; omega)).mono (fun k hk => ⟨hk.1, Nat.lt_of_lt_of_le hk.2.1 FS.size, hk.2.2⟩) (fun k hk => hk.2.1)
  · exact (h.fr.trans hg.fr (fun k hk hl => by have := h.l.new k hk; omega)).trans FS (fun k hk hl => by omega)
theorem growA (h : ScR w0 W vl va qs ats) {x : Int} (hg : App 3 1 w0.heap.size W wg va v' ats.length (ats.flatMap icell) (icell x)) : ScR w0 (wg.setCell ⟨w0.heap.size + 1, 1, none⟩ v') vl v' qs (ats ++ [x]) := by
  have hne : ∀ {d l t}, Blk W d l t → t ≠ 3 → ¬ (va.ownBlock = some d) := fun b ht hk => h.a.ne b ht _ hk rfl
  have FS : Fr (fun k => k = w0.heap.size + 1) wg (wg.setCell ⟨w0.heap.size + 1, 1, none⟩ v') := (Fr.refl _ wg).setCell _ _ (fun _ => rfl)
  have ho : Blk wg (w0.heap.size + 1) [vl, va] 90 := h.out.fr hg.fr (hne h.out (by decide))
  have ha : Row 3 1 w0.heap.size wg v' (ats ++ [x]).length ((ats ++ [x]).flatMap icell) := hg.row.cast (by simp) (by simp)
  have hl : Row 27 8 w0.heap.size wg vl qs.length (qs.flatMap Q.cells) := h.l.fr hg.fr (fun k hk => row_apart h.l h.a (by decide) k hk)
  refine ⟨(h.res.fr hg.fr (hne h.res (by decide))).fr FS (by omega), ho.set 1 v', hl.fr FS (fun k hk e => hl.ne ho (by decide) k hk e), ha.fr FS (fun k hk e => ha.ne ho (by decide) k hk e), ?_, ?_⟩
  · intro q hm
    have h1 : q.RV (PS (w0.heap.size + 1) wg vl v') wg := ((h.q q hm).fr hg.fr (fun k hk e => hk.2.2.2 e)).mono (fun k hk => ⟨hk.1, Nat.lt_of_lt_of_le hk.2.1 hg.fr.size, hk.2.2.1, fun e => (hg.at_ k e).elim hk.2.2.2 (fun e => by have := hk.2.1; omega)⟩) (fun k hk => hk.2.1)
    exact (h1.fr FS (fun k hk e => by have := hk.1; omega)).mono (fun k hk => ⟨hk.1, Nat.lt_of_lt_of_le hk.2.1 FS.size, hk.2.2⟩) (fun k hk => hk.2.1)
  · exact (h.fr.trans hg.fr (fun k hk hl => by have := h.a.new k hk; omega)).trans FS (fun k hk hl => by omega)
end ScR
end Go.Proofs.Ytfhkmiifndhacaa
