import Derived.Test.YtfalehgngioheaaDiskFew
/- What a crash leaves a second crash leaves, behind Sync and Flush. -/
set_option linter.unusedVariables false
namespace Go.Proofs.Ytfalehgngioheaa
open Go.RowKit Go.VB Go.VB.Disk
theorem crashPages_len : ∀ (ps : List Pg) (q : List Int), (crashPages ps q).1.length = ps.length := by
  intro ps
  induction ps with
  | nil => intro q; rfl
  | cons p ps ih =>
    intro q
    unfold crashPages
    split
    · simp [ih]
    · simp [ih]
theorem operate_pages {m : DM} {wrong : Int} {f : DM → DM} (hf : ∀ m' : DM, (f m').pages.length = m'.pages.length) : (m.operate wrong f).1.pages.length = m.pages.length := by
  unfold DM.operate
  split
  · rfl
  · split
    · rfl
    · split
      · rfl
      · rw [hf]
theorem dok_pages {m : DM} (kind n : Int) (s : Bytes) (q : List Int) : (m.dok fill kind n s q).1.pages.length = m.pages.length := by
  unfold DM.dok
  split
  · exact operate_pages fun m' => by simp
  · split
    · exact operate_pages fun m' => by simp
    · split
      · exact operate_pages fun m' => rfl
      · split
        · exact operate_pages fun m' => rfl
        · split
          · rfl
          · split
            · rfl
            · split
              · rfl
              · split
                · exact operate_pages fun m' => rfl
                · exact crashPages_len _ _
theorem crashPages_ws : ∀ (ps : List Pg) (q : List Int), ∀ p ∈ (crashPages ps q).1, p.ws = [] := by
  intro ps
  induction ps with
  | nil => intro q p hp; cases hp
  | cons p ps ih =>
    intro q p' hp
    unfold crashPages at hp
    split at hp
    · rename_i h
      rcases List.mem_cons.1 hp with rfl | hp
      · exact h
      · exact ih _ _ hp
    · rcases List.mem_cons.1 hp with rfl | hp
      · rfl
      · exact ih _ _ hp
theorem crashPages_calm : ∀ (ps : List Pg) (q : List Int), (∀ p ∈ ps, p.ws = []) → crashPages ps q = (ps, q) := by
  intro ps
  induction ps with
  | nil => intro q _; rfl
  | cons p ps ih =>
    intro q h
    unfold crashPages
    rw [if_pos (h p (by simp)), ih q (fun p' hp => h p' (by simp [hp]))]
theorem map_sync_calm {ps : List Pg} (h : ∀ p ∈ ps, p.ws = []) : ps.map Pg.sync = ps := by
  conv => rhs; rw [← List.map_id ps]
  refine List.map_congr_left fun p hp => ?_
  have := h p hp
  obtain ⟨s, ws⟩ := p
  dsimp only at this
  subst this
  rfl
theorem safe_law {m : DM} {kk : Nat} (ok : m.Ok kk) (q1 q2 : List Int) (hp : m.pages.length = 4) :
    (m.crash q1).sync.2 = 0 ∧ (m.crash q1).sync.1.flush.2 = 0 ∧ ((m.crash q1).sync.1.flush.1.crash q2).log = (m.crash q1).log ∧ ((m.crash q1).sync.1.flush.1.crash q2).flushed = (m.crash q1).log.length ∧
      (∀ n, ((m.crash q1).sync.1.flush.1.crash q2).read n = (m.crash q1).read n) ∧ ∀ n : Nat, n < 4 → ((m.crash q1).read n).2 = 0 := by
  have hpl : (m.crash q1).pages.length = 4 := (crashPages_len _ _).trans hp
  have hws : ∀ p ∈ (m.crash q1).pages, p.ws = [] := crashPages_ws _ _
  have hoff : (m.crash q1).off = false := rfl
  have harm : (m.crash q1).armed = false := rfl
  generalize m.crash q1 = m1 at *
  have hs : m1.sync = ({ m1 with pages := m1.pages, left := wrap64 (m1.left - 1) }, 0) := by
    unfold DM.sync DM.operate
    rw [if_neg (by simp [hoff]), if_neg (by simp), if_neg (by simp [harm])]
    simp only [map_sync_calm hws]
  have hf : m1.sync.1.flush = ({ m1 with flushed := m1.log.length, left := wrap64 (wrap64 (m1.left - 1) - 1) }, 0) := by
    rw [hs]
    unfold DM.flush DM.operate
    rw [if_neg (by simp [hoff]), if_neg (by simp), if_neg (by simp [harm])]
  rw [hf, hs]
  have hq : takeQ q2 1 = 0 := by have := LogM.takeQ_lt q2 1 (by omega); omega
  have hc : ({ m1 with flushed := m1.log.length, left := wrap64 (wrap64 (m1.left - 1) - 1) } : DM).crash q2 = { m1 with flushed := m1.log.length, left := wrap64 (wrap64 (m1.left - 1) - 1), off := false, armed := false } := by
    unfold DM.crash
    simp only [crashPages_calm _ _ hws, Nat.sub_self, Nat.zero_add, hq, Nat.add_zero, List.take_length]
  rw [hc]
  refine ⟨rfl, rfl, rfl, rfl, fun n => ?_, fun n hn => ?_⟩
  · simp only [DM.read, DM.is, hoff]
    rfl
  · unfold DM.read DM.is
    rw [if_neg (by simp [hoff]), if_pos (by simp [hpl]; omega)]
end Go.Proofs.Ytfalehgngioheaa
