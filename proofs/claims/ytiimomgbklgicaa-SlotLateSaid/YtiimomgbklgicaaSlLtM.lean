import Derived.Test.YtiimomgbklgicaaSlZ
/- SlotLate in plain: consecutive transactions. -/
set_option linter.unusedVariables false
namespace Go.VB.Slt
open Go.VB Go.VB.Oct Go.VB.Cat Go.VB.Rec
def ltC (k : Nat) : List Chg := (List.range k).map fun (q : Nat) => rowC (q : Int)
theorem ltC_succ (k : Nat) : ltC (k + 1) = ltC k ++ [rowC (k : Int)] := by unfold ltC; rw [List.range_succ, List.map_append]; rfl
theorem ltC_len (k : Nat) : (ltC k).length = k := by unfold ltC; rw [List.length_map, List.length_range]
/-- transaction x with j changes so far; q is told -/
structure Lt (x : Int) (j : Nat) (lsn : Int) (q : List (Int × List Chg)) (m : Slt) : Prop where
  ack : m.acked ≤ m.last
  last : m.last = lsn
  now : m.now = []
  told : m.told = q
  part : ∃ tl : List Trn, tl.map Trn.c = ltC j ∧ m.fols = (if tl = [] then [] else [⟨x, tl⟩])
theorem Lt.new (name : Bs) (lsn x : Int) : Lt x 0 lsn [] (newM name lsn []) := ⟨Int.le_refl _, rfl, rfl, rfl, [], rfl, rfl⟩
theorem Lt.step {x lsn : Int} {j : Nat} {q : List (Int × List Chg)} {m : Slt} (h : Lt x j lsn q m) : Lt x (j + 1) (lsn + 1) q (feedM m (lsn + 1) ⟨2, x, 0, [], [⟨1, (j : Int), []⟩], [], []⟩) := by
  have hl := h.last
  have ha := h.ack
  obtain ⟨tl, ht, hf⟩ := h.part
  rw [feed_row (by omega) h.now]
  refine ⟨by show m.acked ≤ lsn + 1; omega, rfl, h.now, h.told, tl ++ [⟨lsn + 1, rowC (j : Int)⟩], by rw [List.map_append, ht, ltC_succ]; rfl, ?_⟩
  show addF m.fols x _ = _
  rw [hf]
  by_cases h0 : tl = []
  · subst h0
    rw [if_pos rfl, if_neg (by simp)]
    rfl
  · rw [if_neg h0, if_neg (by simp)]
    show (if x = x then _ else _) = _
    rw [if_pos rfl]
/-- what a commit adds -/
def ltQ (j : Nat) (lsn : Int) : List (Int × List Chg) := if j = 0 then [] else [(lsn, ltC j)]
theorem ltQ_len (j : Nat) (lsn : Int) : (ltQ j lsn).length ≤ 1 := by unfold ltQ; split <;> simp
theorem Lt.commit {x lsn : Int} {j : Nat} {q : List (Int × List Chg)} {m : Slt} (h : Lt x j lsn q m) (ok : SOk m) (y n : Int) : Lt y 0 (lsn + 1) (q ++ ltQ j (lsn + 1)) (feedM m (lsn + 1) ⟨5, x, 0, [], [⟨1, n, []⟩], [], []⟩) := by
  have hl := h.last
  have ha := h.ack
  obtain ⟨tl, ht, hf⟩ := h.part
  have hlen : tl.length = j := by have := congrArg List.length ht; rwa [List.length_map, ltC_len] at this
  rw [feed_commit (by omega) rfl]
  show Lt y 0 (lsn + 1) _ (queueM { m with last := lsn + 1, fols := others m.fols [x] } (lsn + 1) (sortT (turnsOf (mine m.fols [x]))))
  have e1 : others m.fols [x] = [] := by
    rw [hf]
    split
    · rfl
    · simp [others]
  have e2 : turnsOf (mine m.fols [x]) = tl := by
    rw [hf]
    by_cases h0 : tl = []
    · rw [if_pos h0, h0]; rfl
    · rw [if_neg h0]; simp [mine, turnsOf]
  have hasc : tl.Pairwise fun a b => a.lsn ≤ b.lsn := by
    by_cases h0 : tl = []
    · rw [h0]; exact List.Pairwise.nil
    · have := ok.asc ⟨x, tl⟩ (by rw [hf, if_neg h0]; simp)
      exact this.imp (fun h => by omega)
  rw [e1, e2, sortT_of hasc]
  by_cases h0 : tl = []
  · have hz : j = 0 := by rw [← hlen, h0]; rfl
    rw [h0, queueM_nil]
    exact ⟨by show m.acked ≤ lsn + 1; omega, rfl, h.now, by unfold ltQ; rw [if_pos hz, List.append_nil]; exact h.told, [], rfl, rfl⟩
  · have hz : ¬ j = 0 := by
      intro e
      rw [e] at hlen
      exact h0 (List.eq_nil_of_length_eq_zero hlen)
    unfold queueM
    rw [if_neg (fun g => g.elim h0 (fun g => by have g : lsn + 1 ≤ m.acked := g; omega))]
    refine ⟨by show m.acked ≤ lsn + 1; omega, rfl, h.now, ?_, [], rfl, rfl⟩
    show (m.queue ++ [_]).map _ = _
    unfold ltQ
    rw [if_neg hz, List.map_append]
    have := h.told
    unfold Slt.told at this
    rw [this]
    show _ ++ [(lsn + 1, tl.map Trn.c)] = _
    rw [ht]
theorem Lt.fresh {x y lsn : Int} {q : List (Int × List Chg)} {m : Slt} (h : Lt x 0 lsn q m) : Lt y 0 lsn q m := by
  obtain ⟨tl, ht, hf⟩ := h.part
  have h0 : tl = [] := List.map_eq_nil_iff.1 ht
  subst h0
  exact ⟨h.ack, h.last, h.now, h.told, [], rfl, hf⟩
end Go.VB.Slt
