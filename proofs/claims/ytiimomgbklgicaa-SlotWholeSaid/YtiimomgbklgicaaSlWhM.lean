import Derived.Test.YtiimomgbklgicaaSlX
/- SlotWhole in plain: overlapping transactions. -/
set_option linter.unusedVariables false
namespace Go.VB.Slt
open Go.VB Go.VB.Oct Go.VB.Cat Go.VB.Rec
/-- how many changes transaction i makes -/
def nn (L : List Int) (i : Nat) : Nat := ((L.getD i 0) % 41).toNat
theorem nn_le (L : List Int) (i : Nat) : nn L i ≤ 40 := by unfold nn; omega
theorem nn_int (L : List Int) (i : Nat) : (L.getD i 0) % 41 = (nn L i : Int) := by unfold nn; omega
/-- the first k changes of transaction j -/
def whC (j k : Nat) : List Chg := (List.range k).map fun q => rowC ((100 * j + q : Nat) : Int)
theorem whC_len (j k : Nat) : (whC j k).length = k := by unfold whC; rw [List.length_map, List.length_range]
theorem whC_succ (j k : Nat) : whC j (k + 1) = whC j k ++ [rowC ((100 * j + k : Nat) : Int)] := by unfold whC; rw [List.range_succ, List.map_append]; rfl
/-- transaction j with k changes, followed -/
def PartF (j k : Nat) (fs : List Fol) : Prop := ∃ tl : List Trn, tl.map Trn.c = whC j k ∧ fs = (if tl = [] then [] else [⟨10 + (j : Int), tl⟩])
def PrevF (L : List Int) (i : Nat) (fs : List Fol) : Prop := match i with | 0 => fs = [] | j + 1 => PartF j (nn L j) fs
theorem PartF.xid {j k : Nat} {fs : List Fol} (h : PartF j k fs) : ∀ f ∈ fs, f.xid = 10 + (j : Int) := by
  obtain ⟨tl, -, rfl⟩ := h
  intro f hf
  split at hf
  · simp at hf
  · rw [List.mem_singleton.1 hf]
theorem PrevF.xid {L : List Int} {i : Nat} {fs : List Fol} (h : PrevF L i fs) : ∀ f ∈ fs, f.xid ≠ 10 + (i : Int) ∧ f.xid = 10 + (i : Int) - 1 := by
  cases i with
  | zero => intro f hf; rw [show fs = [] from h] at hf; simp at hf
  | succ j =>
    intro f hf
    have := PartF.xid h f hf
    push_cast
    omega
structure WhQ (L : List Int) (lsn : Int) (want : List Nat) (m : Slt) : Prop where
  ack : m.acked = 0
  last : m.last = lsn
  times : m.times = [(0, [])]
  pos : 0 ≤ lsn
  cs : m.queue.map Dn.cs = want.map fun j => whC j (nn L j)
  asc : (m.queue.map Dn.lsn).Pairwise (· < ·)
  qle : ∀ d ∈ m.queue, d.lsn ≤ lsn
/-- ahead of round i -/
structure Wh (L : List Int) (i : Nat) (lsn : Int) (want : List Nat) (m : Slt) : Prop where
  q : WhQ L lsn want m
  le : lsn ≤ 41 * i
  fols : PrevF L i m.fols
  wj : ∀ j ∈ want, j < i
  wl : want.length ≤ i
/-- within round i: k changes made -/
structure Wm (L : List Int) (i k : Nat) (lsn : Int) (want : List Nat) (m : Slt) : Prop where
  q : WhQ L lsn want m
  le : lsn ≤ 41 * i + k
  fols : ∃ fp fq, m.fols = fp ++ fq ∧ PrevF L i fp ∧ PartF i k fq
  wj : ∀ j ∈ want, j < i
  wl : want.length ≤ i
theorem Wh.new (L : List Int) : Wh L 0 0 [] (newM [115] 0 []) := ⟨⟨rfl, rfl, rfl, Int.le_refl _, rfl, List.Pairwise.nil, fun d hd => by simp [newM] at hd⟩, by simp, rfl, fun j hj => by simp at hj, Nat.le_refl _⟩
theorem Wh.start {L : List Int} {i : Nat} {lsn : Int} {want : List Nat} {m : Slt} (h : Wh L i lsn want m) : Wm L i 0 lsn want m :=
  ⟨h.q, by have := h.le; push_cast; omega, ⟨m.fols, [], by simp, h.fols, [], rfl, rfl⟩, h.wj, h.wl⟩
theorem WhQ.now {L : List Int} {lsn : Int} {want : List Nat} {m : Slt} (h : WhQ L lsn want m) : m.now = [] := by unfold Slt.now; rw [h.times]; rfl
theorem Wm.step {L : List Int} {i k : Nat} {lsn : Int} {want : List Nat} {m : Slt} (h : Wm L i k lsn want m) : Wm L i (k + 1) (lsn + 1) want (feedM m (lsn + 1) ⟨2, 10 + (i : Int), 0, [], [⟨1, ((100 * i + k : Nat) : Int), []⟩], [], []⟩) := by
  obtain ⟨q, le, ⟨fp, fq, e, hp, tl, ht, rfl⟩, hw, hwl⟩ := h
  rw [feed_row (by have := q.last; omega) q.now]
  refine ⟨⟨q.ack, rfl, q.times, by have := q.pos; omega, q.cs, q.asc, fun d hd => by have := q.qle d hd; omega⟩, by push_cast; omega, ⟨fp, addF (if tl = [] then [] else [⟨10 + (i : Int), tl⟩]) (10 + (i : Int)) ⟨lsn + 1, rowC ((100 * i + k : Nat) : Int)⟩, ?_, hp, tl ++ [⟨lsn + 1, rowC ((100 * i + k : Nat) : Int)⟩], ?_, ?_⟩, hw, hwl⟩
  · show addF m.fols _ _ = _
    rw [e, addF_append (fun f hf => (hp.xid f hf).1)]
  · rw [List.map_append, ht, whC_succ]; rfl
  · by_cases h0 : tl = []
    · subst h0
      rw [if_pos rfl, if_neg (by simp)]
      rfl
    · rw [if_neg h0, if_neg (by simp)]
      show (if (10 + (i : Int)) = 10 + (i : Int) then _ else _) = _
      rw [if_pos rfl]
theorem Wm.spilled {L : List Int} {i k : Nat} {lsn : Int} {want : List Nat} {m : Slt} (h : Wm L i k lsn want m) : k - 16 ≤ splM m := by
  obtain ⟨q, le, ⟨fp, fq, e, hp, tl, ht, rfl⟩, hw, hwl⟩ := h
  have hl : tl.length = k := by have := congrArg List.length ht; rwa [List.length_map, whC_len] at this
  unfold splM
  rw [e, List.map_append, List.sum_append]
  by_cases h0 : tl = []
  · rw [h0] at hl; simp at hl; omega
  · rw [if_neg h0]
    simp only [List.map_cons, List.map_nil, List.sum_cons, List.sum_nil]
    omega
theorem Wm.first {L : List Int} {lsn : Int} {want : List Nat} {m : Slt} (h : Wm L 0 (nn L 0) lsn want m) : Wh L 1 lsn want m := by
  obtain ⟨q, le, ⟨fp, fq, e, hp, hf⟩, hw, hwl⟩ := h
  have hp : fp = [] := hp
  subst hp
  exact ⟨q, by have := nn_le L 0; push_cast at *; omega, by rw [e]; exact hf, fun j hj => by have := hw j hj; omega, by omega⟩
theorem part_ne {j : Nat} {tl : List Trn} {x : Int} (h : x ≠ 10 + (j : Int)) : mine (if tl = [] then [] else [(⟨10 + (j : Int), tl⟩ : Fol)]) [x] = [] ∧ others (if tl = [] then [] else [(⟨10 + (j : Int), tl⟩ : Fol)]) [x] = (if tl = [] then [] else [(⟨10 + (j : Int), tl⟩ : Fol)]) := by
  have h' : ¬ (10 + (j : Int)) = x := fun e => h e.symm
  split
  · exact ⟨rfl, rfl⟩
  · exact ⟨by simp [mine, h'], by simp [others, h']⟩
theorem part_eq {j : Nat} {tl : List Trn} : mine (if tl = [] then [] else [(⟨10 + (j : Int), tl⟩ : Fol)]) [10 + (j : Int)] = (if tl = [] then [] else [(⟨10 + (j : Int), tl⟩ : Fol)]) ∧ others (if tl = [] then [] else [(⟨10 + (j : Int), tl⟩ : Fol)]) [10 + (j : Int)] = [] := by
  split
  · exact ⟨rfl, rfl⟩
  · exact ⟨by simp [mine], by simp [others]⟩
theorem mine_append (a b : List Fol) (xs : List Int) : mine (a ++ b) xs = mine a xs ++ mine b xs := List.filter_append ..
theorem others_append (a b : List Fol) (xs : List Int) : others (a ++ b) xs = others a xs ++ others b xs := List.filter_append ..
theorem part_turns (j : Nat) (tl : List Trn) : turnsOf (if tl = [] then [] else [(⟨10 + (j : Int), tl⟩ : Fol)]) = tl := by
  by_cases h : tl = []
  · rw [if_pos h, h]; rfl
  · rw [if_neg h]; simp [turnsOf]
/-- the transaction ahead ends: kind 5 or 6 -/
theorem Wm.fin {L : List Int} {j : Nat} {lsn : Int} {want : List Nat} {m : Slt} (h : Wm L (j + 1) (nn L (j + 1)) lsn want m) (ok : SOk m) {kind : Int} (hk : kind = 5 ∨ kind = 6) :
    Wh L (j + 2) (lsn + 1) (if kind = 5 ∧ 0 < nn L j then want ++ [j] else want) (feedM m (lsn + 1) ⟨kind, 10 + (j : Int), 0, [], [], [], []⟩) := by
  obtain ⟨q, le, ⟨fp, fq, e, ⟨tl, ht, rfl⟩, tq, hq, rfl⟩, hw, hwl⟩ := h
  have hn := nn_le L (j + 1)
  have hl : tl.length = nn L j := by have := congrArg List.length ht; rwa [List.length_map, whC_len] at this
  have e1 : others m.fols [10 + (j : Int)] = (if tq = [] then [] else [(⟨10 + ((j + 1 : Nat) : Int), tq⟩ : Fol)]) := by
    rw [e, others_append, part_eq.2, (part_ne (j := j + 1) (by push_cast; omega)).2, List.nil_append]
  have e2 : turnsOf (mine m.fols [10 + (j : Int)]) = tl := by
    rw [e, mine_append, part_eq.1, (part_ne (j := j + 1) (by push_cast; omega)).1, List.append_nil, part_turns]
  have hpos := q.pos
  rcases hk with rfl | rfl
  · rw [feed_commit (by have := q.last; omega) rfl]
    show Wh L (j + 2) (lsn + 1) _ (queueM { m with last := lsn + 1, fols := others m.fols [10 + (j : Int)] } (lsn + 1) (sortT (turnsOf (mine m.fols [10 + (j : Int)]))))
    rw [e1, e2]
    by_cases h0 : tl = []
    · have hz : nn L j = 0 := by rw [← hl, h0]; rfl
      rw [h0, show sortT [] = [] from sortT_of List.Pairwise.nil, queueM_nil, if_neg (by omega)]
      exact ⟨⟨q.ack, rfl, q.times, by omega, q.cs, q.asc, fun d hd => by have := q.qle d hd; omega⟩, by push_cast at *; omega, ⟨tq, hq, rfl⟩, fun x hx => by have := hw x hx; omega, by omega⟩
    · have hz : 0 < nn L j := by rw [← hl]; exact List.length_pos_iff.2 h0
      have hasc : tl.Pairwise fun a b => a.lsn ≤ b.lsn := by
        have := ok.asc ⟨10 + (j : Int), tl⟩ (by rw [e, if_neg h0]; simp)
        exact this.imp (fun h => by omega)
      rw [sortT_of hasc, if_pos ⟨rfl, hz⟩]
      unfold queueM
      rw [if_neg (fun h => h.elim h0 (fun h => by have h : lsn + 1 ≤ m.acked := h; rw [q.ack] at h; omega))]
      refine ⟨⟨q.ack, rfl, q.times, by omega, ?_, ?_, fun d hd => ?_⟩, by push_cast at *; omega, ⟨tq, hq, rfl⟩, fun x hx => ?_, by rw [List.length_append, List.length_singleton]; omega⟩
      · show (m.queue ++ _).map Dn.cs = _
        rw [List.map_append, List.map_append, q.cs]
        show _ ++ [tl.map Trn.c] = _
        rw [ht]
        rfl
      · show ((m.queue ++ _).map Dn.lsn).Pairwise _
        rw [List.map_append, List.pairwise_append]
        refine ⟨q.asc, List.pairwise_singleton _ _, fun a ha b hb => ?_⟩
        obtain ⟨d, hd, rfl⟩ := List.mem_map.1 ha
        have hb : b = lsn + 1 := by simpa using hb
        have := q.qle d hd
        omega
      · rcases List.mem_append.1 hd with g | g
        · have := q.qle d g; omega
        · rw [List.mem_singleton.1 g]; exact Int.le_refl _
      · rcases List.mem_append.1 hx with g | g
        · have := hw x g; omega
        · rw [List.mem_singleton.1 g]; omega
  · rw [feed_abort (by have := q.last; omega) rfl]
    show Wh L (j + 2) (lsn + 1) _ { m with last := lsn + 1, fols := others m.fols [10 + (j : Int)] }
    rw [e1, if_neg (fun h => absurd h.1 (by decide))]
    exact ⟨⟨q.ack, rfl, q.times, by omega, q.cs, q.asc, fun d hd => by have := q.qle d hd; omega⟩, by push_cast at *; omega, ⟨tq, hq, rfl⟩, fun x hx => by have := hw x hx; omega, by omega⟩
theorem Wh.told_len {L : List Int} {i : Nat} {lsn : Int} {want : List Nat} {m : Slt} (h : Wh L i lsn want m) : m.queue.length = want.length := by
  have := congrArg List.length h.q.cs
  rwa [List.length_map, List.length_map] at this
theorem Wh.told_at {L : List Int} {i : Nat} {lsn : Int} {want : List Nat} {m : Slt} (h : Wh L i lsn want m) {t : Nat} (ht : t < want.length) : ∃ l, m.told[t]? = some (l, whC want[t] (nn L want[t])) ∧ ∀ p, p < t → ∃ l', m.told[p]?.map Prod.fst = some l' ∧ l' < l := by
  have hl := h.told_len
  have hq : t < m.queue.length := by omega
  refine ⟨m.queue[t].lsn, ?_, fun p hp => ⟨m.queue[p].lsn, ?_, ?_⟩⟩
  · have e := congrArg (fun l => l[t]?) h.q.cs
    simp only [List.getElem?_map, List.getElem?_eq_getElem hq, List.getElem?_eq_getElem ht, Option.map_some, Option.some.injEq] at e
    unfold Slt.told
    rw [List.getElem?_map, List.getElem?_eq_getElem hq, Option.map_some, e]
  · unfold Slt.told
    rw [List.getElem?_map, List.getElem?_eq_getElem (by omega), Option.map_some, Option.map_some]
  · have := List.pairwise_iff_getElem.1 h.q.asc p t (by rw [List.length_map]; omega) (by rw [List.length_map]; omega) hp
    rwa [List.getElem_map, List.getElem_map] at this
end Go.VB.Slt
