import Derived.Test.YtiimomgbklgicaaSlZ
/- SlotMixed in plain: three transactions, interleaved. -/
set_option linter.unusedVariables false
namespace Go.VB.Slt
open Go.VB Go.VB.Oct Go.VB.Cat Go.VB.Rec
theorem mine_cons (f : Fol) (l : List Fol) (y : Int) : mine (f :: l) [y] = if f.xid = y then f :: mine l [y] else mine l [y] := by
  unfold mine
  rw [List.filter_cons]
  by_cases h : f.xid = y
  · rw [if_pos h, if_pos (by simp [h])]
  · rw [if_neg h, if_neg (by simp [h])]
theorem others_cons (f : Fol) (l : List Fol) (y : Int) : others (f :: l) [y] = if f.xid = y then others l [y] else f :: others l [y] := by
  unfold others
  rw [List.filter_cons]
  by_cases h : f.xid = y
  · rw [if_pos h, if_neg (by simp [h])]
  · rw [if_neg h, if_pos (by simp [h])]
theorem mine_no {l : List Fol} {x : Int} (h : ∀ f ∈ l, f.xid ≠ x) : mine l [x] = [] := by
  induction l with
  | nil => rfl
  | cons f l ih => rw [mine_cons, if_neg (h f (List.mem_cons_self ..)), ih (fun g hg => h g (List.mem_cons_of_mem _ hg))]
theorem mine_addF {l : List Fol} (hn : (l.map Fol.xid).Nodup) (x y : Int) (t : Trn) : turnsOf (mine (addF l x t) [y]) = turnsOf (mine l [y]) ++ (if y = x then [t] else []) := by
  induction l with
  | nil =>
    show turnsOf (mine [⟨x, [t]⟩] [y]) = _
    rw [mine_cons]
    by_cases h : x = y
    · subst h
      rw [if_pos rfl, if_pos rfl]; rfl
    · rw [if_neg h, if_neg (fun e => h e.symm)]; rfl
  | cons f l ih =>
    rw [List.map_cons, List.nodup_cons] at hn
    unfold addF
    by_cases hf : f.xid = x
    · rw [if_pos hf, mine_cons, mine_cons]
      have hno : ∀ g ∈ l, g.xid ≠ x := fun g hg e => hn.1 (by rw [hf, ← e]; exact List.mem_map_of_mem hg)
      by_cases h : x = y
      · subst h
        rw [if_pos hf, if_pos hf, if_pos rfl, mine_no hno]
        simp [turnsOf]
      · rw [if_neg (by rw [hf]; exact h), if_neg (by rw [hf]; exact h), if_neg (fun e => h e.symm), List.append_nil]
    · rw [if_neg hf, mine_cons, mine_cons]
      by_cases h : f.xid = y
      · rw [if_pos h, if_pos h]
        have := ih hn.2
        simp only [turnsOf, List.flatMap_cons] at this ⊢
        rw [this, List.append_assoc]
      · rw [if_neg h, if_neg h]; exact ih hn.2
theorem addF_only {l : List Fol} {x : Int} {t : Trn} {P : Int → Prop} (h : ∀ f ∈ l, P f.xid) (hx : P x) : ∀ f ∈ addF l x t, P f.xid := by
  induction l with
  | nil => intro f hf; rw [List.mem_singleton.1 hf]; exact hx
  | cons g l ih =>
    intro f hf
    unfold addF at hf
    split at hf
    · rcases List.mem_cons.1 hf with e | e
      · rw [e]; exact h g (List.mem_cons_self ..)
      · exact h f (List.mem_cons_of_mem _ e)
    · rcases List.mem_cons.1 hf with e | e
      · rw [e]; exact h g (List.mem_cons_self ..)
      · exact ih (fun f hf => h f (List.mem_cons_of_mem _ hf)) f e
theorem mine_out (l : List Fol) (x y : Int) : mine (others l [x]) [y] = if y = x then [] else mine l [y] := by
  induction l with
  | nil => split <;> rfl
  | cons f l ih =>
    rw [others_cons]
    by_cases hf : f.xid = x
    · rw [if_pos hf, ih, mine_cons]
      by_cases h : y = x
      · rw [if_pos h, if_pos h]
      · rw [if_neg h, if_neg h, if_neg (fun e : f.xid = y => h (e.symm.trans hf))]
    · rw [if_neg hf, mine_cons, ih, mine_cons]
      by_cases h : f.xid = y
      · rw [if_pos h, if_pos h]
        by_cases h2 : y = x
        · exact absurd (h.trans h2) hf
        · rw [if_neg h2, if_neg h2]
      · rw [if_neg h, if_neg h]
theorem mem_out {l : List Fol} {x : Int} {f : Fol} (h : f ∈ others l [x]) : f ∈ l ∧ f.xid ≠ x := by
  obtain ⟨h1, h2⟩ := List.mem_filter.1 h
  exact ⟨h1, by simpa using h2⟩
theorem mine_one {l : List Fol} (hn : (l.map Fol.xid).Nodup) (x : Int) : mine l [x] = [] ∨ ∃ f ∈ l, f.xid = x ∧ mine l [x] = [f] := by
  induction l with
  | nil => exact .inl rfl
  | cons f l ih =>
    rw [List.map_cons, List.nodup_cons] at hn
    rw [mine_cons]
    by_cases hf : f.xid = x
    · rw [if_pos hf, mine_no (fun g hg e => hn.1 (by rw [hf, ← e]; exact List.mem_map_of_mem hg))]
      exact .inr ⟨f, List.mem_cons_self .., hf, rfl⟩
    · rw [if_neg hf]
      rcases ih hn.2 with h | ⟨g, hg, h1, h2⟩
      · exact .inl h
      · exact .inr ⟨g, List.mem_cons_of_mem _ hg, h1, h2⟩
theorem mine_asc {m : Slt} (ok : SOk m) (x : Int) : (turnsOf (mine m.fols [x])).Pairwise fun a b => a.lsn ≤ b.lsn := by
  rcases mine_one ok.nod x with h | ⟨f, hf, -, h⟩
  · rw [h]; exact List.Pairwise.nil
  · rw [h]
    have := ok.asc f hf
    simp only [turnsOf, List.flatMap_cons, List.flatMap_nil, List.append_nil]
    exact this.imp (fun h => by omega)
/-- the first k changes of transaction x -/
def mxC (x k : Nat) : List Chg := (List.range k).map fun (q : Nat) => rowC (10 * (x : Int) + (q : Int))
theorem mxC_succ (x k : Nat) : mxC x (k + 1) = mxC x k ++ [rowC (10 * (x : Int) + (k : Int))] := by unfold mxC; rw [List.range_succ, List.map_append]; rfl
theorem mxC_len (x k : Nat) : (mxC x k).length = k := by unfold mxC; rw [List.length_map, List.length_range]
def updN (f : Nat → Nat) (x v : Nat) : Nat → Nat := fun y => if y = x then v else f y
structure Mx (at_ : Nat → Nat) (lsn : Int) (m : Slt) : Prop where
  ack : m.acked = 0
  last : m.last = lsn
  times : m.times = [(0, [])]
  pos : 0 ≤ lsn
  q : m.queue = []
  part : ∀ x : Nat, x < 3 → (turnsOf (mine m.fols [3 + (x : Int)])).map Trn.c = mxC x (at_ x)
  only : ∀ f ∈ m.fols, ∃ x : Nat, x < 3 ∧ f.xid = 3 + (x : Int)
theorem Mx.new : Mx (fun _ => 0) 0 (newM [115] 0 []) := ⟨rfl, rfl, rfl, Int.le_refl _, rfl, fun x _ => rfl, fun f hf => by simp [newM] at hf⟩
theorem Mx.step {at_ : Nat → Nat} {lsn : Int} {m : Slt} (h : Mx at_ lsn m) (ok : SOk m) {x : Nat} (hx : x < 3) : Mx (updN at_ x (at_ x + 1)) (lsn + 1) (feedM m (lsn + 1) ⟨2, 3 + (x : Int), 0, [], [⟨1, 10 * (x : Int) + (at_ x : Int), []⟩], [], []⟩) := by
  have hp := h.pos
  rw [feed_row (by have := h.last; omega) (by unfold Slt.now; rw [h.times]; rfl)]
  refine ⟨h.ack, rfl, h.times, by omega, h.q, fun y hy => ?_, addF_only (P := fun z => ∃ x : Nat, x < 3 ∧ z = 3 + (x : Int)) h.only ⟨x, hx, rfl⟩⟩
  show (turnsOf (mine (addF m.fols _ _) _)).map Trn.c = _
  rw [mine_addF ok.nod, List.map_append, h.part y hy]
  unfold updN
  by_cases e : y = x
  · subst e
    rw [if_pos rfl, if_pos rfl, mxC_succ]; rfl
  · rw [if_neg (by omega), if_neg e]; simp
theorem Mx.cast {at_ at' : Nat → Nat} {lsn : Int} {m : Slt} (h : Mx at_ lsn m) (e : ∀ x, x < 3 → at_ x = at' x) : Mx at' lsn m := ⟨h.ack, h.last, h.times, h.pos, h.q, fun x hx => by rw [← e x hx]; exact h.part x hx, h.only⟩
/-- what d commits told -/
def mxT (c : Nat → Nat) (T : Int) (d : Nat) : List (Int × List Chg) := (List.range d).flatMap fun x => if c (2 - x) = 0 then [] else [(T + 1 + (x : Int), mxC (2 - x) (c (2 - x)))]
theorem mxT_len (c : Nat → Nat) (T : Int) (d : Nat) : (mxT c T d).length ≤ d := by
  unfold mxT
  induction d with
  | zero => exact Nat.le_refl _
  | succ d ih =>
    rw [List.range_succ, List.flatMap_append, List.length_append]
    simp only [List.flatMap_cons, List.flatMap_nil, List.append_nil]
    split
    · rw [List.length_nil]; omega
    · rw [List.length_singleton]; omega
structure Mc (c : Nat → Nat) (T : Int) (d : Nat) (m : Slt) : Prop where
  ack : m.acked = 0
  last : m.last = T + d
  pos : 0 ≤ T
  told : m.told = mxT c T d
  part : ∀ x : Nat, x + d < 3 → (turnsOf (mine m.fols [3 + (x : Int)])).map Trn.c = mxC x (c x)
  only : ∀ f ∈ m.fols, ∃ x : Nat, x + d < 3 ∧ f.xid = 3 + (x : Int)
theorem Mc.start {c : Nat → Nat} {T : Int} {m : Slt} (h : Mx c T m) : Mc c T 0 m :=
  ⟨h.ack, by rw [h.last]; simp, h.pos, by unfold Slt.told; rw [h.q]; rfl, fun x hx => h.part x (by omega), fun f hf => by obtain ⟨x, h1, h2⟩ := h.only f hf; exact ⟨x, by omega, h2⟩⟩
theorem Mc.step {c : Nat → Nat} {T : Int} {d : Nat} {m : Slt} (h : Mc c T d m) (ok : SOk m) (hd : d < 3) : Mc c T (d + 1) (feedM m (T + 1 + (d : Int)) ⟨5, 5 - (d : Int), 0, [], [], [], []⟩) := by
  have hp := h.pos
  have hl := h.last
  have e5 : (5 : Int) - (d : Int) = 3 + ((2 - d : Nat) : Int) := by omega
  have hpt := h.part (2 - d) (by omega)
  rw [feed_commit (by omega) rfl]
  show Mc c T (d + 1) (queueM { m with last := T + 1 + (d : Int), fols := others m.fols [5 - (d : Int)] } (T + 1 + (d : Int)) (sortT (turnsOf (mine m.fols [5 - (d : Int)]))))
  rw [sortT_of (mine_asc ok _), e5]
  generalize turnsOf (mine m.fols [3 + ((2 - d : Nat) : Int)]) = tl at *
  have hlen : tl.length = c (2 - d) := by have := congrArg List.length hpt; rwa [List.length_map, mxC_len] at this
  have hpart : ∀ x : Nat, x + (d + 1) < 3 → (turnsOf (mine (others m.fols [3 + ((2 - d : Nat) : Int)]) [3 + (x : Int)])).map Trn.c = mxC x (c x) := fun x hx => by
    rw [mine_out, if_neg (by omega)]
    exact h.part x (by omega)
  have honly : ∀ f ∈ others m.fols [3 + ((2 - d : Nat) : Int)], ∃ x : Nat, x + (d + 1) < 3 ∧ f.xid = 3 + (x : Int) := fun f hf => by
    obtain ⟨h1, h2⟩ := mem_out hf
    obtain ⟨x, h3, h4⟩ := h.only f h1
    exact ⟨x, by omega, h4⟩
  have htold : mxT c T (d + 1) = mxT c T d ++ (if c (2 - d) = 0 then [] else [(T + 1 + (d : Int), mxC (2 - d) (c (2 - d)))]) := by
    unfold mxT
    rw [List.range_succ, List.flatMap_append]
    simp
  by_cases h0 : tl = []
  · have hz : c (2 - d) = 0 := by rw [← hlen, h0]; rfl
    rw [h0, queueM_nil]
    exact ⟨h.ack, by push_cast; omega, hp, by rw [htold, if_pos hz, List.append_nil]; exact h.told, hpart, honly⟩
  · have hz : ¬ c (2 - d) = 0 := by
      intro e
      rw [e] at hlen
      exact h0 (List.eq_nil_of_length_eq_zero hlen)
    unfold queueM
    rw [if_neg (fun g => g.elim h0 (fun g => by have g : T + 1 + (d : Int) ≤ m.acked := g; rw [h.ack] at g; omega))]
    refine ⟨h.ack, by push_cast; omega, hp, ?_, hpart, honly⟩
    show (m.queue ++ [_]).map _ = _
    rw [htold, if_neg hz, List.map_append]
    have := h.told
    unfold Slt.told at this
    rw [this]
    show _ ++ [(T + 1 + (d : Int), tl.map Trn.c)] = _
    rw [hpt]
theorem Mc.done {c : Nat → Nat} {T : Int} {m : Slt} (h : Mc c T 3 m) : m.fols = [] := by
  cases hf : m.fols with
  | nil => rfl
  | cons f l =>
    obtain ⟨x, h1, -⟩ := h.only f (by rw [hf]; exact List.mem_cons_self ..)
    omega
end Go.VB.Slt
