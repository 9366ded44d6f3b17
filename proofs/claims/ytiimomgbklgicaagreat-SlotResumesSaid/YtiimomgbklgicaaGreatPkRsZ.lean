import Derived.Test.YtiimomgbklgicaaGreatPkRsY
set_option linter.unusedVariables false
namespace Go.VB.Slt
open Go.VB Go.VB.Oct Go.VB.Cat Go.VB.Rec
open Go.Proofs.YtiimomgbklgicaaGreat (atM)
/-- the changes of an xid -/
def tr (l : List Fol) (x : Int) : List Trn := l.flatMap fun f => if f.xid = x then f.turns else []
theorem tr_cons (f : Fol) (l : List Fol) (x : Int) : tr (f :: l) x = (if f.xid = x then f.turns else []) ++ tr l x := List.flatMap_cons ..
theorem tr_none {l : List Fol} {x : Int} (h : ∀ f ∈ l, f.xid ≠ x) : tr l x = [] := by
  induction l with
  | nil => rfl
  | cons f l ih => rw [tr_cons, if_neg (h f List.mem_cons_self), ih (fun g hg => h g (List.mem_cons_of_mem _ hg))]; rfl
theorem tr_of {l : List Fol} (hn : (l.map Fol.xid).Nodup) {f : Fol} (hf : f ∈ l) : tr l f.xid = f.turns := by
  induction l with
  | nil => simp at hf
  | cons g l ih =>
    rw [List.map_cons, List.nodup_cons] at hn
    rw [tr_cons]
    rcases List.mem_cons.1 hf with e | e
    · subst e
      rw [if_pos rfl, tr_none (fun g hg e => hn.1 (by rw [← e]; exact List.mem_map_of_mem hg)), List.append_nil]
    · rw [if_neg (fun h => hn.1 (by rw [h]; exact List.mem_map_of_mem e)), ih hn.2 e, List.nil_append]
theorem tr_some {l : List Fol} (hn : (l.map Fol.xid).Nodup) {x : Int} (h : tr l x ≠ []) : ∃ f ∈ l, f.xid = x ∧ f.turns = tr l x := by
  by_cases g : ∃ f ∈ l, f.xid = x
  · obtain ⟨f, hf, rfl⟩ := g
    exact ⟨f, hf, rfl, (tr_of hn hf).symm⟩
  · exact absurd (tr_none fun f hf e => g ⟨f, hf, e⟩) h
theorem mem_tr {l : List Fol} {u : Trn} : u ∈ turnsOf l ↔ ∃ x, u ∈ tr l x := by
  constructor
  · intro h
    obtain ⟨f, hf, hu⟩ := mem_turns.1 h
    exact ⟨f.xid, List.mem_flatMap.2 ⟨f, hf, by rw [if_pos rfl]; exact hu⟩⟩
  · rintro ⟨x, h⟩
    obtain ⟨f, hf, hu⟩ := List.mem_flatMap.1 h
    split at hu
    · exact mem_turns.2 ⟨f, hf, hu⟩
    · simp at hu
theorem tr_addF {l : List Fol} (hn : (l.map Fol.xid).Nodup) (x : Int) (t : Trn) (y : Int) : tr (addF l x t) y = if y = x then tr l x ++ [t] else tr l y := by
  induction l with
  | nil =>
    show tr [⟨x, [t]⟩] y = _
    rw [tr_cons]
    by_cases h : x = y
    · rw [if_pos h, if_pos h.symm]; rfl
    · rw [if_neg h, if_neg (fun e => h e.symm)]; rfl
  | cons f l ih =>
    rw [List.map_cons, List.nodup_cons] at hn
    unfold addF
    split
    · rename_i e
      subst e
      have h0 : tr l f.xid = [] := tr_none fun g hg e => hn.1 (by rw [← e]; exact List.mem_map_of_mem hg)
      rw [tr_cons, tr_cons, tr_cons, if_pos (rfl : f.xid = f.xid), h0]
      by_cases h : f.xid = y
      · subst h
        rw [if_pos rfl, if_pos rfl, h0, List.append_nil, List.append_nil]
      · rw [if_neg h, if_neg h, if_neg (fun e => h e.symm)]
    · rename_i e
      rw [tr_cons, ih hn.2, tr_cons, tr_cons]
      by_cases h : y = x
      · subst h
        rw [if_pos rfl, if_neg e, if_pos rfl, List.nil_append, List.nil_append]
      · rw [if_neg h, if_neg h]
theorem tr_filter (l : List Fol) (p : Int → Bool) (y : Int) : tr (l.filter fun f => p f.xid) y = if p y then tr l y else [] := by
  induction l with
  | nil => unfold tr; simp
  | cons f l ih =>
    rw [List.filter_cons]
    by_cases h : p f.xid = true
    · rw [if_pos h, tr_cons, tr_cons, ih]
      by_cases e : f.xid = y
      · have h2 : p y = true := e ▸ h
        rw [if_pos e, if_pos h2, if_pos h2]
      · rw [if_neg e, List.nil_append, List.nil_append]
    · rw [if_neg h, ih, tr_cons]
      by_cases e : f.xid = y
      · have h2 : ¬ p y = true := e ▸ h
        rw [if_neg h2, if_neg h2]
      · rw [if_neg e, List.nil_append]
theorem tr_others (l : List Fol) (xs : List Int) (y : Int) : tr (others l xs) y = if !xs.contains y then tr l y else [] := tr_filter l (fun x => !xs.contains x) y
theorem tr_mine (l : List Fol) (xs : List Int) (y : Int) : tr (mine l xs) y = if xs.contains y then tr l y else [] := tr_filter l (fun x => xs.contains x) y
theorem fols_perm {l m : List Fol} (hl : (l.map Fol.xid).Nodup) (hm : (m.map Fol.xid).Nodup) (nl : ∀ f ∈ l, f.turns ≠ []) (nm : ∀ f ∈ m, f.turns ≠ []) (h : ∀ x, tr l x = tr m x) : l.Perm m := by
  have hl' : l.Nodup := List.Pairwise.of_map _ (fun a b hab e => hab (congrArg Fol.xid e)) hl
  have hm' : m.Nodup := List.Pairwise.of_map _ (fun a b hab e => hab (congrArg Fol.xid e)) hm
  have go : ∀ {l m : List Fol}, (l.map Fol.xid).Nodup → (m.map Fol.xid).Nodup → (∀ f ∈ l, f.turns ≠ []) → (∀ x, tr l x = tr m x) → ∀ f ∈ l, f ∈ m := by
    intro l m hl hm nl h f hf
    have h1 := tr_of hl hf
    obtain ⟨g, hg, e1, e2⟩ := tr_some hm (x := f.xid) (by rw [← h, h1]; exact nl f hf)
    have : g = f := by
      cases g; cases f
      simp only [Fol.mk.injEq]
      exact ⟨e1, e2.trans ((h _).symm.trans h1)⟩
    exact this ▸ hg
  exact (List.perm_ext_iff_of_nodup hl' hm').2 fun f => ⟨go hl hm nl h f, go hm hl nm (fun x => (h x).symm) f⟩
/-- the slot t was read back: it tells the same as m from LSN nd on, but for what was confirmed up to a -/
structure Sm (nd a : Int) (A : List (Int × List Tab)) (c : List Tab) (m t : Slt) : Prop where
  om : SOk m
  ot : SOk t
  nm : t.name = m.name
  ls : t.last = m.last
  ak : t.acked = a
  tm : ∃ B, m.times = A ++ B ∧ t.times = (nd - 1, c) :: B
  fl : ∀ x, tr t.fols x = (tr m.fols x).filter fun u => decide (nd ≤ u.lsn)
  q : t.queue = m.queue.filter fun d => !decide (d.lsn ≤ a)
/-- the catalogs ahead of nd end in c -/
structure Ac (nd : Int) (A : List (Int × List Tab)) (c : List Tab) : Prop where
  last : A.getLast?.map Prod.snd = some c
  lt : ∀ x ∈ A, x.1 < nd
variable {nd a : Int} {A : List (Int × List Tab)} {c : List Tab} {m t : Slt}
theorem Sm.now (h : Sm nd a A c m t) (hA : Ac nd A c) : t.now = m.now := by
  obtain ⟨B, h1, h2⟩ := h.tm
  unfold Slt.now
  rw [h1, h2, List.getLast?_append, List.getLast?_cons]
  cases hB : B.getLast? with
  | none => simp [hA.last]
  | some x => simp
theorem Sm.told (h : Sm nd a A c m t) {r : Rc} (hu : ∀ u ∈ toldM m r, nd ≤ u.lsn) : toldM t r = toldM m r := by
  unfold toldM at *
  split
  · rename_i hk
    rw [if_pos hk] at hu
    have hu2 : ∀ u ∈ turnsOf (mine m.fols r.xs), nd ≤ u.lsn := fun u hu' => hu u ((sortT_perm _).mem_iff.2 hu')
    have sub : ∀ (l : List Fol), (mine l r.xs).Sublist l := fun l => List.filter_sublist
    have hp : (mine t.fols r.xs).Perm (mine m.fols r.xs) := by
      refine fols_perm (h.ot.nod.sublist ((sub _).map _)) (h.om.nod.sublist ((sub _).map _)) (fun f hf => h.ot.ne f ((sub _).subset hf)) (fun f hf => h.om.ne f ((sub _).subset hf)) fun x => ?_
      rw [tr_mine, tr_mine, h.fl]
      split
      · rename_i hx
        refine List.filter_eq_self.2 fun u hu' => ?_
        have : u ∈ turnsOf (mine m.fols r.xs) := mem_tr.2 ⟨x, by rw [tr_mine, if_pos hx]; exact hu'⟩
        simpa using hu2 u this
      · rfl
    exact sortT_uniq ((sortT_perm _).trans (hp.flatMap_right _)) (sortT_asc _) (mine_nodup h.om r.xs)
  · rfl
theorem Sm.mid (h : Sm nd a A c m t) (hA : Ac nd A c) {lsn : Int} (hl : m.last < lsn) (hn : nd ≤ lsn) (r : Rc) : Sm nd a A c (midM m lsn r) (midM t lsn r) := by
  have om := h.om.mid hl r
  have ot := h.ot.mid (by rw [h.ls]; exact hl) r
  have ak : (midM t lsn r).acked = a := (mid_acked t lsn r).trans h.ak
  have q : (midM t lsn r).queue = (midM m lsn r).queue.filter fun d => !decide (d.lsn ≤ a) := by rw [mid_queue, mid_queue]; exact h.q
  have nw := h.now hA
  unfold midM at *
  split
  · rename_i hk
    simp only [if_pos hk] at om ot ak q
    refine ⟨om, ot, h.nm, rfl, ak, h.tm, fun x => ?_, q⟩
    show tr (addF t.fols r.xid _) x = (tr (addF m.fols r.xid _) x).filter _
    rw [tr_addF h.ot.nod, tr_addF h.om.nod, nw]
    split
    · rw [List.filter_append, ← h.fl, List.filter_cons_of_pos (by simpa using hn)]; rfl
    · exact h.fl x
  · rename_i hk
    simp only [if_neg hk] at om ot ak q
    split
    · rename_i hk2
      simp only [if_pos hk2] at om ot ak q
      cases hr : readM r.note with
      | none =>
        simp only [hr] at om ot ak q ⊢
        exact ⟨om, ot, h.nm, rfl, ak, h.tm, h.fl, q⟩
      | some cm =>
        simp only [hr] at om ot ak q ⊢
        obtain ⟨B, h1, h2⟩ := h.tm
        refine ⟨om, ot, h.nm, rfl, ak, ⟨B ++ [(lsn, cm)], ?_, ?_⟩, h.fl, q⟩
        · show m.times ++ _ = _
          rw [h1, List.append_assoc]
        · show t.times ++ _ = _
          rw [h2]; rfl
    · rename_i hk2
      simp only [if_neg hk2] at om ot ak q
      split
      · rename_i hk3
        simp only [if_pos hk3] at om ot ak q
        refine ⟨om, ot, h.nm, rfl, ak, h.tm, fun x => ?_, q⟩
        show tr (others t.fols r.xs) x = (tr (others m.fols r.xs) x).filter _
        rw [tr_others, tr_others]
        split
        · exact h.fl x
        · rfl
      · rename_i hk3
        simp only [if_neg hk3] at om ot ak q
        exact ⟨om, ot, h.nm, rfl, ak, h.tm, h.fl, q⟩
theorem Sm.feed (h : Sm nd a A c m t) (hA : Ac nd A c) {lsn : Int} (hl : m.last < lsn) (hn : nd ≤ lsn) (hq : m.acked < lsn) (r : Rc) (H : a < lsn → ∀ u ∈ toldM m r, nd ≤ u.lsn) : Sm nd a A c (feedM m lsn r) (feedM t lsn r) := by
  have hm := h.mid hA hl hn r
  have om := h.om.feed lsn r
  have ot := h.ot.feed lsn r
  have hT := fun g => h.told (H g)
  have k1 : (midM m lsn r).acked = m.acked := mid_acked m lsn r
  unfold feedM at *
  rw [if_neg (by omega)] at om ⊢
  rw [if_neg (by rw [h.ls]; omega)] at ot ⊢
  generalize midM m lsn r = M at *
  generalize midM t lsn r = T at *
  generalize toldM m r = tm at *
  generalize toldM t r = tt at *
  have kt := hm.ak
  by_cases hla : lsn ≤ a
  · have e : queueM T lsn tt = T := if_pos (.inr (by omega))
    rw [e] at ot ⊢
    by_cases he : tm = []
    · have e2 : queueM M lsn tm = M := if_pos (.inl he)
      rw [e2]
      exact hm
    · have e2 : queueM M lsn tm = { M with queue := M.queue ++ [⟨(tm.head?.map Trn.lsn).getD 0, lsn, tm.map Trn.c⟩] } := if_neg (fun g => g.elim he (fun g => by omega))
      rw [e2] at om ⊢
      refine ⟨om, ot, hm.nm, hm.ls, hm.ak, hm.tm, hm.fl, ?_⟩
      show T.queue = (M.queue ++ [_]).filter _
      rw [List.filter_append, ← hm.q, List.filter_cons_of_neg (by simpa using hla)]
      simp
  · have e := hT (by omega)
    subst e
    by_cases he : tt = []
    · have e1 : queueM T lsn tt = T := if_pos (.inl he)
      have e2 : queueM M lsn tt = M := if_pos (.inl he)
      rw [e1, e2]
      exact hm
    · have e1 : queueM T lsn tt = { T with queue := T.queue ++ [⟨(tt.head?.map Trn.lsn).getD 0, lsn, tt.map Trn.c⟩] } := if_neg (fun g => g.elim he (fun g => by omega))
      have e2 : queueM M lsn tt = { M with queue := M.queue ++ [⟨(tt.head?.map Trn.lsn).getD 0, lsn, tt.map Trn.c⟩] } := if_neg (fun g => g.elim he (fun g => by omega))
      rw [e1] at ot ⊢
      rw [e2] at om ⊢
      refine ⟨om, ot, hm.nm, hm.ls, hm.ak, hm.tm, hm.fl, ?_⟩
      show T.queue ++ [_] = (M.queue ++ [_]).filter _
      rw [List.filter_append, ← hm.q, List.filter_cons_of_pos (by simpa using hla)]
      rfl
/-- all changes from LSN n on -/
structure Ge (n : Int) (m : Slt) : Prop where
  ok : SOk m
  t : ∀ u ∈ turnsOf m.fols, n ≤ u.lsn
  q : ∀ d ∈ m.queue, n ≤ d.first
  l : n ≤ m.last + 1
  fq : ∀ d ∈ m.queue, d.first ≤ d.lsn
theorem told_mem {m : Slt} {r : Rc} {u : Trn} (h : u ∈ toldM m r) : u ∈ turnsOf m.fols := by
  unfold toldM at h
  split at h
  · have h2 := (sortT_perm _).mem_iff.1 h
    obtain ⟨f, hf, hu⟩ := mem_turns.1 h2
    exact mem_turns.2 ⟨f, List.filter_sublist.subset hf, hu⟩
  · simp at h
theorem told_head {m : Slt} {r : Rc} (hn : toldM m r ≠ []) : ∃ u ∈ toldM m r, (((toldM m r).head?.map Trn.lsn).getD 0) = u.lsn ∧ ∀ v ∈ toldM m r, u.lsn ≤ v.lsn := by
  have asc : (toldM m r).Pairwise fun a b => a.lsn ≤ b.lsn := by
    unfold toldM
    split
    · exact sortT_asc _
    · exact List.Pairwise.nil
  cases h : toldM m r with
  | nil => exact absurd h hn
  | cons u l =>
    rw [h, List.pairwise_cons] at asc
    refine ⟨u, List.mem_cons_self, rfl, fun v hv => ?_⟩
    rcases List.mem_cons.1 hv with e | e
    · rw [e]; exact Int.le_refl _
    · exact asc.1 v e
theorem mid_turns {m : Slt} {lsn : Int} {r : Rc} {u : Trn} (h : u ∈ turnsOf (midM m lsn r).fols) : u ∈ turnsOf m.fols ∨ u.lsn = lsn := by
  unfold midM at h
  split at h
  · rcases List.mem_append.1 ((addF_map m.fols r.xid _).mem_iff.1 h) with g | g
    · exact .inl g
    · rw [List.mem_singleton.1 g]; exact .inr rfl
  · split at h
    · split at h <;> exact .inl h
    · split at h
      · obtain ⟨f, hf, hu⟩ := mem_turns.1 h
        exact .inl (mem_turns.2 ⟨f, (others_sub _ _).subset hf, hu⟩)
      · exact .inl h
theorem Ge.feed {n : Int} (h : Ge n m) {lsn : Int} (hl : m.last < lsn) (r : Rc) : Ge n (feedM m lsn r) := by
  have ok := h.ok.feed lsn r
  have k1 : (midM m lsn r).queue = m.queue := mid_queue m lsn r
  have k2 : (midM m lsn r).last = lsn := (mid_keeps m lsn r).2.2
  have k3 : ∀ u ∈ turnsOf (midM m lsn r).fols, n ≤ u.lsn := fun u hu => by
    have := h.l
    rcases mid_turns hu with g | g
    · exact h.t u g
    · omega
  have k4 := fun hn => told_head (m := m) (r := r) hn
  have k5 := fun u hu => told_mem (m := m) (r := r) (u := u) hu
  unfold feedM at *
  rw [if_neg (by omega)] at ok ⊢
  generalize midM m lsn r = M at *
  generalize toldM m r = T at *
  have hl2 := h.l
  unfold queueM at *
  split
  · rename_i hc
    rw [if_pos hc] at ok
    exact ⟨ok, k3, by rw [k1]; exact h.q, by omega, by rw [k1]; exact h.fq⟩
  · rename_i hc
    rw [if_neg hc] at ok
    obtain ⟨u, hu, e, -⟩ := k4 (fun g => hc (.inl g))
    have e1 := h.t u (k5 u hu)
    have e2 := h.ok.le u (k5 u hu)
    refine ⟨ok, k3, fun d hd => ?_, by show n ≤ M.last + 1; omega, fun d hd => ?_⟩
    · rcases List.mem_append.1 hd with g | g
      · rw [k1] at g; exact h.q d g
      · rw [List.mem_singleton.1 g]
        show n ≤ ((T.head?.map Trn.lsn).getD 0)
        omega
    · rcases List.mem_append.1 hd with g | g
      · rw [k1] at g; exact h.fq d g
      · rw [List.mem_singleton.1 g]
        show ((T.head?.map Trn.lsn).getD 0) ≤ lsn
        omega
theorem Ge.new (name : Bs) (c : List Tab) : Ge 1 (newM name 0 c) := ⟨sok_new _ _ _, fun u hu => by simp [newM, turnsOf] at hu, fun d hd => by simp [newM] at hd, by show (1 : Int) ≤ 0 + 1; omega, fun d hd => by simp [newM] at hd⟩
theorem feed_last (m : Slt) {lsn : Int} (hl : m.last < lsn) (r : Rc) : (feedM m lsn r).last = lsn := by
  unfold feedM queueM
  rw [if_neg (by omega)]
  have := (mid_keeps m lsn r).2.2
  split
  · exact this
  · exact this
theorem feed_acked (m : Slt) (lsn : Int) (r : Rc) : (feedM m lsn r).acked = m.acked := by
  unfold feedM queueM
  split
  · rfl
  · split
    · exact mid_acked m lsn r
    · exact mid_acked m lsn r
theorem feed_queue (m : Slt) (lsn : Int) (r : Rc) : ∃ Q, (feedM m lsn r).queue = m.queue ++ Q := by
  unfold feedM queueM
  split
  · exact ⟨[], (List.append_nil _).symm⟩
  · split
    · exact ⟨[], by rw [mid_queue, List.append_nil]⟩
    · exact ⟨_, by show (midM m lsn r).queue ++ _ = _; rw [mid_queue]⟩
theorem feed_times (m : Slt) (lsn : Int) (r : Rc) : ∃ B, (feedM m lsn r).times = m.times ++ B ∧ ∀ x ∈ B, x.1 = lsn := by
  have : ∃ B, (midM m lsn r).times = m.times ++ B ∧ ∀ x ∈ B, x.1 = lsn := by
    unfold midM
    split
    · exact ⟨[], (List.append_nil _).symm, by simp⟩
    · split
      · split
        · exact ⟨_, rfl, fun x hx => by rw [List.mem_singleton.1 hx]⟩
        · exact ⟨[], (List.append_nil _).symm, by simp⟩
      · split
        · exact ⟨[], (List.append_nil _).symm, by simp⟩
        · exact ⟨[], (List.append_nil _).symm, by simp⟩
  unfold feedM queueM
  split
  · exact ⟨[], (List.append_nil _).symm, by simp⟩
  · split
    · exact this
    · exact this
theorem feeds_queue : ∀ (l : List Rc) (m : Slt) (n : Int), ∃ Q, (feedsM m n l).queue = m.queue ++ Q
  | [], m, n => ⟨[], (List.append_nil _).symm⟩
  | r :: l, m, n => by
    obtain ⟨Q1, h1⟩ := feed_queue m (n + 1) r
    obtain ⟨Q2, h2⟩ := feeds_queue l (feedM m (n + 1) r) (n + 1)
    exact ⟨Q1 ++ Q2, by show (feedsM _ _ l).queue = _; rw [h2, h1, List.append_assoc]⟩
theorem feeds_times : ∀ (l : List Rc) (m : Slt) (n : Int), ∃ B, (feedsM m n l).times = m.times ++ B ∧ ∀ x ∈ B, n < x.1 ∧ x.1 ≤ n + l.length
  | [], m, n => ⟨[], (List.append_nil _).symm, by simp⟩
  | r :: l, m, n => by
    obtain ⟨B1, h1, k1⟩ := feed_times m (n + 1) r
    obtain ⟨B2, h2, k2⟩ := feeds_times l (feedM m (n + 1) r) (n + 1)
    refine ⟨B1 ++ B2, by show (feedsM _ _ l).times = _; rw [h2, h1, List.append_assoc], fun x hx => ?_⟩
    rw [List.length_cons]
    rcases List.mem_append.1 hx with g | g
    · have := k1 x g; omega
    · have := k2 x g; omega
theorem feeds_append : ∀ (l l2 : List Rc) (m : Slt) (n : Int), feedsM m n (l ++ l2) = feedsM (feedsM m n l) (n + l.length) l2
  | [], l2, m, n => by show feedsM m n l2 = feedsM m (n + (0 : Nat)) l2; rw [show n + ((0 : Nat) : Int) = n from by omega]
  | r :: l, l2, m, n => by
    rw [List.cons_append]
    show feedsM (feedM m (n + 1) r) (n + 1) (l ++ l2) = _
    rw [feeds_append l l2, show n + 1 + (l.length : Int) = n + ((r :: l).length : Int) from by rw [List.length_cons]; omega]
    rfl
theorem Ge.feeds {n : Int} : ∀ (l : List Rc) {m : Slt}, Ge n m → Ge n (feedsM m m.last l)
  | [], m, h => h
  | r :: l, m, h => by
    have h1 := h.feed (lsn := m.last + 1) (by omega) r
    have h2 := Ge.feeds l h1
    rw [feed_last m (by omega) r] at h2
    exact h2
/-- the first way: m unconfirmed, up to where it was read -/
theorem Sm.one : ∀ (l : List Rc) {m t : Slt}, Sm nd a A c m t → Ac nd A c → m.acked = 0 → 0 ≤ m.last → nd ≤ m.last + 1 → (∀ d ∈ (feedsM m m.last l).queue, a < d.lsn → nd ≤ d.first) → Sm nd a A c (feedsM m m.last l) (feedsM t m.last l)
  | [], m, t, h, _, _, _, _, _ => h
  | r :: l, m, t, h, hA, h0, hl, hn, H => by
    have e := feed_last m (lsn := m.last + 1) (by omega) r
    have hq : ∀ d ∈ (feedM m (m.last + 1) r).queue, a < d.lsn → nd ≤ d.first := fun d hd hg => by
      obtain ⟨Q, hQ⟩ := feeds_queue l (feedM m (m.last + 1) r) (m.last + 1)
      exact H d (by show d ∈ (feedsM _ _ l).queue; rw [hQ]; exact List.mem_append_left _ hd) hg
    have h1 := h.feed hA (lsn := m.last + 1) (by omega) hn (by omega) r (fun hg u hu => by
      have hne : toldM m r ≠ [] := fun e => by rw [e] at hu; simp at hu
      obtain ⟨v, hv, e1, e2⟩ := told_head hne
      have hd : (⟨v.lsn, m.last + 1, (toldM m r).map Trn.c⟩ : Dn) ∈ (feedM m (m.last + 1) r).queue := by
        unfold feedM queueM
        rw [if_neg (by omega), if_neg (fun g => g.elim hne (fun g => by rw [mid_acked] at g; omega)), e1]
        exact List.mem_append_right _ (List.mem_singleton.2 rfl)
      have := hq _ hd hg
      have := e2 u hu
      dsimp only at *
      omega)
    have h2 := Sm.one l h1 hA (by rw [feed_acked]; exact h0) (by omega) (by omega) (by rw [e]; exact H)
    rw [e] at h2
    exact h2
/-- the second way: both confirmed up to a -/
theorem Sm.two : ∀ (l : List Rc) {m t : Slt}, Sm nd a A c m t → Ac nd A c → Ge nd m → m.acked = a → a ≤ m.last → Sm nd a A c (feedsM m m.last l) (feedsM t m.last l)
  | [], m, t, h, _, _, _, _ => h
  | r :: l, m, t, h, hA, hg, h0, hl => by
    have e := feed_last m (lsn := m.last + 1) (by omega) r
    have h1 := h.feed hA (lsn := m.last + 1) (by omega) hg.l (by omega) r (fun _ u hu => hg.t u (told_mem hu))
    have h2 := Sm.two l h1 hA (hg.feed (by omega) r) (by rw [feed_acked]; exact h0) (by omega)
    rw [e] at h2
    exact h2
theorem mn_le : ∀ (l : List Int) (a : Int), mn a l ≤ a ∧ ∀ x ∈ l, mn a l ≤ x
  | [], a => ⟨Int.le_refl _, by simp⟩
  | y :: l, a => by
    obtain ⟨h1, h2⟩ := mn_le l (min a y)
    have e : mn a (y :: l) = mn (min a y) l := rfl
    rw [e]
    refine ⟨by omega, fun x hx => ?_⟩
    rcases List.mem_cons.1 hx with g | g
    · subst g; omega
    · exact h2 x g
theorem mn_ge : ∀ (l : List Int) {a n : Int}, n ≤ a → (∀ x ∈ l, n ≤ x) → n ≤ mn a l
  | [], a, n, h, _ => h
  | y :: l, a, n, h, hl => mn_ge l (a := min a y) (by have := hl y List.mem_cons_self; omega) (fun x hx => hl x (List.mem_cons_of_mem _ hx))
theorem mn_perm {l m : List Int} (h : l.Perm m) : ∀ a, mn a l = mn a m := by
  induction h with
  | nil => intro a; rfl
  | cons x _ ih => intro a; exact ih (min a x)
  | swap x y l => intro a; show mn (min (min a y) x) l = mn (min (min a x) y) l; congr 1; omega
  | trans _ _ ih1 ih2 => intro a; exact (ih1 a).trans (ih2 a)
theorem need_le {m : Slt} : needM m ≤ m.last + 1 ∧ (∀ f ∈ m.fols, needM m ≤ f.fst) ∧ ∀ d ∈ m.queue, needM m ≤ d.first := by
  unfold needM
  have h1 := mn_le (m.queue.map Dn.first) (mn (m.last + 1) (m.fols.map Fol.fst))
  have h2 := mn_le (m.fols.map Fol.fst) (m.last + 1)
  refine ⟨by omega, fun f hf => ?_, fun d hd => h1.2 _ (List.mem_map_of_mem hd)⟩
  have := h2.2 _ (List.mem_map_of_mem hf)
  omega
theorem fst_mem {f : Fol} (h : f.turns ≠ []) : ∃ u ∈ f.turns, f.fst = u.lsn := by
  unfold Fol.fst
  cases hf : f.turns with
  | nil => exact absurd hf h
  | cons u l => exact ⟨u, List.mem_cons_self, rfl⟩
theorem fst_le {m : Slt} (ok : SOk m) {f : Fol} (hf : f ∈ m.fols) : ∀ u ∈ f.turns, f.fst ≤ u.lsn := by
  have h := ok.asc f hf
  unfold Fol.fst
  cases hh : f.turns with
  | nil => intro u hu; simp at hu
  | cons v l =>
    rw [hh, List.pairwise_cons] at h
    intro u hu
    show v.lsn ≤ u.lsn
    rcases List.mem_cons.1 hu with e | e
    · rw [e]; exact Int.le_refl _
    · have := h.1 u e; omega
theorem Ge.need {n : Int} (h : Ge n m) : n ≤ needM m := by
  unfold needM
  refine mn_ge _ (mn_ge _ h.l fun x hx => ?_) fun x hx => ?_
  · obtain ⟨f, hf, rfl⟩ := List.mem_map.1 hx
    obtain ⟨u, hu, e⟩ := fst_mem (h.ok.ne f hf)
    rw [e]
    exact h.t u (mem_turns.2 ⟨f, hf, hu⟩)
  · obtain ⟨d, hd, rfl⟩ := List.mem_map.1 hx
    exact h.q d hd
theorem SOk.ack (h : SOk m) (k : Int) : SOk (ackM m k).1 := by
  unfold ackM
  split
  · exact h
  · exact ⟨h.dis, h.le, h.asc, h.ne, h.nod⟩
theorem Ge.self (h : Ge 1 m) : Ge (needM m) m :=
  ⟨h.ok, fun u hu => by
    obtain ⟨f, hf, hu⟩ := mem_turns.1 hu
    have h1 := need_le.2.1 f hf
    have h2 := fst_le h.ok hf u hu
    omega, fun d hd => need_le.2.2 d hd, need_le.1, h.fq⟩
theorem Ge.ack {n : Int} (h : Ge n m) (k : Int) : Ge n (ackM m k).1 := by
  have ok := h.ok.ack k
  unfold ackM at *
  split
  · exact h
  · rename_i hc
    rw [if_neg hc] at ok
    exact ⟨ok, h.t, fun d hd => h.q d (List.mem_filter.1 hd).1, h.l, fun d hd => h.fq d (List.mem_filter.1 hd).1⟩
theorem catAt_all (k : Int) : ∀ (B : List (Int × List Tab)) (c : List Tab), (∀ x ∈ B, ¬ x.1 < k) → B.foldl (fun c t => if t.1 < k then t.2 else c) c = c
  | [], c, _ => rfl
  | x :: B, c, h => by
    rw [List.foldl_cons, if_neg (h x List.mem_cons_self)]
    exact catAt_all k B c (fun y hy => h y (List.mem_cons_of_mem _ hy))
theorem catAt_lt (k : Int) : ∀ (A : List (Int × List Tab)) (c c2 : List Tab), (∀ x ∈ A, x.1 < k) → A.getLast?.map Prod.snd = some c2 → A.foldl (fun c t => if t.1 < k then t.2 else c) c = c2
  | [], c, c2, _, h => by simp at h
  | x :: A, c, c2, h, hl => by
    rw [List.foldl_cons, if_pos (h x List.mem_cons_self)]
    cases A with
    | nil => simpa using hl
    | cons y A => exact catAt_lt k (y :: A) x.2 c2 (fun z hz => h z (List.mem_cons_of_mem _ hz)) (by rwa [List.getLast?_cons_cons] at hl)
theorem Sm.cat (h : Sm nd a A c m t) (hA : Ac nd A c) {k : Int} (hk : nd ≤ k) : catAt t.times k = catAt m.times k := by
  obtain ⟨B, h1, h2⟩ := h.tm
  unfold catAt
  rw [h1, h2, List.foldl_append, catAt_lt k A _ c (fun x hx => by have := hA.lt x hx; omega) hA.last, List.foldl_cons, if_pos (by show nd - 1 < k; omega)]
/-- what is told at the end -/
theorem Sm.fin (h : Sm nd a A c m t) (hA : Ac nd A c) (hg : Ge nd m) (h0 : m.acked = a) (hr : Rg m) : t.queue = m.queue ∧ t.fols.length = m.fols.length ∧ needM t = needM m ∧ sbytes t = sbytes m ∧ t.acked = m.acked := by
  have hq : t.queue = m.queue := by
    rw [h.q]
    exact List.filter_eq_self.2 fun d hd => by have := hr.gt d hd; simp; omega
  have hp : t.fols.Perm m.fols := fols_perm h.ot.nod h.om.nod h.ot.ne h.om.ne fun x => by
    rw [h.fl]
    exact List.filter_eq_self.2 fun u hu => by simpa using hg.t u (mem_tr.2 ⟨x, hu⟩)
  have hn : needM t = needM m := by
    unfold needM
    rw [hq, h.ls, mn_perm (hp.map Fol.fst)]
  have hc := h.cat hA hg.need
  refine ⟨hq, hp.length_eq, hn, ?_, by rw [h.ak, h0]⟩
  unfold sbytes
  rw [hn, h.nm, h.ak, h0, hc]
/-- a slot read back from its bytes -/
def backM (m : Slt) : Slt := ⟨m.name, m.acked, needM m - 1, [(needM m - 1, catAt m.times (needM m))], [], []⟩
theorem Rg.ack (h : Rg m) {k : Int} : Rg (ackM m k).1 := by
  unfold ackM
  split
  · exact h
  · refine ⟨h.asc.sublist List.filter_sublist, fun d hd => h.le d (List.mem_filter.1 hd).1, fun d hd => ?_⟩
    have := (List.mem_filter.1 hd).2
    show k < d.lsn
    simpa using this
theorem mid_name (s : Slt) (lsn : Int) (r : Rc) : (midM s lsn r).name = s.name := by
  unfold midM addM
  split
  · rfl
  · split
    · split <;> rfl
    · split <;> rfl
theorem feed_name (s : Slt) (lsn : Int) (r : Rc) : (feedM s lsn r).name = s.name := by
  unfold feedM queueM
  split
  · rfl
  · split
    · exact mid_name s lsn r
    · exact mid_name s lsn r
theorem feeds_name : ∀ (l : List Rc) (m : Slt) (n : Int), (feedsM m n l).name = m.name
  | [], m, n => rfl
  | r :: l, m, n => (feeds_name l (feedM m (n + 1) r) (n + 1)).trans (feed_name m (n + 1) r)
/-- the law in plain: after k records and a confirmation the slot is read back, and both are fed -/
theorem resumes (name : Bs) (l : List Rc) (k : Nat) (hk : k ≤ l.length) (a : Int) (h0 : 0 ≤ a) (ha : a ≤ k) :
    let S := (ackM (feedsM (newM name 0 []) 0 (l.take k)) a).1
    let T := backM S
    (ackM (feedsM (newM name 0 []) 0 (l.take k)) a).2 = 0 ∧ S.acked = a ∧ 1 ≤ needM S ∧ needM S ≤ k + 1 ∧
    (let F := feedsM S k (l.drop k); let G := feedsM T (needM S - 1) (l.drop (needM S - 1).toNat);
     G.queue = F.queue ∧ G.fols.length = F.fols.length ∧ needM G = needM F ∧ sbytes G = sbytes F ∧ G.acked = F.acked) := by
  intro S T
  obtain ⟨N, hN⟩ : ∃ N, newM name 0 [] = N := ⟨_, rfl⟩
  have gN : Ge 1 N := hN ▸ Ge.new name []
  have rN : Rg N := hN ▸ Rg.new name 0 []
  have lN : N.last = 0 := hN ▸ rfl
  have aN : N.acked = 0 := hN ▸ rfl
  have tN : N.times = [(0, [])] := hN ▸ rfl
  have fN : N.name = name := hN ▸ rfl
  have hKl : (l.take k).length = k := by rw [List.length_take]; omega
  obtain ⟨M, hM⟩ : ∃ M, feedsM N 0 (l.take k) = M := ⟨_, rfl⟩
  have hS : S = (ackM M a).1 := by show (ackM (feedsM (newM name 0 []) 0 (l.take k)) a).1 = _; rw [hN, hM]
  have gM : Ge 1 M := by have := Ge.feeds (l.take k) gN; rwa [lN, hM] at this
  have rM := Rg.feeds (l.take k) rN
  rw [lN, hM, hKl] at rM
  obtain ⟨rM, lM, aM⟩ := rM
  rw [aN] at aM
  have eA : ackM M a = ({ M with acked := a, queue := M.queue.filter fun d => !decide (d.lsn ≤ a) }, 0) := if_neg (fun g => g.elim (fun g => by omega) (fun g => by omega))
  have hS2 : S = { M with acked := a, queue := M.queue.filter fun d => !decide (d.lsn ≤ a) } := by rw [hS, eA]
  have gS : Ge 1 S := by rw [hS]; exact gM.ack a
  have rS : Rg S := by rw [hS]; exact rM.ack
  have lS : S.last = k := by rw [hS2]; show M.last = k; omega
  have aS : S.acked = a := by rw [hS2]
  have n1 := gS.need
  have n2 := need_le (m := S).1
  rw [lS] at n2
  refine ⟨by rw [hN, hM, eA], aS, n1, n2, ?_⟩
  obtain ⟨p, hp⟩ : ∃ p : Nat, needM S - 1 = p := ⟨(needM S - 1).toNat, by omega⟩
  obtain ⟨nd, hnd⟩ : ∃ nd, needM S = nd := ⟨_, rfl⟩
  have hT : T = ⟨S.name, S.acked, needM S - 1, [(needM S - 1, catAt S.times (needM S))], [], []⟩ := rfl
  rw [hnd] at hT hp n1 n2 ⊢
  have hpk : p ≤ k := by omega
  -- the records in three parts
  have e1 : l.take k = l.take p ++ (l.take k).drop p := by
    have := (List.take_append_drop p (l.take k)).symm
    rwa [List.take_take, Nat.min_eq_left hpk] at this
  have e2 : l.drop p = (l.take k).drop p ++ l.drop k := by
    have h1 := List.take_append_drop k l
    have h2 : (l.take k ++ l.drop k).drop p = (l.take k).drop p ++ l.drop k := List.drop_append_of_le_length (by omega)
    rwa [h1] at h2
  have hPl : (l.take p).length = p := by rw [List.length_take]; omega
  have hDl : ((l.take k).drop p).length = k - p := by rw [List.length_drop, hKl]
  obtain ⟨P, hP⟩ : ∃ P, feedsM N 0 (l.take p) = P := ⟨_, rfl⟩
  have gP : Ge 1 P := by have := Ge.feeds (l.take p) gN; rwa [lN, hP] at this
  have rP := Rg.feeds (l.take p) rN
  rw [lN, hP, hPl] at rP
  obtain ⟨rP, lP, aP⟩ := rP
  rw [aN] at aP
  have lP' : P.last = p := by omega
  have hPM : feedsM P p ((l.take k).drop p) = M := by
    have := feeds_append (l.take p) ((l.take k).drop p) N 0
    rw [← e1, hM, hP, hPl] at this
    rw [this]; congr 1; omega
  obtain ⟨B1, hB1, hB1l⟩ := feeds_times (l.take p) N 0
  rw [hP, tN] at hB1
  obtain ⟨B2, hB2, hB2l⟩ := feeds_times ((l.take k).drop p) P p
  rw [hPM] at hB2
  have hAl : ∀ x ∈ P.times, x.1 < nd := fun x hx => by
    rw [hB1] at hx
    rcases List.mem_append.1 hx with g | g
    · rw [List.mem_singleton.1 g]; show (0 : Int) < nd; omega
    · have := hB1l x g; rw [hPl] at this; omega
  obtain ⟨c, hc⟩ : ∃ c, P.times.getLast?.map Prod.snd = some c := by
    cases hh : P.times.getLast? with
    | none => rw [List.getLast?_eq_none_iff, hB1] at hh; simp at hh
    | some x => exact ⟨x.2, rfl⟩
  have hA : Ac nd P.times c := ⟨hc, hAl⟩
  have hcat : catAt S.times nd = c := by
    have : S.times = P.times ++ B2 := by rw [hS2]; exact hB2
    unfold catAt
    rw [this, List.foldl_append, catAt_lt nd P.times _ c hAl hc, catAt_all nd B2 c (fun x hx => by have := hB2l x hx; omega)]
  have hQ : ∀ d ∈ M.queue, a < d.lsn → nd ≤ d.first := fun d hd hg => by
    rw [← hnd]
    refine need_le.2.2 d ?_
    rw [hS2]
    exact List.mem_filter.2 ⟨hd, by simpa using hg⟩
  have s0 : Sm nd a P.times c P T := by
    rw [hT]
    refine ⟨gP.ok, ⟨by simp [turnsOf], fun u hu => by simp [turnsOf] at hu, fun f hf => by simp at hf, fun f hf => by simp at hf, by simp⟩, ?_, by show nd - 1 = P.last; omega, aS, ⟨[], (List.append_nil _).symm, by show [(nd - 1, catAt S.times nd)] = _; rw [hcat]⟩, fun x => ?_, ?_⟩
    · show S.name = P.name
      rw [hS2]
      show M.name = P.name
      rw [← hM, ← hP, feeds_name, feeds_name]
    · show [] = _
      symm
      refine List.filter_eq_nil_iff.2 fun u hu => ?_
      have := gP.ok.le u (mem_tr.2 ⟨x, hu⟩)
      simp; omega
    · show [] = _
      symm
      refine List.filter_eq_nil_iff.2 fun d hd => ?_
      have h1 := rP.le d hd
      have h2 := gP.fq d hd
      have h3 : a < d.lsn → nd ≤ d.first := hQ d (by
        obtain ⟨Q, h⟩ := feeds_queue ((l.take k).drop p) P p
        rw [hPM] at h
        rw [h]; exact List.mem_append_left _ hd)
      simp
      omega
  have s1 := Sm.one ((l.take k).drop p) s0 hA aP (by omega) (by omega) (by rw [lP', hPM]; exact hQ)
  rw [lP', hPM] at s1
  have s2 : Sm nd a P.times c S (feedsM T p ((l.take k).drop p)) := by
    have oS := gS.ok
    have e3 : ∀ q : List Dn, (q.filter fun d => !decide (d.lsn ≤ a)).filter (fun d => !decide (d.lsn ≤ a)) = q.filter fun d => !decide (d.lsn ≤ a) := fun q => by rw [List.filter_filter]; simp
    refine ⟨oS, s1.ot, ?_, ?_, s1.ak, ?_, fun x => ?_, ?_⟩
    · rw [hS2]; exact s1.nm
    · rw [hS2]; exact s1.ls
    · rw [hS2]; exact s1.tm
    · rw [hS2]; exact s1.fl x
    · rw [hS2]
      show _ = (M.queue.filter _).filter _
      rw [e3]; exact s1.q
  have gSn : Ge nd S := by rw [← hnd]; exact gS.self
  have s3 := Sm.two (l.drop k) s2 hA gSn aS (by omega)
  have gF := Ge.feeds (l.drop k) gSn
  have rF := Rg.feeds (l.drop k) rS
  have hG : feedsM T p (l.drop p) = feedsM (feedsM T p ((l.take k).drop p)) k (l.drop k) := by
    rw [e2, feeds_append, hDl]
    congr 1
    omega
  rw [lS] at s3 gF rF
  have := s3.fin hA gF (rF.2.2.trans aS) rF.1
  rw [hp, Int.toNat_natCast, hG]
  exact this
end Go.VB.Slt
namespace Go.VB.Slt
open Go.VB Go.VB.Oct Go.VB.Cat Go.VB.Rec
/-- a slot as it is read back: its name, what is confirmed, the LSN to start from, the catalog's text -/
def readT (b : Bs) : Option (Bs × Nat × Nat × Bs) :=
  match pText b with
  | none => none
  | some (nm, u) => match pNum 4 u with
    | none => none
    | some (a, v) => match pNum 4 v with
      | none => none
      | some (k, y) => match pText y with
        | none => none
        | some (tx, z) => if z = [] ∧ k ≠ 0 then some (nm, a, k, tx) else none
def begM (nm : Bs) (a k : Int) (m : List Tab) : Slt := ⟨nm, a, k, [(k, m)], [], []⟩
def readSM (b : Bs) : Option Slt := (readT b).bind fun p => (readM p.2.2.2).map fun m => begM p.1 p.2.1 ((p.2.2.1 : Int) - 1) m
/-- the reader's steps -/
def rdA (b : Bs) : RM × Bs := (RM.new b).text
def rdB (b : Bs) : RM × Nat := (rdA b).1.num 4
def rdC (b : Bs) : RM × Nat := (rdB b).1.num 4
def rdD (b : Bs) : RM × Bs := (rdC b).1.text
theorem readT_of (b : Bs) : readT b = if (rdD b).1.failed = true ∨ 0 < (rdD b).1.left ∨ (rdC b).2 = 0 then none else some ((rdA b).2, (rdB b).2, (rdC b).2, (rdD b).2) := by
  unfold readT
  have s1 : SimR (pText b) (rdA b).1 (rdA b).2 := sim_text (RM.Has.new b)
  cases h1 : pText b with
  | none =>
    rw [h1] at s1
    have f4 : (rdD b).1.failed = true := text_fail (num_fail (num_fail s1 4) 4)
    dsimp only
    rw [if_pos (.inl f4)]
  | some p =>
    obtain ⟨nm, u⟩ := p
    rw [h1] at s1
    obtain ⟨g1, e1⟩ := s1
    have s2 : SimR (pNum 4 u) (rdB b).1 (rdB b).2 := sim_num g1 4
    dsimp only
    cases h2 : pNum 4 u with
    | none =>
      rw [h2] at s2
      have f4 : (rdD b).1.failed = true := text_fail (num_fail s2 4)
      dsimp only
      rw [if_pos (.inl f4)]
    | some p =>
      obtain ⟨a, v⟩ := p
      rw [h2] at s2
      obtain ⟨g2, e2⟩ := s2
      have s3 : SimR (pNum 4 v) (rdC b).1 (rdC b).2 := sim_num g2 4
      dsimp only
      cases h3 : pNum 4 v with
      | none =>
        rw [h3] at s3
        have f4 : (rdD b).1.failed = true := text_fail s3
        dsimp only
        rw [if_pos (.inl f4)]
      | some p =>
        obtain ⟨k, y⟩ := p
        rw [h3] at s3
        obtain ⟨g3, e3⟩ := s3
        have s4 : SimR (pText y) (rdD b).1 (rdD b).2 := sim_text g3
        dsimp only
        cases h4 : pText y with
        | none =>
          rw [h4] at s4
          have f4 : (rdD b).1.failed = true := s4
          dsimp only
          rw [if_pos (.inl f4)]
        | some p =>
          obtain ⟨tx, z⟩ := p
          rw [h4] at s4
          obtain ⟨g4, e4⟩ := s4
          dsimp only
          rw [e1, e2, e3, e4]
          have hl := g4.left
          by_cases hz : z = [] ∧ k ≠ 0
          · rw [if_pos hz, if_neg]
            rintro (h | h | h)
            · rw [g4.ok] at h; cases h
            · rw [hl, hz.1] at h; simp at h
            · exact hz.2 h
          · rw [if_neg hz, if_pos]
            by_cases h0 : z = []
            · refine .inr (.inr ?_)
              by_cases hk : k = 0
              · exact hk
              · exact absurd ⟨h0, hk⟩ hz
            · refine .inr (.inl ?_)
              rw [hl]
              exact List.length_pos_iff.2 h0
/-- what Bytes gave is read back -/
theorem readT_bytes (nm tx : Bs) (a k : Nat) (h1 : nm.length ≤ 65535) (h2 : a < 4294967296) (h3 : k < 4294967296) (h4 : tx.length ≤ 65535) (h5 : k ≠ 0) : readT (text nm ++ be 4 a ++ be 4 k ++ text tx) = some (nm, a, k, tx) := by
  unfold readT
  rw [List.append_assoc, List.append_assoc, pText_text _ _ h1]
  dsimp only
  rw [pNum_be 4 a _ (by omega) (by omega)]
  dsimp only
  rw [pNum_be 4 k _ (by omega) (by omega)]
  dsimp only
  rw [show text tx = text tx ++ [] from (List.append_nil _).symm, pText_text _ _ h4]
  dsimp only
  rw [if_pos ⟨rfl, h5⟩]
theorem readSM_bytes {m : Slt} (h1 : m.name.length ≤ 65535) (h2 : 0 ≤ m.acked ∧ m.acked < 4294967296) (h3 : 1 ≤ needM m ∧ needM m < 4294967296) (h4 : Ok (catAt m.times (needM m))) (h5 : (Cat.bytes (catAt m.times (needM m))).length ≤ 65535) : readSM (sbytes m) = some (backM m) := by
  unfold readSM sbytes
  rw [readT_bytes _ _ _ _ h1 (by omega) (by omega) h5 (by omega), Option.bind_some]
  dsimp only
  rw [readM_parse, parse_bytes h4]
  show some (begM m.name m.acked.toNat ((needM m).toNat - 1) _) = some (backM m)
  unfold begM backM
  rw [Int.toNat_of_nonneg h2.1, Int.toNat_of_nonneg (by omega)]
end Go.VB.Slt
namespace Go.Proofs.YtiimomgbklgicaaGreat
open Go.RowKit Go.VB Go.VB.Oct Go.VB.Cat Go.VB.Rec Go.VB.Slt
set_option maxRecDepth 20000 in
set_option maxHeartbeats 4000000 in
theorem SBytes_go {S C : Nat → Prop} {w : World} {s : Nat} {v : SltV} (h : SlO S C w s v) (hq : v.qs.length ≤ 1048576) (hl : -4611686018427387904 ≤ v.last ∧ v.last ≤ 4611686018427387904) (ht : v.ts.length ≤ 1048576) (hna : v.name.length ≤ 65535) (hac : 0 ≤ v.acked ∧ v.acked ≤ 4611686018427387904) (hnd : 0 ≤ needM v.t ∧ needM v.t ≤ 4611686018427387905) (hby : ∀ t ∈ v.ts, (Cat.bytes t.m).length ≤ 65535) :
    Calls Tryz.prog 27 #[.pointer (some ⟨s, 0, none⟩)] w fun e w' => e = .returned (.string (bs (sbytes v.t))) ∧ Fr (fun _ => False) w w' := by
  have HN := hid (Need_go h hq hl)
  obtain ⟨at_, ct, et, -⟩ := h.t.slice
  have hrt := h.t
  rw [et] at hrt
  have hne : v.ts.flatMap TimV.cells ≠ [] := by
    have := h.tne
    cases hv : v.ts with
    | nil => exact absurd hv this
    | cons x l => simp [TimV.cells]
  obtain ⟨gt, eg, -, hct⟩ := row_cells hrt hne
  subst eg
  have HC := hid hct
  have HB3 := hid (show w.cell? ⟨s, 3, none⟩ = some (.slice (some ⟨gt, 0, none⟩) v.ts.length ct) from by rw [← et]; exact h.b.cell 3)
  have HB0 := hid (show w.cell? ⟨s, 0, none⟩ = some (.string (bs v.name)) from h.b.cell 0)
  have HB1 := hid (show w.cell? ⟨s, 1, none⟩ = some (.int .i64 v.acked) from h.b.cell 1)
  have H0 := hid h
  have HTL := hid ht
  have hpos : 0 < v.ts.length := List.length_pos_iff.2 h.tne
  obtain ⟨nd, hnd0⟩ : ∃ nd, needM v.t = nd := ⟨_, rfl⟩
  rw [hnd0] at HN hnd
  have HNA := hid hna
  have HAC := hid hac
  have HNB := hid hnd
  have HBY := hid hby
  have HND := hid hnd0
  clear h hq hl ht et hrt hne hct hnd hnd0 hna hac hby
  go_enter Tryz.func27, Tryz.ntmps27
  go_upto_region 4 with (go_at_call 25; refine HN.out.mono ?_; rintro e w1 ⟨rfl, f⟩; have F1 := hid f; clear f)
  clear HN
  have p3 := cell_fr HB3.out F1.out (fun h => h)
  obtain ⟨x0, l0, hv⟩ : ∃ x l, v.ts = x :: l := by
    cases hv : v.ts with
    | nil => rw [hv] at hpos; simp at hpos
    | cons x l => exact ⟨x, l, rfl⟩
  have p1 : w1.cell? ⟨gt, 1, none⟩ = some (.pointer (some ⟨x0.c, 0, none⟩)) := cell_fr (HC.out 1 _ (by rw [hv]; rfl)) F1.out (fun h => h)
  have HX0 := hid (show x0 ∈ v.ts ∧ x0.m = ((v.t.times.head?.map (·.2)).getD []) from ⟨by rw [hv]; simp, by unfold SltV.t; dsimp only; rw [hv]; rfl⟩)
  have HSX := hid (show Sl (fun _ => True) w (.slice (some ⟨gt, 0, none⟩) v.ts.length ct) v.ts.length (v.ts.flatMap TimV.cells) from by
    obtain ⟨_, _, e, -⟩ := H0.out.t.slice
    have h3 := (H0.out.t.sl' (R := fun _ => True) (fun _ _ => trivial))
    have h4 := H0.out.b.cell 3
    have h5 := HB3.out
    have h6 : v.vt = .slice (some ⟨gt, 0, none⟩) v.ts.length ct := Option.some.inj ((show w.cell? ⟨s, 3, none⟩ = some v.vt from h4).symm.trans h5)
    rwa [h6] at h3)
  clear hv HC
  have i0 : (0 : Int) < (v.ts.length : Int) := by omega
  go_upto_block 0 with fail
  clear p1 p3
  obtain ⟨n, hn⟩ : ∃ n, v.ts.length = n := ⟨_, rfl⟩
  rw [hn] at HTL HSX i0 ⊢
  have HNL := hid hn
  clear hn hpos
  go_cut [4] (fun s4 wx => ∃ x : TimV, s4 = .pointer (some ⟨x.c, 0, none⟩) ∧ x ∈ v.ts ∧ x.m = catAt v.t.times nd ∧ Fr (fun _ => False) w wx)
  case first =>
    go_wp2_with (fail)
    go_loopw [4, 6, 23] (fun s4 s6 s23 wr => ∃ (j : Nat) (x : TimV), j ≤ n ∧ s23 = .int .i64 j ∧ s4 = .pointer (some ⟨x.c, 0, none⟩) ∧ x ∈ v.ts ∧ x.m = (v.t.times.take j).foldl (fun c t => if t.1 < nd then t.2 else c) ((v.t.times.head?.map (·.2)).getD []) ∧ Fr (fun _ => False) w wr) (fun _ _ s23 _ => n - (intOf s23).toNat)
    case atStart => exact ⟨0, x0, by omega, rfl, rfl, HX0.out.1, HX0.out.2, F1.out⟩
    case round =>
      obtain ⟨j, x, hj, rfl, rfl, hx, hm, hf⟩ := hrel
      have HX := hid hx
      have HM := hid hm
      have FR := hid hf
      clear hx hm hf F1 HX0
      rename World => WR
      by_cases hjn : j < n
      · have hjv : j < v.ts.length := by rw [HNL.out]; exact hjn
        obtain ⟨g, o, e, ry⟩ := sl_at (k := 2) (by decide) (fun _ => rfl) (show Sl (fun _ => True) w (.slice (some ⟨gt, 0, none⟩) n ct) v.ts.length (v.ts.flatMap TimV.cells) from by have h := HSX.out; rw [HNL.out]; exact h) hjv
        cases e
        have hjt : j < v.t.times.length := by show j < (v.ts.map TimV.t).length; rw [List.length_map]; exact hjv
        have HS := hid (catAt_take v.t.times nd ((v.t.times.head?.map (·.2)).getD []) hjt)
        rw [← HM.out, show v.t.times[j] = (v.ts[j].lsn, v.ts[j].m) from List.getElem_map ..] at HS
        have HYM := hid (List.getElem_mem hjv)
        obtain ⟨y, hy⟩ : ∃ y, y = v.ts[j] := ⟨_, rfl⟩
        rw [← hy] at HS HYM ry
        clear hy
        have q0 : WR.cell? ⟨gt, j * 2, none⟩ = some (.int .i64 y.lsn) := cell_fr (show w.cell? ⟨gt, j * 2, none⟩ = some (.int .i64 y.lsn) from by have := ry 0 (.int .i64 y.lsn) rfl; simpa using this) FR.out (fun h => h)
        have q1 : WR.cell? ⟨gt, j * 2 + 1, none⟩ = some (.pointer (some ⟨y.c, 0, none⟩)) := cell_fr (show w.cell? ⟨gt, j * 2 + 1, none⟩ = some (.pointer (some ⟨y.c, 0, none⟩)) from by have := ry 1 (.pointer (some ⟨y.c, 0, none⟩)) rfl; simpa using this) FR.out (fun h => h)
        have i1 : (0 : Int) ≤ (j : Int) := by omega
        have i2 : (j : Int) < (n : Int) := by omega
        have w1 : IntKind.i64.wrap ((j : Int) + 1) = (j : Int) + 1 := IntWalk.i64_in _ (by have := HTL.out; omega)
        clear ry hjt
        by_cases hy : y.lsn < nd
        · go_wp2_with (fail)
          go_roundw
          case rel => exact ⟨j + 1, y, by omega, by go_num, rfl, HYM.out, by rw [HS.out]; dsimp only; rw [if_pos hy], FR.out.alloc _⟩
          case measure => simp [intOf]; omega
        · go_wp2_with (fail)
          go_roundw
          case rel => exact ⟨j + 1, x, by omega, by go_num, rfl, HX.out, by rw [HS.out]; dsimp only; rw [if_neg hy], FR.out.alloc _⟩
          case measure => simp [intOf]; omega
      · obtain rfl : j = n := by omega
        have i2 : ¬ ((j : Int) < (j : Int)) := by omega
        go_wp2_with (fail)
        go_meet
        exact ⟨x, rfl, HX.out, by rw [HM.out]; unfold catAt; rw [List.take_of_length_le (by show (v.ts.map TimV.t).length ≤ j; rw [List.length_map, HNL.out]; exact Nat.le_refl _)], FR.out⟩
  case rest =>
    obtain ⟨x, rfl, hx, hm, hf⟩ := hcut
    generalize wc = WB at *
    have HM := hid hm
    have FB := hid hf
    have HX := hid hx
    clear hx hm hf F1 HX0
    have HCX := hid (H0.out.tc x HX.out)
    have r0 := cell_fr HB0.out FB.out (fun h => h)
    have r1 := cell_fr HB1.out FB.out (fun h => h)
    obtain ⟨na, hna⟩ : ∃ na : Nat, v.acked = na := ⟨v.acked.toNat, by have := HAC.out; omega⟩
    obtain ⟨nn, hnn⟩ : ∃ nn : Nat, nd = nn := ⟨nd.toNat, by have := HNB.out; omega⟩
    rw [hna] at r1
    subst hnn
    have HT1 := hid (fun W => Text_go v.name HNA.out W)
    have HP1 := hid (fun W => Put_go na 4 (by have := HAC.out; omega) (by omega) (by omega) W)
    have HP2 := hid (fun W => Put_go nn 4 (by have := HNB.out; omega) (by omega) (by omega) W)
    have HCB := hid (fun (W : World) (f : Fr (fun _ => False) w W) => Bytes_go (HCX.out.1.fre f) HCX.out.2)
    have HT2 := hid (fun W => Text_go (Cat.bytes x.m) (HBY.out x HX.out) W)
    have l1 := textLen v.name
    have l2 := textLen (Cat.bytes x.m)
    have l3 := HBY.out x HX.out
    have l4 := HNA.out
    have l5 := be_length 4 na (by omega)
    have l6 := be_length 4 nn (by omega)
    obtain ⟨tn, htn⟩ : ∃ t, text v.name = t := ⟨_, rfl⟩
    obtain ⟨tx, htx⟩ : ∃ t, text (Cat.bytes x.m) = t := ⟨_, rfl⟩
    obtain ⟨b1, hb1⟩ : ∃ t, be 4 na = t := ⟨_, rfl⟩
    obtain ⟨b2, hb2⟩ : ∃ t, be 4 nn = t := ⟨_, rfl⟩
    obtain ⟨A1, hA1⟩ : ∃ A, tn ++ b1 = A := ⟨_, rfl⟩
    obtain ⟨A2, hA2⟩ : ∃ A, A1 ++ b2 = A := ⟨_, rfl⟩
    obtain ⟨A3, hA3⟩ : ∃ A, A2 ++ tx = A := ⟨_, rfl⟩
    rw [htn] at HT1 l1
    rw [htx] at HT2 l2
    rw [hb1] at HP1 l5
    rw [hb2] at HP2 l6
    have g1 : ¬ 9223372036854775807 < (bs tn).size + (bs b1).size := by rw [bs_size, bs_size]; omega
    have n1 : A1.length = tn.length + b1.length := by rw [← hA1, List.length_append]
    have g2 : ¬ 9223372036854775807 < (bs A1).size + (bs b2).size := by rw [bs_size, bs_size]; omega
    have n2 : A2.length = A1.length + b2.length := by rw [← hA2, List.length_append]
    have g3 : ¬ 9223372036854775807 < (bs A2).size + (bs tx).size := by rw [bs_size, bs_size]; omega
    have HQ1 := hid hA1
    have HQ2 := hid hA2
    have HQ3 := hid hA3
    have HSB := hid (show A3 = sbytes v.t from by
      unfold sbytes
      have e1 : v.t.acked.toNat = na := by show v.acked.toNat = na; omega
      have e2 : (needM v.t).toNat = nn := by rw [HND.out]; omega
      have e3 : catAt v.t.times (needM v.t) = x.m := by rw [HND.out]; exact HM.out.symm
      have e4 : v.t.name = v.name := rfl
      rw [e1, e2, e3, e4, htn, htx, hb1, hb2, hA1, hA2, hA3])
    clear l1 l2 l3 l4 l5 l6 htn htx hb1 hb2 hA1 hA2 hA3 n1 n2
    go_upto_region 11 with fail
    have F1 := hid FB.out.drew
    refine wp_region_scr (.take 0 (.take 1 (.take 2 (.take 3 (.take 5 (.take 6 (.take 7 (.take 8 (.take 11 (.take 14 (.op 4 (.op 9 (.take 10 (.op 12 (.take 13 (.op 15 (.op 16 (.take 17 (.take 18 .done))))))))))))))))))) (fun kz w => (kz ≤ 19 → (w.cell? ⟨s, 0, none⟩ = some (.string (bs v.name)) ∧ w.cell? ⟨s, 1, none⟩ = some (.int .i64 (na : Int)))) ∧ Hid True) (by kernel_rfl) (by kernel_rfl) (by intro c a d v w h; cases d <;> exact h) ?_
    repeat
      first
      | (refine wpT_pure rfl rfl rfl ?_; apply Exists.intro; refine ⟨?_, ?_⟩; intro w; (first | (((have qa0 := qa.1); (have qa1 := qa.2); (go_simp <;> rfl))) | (go_simp <;> rfl)); simp only [Act.put, List.setIfInBounds_toArray, List.set_cons_zero, List.set_cons_succ])
      | (refine wpT_take 19 rfl rfl (by decide +kernel) ⟨fun _ => ⟨r0, r1⟩, hid trivial⟩ ?_; apply Exists.intro; refine ⟨?_, ?_⟩; intro w hw; (have qa := hw.1 (Nat.le_refl _); have qb := hw.2); (first | (((have qa0 := qa.1); (have qa1 := qa.2); (go_simp <;> rfl))) | (go_simp <;> rfl)); simp only [Act.put, List.setIfInBounds_toArray, List.set_cons_zero, List.set_cons_succ])
      | (refine wpT_skip rfl rfl ?_; simp only [Act.put, List.setIfInBounds_toArray, List.set_cons_zero, List.set_cons_succ])
    refine wpT_op rfl ?_
    go_wp2_with ((go_at_call 81; refine (HT1.out _).mono ?_; rintro e w3 ⟨rfl, f3⟩; have F3 := hid (F1.out.trans f3 (fun _ h _ => h))))
    (refine ⟨?_, ?_⟩; focus (intro kz hk hk2 hh; first | (exfalso; simp at hk2; omega) | exact hh | exact (fun h => absurd h (by omega)) | obtain ⟨qa, qb⟩ := hh; first | exact ⟨qa, qb⟩ | (refine ⟨fun h => absurd h (by omega), ?_⟩; first | exact qb | (first | exact hid trivial | exact ⟨cell_fr qa.1 f3 (fun h => h), cell_fr qa.2 f3 (fun h => h)⟩)) | (refine ⟨fun h => ?_, ?_⟩; (have qa := qa h); all_goals (first | exact qa | exact qb | (first | exact hid trivial | exact ⟨cell_fr qa.1 f3 (fun h => h), cell_fr qa.2 f3 (fun h => h)⟩)))))
    clear f3
    refine wpT_op rfl ?_
    go_wp2_with ((go_at_call 55; refine (HP1.out _).mono ?_; rintro e w4 ⟨rfl, f4⟩; have F4 := hid (F3.out.trans f4 (fun _ h _ => h))))
    (refine ⟨?_, ?_⟩; focus (intro kz hk hk2 hh; first | (exfalso; simp at hk2; omega) | exact hh | exact (fun h => absurd h (by omega)) | obtain ⟨qa, qb⟩ := hh; first | exact ⟨qa, qb⟩ | (refine ⟨fun h => absurd h (by omega), ?_⟩; first | exact qb | (first | exact hid trivial | exact ⟨cell_fr qa.1 f4 (fun h => h), cell_fr qa.2 f4 (fun h => h)⟩)) | (refine ⟨fun h => ?_, ?_⟩; (have qa := qa h); all_goals (first | exact qa | exact qb | (first | exact hid trivial | exact ⟨cell_fr qa.1 f4 (fun h => h), cell_fr qa.2 f4 (fun h => h)⟩)))))
    clear f4
    repeat
      first
      | (refine wpT_pure rfl rfl rfl ?_; apply Exists.intro; refine ⟨?_, ?_⟩; intro w; (first | ((refine Eq.trans (b := Result.ok (Next.value (.string (bs A1))) w) ?_ rfl; go_simp; rw [bs_append, HQ1.out])) | (go_simp <;> rfl)); simp only [Act.put, List.setIfInBounds_toArray, List.set_cons_zero, List.set_cons_succ])
      | (refine wpT_take 19 rfl rfl (by decide +kernel) ⟨fun h => absurd h (by omega), hid trivial⟩ ?_; apply Exists.intro; refine ⟨?_, ?_⟩; intro w hw; (have qa := hw.1 (Nat.le_refl _); have qb := hw.2); (first | ((refine Eq.trans (b := Result.ok (Next.value (.string (bs A1))) w) ?_ rfl; go_simp; rw [bs_append, HQ1.out])) | (go_simp <;> rfl)); simp only [Act.put, List.setIfInBounds_toArray, List.set_cons_zero, List.set_cons_succ])
      | (refine wpT_skip rfl rfl ?_; simp only [Act.put, List.setIfInBounds_toArray, List.set_cons_zero, List.set_cons_succ])
    refine wpT_op rfl ?_
    go_wp2_with ((go_at_call 55; refine (HP2.out _).mono ?_; rintro e w5 ⟨rfl, f5⟩; have F5 := hid (F4.out.trans f5 (fun _ h _ => h))))
    (refine ⟨?_, ?_⟩; focus (intro kz hk hk2 hh; first | (exfalso; simp at hk2; omega) | exact hh | exact (fun h => absurd h (by omega)) | obtain ⟨qa, qb⟩ := hh; first | exact ⟨qa, qb⟩ | (refine ⟨fun h => absurd h (by omega), ?_⟩; first | exact qb | (first | exact hid trivial | exact ⟨cell_fr qa.1 f5 (fun h => h), cell_fr qa.2 f5 (fun h => h)⟩)) | (refine ⟨fun h => ?_, ?_⟩; (have qa := qa h); all_goals (first | exact qa | exact qb | (first | exact hid trivial | exact ⟨cell_fr qa.1 f5 (fun h => h), cell_fr qa.2 f5 (fun h => h)⟩)))))
    clear f5
    repeat
      first
      | (refine wpT_pure rfl rfl rfl ?_; apply Exists.intro; refine ⟨?_, ?_⟩; intro w; (first | ((refine Eq.trans (b := Result.ok (Next.value (.string (bs A2))) w) ?_ rfl; go_simp; rw [bs_append, HQ2.out])) | (go_simp <;> rfl)); simp only [Act.put, List.setIfInBounds_toArray, List.set_cons_zero, List.set_cons_succ])
      | (refine wpT_take 19 rfl rfl (by decide +kernel) ⟨fun h => absurd h (by omega), hid trivial⟩ ?_; apply Exists.intro; refine ⟨?_, ?_⟩; intro w hw; (have qa := hw.1 (Nat.le_refl _); have qb := hw.2); (first | ((refine Eq.trans (b := Result.ok (Next.value (.string (bs A2))) w) ?_ rfl; go_simp; rw [bs_append, HQ2.out])) | (go_simp <;> rfl)); simp only [Act.put, List.setIfInBounds_toArray, List.set_cons_zero, List.set_cons_succ])
      | (refine wpT_skip rfl rfl ?_; simp only [Act.put, List.setIfInBounds_toArray, List.set_cons_zero, List.set_cons_succ])
    refine wpT_op rfl ?_
    go_wp2_with ((go_at_call 82; refine (HCB.out _ F5.out).mono ?_; rintro e w6 ⟨rfl, f6⟩; have F6 := hid (F5.out.trans f6 (fun _ h _ => h))))
    (refine ⟨?_, ?_⟩; focus (intro kz hk hk2 hh; first | (exfalso; simp at hk2; omega) | exact hh | exact (fun h => absurd h (by omega)) | obtain ⟨qa, qb⟩ := hh; first | exact ⟨qa, qb⟩ | (refine ⟨fun h => absurd h (by omega), ?_⟩; first | exact qb | (first | exact hid trivial | exact ⟨cell_fr qa.1 f6 (fun h => h), cell_fr qa.2 f6 (fun h => h)⟩)) | (refine ⟨fun h => ?_, ?_⟩; (have qa := qa h); all_goals (first | exact qa | exact qb | (first | exact hid trivial | exact ⟨cell_fr qa.1 f6 (fun h => h), cell_fr qa.2 f6 (fun h => h)⟩)))))
    clear f6
    refine wpT_op rfl ?_
    go_wp2_with ((go_at_call 81; refine (HT2.out _).mono ?_; rintro e w7 ⟨rfl, f7⟩; have F7 := hid (F6.out.trans f7 (fun _ h _ => h))))
    (refine ⟨?_, ?_⟩; focus (intro kz hk hk2 hh; first | (exfalso; simp at hk2; omega) | exact hh | exact (fun h => absurd h (by omega)) | obtain ⟨qa, qb⟩ := hh; first | exact ⟨qa, qb⟩ | (refine ⟨fun h => absurd h (by omega), ?_⟩; first | exact qb | (first | exact hid trivial | exact ⟨cell_fr qa.1 f7 (fun h => h), cell_fr qa.2 f7 (fun h => h)⟩)) | (refine ⟨fun h => ?_, ?_⟩; (have qa := qa h); all_goals (first | exact qa | exact qb | (first | exact hid trivial | exact ⟨cell_fr qa.1 f7 (fun h => h), cell_fr qa.2 f7 (fun h => h)⟩)))))
    clear f7
    repeat
      first
      | (refine wpT_pure rfl rfl rfl ?_; apply Exists.intro; refine ⟨?_, ?_⟩; intro w; (first | ((refine Eq.trans (b := Result.ok (Next.value (.string (bs A3))) w) ?_ rfl; go_simp; rw [bs_append, HQ3.out])) | (go_simp <;> rfl)); simp only [Act.put, List.setIfInBounds_toArray, List.set_cons_zero, List.set_cons_succ])
      | (refine wpT_take 19 rfl rfl (by decide +kernel) ⟨fun h => absurd h (by omega), hid trivial⟩ ?_; apply Exists.intro; refine ⟨?_, ?_⟩; intro w hw; (have qa := hw.1 (Nat.le_refl _); have qb := hw.2); (first | ((refine Eq.trans (b := Result.ok (Next.value (.string (bs A3))) w) ?_ rfl; go_simp; rw [bs_append, HQ3.out])) | (go_simp <;> rfl)); simp only [Act.put, List.setIfInBounds_toArray, List.set_cons_zero, List.set_cons_succ])
      | (refine wpT_skip rfl rfl ?_; simp only [Act.put, List.setIfInBounds_toArray, List.set_cons_zero, List.set_cons_succ])
    refine wpT_nil ?_
    go_wp2_with (fail)
    go_ret
    have e9 := HSB.out
    subst e9
    exact ⟨rfl, F7.out⟩
/-- the same, told of a slot as the laws see it -/
theorem SH.bytes {X : Nat → Prop} {W : World} {s N : Nat} {m : Slt} (h : SH X W s m N) (hN : N ≤ 1048576) (hl : -4611686018427387904 ≤ m.last ∧ m.last ≤ 4611686018427387904) (hna : m.name.length ≤ 65535) (hac : 0 ≤ m.acked ∧ m.acked ≤ 4611686018427387904) (hnd : 0 ≤ needM m ∧ needM m ≤ 4611686018427387905) :
    Calls Tryz.prog 27 #[.pointer (some ⟨s, 0, none⟩)] W fun e w' => e = .returned (.string (bs (sbytes m))) ∧ Fr (fun _ => False) W w' := by
  obtain ⟨S, C, v, h1, rfl, h3, h4, h5, h6, h7⟩ := h
  have e1 : v.t.queue.length = v.qs.length := List.length_map ..
  have e2 : v.t.times.length = v.ts.length := List.length_map ..
  exact SBytes_go h1 (by have := h4.qs; omega) hl (by have := h4.ts; omega) hna hac hnd (fun t ht => by have := bytes_le (h1.tc t ht).2; omega)
/-- the catalogs of a slot are valid -/
theorem SH.okc {X : Nat → Prop} {W : World} {s N : Nat} {m : Slt} (h : SH X W s m N) (k : Int) : Ok (catAt m.times k) := by
  obtain ⟨S, C, v, h1, rfl, h3, h4, h5, h6, h7⟩ := h
  exact catAt_ok _ (fun t ht => by obtain ⟨x, hx, rfl⟩ := List.mem_map.1 ht; exact (h1.tc x hx).2) k
end Go.Proofs.YtiimomgbklgicaaGreat
