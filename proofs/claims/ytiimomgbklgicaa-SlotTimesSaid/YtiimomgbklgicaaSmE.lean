import Derived.Test.YtiimomgbklgicaaSlS
import Derived.Test.YtiimomgbklgicaaSmD
/- A slot as the laws see it: its model, and the blocks that it keeps to. -/
set_option linter.unusedVariables false
namespace Go.VB.Slt
open Go.VB Go.VB.Oct Go.VB.Cat Go.VB.Rec
open Go.Proofs.Ytiimomgbklgicaa (atM)
/-- how many changes are spilled -/
def splM (s : Slt) : Nat := (s.fols.map fun f => f.turns.length - 16).sum
/-- a slot begun -/
def newM (name : Bs) (n : Int) (c : List Tab) : Slt := ⟨name, n, n, [(n, c)], [], []⟩
theorem sok_new (name : Bs) (n : Int) (c : List Tab) : SOk (newM name n c) := ⟨by simp [newM, turnsOf], fun t ht => by simp [newM, turnsOf] at ht, fun f hf => by simp [newM] at hf, fun f hf => by simp [newM] at hf, by simp [newM]⟩
theorem few_new (name : Bs) (n : Int) (c : List Tab) : FewM (newM name n c) 1 := ⟨Nat.le_refl _, Nat.zero_le _, Nat.zero_le _, fun d hd => by simp [newM] at hd⟩
theorem queueM_nil (s : Slt) (lsn : Int) : queueM s lsn [] = s := if_pos (.inl rfl)
theorem feed_ins {s : Slt} {lsn : Int} {r : Rc} (h : s.last < lsn) (hk : r.kind = 2) : feedM s lsn r = addM { s with last := lsn } r.xid ⟨lsn, chgM (atM s.now r.table).1 r⟩ := by
  unfold feedM
  rw [if_neg (by omega)]
  have h1 : toldM s r = [] := by unfold toldM; rw [if_neg (by rw [hk]; decide)]
  have h2 : midM s lsn r = addM { s with last := lsn } r.xid ⟨lsn, chgM (atM s.now r.table).1 r⟩ := by unfold midM; rw [if_pos (.inl hk)]
  rw [h1, h2, queueM_nil]
theorem feed_commit {s : Slt} {lsn : Int} {r : Rc} (h : s.last < lsn) (hk : r.kind = 5) : feedM s lsn r = queueM { s with last := lsn, fols := others s.fols r.xs } lsn (sortT (turnsOf (mine s.fols r.xs))) := by
  unfold feedM
  rw [if_neg (by omega)]
  have h1 : toldM s r = sortT (turnsOf (mine s.fols r.xs)) := by unfold toldM; rw [if_pos hk]
  have h2 : midM s lsn r = { s with last := lsn, fols := others s.fols r.xs } := by
    unfold midM
    rw [if_neg (by rw [hk]; decide), if_neg (by rw [hk]; decide), if_pos (.inl hk)]
  rw [h1, h2]
theorem feed_abort {s : Slt} {lsn : Int} {r : Rc} (h : s.last < lsn) (hk : r.kind = 6) : feedM s lsn r = { s with last := lsn, fols := others s.fols r.xs } := by
  unfold feedM
  rw [if_neg (by omega)]
  have h1 : toldM s r = [] := by unfold toldM; rw [if_neg (by rw [hk]; decide)]
  have h2 : midM s lsn r = { s with last := lsn, fols := others s.fols r.xs } := by
    unfold midM
    rw [if_neg (by rw [hk]; decide), if_neg (by rw [hk]; decide), if_pos (.inr hk)]
  rw [h1, h2, queueM_nil]
/-- the transactions that Queued gives, as numbers and changes -/
def Slt.told (s : Slt) : List (Int × List Chg) := s.queue.map fun d => (d.lsn, d.cs)
end Go.VB.Slt
namespace Go.Proofs.Ytiimomgbklgicaa
open Go.RowKit Go.VB Go.VB.Oct Go.VB.Cat Go.VB.Rec Go.VB.Slt
/-- slot s is the model m; its blocks lie in X; it holds at most N of each kind -/
def SH (X : Nat → Prop) (W : World) (s : Nat) (m : Slt) (N : Nat) : Prop :=
  ∃ (S C : Nat → Prop) (v : SltV), SlO S C W s v ∧ v.t = m ∧ SOk m ∧ FewM m N ∧ v.n ≤ N ∧ (∀ k, S k ∨ C k → X k) ∧ (∀ k, X k → k < W.heap.size)
namespace SH
variable {X U : Nat → Prop} {W W' w : World} {s N : Nat} {m : Slt}
theorem fr (h : SH X W s m N) (f : Fr U W W') (hU : ∀ k, X k → ¬ U k) : SH X W' s m N := by
  obtain ⟨S, C, v, h1, h2, h3, h4, h5, h6, h7⟩ := h
  exact ⟨S, C, v, h1.fr f (fun k hk => hU k (h6 k hk)), h2, h3, h4, h5, h6, fun k hk => Nat.lt_of_lt_of_le (h7 k hk) f.size⟩
theorem fre (h : SH X W s m N) (f : Fr (fun _ => False) W W') : SH X W' s m N := h.fr f (fun _ _ h => h)
theorem lt (h : SH X W s m N) {k : Nat} (hk : X k) : k < W.heap.size := by
  obtain ⟨S, C, v, h1, h2, h3, h4, h5, h6, h7⟩ := h
  exact h7 k hk
theorem few (h : SH X W s m N) : FewM m N := by
  obtain ⟨S, C, v, h1, h2, h3, h4, h5, h6, h7⟩ := h
  exact h4
theorem ok (h : SH X W s m N) : SOk m := by
  obtain ⟨S, C, v, h1, h2, h3, h4, h5, h6, h7⟩ := h
  exact h3
theorem mono {Y : Nat → Prop} {M : Nat} (h : SH X W s m N) (hY : ∀ k, X k → Y k) (hl : ∀ k, Y k → k < W.heap.size) (hM : N ≤ M) : SH Y W s m M := by
  obtain ⟨S, C, v, h1, h2, h3, h4, h5, h6, h7⟩ := h
  exact ⟨S, C, v, h1, h2, h3, h4.mono hM, Nat.le_trans h5 hM, fun k hk => hY k (h6 k hk), hl⟩
theorem new_ (name : Bs) (n : Int) (w : World) : Calls Try.prog 9 #[.string (bs name), .int .i64 n, .pointer none] w fun e w' => ∃ s, e = .returned (.pointer (some ⟨s, 0, none⟩)) ∧ SH (fun k => w.heap.size ≤ k ∧ k < w'.heap.size) w' s (newM name (max n 0) []) 1 ∧ Fr (fun _ => False) w w' := by
  refine (New_nil name n w).mono ?_
  rintro e w' ⟨s, q, b, S, C, rfl, h, hg, f⟩
  exact ⟨s, rfl, ⟨S, C, _, h, rfl, sok_new _ _ _, few_new _ _ _, by show (0 : Nat) ≤ 1; omega, fun k hk => ⟨hg k hk, h.lt k hk⟩, fun k hk => hk.2⟩, f⟩
theorem feed {P : Nat → Prop} (h : SH X w s m N) (hN : N ≤ 1000000) {r : RecV} (hr : RecS P w r) (hP : ∀ k, P k → ¬ X k ∧ k < w.heap.size) (lsn : Int) (hx : I64 r.r.xid) (ht : I64 r.r.table) (hxs : ∀ x ∈ r.r.xids, I64 x) (hnote : r.r.note.length ≤ 1099511627776) :
    Calls Try.prog 12 #[.pointer (some ⟨s, 0, none⟩), .int .i64 lsn, .agg r.cells.toArray] w fun e w' => e = .returned (.tuple #[]) ∧ SH (Ext X w w') w' s (feedM m lsn r.r) (N + 1) ∧ Fr X w w' := by
  obtain ⟨S, C, v, h1, rfl, h3, h4, h5, h6, h7⟩ := h
  refine (Feed_go h1 h3 h4 h5 hN hr (fun k hk => ⟨fun hs => (hP k hk).1 (h6 k (.inl hs)), (hP k hk).2⟩) hx ht hxs hnote (lsn := lsn)).mono ?_
  rintro e w' ⟨rfl, v', T, D, g1, g2, g3, g4, g5, g6⟩
  refine ⟨rfl, ⟨T, D, v', g1, g2, h3.feed lsn r.r, h4.feed lsn r.r, g3, fun k hk => ?_, fun k hk => ?_⟩, g6.mono (fun k hk _ => h6 k (.inl hk))⟩
  · have hl := g1.lt k hk
    rcases hk with hk | hk
    · exact (g4 k hk).elim (fun h => .inl (h6 k (.inl h))) (fun h => .inr ⟨h, hl⟩)
    · exact (g5 k hk).elim (fun h => .inl (h6 k (.inr h))) (fun h => .inr ⟨h, hl⟩)
  · rcases hk with hk | hk
    · exact Nat.lt_of_lt_of_le (h7 k hk) g6.size
    · exact hk.2
/-- a record without slices -/
theorem feed0 (h : SH X w s m N) (hN : N ≤ 1000000) (lsn kind xid table : Int) (hx : I64 xid) (ht : I64 table) :
    Calls Try.prog 12 #[.pointer (some ⟨s, 0, none⟩), .int .i64 lsn, .agg #[.int .i64 kind, .int .i64 xid, .int .i64 table, .slice none 0 0, .slice none 0 0, .slice none 0 0, .slice none 0 0, .string ⟨#[]⟩]] w fun e w' => e = .returned (.tuple #[]) ∧ SH (Ext X w w') w' s (feedM m lsn ⟨kind, xid, table, [], [], [], []⟩) (N + 1) ∧ Fr X w w' := by
  have hs : ∀ xs : List Value, xs = [] → Sl (fun _ => False) w (.slice none 0 0) 0 xs := fun xs e => ⟨none, 0, rfl, Nat.le_refl _, fun h => absurd e h⟩
  exact h.feed hN (P := fun _ => False) (r := ⟨⟨kind, xid, table, [], [], [], []⟩, .slice none 0 0, .slice none 0 0, .slice none 0 0, .slice none 0 0⟩) ⟨hs _ rfl, hs _ rfl, hs _ rfl, ⟨_, _, _, rfl⟩, Nat.zero_le _, Nat.zero_le _, Nat.zero_le _⟩ (fun k hk => hk.elim) lsn hx ht (fun x hx => by simp at hx) (Nat.zero_le _)
/-- the same, the new blocks told by where they begin -/
theorem feedX {P : Nat → Prop} (h : SH X W s m N) (f : Fr (fun _ => False) W w) (hN : N ≤ 1000000) {r : RecV} (hr : RecS P w r) (hP : ∀ k, P k → ¬ X k ∧ k < w.heap.size) (lsn : Int) (hx : I64 r.r.xid) (ht : I64 r.r.table) (hxs : ∀ x ∈ r.r.xids, I64 x) (hnote : r.r.note.length ≤ 1099511627776) :
    Calls Try.prog 12 #[.pointer (some ⟨s, 0, none⟩), .int .i64 lsn, .agg r.cells.toArray] w fun e w' => e = .returned (.tuple #[]) ∧ ∃ X' : Nat → Prop, SH X' w' s (feedM m lsn r.r) (N + 1) ∧ (∀ k, X' k → X k ∨ w.heap.size ≤ k) ∧ Fr X w w' :=
  ((h.fre f).feed hN hr hP lsn hx ht hxs hnote).mono fun e w' ⟨h1, h2, h3⟩ => ⟨h1, _, h2, fun k hk => hk.elim .inl (fun h => .inr h.1), h3⟩
theorem feedX0 (h : SH X w s m N) (hN : N ≤ 1000000) (lsn kind xid table : Int) (hx : I64 xid) (ht : I64 table) :
    Calls Try.prog 12 #[.pointer (some ⟨s, 0, none⟩), .int .i64 lsn, .agg #[.int .i64 kind, .int .i64 xid, .int .i64 table, .slice none 0 0, .slice none 0 0, .slice none 0 0, .slice none 0 0, .string ⟨#[]⟩]] w fun e w' => e = .returned (.tuple #[]) ∧ ∃ X' : Nat → Prop, SH X' w' s (feedM m lsn ⟨kind, xid, table, [], [], [], []⟩) (N + 1) ∧ (∀ k, X' k → X k ∨ w.heap.size ≤ k) ∧ Fr X w w' :=
  (h.feed0 hN lsn kind xid table hx ht).mono fun e w' ⟨h1, h2, h3⟩ => ⟨h1, _, h2, fun k hk => hk.elim .inl (fun h => .inr h.1), h3⟩
theorem queued (h : SH X w s m N) (hN : N ≤ 1048576) (k : Int) :
    Calls Try.prog 11 #[.pointer (some ⟨s, 0, none⟩), .int .i64 k] w fun e w' => ∃ u xs, e = .returned u ∧ xs.map TxnV.t = m.told.take (qn k m.queue.length) ∧ TxnsR w.heap.size w' u xs ∧ Fr (fun _ => False) w w' := by
  obtain ⟨S, C, v, h1, rfl, h3, h4, h5, h6, h7⟩ := h
  have e1 : v.t.queue.length = v.qs.length := List.length_map ..
  refine (Queued_go h1 k (by have := h4.qs; omega) (fun d hd => by
    have h := h4.q d.t (List.mem_map_of_mem hd)
    have e : d.t.cs.length = d.cs.length := List.length_map ..
    omega)).mono ?_
  rintro e w' ⟨u, xs, rfl, g1, g2, g3⟩
  refine ⟨u, xs, rfl, ?_, g2, g3⟩
  rw [g1, e1, List.map_take]
  unfold Slt.told
  show _ = List.take _ ((v.qs.map DnV.t).map _)
  rw [List.map_map]
  rfl
theorem need (h : SH X w s m N) (hN : N ≤ 1048576) (hl : -4611686018427387904 ≤ m.last ∧ m.last ≤ 4611686018427387904) : Calls Try.prog 22 #[.pointer (some ⟨s, 0, none⟩)] w fun e w' => e = .returned (.int .i64 (needM m)) ∧ Fr (fun _ => False) w w' := by
  obtain ⟨S, C, v, h1, rfl, h3, h4, h5, h6, h7⟩ := h
  have e1 : v.t.queue.length = v.qs.length := List.length_map ..
  exact Need_go h1 (by have := h4.qs; omega) hl
theorem ack (h : SH X w s m N) (hN : N ≤ 1048576) (k : Int) : Calls Try.prog 19 #[.pointer (some ⟨s, 0, none⟩), .int .i64 k] w fun e w' => e = .returned (.int .i64 (ackM m k).2) ∧ SH X w' s (ackM m k).1 N ∧ Fr X w w' := by
  obtain ⟨S, C, v, h1, rfl, h3, h4, h5, h6, h7⟩ := h
  have e1 : v.t.queue.length = v.qs.length := List.length_map ..
  refine (Ack_go h1 (by have := h4.qs; omega) k).mono ?_
  rintro e w' ⟨rfl, v', g1, g2, g3, g4⟩
  refine ⟨rfl, ⟨S, C, v', g1, g2, ?_, ?_, by rw [g3]; exact h5, h6, fun k hk => Nat.lt_of_lt_of_le (h7 k hk) g4.size⟩, g4.mono (fun k hk _ => h6 k (.inl hk))⟩
  · unfold ackM
    split
    · exact h3
    · exact ⟨h3.dis, h3.le, h3.asc, h3.ne, h3.nod⟩
  · unfold ackM
    split
    · exact h4
    · exact ⟨h4.ts, Nat.le_trans (List.length_filter_le ..) h4.qs, h4.tot, fun d hd => h4.q d (List.mem_filter.1 hd).1⟩
theorem open_ (h : SH X w s m N) : Calls Try.prog 14 #[.pointer (some ⟨s, 0, none⟩)] w fun e w' => e = .returned (.int .i64 m.fols.length) ∧ w' = w := by
  obtain ⟨S, C, v, h1, rfl, h3, h4, h5, h6, h7⟩ := h
  have e1 : v.t.fols.length = v.fs.length := List.length_map ..
  rw [e1]
  exact Open_go h1
theorem spilled (h : SH X w s m N) (hN : N ≤ 1048576) : Calls Try.prog 15 #[.pointer (some ⟨s, 0, none⟩)] w fun e w' => e = .returned (.int .i64 (splM m)) ∧ Fr (fun _ => False) w w' := by
  obtain ⟨S, C, v, h1, rfl, h3, h4, h5, h6, h7⟩ := h
  have e1 : splM v.t = spl v.fs := by
    unfold splM spl
    show (((v.fs.map FolV.t)).map _).sum = _
    rw [List.map_map]
    congr 1
    refine List.map_congr_left fun f hf => ?_
    have hf := h1.f f hf
    show ((f.hs ++ f.ss).map TrnV.t).length - 16 = f.ss.length
    rw [List.length_map, List.length_append]
    by_cases h : f.ss = []
    · rw [h]
      have := hf.le
      simp; omega
    · have := hf.full h
      omega
  have e2 : splM v.t ≤ (turnsOf v.t.fols).length := by
    unfold splM turnsOf
    generalize v.t.fols = l
    induction l with
    | nil => exact Nat.le_refl _
    | cons f l ih =>
      rw [List.map_cons, List.sum_cons, List.flatMap_cons, List.length_append]
      omega
  rw [e1]
  exact Spilled_go h1 (by have := h4.tot; omega)
theorem acked (h : SH X w s m N) : Calls Try.prog 21 #[.pointer (some ⟨s, 0, none⟩)] w fun e w' => e = .returned (.int .i64 m.acked) ∧ w' = w := by
  obtain ⟨S, C, v, h1, rfl, h3, h4, h5, h6, h7⟩ := h
  exact Acked_go h1
theorem name (h : SH X w s m N) : Calls Try.prog 20 #[.pointer (some ⟨s, 0, none⟩)] w fun e w' => e = .returned (.string (bs m.name)) ∧ w' = w := by
  obtain ⟨S, C, v, h1, rfl, h3, h4, h5, h6, h7⟩ := h
  exact Name_go h1
end SH
end Go.Proofs.Ytiimomgbklgicaa
/- The examples of the chapter. -/
namespace Go.VB.Slt
open Go.VB Go.VB.Oct Go.VB.Cat Go.VB.Rec
open Go.Proofs.Ytiimomgbklgicaa (atM)
def chg0 : Chg := ⟨2, [], [], [], []⟩
theorem san1 : feedM (newM [115] 0 []) 1 ⟨2, 5, 0, [], [], [], []⟩ = ⟨[115], 0, 1, [(0, [])], [⟨5, [⟨1, chg0⟩]⟩], []⟩ := by
  rw [feed_ins (by decide) rfl]
  rfl
theorem san2 : feedM ⟨[115], 0, 1, [(0, [])], [⟨5, [⟨1, chg0⟩]⟩], []⟩ 2 ⟨2, 6, 0, [], [], [], []⟩ = ⟨[115], 0, 2, [(0, [])], [⟨5, [⟨1, chg0⟩]⟩, ⟨6, [⟨2, chg0⟩]⟩], []⟩ := by
  rw [feed_ins (by decide) rfl]
  rfl
theorem san3 : feedM ⟨[115], 0, 2, [(0, [])], [⟨5, [⟨1, chg0⟩]⟩, ⟨6, [⟨2, chg0⟩]⟩], []⟩ 3 ⟨5, 6, 0, [], [], [], []⟩ = ⟨[115], 0, 3, [(0, [])], [⟨5, [⟨1, chg0⟩]⟩], [⟨2, 3, [chg0]⟩]⟩ := by
  rw [feed_commit (by decide) rfl]
  show queueM ⟨[115], 0, 3, [(0, [])], [⟨5, [⟨1, chg0⟩]⟩], []⟩ 3 (sortT [⟨2, chg0⟩]) = _
  rw [sortT_of (List.pairwise_singleton _ _)]
  unfold queueM
  rw [if_neg (by simp)]
  rfl
theorem san4 : feedM ⟨[115], 0, 3, [(0, [])], [⟨5, [⟨1, chg0⟩]⟩], [⟨2, 3, [chg0]⟩]⟩ 4 ⟨5, 5, 0, [], [], [], []⟩ = ⟨[115], 0, 4, [(0, [])], [], [⟨2, 3, [chg0]⟩, ⟨1, 4, [chg0]⟩]⟩ := by
  rw [feed_commit (by decide) rfl]
  show queueM ⟨[115], 0, 4, [(0, [])], [], [⟨2, 3, [chg0]⟩]⟩ 4 (sortT [⟨1, chg0⟩]) = _
  rw [sortT_of (List.pairwise_singleton _ _)]
  unfold queueM
  rw [if_neg (by simp)]
  rfl
theorem map_one {α β : Type} {f : α → β} {xs : List α} {a : β} (h : xs.map f = [a]) : ∃ x, xs = [x] ∧ f x = a := by
  cases xs with
  | nil => simp at h
  | cons x l =>
    rw [List.map_cons, List.cons.injEq] at h
    have : l = [] := List.map_eq_nil_iff.1 h.2
    exact ⟨x, by rw [this], h.1⟩
theorem map_two {α β : Type} {f : α → β} {xs : List α} {a b : β} (h : xs.map f = [a, b]) : ∃ x y, xs = [x, y] ∧ f x = a ∧ f y = b := by
  cases xs with
  | nil => simp at h
  | cons x l =>
    rw [List.map_cons, List.cons.injEq] at h
    obtain ⟨y, hy, e⟩ := map_one h.2
    exact ⟨x, y, by rw [hy], h.1, e⟩
def san4s : Slt := ⟨[115], 0, 4, [(0, [])], [], [⟨2, 3, [chg0]⟩, ⟨1, 4, [chg0]⟩]⟩
def san5s : Slt := ⟨[115], 3, 4, [(0, [])], [], [⟨1, 4, [chg0]⟩]⟩
def san6s : Slt := ⟨[115], 4, 4, [(0, [])], [], []⟩
theorem san5 : ackM san4s 3 = (san5s, 0) := by
  unfold ackM
  rw [if_neg (by simp [san4s])]
  rfl
theorem san6 : ackM san5s 4 = (san6s, 0) := by
  unfold ackM
  rw [if_neg (by simp [san5s])]
  rfl
end Go.VB.Slt
namespace Go.Proofs.Ytiimomgbklgicaa
open Go.RowKit Go.VB Go.VB.Oct Go.VB.Cat Go.VB.Rec Go.VB.Slt
/-- the caller's transactions, in memory -/
theorem TxnsR.cells {B : Nat} {W : World} {u : Value} {xs : List TxnV} (h : TxnsR B W u xs) (hne : xs ≠ []) : ∃ g c, u = .slice (some ⟨g, 0, none⟩) xs.length c ∧ B ≤ g ∧ xs.length ≤ c ∧ ∀ i (hi : i < xs.length), W.rangeAt g (i * 2) xs[i].cells := by
  have hr := h.r
  obtain ⟨a, c, rfl, hc⟩ := hr.slice
  obtain ⟨g, rfl, hg, -⟩ := row_range hr (by
    intro e
    have := congrArg List.length e
    rw [flat_len (k := 2) (fun _ => rfl), List.length_nil] at this
    have := List.length_pos_iff.2 hne
    omega)
  exact ⟨g, c, rfl, hg, hc, fun i hi => row_at (f := TxnV.cells) (fun _ => rfl) hr hi⟩
theorem TxnO.cells {B : Nat} {W : World} {x : TxnV} (h : TxnO B W x) (hne : x.cs ≠ []) : ∃ g c, x.v = .slice (some ⟨g, 0, none⟩) x.cs.length c ∧ B ≤ g ∧ x.cs.length ≤ c ∧ ∀ i (hi : i < x.cs.length), W.rangeAt g (i * 5) x.cs[i].cells := by
  have hr := h.r
  obtain ⟨a, c, e, hc⟩ := hr.slice
  rw [e] at hr
  obtain ⟨g, rfl, hg, -⟩ := row_range hr (by
    intro e
    have := congrArg List.length e
    rw [flat_len (k := 5) (fun _ => rfl), List.length_nil] at this
    have := List.length_pos_iff.2 hne
    omega)
  exact ⟨g, c, e, hg, hc, fun i hi => row_at (f := ChgV.cells) (fun _ => rfl) hr hi⟩
set_option maxRecDepth 20000 in
set_option maxHeartbeats 4000000 in
theorem sanity_go (w : World) : Calls Try.prog 8 #[] w fun e w' => e = .returned (.bool true) ∧ Fr (fun _ => False) w w' := by
  have HN := hid (SH.new_ [115] 0 w)
  have eb : bs [115] = ⟨#[115]⟩ := rfl
  rw [eb] at HN
  clear eb
  go_enter Try.func8, Try.ntmps8
  go_upto_region 4 with (go_at_call 9; refine HN.out.mono ?_; rintro e w1 ⟨s, rfl, h, f⟩; obtain ⟨X0, h, hx⟩ : ∃ X0 : Nat → Prop, SH X0 w1 s (newM [115] (max 0 0) []) 1 ∧ ∀ k, X0 k → w.heap.size ≤ k := ⟨_, h, fun k hk => hk.1⟩; have H0 := hid h; have HX0 := hid hx; have F0 := hid f; clear h hx f)
  clear HN
  have HF1 := hid (SH.feedX0 H0.out (by omega) 1 2 5 0 ⟨by omega, by omega⟩ ⟨by omega, by omega⟩)
  rw [show max (0 : Int) 0 = 0 from rfl, san1] at HF1
  go_upto_region 5 with (go_at_call 12; refine HF1.out.mono ?_; rintro e w2 ⟨rfl, X1, h, hx, f⟩; have H1 := hid h; have HX1 := hid (fun k (hk : X1 k) => (hx k hk).elim (HX0.out k) (Nat.le_trans F0.out.size)); have F1 := hid (F0.out.trans f (fun k hk hl => by have := HX0.out k hk; omega)); clear h hx f)
  clear HF1 H0 HX0 F0
  have HF2 := hid (SH.feedX0 H1.out (by omega) 2 2 6 0 ⟨by omega, by omega⟩ ⟨by omega, by omega⟩)
  rw [san2] at HF2
  go_upto_region 6 with (go_at_call 12; refine HF2.out.mono ?_; rintro e w3 ⟨rfl, X2, h, hx, f⟩; have H2 := hid h; have HX2 := hid (fun k (hk : X2 k) => (hx k hk).elim (HX1.out k) (Nat.le_trans F1.out.size)); have F2 := hid (F1.out.trans f (fun k hk hl => by have := HX1.out k hk; omega)); clear h hx f)
  clear HF2 H1 HX1 F1
  have HF3 := hid (SH.feedX0 H2.out (by omega) 3 5 6 0 ⟨by omega, by omega⟩ ⟨by omega, by omega⟩)
  rw [san3] at HF3
  go_upto_region 7 with (go_at_call 12; refine HF3.out.mono ?_; rintro e w4 ⟨rfl, X3, h, hx, f⟩; have H3 := hid h; have HX3 := hid (fun k (hk : X3 k) => (hx k hk).elim (HX2.out k) (Nat.le_trans F2.out.size)); have F3 := hid (F2.out.trans f (fun k hk hl => by have := HX2.out k hk; omega)); clear h hx f)
  clear HF3 H2 HX2 F2
  have HF4 := hid (SH.feedX0 H3.out (by omega) 4 5 5 0 ⟨by omega, by omega⟩ ⟨by omega, by omega⟩)
  rw [san4] at HF4
  go_upto_region 8 with (go_at_call 12; refine HF4.out.mono ?_; rintro e w5 ⟨rfl, X4, h, hx, f⟩; have H4 := hid (show SH X4 w5 s san4s 5 from h); have HX4 := hid (fun k (hk : X4 k) => (hx k hk).elim (HX3.out k) (Nat.le_trans F3.out.size)); have F4 := hid (F3.out.trans f (fun k hk hl => by have := HX3.out k hk; omega)); clear h hx f)
  clear HF4 H3 HX3 F3
  have HQ := hid (SH.queued H4.out (by omega) 9)
  go_upto_region 9 with (go_at_call 11; refine HQ.out.mono ?_; rintro e w6 ⟨u, xs, rfl, hx, ht, f⟩; have HXS := hid hx; have HT := hid ht; have F5 := hid (F4.out.trans f (fun _ h _ => h)); have H5 := hid (H4.out.fre f); have HL := hid (fun k (hk : X4 k) => H4.out.lt hk); clear hx ht f)
  clear HQ F4
  have hq2 : san4s.told.take (qn 9 san4s.queue.length) = [(3, [chg0]), (4, [chg0])] := rfl
  have hxs := HXS.out
  rw [hq2] at hxs
  obtain ⟨x0, x1, rfl, ex0, ex1⟩ := map_two hxs
  obtain ⟨l0, v0, cs0⟩ := x0
  obtain ⟨l1, v1, cs1⟩ := x1
  simp only [TxnV.t, Prod.mk.injEq] at ex0 ex1
  obtain ⟨rfl, hc0⟩ := ex0
  obtain ⟨rfl, hc1⟩ := ex1
  obtain ⟨d0, rfl, ed0⟩ := map_one hc0
  obtain ⟨d1, rfl, ed1⟩ := map_one hc1
  obtain ⟨c0, vn0, vo0, vw0⟩ := d0
  dsimp only at ed0
  subst ed0
  clear hxs hc0 ed1
  obtain ⟨g, cu, rfl, hg, -, hcell⟩ := HT.out.cells (by simp)
  obtain ⟨g0, cv0, e0, hg0, -, hcell0⟩ := (HT.out.t _ (List.mem_cons_self ..)).cells (by simp)
  obtain ⟨a1, cv1, e1, -⟩ := (HT.out.t _ (List.mem_cons_of_mem _ (List.mem_cons_self ..))).r.slice
  try dsimp only at e0 e1
  subst e0 e1
  have q0 : w6.cell? ⟨g, 0, none⟩ = some (.int .i64 3) := by have := hcell 0 (by simp) 0 (.int .i64 3) rfl; simpa using this
  have q2 : w6.cell? ⟨g, 2, none⟩ = some (.int .i64 4) := by have := hcell 1 (by simp) 0 (.int .i64 4) rfl; simpa using this
  have q3 : w6.cell? ⟨g, 3, none⟩ = some (.slice a1 1 cv1) := by have := hcell 1 (by simp) 1 (.slice a1 1 cv1) rfl; simpa using this
  have HQ1 := hid (show w6.cell? ⟨g, 1, none⟩ = some (.slice (some ⟨g0, 0, none⟩) 1 cv0) from by have := hcell 0 (by simp) 1 (.slice (some ⟨g0, 0, none⟩) 1 cv0) rfl; simpa using this)
  have HK0 := hid (show w6.cell? ⟨g0, 0, none⟩ = some (.int .i64 2) from by have := hcell0 0 (by simp) 0 (.int .i64 2) rfl; simpa using this)
  have HG := hid (show w5.heap.size ≤ g ∧ w5.heap.size ≤ g0 from ⟨hg, hg0⟩)
  clear hcell hcell0 hg hg0 hq2 hc1 HXS HT
  have HNE := hid (SH.need H5.out (by omega) ⟨by simp [san4s], by simp [san4s]⟩)
  rw [show needM san4s = 1 from rfl] at HNE
  go_upto_region 11 with (go_at_call 22; refine HNE.out.mono ?_; rintro e w7 ⟨rfl, f⟩; have F7 := hid f; clear f)
  have HX6 := hid (fun k (hk : X4 k) => show k < w5.heap.size from HL.out k hk)
  have H7 := hid (H5.out.fre F7.out)
  have FF := hid (F5.out.trans F7.out (fun _ h _ => h))
  have Q1 := hid (cell_fr HQ1.out F7.out (fun h => h))
  have K0 := hid (cell_fr HK0.out F7.out (fun h => h))
  clear HNE H5 F5 HQ1 HK0 F7 q0 q2 q3 HL
  have HA := hid (SH.ack H7.out (by omega) 3)
  rw [san5] at HA
  go_upto_region 12 with (go_at_call 19; refine HA.out.mono ?_; rintro e w8 ⟨rfl, h, f⟩; have H8 := hid (show SH X4 w8 s san5s 5 from h); have F8 := hid (FF.out.trans f (fun k hk hl => by have := HX4.out k hk; omega)); have Q8 := hid (cell_fr Q1.out f (fun hk => by have h1 := HX6.out _ hk; have h2 := HG.out; omega)); have K8 := hid (cell_fr K0.out f (fun hk => by have h1 := HX6.out _ hk; have h2 := HG.out; omega)); clear h f)
  clear HA H7 FF Q1 K0
  have HQB := hid (SH.queued H8.out (by omega) 9)
  have hqb : san5s.told.take (qn 9 san5s.queue.length) = [(4, [chg0])] := rfl
  rw [hqb] at HQB
  clear hqb
  go_upto_region 13 with (go_at_call 11; refine HQB.out.mono ?_; rintro e w9 ⟨ub, ys, rfl, hx, ht, f⟩; obtain ⟨ab, cb, eb, -⟩ := ht.r.slice; have hl1 : ys.length = 1 := (by have := congrArg List.length hx; simpa using this); rw [hl1] at eb; subst eb; have H9 := hid (H8.out.fre f); have F9 := hid (F8.out.trans f (fun _ h _ => h)); have Q9 := hid (cell_fr Q8.out f (fun h => h)); have K9 := hid (cell_fr K8.out f (fun h => h)); clear hx ht f hl1)
  clear HQB H8 F8 Q8 K8
  have HNB := hid (SH.need H9.out (by omega) ⟨by simp [san5s], by simp [san5s]⟩)
  rw [show needM san5s = 1 from rfl] at HNB
  go_upto_region 14 with (go_at_call 22; refine HNB.out.mono ?_; rintro e w10 ⟨rfl, f⟩; have H10 := hid (H9.out.fre f); have F10 := hid (F9.out.trans f (fun _ h _ => h)); have Q10 := hid (cell_fr Q9.out f (fun h => h)); have K10 := hid (cell_fr K9.out f (fun h => h)); clear f)
  clear HNB H9 F9 Q9 K9
  have HAB := hid (SH.ack H10.out (by omega) 4)
  rw [san6] at HAB
  go_upto_region 15 with (go_at_call 19; refine HAB.out.mono ?_; rintro e w11 ⟨rfl, h, f⟩; have H11 := hid (show SH X4 w11 s san6s 5 from h); have F11 := hid (F10.out.trans f (fun k hk hl => by have := HX4.out k hk; omega)); have Q11 := hid (cell_fr Q10.out f (fun hk => by have h1 := HX6.out _ hk; have h2 := HG.out; omega)); have K11 := hid (cell_fr K10.out f (fun hk => by have h1 := HX6.out _ hk; have h2 := HG.out; omega)); clear h f)
  clear HAB H10 F10 Q10 K10
  have HQC := hid (SH.queued H11.out (by omega) 9)
  have hqc : san6s.told.take (qn 9 san6s.queue.length) = [] := rfl
  rw [hqc] at HQC
  clear hqc
  have HNC := hid (fun W (f : Fr (fun _ => False) w11 W) => SH.need (H11.out.fre f) (by omega) ⟨by simp [san6s], by simp [san6s]⟩)
  rw [show needM san6s = 5 from rfl] at HNC
  go_wp2_with (first
    | (go_at_call 11; refine HQC.out.mono ?_; rintro e w12 ⟨uc, zs, rfl, hx, ht, f⟩; obtain ⟨ac, cc, ec, -⟩ := ht.r.slice; have hl1 : zs.length = 0 := (by have := congrArg List.length hx; simpa using this); rw [hl1] at ec; subst ec; have F12 := hid f; clear hx ht f hl1)
    | (go_at_call 22; refine (HNC.out _ F12.out).mono ?_; rintro e w13 ⟨rfl, f⟩; have F13 := hid (F11.out.trans (F12.out.trans f (fun _ h _ => h)) (fun _ h _ => h)); have q13 := cell_fr (cell_fr Q11.out F12.out (fun h => h)) f (fun h => h); have k13 := cell_fr (cell_fr K11.out F12.out (fun h => h)) f (fun h => h); clear f))
  go_ret
  exact ⟨rfl, F13.out⟩
end Go.Proofs.Ytiimomgbklgicaa
