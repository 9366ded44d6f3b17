import Derived.Test.YtiimomgbklgicaaGreatRows
import Derived.Test.YtiimomgbklgicaaGreatPkRsA
import Derived.Test.YtiimomgbklgicaaGreatPkRsT
import Derived.Test.YtiimomgbklgicaaGreatPkRsW
import Derived.Test.YtiimomgbklgicaaGreatPkRsX
set_option linter.unusedVariables false
namespace Go.VB.Slt
open Go.VB Go.VB.Oct Go.VB.Cat Go.VB.Rec
open Go.Proofs.YtiimomgbklgicaaGreat (atM)
/-- a slot begun -/
def newM (name : Bs) (n : Int) (c : List Tab) : Slt := ⟨name, n, n, [(n, c)], [], []⟩
theorem sok_new (name : Bs) (n : Int) (c : List Tab) : SOk (newM name n c) := ⟨by simp [newM, turnsOf], fun t ht => by simp [newM, turnsOf] at ht, fun f hf => by simp [newM] at hf, fun f hf => by simp [newM] at hf, by simp [newM]⟩
theorem few_new (name : Bs) (n : Int) (c : List Tab) : FewM (newM name n c) 1 := ⟨Nat.le_refl _, Nat.zero_le _, Nat.zero_le _, fun d hd => by simp [newM] at hd⟩
theorem queueM_nil (s : Slt) (lsn : Int) : queueM s lsn [] = s := if_pos (.inl rfl)
theorem feed_ins {s : Slt} {lsn : Int} {r : Rc} (h : s.last < lsn) (hk : r.kind = 2) : feedM s lsn r = addM { s with last := lsn } r.xid ⟨lsn, chgM (atM s.now r.table).1 r⟩ := by
  unfold feedM
  rw [if_neg (by omega)]
  have h1 : toldM s r = [] := by unfold toldM; rw [if_neg (by rw [hk]; decide)]
  have h2 : midM s lsn r = addM { s with last := lsn } r.xid ⟨lsn, chgM (atM s.now r.table).1 r⟩ := by unfold midM; rw [if_pos (.inl hk)]
  rw [h1, h2, queueM_nil]
theorem feed_commit {s : Slt} {lsn : Int} {r : Rc} (h : s.last < lsn) (hk : r.kind = 5) : feedM s lsn r = queueM { s with last := lsn, fols := others s.fols r.xs } lsn (sortT (turnsOf (mine s.fols r.xs))) := by
  unfold feedM
  rw [if_neg (by omega)]
  have h1 : toldM s r = sortT (turnsOf (mine s.fols r.xs)) := by unfold toldM; rw [if_pos hk]
  have h2 : midM s lsn r = { s with last := lsn, fols := others s.fols r.xs } := by
    unfold midM
    rw [if_neg (by rw [hk]; decide), if_neg (by rw [hk]; decide), if_pos (.inl hk)]
  rw [h1, h2]
/-- the transactions that Queued gives, as numbers and changes -/
def Slt.told (s : Slt) : List (Int × List Chg) := s.queue.map fun d => (d.lsn, d.cs)
end Go.VB.Slt
namespace Go.Proofs.YtiimomgbklgicaaGreat
open Go.RowKit Go.VB Go.VB.Oct Go.VB.Cat Go.VB.Rec Go.VB.Slt
/-- slot s is the model m; its blocks lie in X; it holds at most N of each kind -/
def SH (X : Nat → Prop) (W : World) (s : Nat) (m : Slt) (N : Nat) : Prop :=
  ∃ (S C : Nat → Prop) (v : SltV), SlO S C W s v ∧ v.t = m ∧ SOk m ∧ FewM m N ∧ v.n ≤ N ∧ (∀ k, S k ∨ C k → X k) ∧ (∀ k, X k → k < W.heap.size)
namespace SH
variable {X U : Nat → Prop} {W W' w : World} {s N : Nat} {m : Slt}
theorem fr (h : SH X W s m N) (f : Fr U W W') (hU : ∀ k, X k → ¬ U k) : SH X W' s m N := by
  obtain ⟨S, C, v, h1, h2, h3, h4, h5, h6, h7⟩ := h
  exact ⟨S, C, v, h1.fr f (fun k hk => hU k (h6 k hk)), h2, h3, h4, h5, h6, fun k hk => Nat.lt_of_lt_of_le (h7 k hk) f.size⟩
theorem fre (h : SH X W s m N) (f : Fr (fun _ => False) W W') : SH X W' s m N := h.fr f (fun _ _ h => h)
theorem lt (h : SH X W s m N) {k : Nat} (hk : X k) : k < W.heap.size := by
  obtain ⟨S, C, v, h1, h2, h3, h4, h5, h6, h7⟩ := h
  exact h7 k hk
theorem few (h : SH X W s m N) : FewM m N := by
  obtain ⟨S, C, v, h1, h2, h3, h4, h5, h6, h7⟩ := h
  exact h4
theorem ok (h : SH X W s m N) : SOk m := by
  obtain ⟨S, C, v, h1, h2, h3, h4, h5, h6, h7⟩ := h
  exact h3
theorem mono {Y : Nat → Prop} {M : Nat} (h : SH X W s m N) (hY : ∀ k, X k → Y k) (hl : ∀ k, Y k → k < W.heap.size) (hM : N ≤ M) : SH Y W s m M := by
  obtain ⟨S, C, v, h1, h2, h3, h4, h5, h6, h7⟩ := h
  exact ⟨S, C, v, h1, h2, h3, h4.mono hM, Nat.le_trans h5 hM, fun k hk => hY k (h6 k hk), hl⟩
theorem new_ (name : Bs) (n : Int) (w : World) : Calls Tryz.prog 11 #[.string (bs name), .int .i64 n, .pointer none] w fun e w' => ∃ s, e = .returned (.pointer (some ⟨s, 0, none⟩)) ∧ SH (fun k => w.heap.size ≤ k ∧ k < w'.heap.size) w' s (newM name (max n 0) []) 1 ∧ Fr (fun _ => False) w w' := by
  refine (New_nil name n w).mono ?_
  rintro e w' ⟨s, q, b, S, C, rfl, h, hg, f⟩
  exact ⟨s, rfl, ⟨S, C, _, h, rfl, sok_new _ _ _, few_new _ _ _, by show (0 : Nat) ≤ 1; omega, fun k hk => ⟨hg k hk, h.lt k hk⟩, fun k hk => hk.2⟩, f⟩
theorem feed {P : Nat → Prop} (h : SH X w s m N) (hN : N ≤ 1000000) {r : RecV} (hr : RecS P w r) (hP : ∀ k, P k → ¬ X k ∧ k < w.heap.size) (lsn : Int) (hx : I64 r.r.xid) (ht : I64 r.r.table) (hxs : ∀ x ∈ r.r.xids, I64 x) (hnote : r.r.note.length ≤ 1099511627776) :
    Calls Tryz.prog 15 #[.pointer (some ⟨s, 0, none⟩), .int .i64 lsn, .agg r.cells.toArray] w fun e w' => e = .returned (.tuple #[]) ∧ SH (Ext X w w') w' s (feedM m lsn r.r) (N + 1) ∧ Fr X w w' := by
  obtain ⟨S, C, v, h1, rfl, h3, h4, h5, h6, h7⟩ := h
  refine (Feed_go h1 h3 h4 h5 hN hr (fun k hk => ⟨fun hs => (hP k hk).1 (h6 k (.inl hs)), (hP k hk).2⟩) hx ht hxs hnote (lsn := lsn)).mono ?_
  rintro e w' ⟨rfl, v', T, D, g1, g2, g3, g4, g5, g6⟩
  refine ⟨rfl, ⟨T, D, v', g1, g2, h3.feed lsn r.r, h4.feed lsn r.r, g3, fun k hk => ?_, fun k hk => ?_⟩, g6.mono (fun k hk _ => h6 k (.inl hk))⟩
  · have hl := g1.lt k hk
    rcases hk with hk | hk
    · exact (g4 k hk).elim (fun h => .inl (h6 k (.inl h))) (fun h => .inr ⟨h, hl⟩)
    · exact (g5 k hk).elim (fun h => .inl (h6 k (.inr h))) (fun h => .inr ⟨h, hl⟩)
  · rcases hk with hk | hk
    · exact Nat.lt_of_lt_of_le (h7 k hk) g6.size
    · exact hk.2
/-- a record without slices -/
theorem feed0 (h : SH X w s m N) (hN : N ≤ 1000000) (lsn kind xid table : Int) (hx : I64 xid) (ht : I64 table) :
    Calls Tryz.prog 15 #[.pointer (some ⟨s, 0, none⟩), .int .i64 lsn, .agg #[.int .i64 kind, .int .i64 xid, .int .i64 table, .slice none 0 0, .slice none 0 0, .slice none 0 0, .slice none 0 0, .string ⟨#[]⟩]] w fun e w' => e = .returned (.tuple #[]) ∧ SH (Ext X w w') w' s (feedM m lsn ⟨kind, xid, table, [], [], [], []⟩) (N + 1) ∧ Fr X w w' := by
  have hs : ∀ xs : List Value, xs = [] → Sl (fun _ => False) w (.slice none 0 0) 0 xs := fun xs e => ⟨none, 0, rfl, Nat.le_refl _, fun h => absurd e h⟩
  exact h.feed hN (P := fun _ => False) (r := ⟨⟨kind, xid, table, [], [], [], []⟩, .slice none 0 0, .slice none 0 0, .slice none 0 0, .slice none 0 0⟩) ⟨hs _ rfl, hs _ rfl, hs _ rfl, ⟨_, _, _, rfl⟩, Nat.zero_le _, Nat.zero_le _, Nat.zero_le _⟩ (fun k hk => hk.elim) lsn hx ht (fun x hx => by simp at hx) (Nat.zero_le _)
/-- the same, the new blocks told by where they begin -/
theorem feedX {P : Nat → Prop} (h : SH X W s m N) (f : Fr (fun _ => False) W w) (hN : N ≤ 1000000) {r : RecV} (hr : RecS P w r) (hP : ∀ k, P k → ¬ X k ∧ k < w.heap.size) (lsn : Int) (hx : I64 r.r.xid) (ht : I64 r.r.table) (hxs : ∀ x ∈ r.r.xids, I64 x) (hnote : r.r.note.length ≤ 1099511627776) :
    Calls Tryz.prog 15 #[.pointer (some ⟨s, 0, none⟩), .int .i64 lsn, .agg r.cells.toArray] w fun e w' => e = .returned (.tuple #[]) ∧ ∃ X' : Nat → Prop, SH X' w' s (feedM m lsn r.r) (N + 1) ∧ (∀ k, X' k → X k ∨ w.heap.size ≤ k) ∧ Fr X w w' :=
  ((h.fre f).feed hN hr hP lsn hx ht hxs hnote).mono fun e w' ⟨h1, h2, h3⟩ => ⟨h1, _, h2, fun k hk => hk.elim .inl (fun h => .inr h.1), h3⟩
theorem feedX0 (h : SH X w s m N) (hN : N ≤ 1000000) (lsn kind xid table : Int) (hx : I64 xid) (ht : I64 table) :
    Calls Tryz.prog 15 #[.pointer (some ⟨s, 0, none⟩), .int .i64 lsn, .agg #[.int .i64 kind, .int .i64 xid, .int .i64 table, .slice none 0 0, .slice none 0 0, .slice none 0 0, .slice none 0 0, .string ⟨#[]⟩]] w fun e w' => e = .returned (.tuple #[]) ∧ ∃ X' : Nat → Prop, SH X' w' s (feedM m lsn ⟨kind, xid, table, [], [], [], []⟩) (N + 1) ∧ (∀ k, X' k → X k ∨ w.heap.size ≤ k) ∧ Fr X w w' :=
  (h.feed0 hN lsn kind xid table hx ht).mono fun e w' ⟨h1, h2, h3⟩ => ⟨h1, _, h2, fun k hk => hk.elim .inl (fun h => .inr h.1), h3⟩
theorem queued (h : SH X w s m N) (hN : N ≤ 1048576) (k : Int) :
    Calls Tryz.prog 18 #[.pointer (some ⟨s, 0, none⟩), .int .i64 k] w fun e w' => ∃ u xs, e = .returned u ∧ xs.map TxnV.t = m.told.take (qn k m.queue.length) ∧ TxnsR w.heap.size w' u xs ∧ Fr (fun _ => False) w w' := by
  obtain ⟨S, C, v, h1, rfl, h3, h4, h5, h6, h7⟩ := h
  have e1 : v.t.queue.length = v.qs.length := List.length_map ..
  refine (Queued_go h1 k (by have := h4.qs; omega) (fun d hd => by
    have h := h4.q d.t (List.mem_map_of_mem hd)
    have e : d.t.cs.length = d.cs.length := List.length_map ..
    omega)).mono ?_
  rintro e w' ⟨u, xs, rfl, g1, g2, g3⟩
  refine ⟨u, xs, rfl, ?_, g2, g3⟩
  rw [g1, e1, List.map_take]
  unfold Slt.told
  show _ = List.take _ ((v.qs.map DnV.t).map _)
  rw [List.map_map]
  rfl
theorem need (h : SH X w s m N) (hN : N ≤ 1048576) (hl : -4611686018427387904 ≤ m.last ∧ m.last ≤ 4611686018427387904) : Calls Tryz.prog 25 #[.pointer (some ⟨s, 0, none⟩)] w fun e w' => e = .returned (.int .i64 (needM m)) ∧ Fr (fun _ => False) w w' := by
  obtain ⟨S, C, v, h1, rfl, h3, h4, h5, h6, h7⟩ := h
  have e1 : v.t.queue.length = v.qs.length := List.length_map ..
  exact Need_go h1 (by have := h4.qs; omega) hl
theorem ack (h : SH X w s m N) (hN : N ≤ 1048576) (k : Int) : Calls Tryz.prog 23 #[.pointer (some ⟨s, 0, none⟩), .int .i64 k] w fun e w' => e = .returned (.int .i64 (ackM m k).2) ∧ SH X w' s (ackM m k).1 N ∧ Fr X w w' := by
  obtain ⟨S, C, v, h1, rfl, h3, h4, h5, h6, h7⟩ := h
  have e1 : v.t.queue.length = v.qs.length := List.length_map ..
  refine (Ack_go h1 (by have := h4.qs; omega) k).mono ?_
  rintro e w' ⟨rfl, v', g1, g2, g3, g4⟩
  refine ⟨rfl, ⟨S, C, v', g1, g2, ?_, ?_, by rw [g3]; exact h5, h6, fun k hk => Nat.lt_of_lt_of_le (h7 k hk) g4.size⟩, g4.mono (fun k hk _ => h6 k (.inl hk))⟩
  · unfold ackM
    split
    · exact h3
    · exact ⟨h3.dis, h3.le, h3.asc, h3.ne, h3.nod⟩
  · unfold ackM
    split
    · exact h4
    · exact ⟨h4.ts, Nat.le_trans (List.length_filter_le ..) h4.qs, h4.tot, fun d hd => h4.q d (List.mem_filter.1 hd).1⟩
theorem open_ (h : SH X w s m N) : Calls Tryz.prog 28 #[.pointer (some ⟨s, 0, none⟩)] w fun e w' => e = .returned (.int .i64 m.fols.length) ∧ w' = w := by
  obtain ⟨S, C, v, h1, rfl, h3, h4, h5, h6, h7⟩ := h
  have e1 : v.t.fols.length = v.fs.length := List.length_map ..
  rw [e1]
  exact Open_go h1
theorem acked (h : SH X w s m N) : Calls Tryz.prog 24 #[.pointer (some ⟨s, 0, none⟩)] w fun e w' => e = .returned (.int .i64 m.acked) ∧ w' = w := by
  obtain ⟨S, C, v, h1, rfl, h3, h4, h5, h6, h7⟩ := h
  exact Acked_go h1
theorem name (h : SH X w s m N) : Calls Tryz.prog 87 #[.pointer (some ⟨s, 0, none⟩)] w fun e w' => e = .returned (.string (bs m.name)) ∧ w' = w := by
  obtain ⟨S, C, v, h1, rfl, h3, h4, h5, h6, h7⟩ := h
  exact Name_go h1
end SH
end Go.Proofs.YtiimomgbklgicaaGreat
namespace Go.VB.Slt
open Go.VB Go.VB.Oct Go.VB.Cat Go.VB.Rec
open Go.Proofs.YtiimomgbklgicaaGreat (atM)
def chg0 : Chg := ⟨2, [], [], [], []⟩
theorem san1 : feedM (newM [115] 0 []) 1 ⟨2, 5, 0, [], [], [], []⟩ = ⟨[115], 0, 1, [(0, [])], [⟨5, [⟨1, chg0⟩]⟩], []⟩ := by
  rw [feed_ins (by decide) rfl]
  rfl
theorem san2 : feedM ⟨[115], 0, 1, [(0, [])], [⟨5, [⟨1, chg0⟩]⟩], []⟩ 2 ⟨2, 6, 0, [], [], [], []⟩ = ⟨[115], 0, 2, [(0, [])], [⟨5, [⟨1, chg0⟩]⟩, ⟨6, [⟨2, chg0⟩]⟩], []⟩ := by
  rw [feed_ins (by decide) rfl]
  rfl
theorem san3 : feedM ⟨[115], 0, 2, [(0, [])], [⟨5, [⟨1, chg0⟩]⟩, ⟨6, [⟨2, chg0⟩]⟩], []⟩ 3 ⟨5, 6, 0, [], [], [], []⟩ = ⟨[115], 0, 3, [(0, [])], [⟨5, [⟨1, chg0⟩]⟩], [⟨2, 3, [chg0]⟩]⟩ := by
  rw [feed_commit (by decide) rfl]
  show queueM ⟨[115], 0, 3, [(0, [])], [⟨5, [⟨1, chg0⟩]⟩], []⟩ 3 (sortT [⟨2, chg0⟩]) = _
  rw [sortT_of (List.pairwise_singleton _ _)]
  unfold queueM
  rw [if_neg (by simp)]
  rfl
theorem san4 : feedM ⟨[115], 0, 3, [(0, [])], [⟨5, [⟨1, chg0⟩]⟩], [⟨2, 3, [chg0]⟩]⟩ 4 ⟨5, 5, 0, [], [], [], []⟩ = ⟨[115], 0, 4, [(0, [])], [], [⟨2, 3, [chg0]⟩, ⟨1, 4, [chg0]⟩]⟩ := by
  rw [feed_commit (by decide) rfl]
  show queueM ⟨[115], 0, 4, [(0, [])], [], [⟨2, 3, [chg0]⟩]⟩ 4 (sortT [⟨1, chg0⟩]) = _
  rw [sortT_of (List.pairwise_singleton _ _)]
  unfold queueM
  rw [if_neg (by simp)]
  rfl
theorem map_one {α β : Type} {f : α → β} {xs : List α} {a : β} (h : xs.map f = [a]) : ∃ x, xs = [x] ∧ f x = a := by
  cases xs with
  | nil => simp at h
  | cons x l =>
    rw [List.map_cons, List.cons.injEq] at h
    have : l = [] := List.map_eq_nil_iff.1 h.2
    exact ⟨x, by rw [this], h.1⟩
theorem map_two {α β : Type} {f : α → β} {xs : List α} {a b : β} (h : xs.map f = [a, b]) : ∃ x y, xs = [x, y] ∧ f x = a ∧ f y = b := by
  cases xs with
  | nil => simp at h
  | cons x l =>
    rw [List.map_cons, List.cons.injEq] at h
    obtain ⟨y, hy, e⟩ := map_one h.2
    exact ⟨x, y, by rw [hy], h.1, e⟩
def san4s : Slt := ⟨[115], 0, 4, [(0, [])], [], [⟨2, 3, [chg0]⟩, ⟨1, 4, [chg0]⟩]⟩
def san5s : Slt := ⟨[115], 3, 4, [(0, [])], [], [⟨1, 4, [chg0]⟩]⟩
def san6s : Slt := ⟨[115], 4, 4, [(0, [])], [], []⟩
theorem san5 : ackM san4s 3 = (san5s, 0) := by
  unfold ackM
  rw [if_neg (by simp [san4s])]
  rfl
theorem san6 : ackM san5s 4 = (san6s, 0) := by
  unfold ackM
  rw [if_neg (by simp [san5s])]
  rfl
end Go.VB.Slt
namespace Go.Proofs.YtiimomgbklgicaaGreat
open Go.RowKit Go.VB Go.VB.Oct Go.VB.Cat Go.VB.Rec Go.VB.Slt
/-- the caller's transactions, in memory -/
theorem TxnsR.cells {B : Nat} {W : World} {u : Value} {xs : List TxnV} (h : TxnsR B W u xs) (hne : xs ≠ []) : ∃ g c, u = .slice (some ⟨g, 0, none⟩) xs.length c ∧ B ≤ g ∧ xs.length ≤ c ∧ ∀ i (hi : i < xs.length), W.rangeAt g (i * 2) xs[i].cells := by
  have hr := h.r
  obtain ⟨a, c, rfl, hc⟩ := hr.slice
  obtain ⟨g, rfl, hg, -⟩ := row_range hr (by
    intro e
    have := congrArg List.length e
    rw [flat_len (k := 2) (fun _ => rfl), List.length_nil] at this
    have := List.length_pos_iff.2 hne
    omega)
  exact ⟨g, c, rfl, hg, hc, fun i hi => row_at (f := TxnV.cells) (fun _ => rfl) hr hi⟩
theorem TxnO.cells {B : Nat} {W : World} {x : TxnV} (h : TxnO B W x) (hne : x.cs ≠ []) : ∃ g c, x.v = .slice (some ⟨g, 0, none⟩) x.cs.length c ∧ B ≤ g ∧ x.cs.length ≤ c ∧ ∀ i (hi : i < x.cs.length), W.rangeAt g (i * 5) x.cs[i].cells := by
  have hr := h.r
  obtain ⟨a, c, e, hc⟩ := hr.slice
  rw [e] at hr
  obtain ⟨g, rfl, hg, -⟩ := row_range hr (by
    intro e
    have := congrArg List.length e
    rw [flat_len (k := 5) (fun _ => rfl), List.length_nil] at this
    have := List.length_pos_iff.2 hne
    omega)
  exact ⟨g, c, e, hg, hc, fun i hi => row_at (f := ChgV.cells) (fun _ => rfl) hr hi⟩
set_option maxRecDepth 20000 in
set_option maxHeartbeats 4000000 in
theorem sanity_go (w : World) : Calls Tryz.prog 8 #[] w fun e w' => e = .returned (.bool true) ∧ Fr (fun _ => False) w w' := by
  have HN := hid (SH.new_ [115] 0 w)
  have eb : bs [115] = ⟨#[115]⟩ := rfl
  rw [eb] at HN
  clear eb
  go_enter Tryz.func8, Tryz.ntmps8
  go_upto_region 4 with (go_at_call 11; refine HN.out.mono ?_; rintro e w1 ⟨s, rfl, h, f⟩; obtain ⟨X0, h, hx⟩ : ∃ X0 : Nat → Prop, SH X0 w1 s (newM [115] (max 0 0) []) 1 ∧ ∀ k, X0 k → w.heap.size ≤ k := ⟨_, h, fun k hk => hk.1⟩; have H0 := hid h; have HX0 := hid hx; have F0 := hid f; clear h hx f)
  clear HN
  have HF1 := hid (SH.feedX0 H0.out (by omega) 1 2 5 0 ⟨by omega, by omega⟩ ⟨by omega, by omega⟩)
  rw [show max (0 : Int) 0 = 0 from rfl, san1] at HF1
  go_upto_region 5 with (go_at_call 15; refine HF1.out.mono ?_; rintro e w2 ⟨rfl, X1, h, hx, f⟩; have H1 := hid h; have HX1 := hid (fun k (hk : X1 k) => (hx k hk).elim (HX0.out k) (Nat.le_trans F0.out.size)); have F1 := hid (F0.out.trans f (fun k hk hl => by have := HX0.out k hk; omega)); clear h hx f)
  clear HF1 H0 HX0 F0
  have HF2 := hid (SH.feedX0 H1.out (by omega) 2 2 6 0 ⟨by omega, by omega⟩ ⟨by omega, by omega⟩)
  rw [san2] at HF2
  go_upto_region 6 with (go_at_call 15; refine HF2.out.mono ?_; rintro e w3 ⟨rfl, X2, h, hx, f⟩; have H2 := hid h; have HX2 := hid (fun k (hk : X2 k) => (hx k hk).elim (HX1.out k) (Nat.le_trans F1.out.size)); have F2 := hid (F1.out.trans f (fun k hk hl => by have := HX1.out k hk; omega)); clear h hx f)
  clear HF2 H1 HX1 F1
  have HF3 := hid (SH.feedX0 H2.out (by omega) 3 5 6 0 ⟨by omega, by omega⟩ ⟨by omega, by omega⟩)
  rw [san3] at HF3
  go_upto_region 7 with (go_at_call 15; refine HF3.out.mono ?_; rintro e w4 ⟨rfl, X3, h, hx, f⟩; have H3 := hid h; have HX3 := hid (fun k (hk : X3 k) => (hx k hk).elim (HX2.out k) (Nat.le_trans F2.out.size)); have F3 := hid (F2.out.trans f (fun k hk hl => by have := HX2.out k hk; omega)); clear h hx f)
  clear HF3 H2 HX2 F2
  have HF4 := hid (SH.feedX0 H3.out (by omega) 4 5 5 0 ⟨by omega, by omega⟩ ⟨by omega, by omega⟩)
  rw [san4] at HF4
  go_upto_region 8 with (go_at_call 15; refine HF4.out.mono ?_; rintro e w5 ⟨rfl, X4, h, hx, f⟩; have H4 := hid (show SH X4 w5 s san4s 5 from h); have HX4 := hid (fun k (hk : X4 k) => (hx k hk).elim (HX3.out k) (Nat.le_trans F3.out.size)); have F4 := hid (F3.out.trans f (fun k hk hl => by have := HX3.out k hk; omega)); clear h hx f)
  clear HF4 H3 HX3 F3
  have HQ := hid (SH.queued H4.out (by omega) 9)
  go_upto_region 9 with (go_at_call 18; refine HQ.out.mono ?_; rintro e w6 ⟨u, xs, rfl, hx, ht, f⟩; have HXS := hid hx; have HT := hid ht; have F5 := hid (F4.out.trans f (fun _ h _ => h)); have H5 := hid (H4.out.fre f); have HL := hid (fun k (hk : X4 k) => H4.out.lt hk); clear hx ht f)
  clear HQ F4
  have hq2 : san4s.told.take (qn 9 san4s.queue.length) = [(3, [chg0]), (4, [chg0])] := rfl
  have hxs := HXS.out
  rw [hq2] at hxs
  obtain ⟨x0, x1, rfl, ex0, ex1⟩ := map_two hxs
  obtain ⟨l0, v0, cs0⟩ := x0
  obtain ⟨l1, v1, cs1⟩ := x1
  simp only [TxnV.t, Prod.mk.injEq] at ex0 ex1
  obtain ⟨rfl, hc0⟩ := ex0
  obtain ⟨rfl, hc1⟩ := ex1
  obtain ⟨d0, rfl, ed0⟩ := map_one hc0
  obtain ⟨d1, rfl, ed1⟩ := map_one hc1
  obtain ⟨c0, vn0, vo0, vw0⟩ := d0
  dsimp only at ed0
  subst ed0
  clear hxs hc0 ed1
  obtain ⟨g, cu, rfl, hg, -, hcell⟩ := HT.out.cells (by simp)
  obtain ⟨g0, cv0, e0, hg0, -, hcell0⟩ := (HT.out.t _ (List.mem_cons_self ..)).cells (by simp)
  obtain ⟨a1, cv1, e1, -⟩ := (HT.out.t _ (List.mem_cons_of_mem _ (List.mem_cons_self ..))).r.slice
  try dsimp only at e0 e1
  subst e0 e1
  have q0 : w6.cell? ⟨g, 0, none⟩ = some (.int .i64 3) := by have := hcell 0 (by simp) 0 (.int .i64 3) rfl; simpa using this
  have q2 : w6.cell? ⟨g, 2, none⟩ = some (.int .i64 4) := by have := hcell 1 (by simp) 0 (.int .i64 4) rfl; simpa using this
  have q3 : w6.cell? ⟨g, 3, none⟩ = some (.slice a1 1 cv1) := by have := hcell 1 (by simp) 1 (.slice a1 1 cv1) rfl; simpa using this
  have HQ1 := hid (show w6.cell? ⟨g, 1, none⟩ = some (.slice (some ⟨g0, 0, none⟩) 1 cv0) from by have := hcell 0 (by simp) 1 (.slice (some ⟨g0, 0, none⟩) 1 cv0) rfl; simpa using this)
  have HK0 := hid (show w6.cell? ⟨g0, 0, none⟩ = some (.int .i64 2) from by have := hcell0 0 (by simp) 0 (.int .i64 2) rfl; simpa using this)
  have HG := hid (show w5.heap.size ≤ g ∧ w5.heap.size ≤ g0 from ⟨hg, hg0⟩)
  clear hcell hcell0 hg hg0 hq2 hc1 HXS HT
  have HNE := hid (SH.need H5.out (by omega) ⟨by simp [san4s], by simp [san4s]⟩)
  rw [show needM san4s = 1 from rfl] at HNE
  go_upto_region 11 with (go_at_call 25; refine HNE.out.mono ?_; rintro e w7 ⟨rfl, f⟩; have F7 := hid f; clear f)
  have HX6 := hid (fun k (hk : X4 k) => show k < w5.heap.size from HL.out k hk)
  have H7 := hid (H5.out.fre F7.out)
  have FF := hid (F5.out.trans F7.out (fun _ h _ => h))
  have Q1 := hid (cell_fr HQ1.out F7.out (fun h => h))
  have K0 := hid (cell_fr HK0.out F7.out (fun h => h))
  clear HNE H5 F5 HQ1 HK0 F7 q0 q2 q3 HL
  have HA := hid (SH.ack H7.out (by omega) 3)
  rw [san5] at HA
  go_upto_region 12 with (go_at_call 23; refine HA.out.mono ?_; rintro e w8 ⟨rfl, h, f⟩; have H8 := hid (show SH X4 w8 s san5s 5 from h); have F8 := hid (FF.out.trans f (fun k hk hl => by have := HX4.out k hk; omega)); have Q8 := hid (cell_fr Q1.out f (fun hk => by have h1 := HX6.out _ hk; have h2 := HG.out; omega)); have K8 := hid (cell_fr K0.out f (fun hk => by have h1 := HX6.out _ hk; have h2 := HG.out; omega)); clear h f)
  clear HA H7 FF Q1 K0
  have HQB := hid (SH.queued H8.out (by omega) 9)
  have hqb : san5s.told.take (qn 9 san5s.queue.length) = [(4, [chg0])] := rfl
  rw [hqb] at HQB
  clear hqb
  go_upto_region 13 with (go_at_call 18; refine HQB.out.mono ?_; rintro e w9 ⟨ub, ys, rfl, hx, ht, f⟩; obtain ⟨ab, cb, eb, -⟩ := ht.r.slice; have hl1 : ys.length = 1 := (by have := congrArg List.length hx; simpa using this); rw [hl1] at eb; subst eb; have H9 := hid (H8.out.fre f); have F9 := hid (F8.out.trans f (fun _ h _ => h)); have Q9 := hid (cell_fr Q8.out f (fun h => h)); have K9 := hid (cell_fr K8.out f (fun h => h)); clear hx ht f hl1)
  clear HQB H8 F8 Q8 K8
  have HNB := hid (SH.need H9.out (by omega) ⟨by simp [san5s], by simp [san5s]⟩)
  rw [show needM san5s = 1 from rfl] at HNB
  go_upto_region 14 with (go_at_call 25; refine HNB.out.mono ?_; rintro e w10 ⟨rfl, f⟩; have H10 := hid (H9.out.fre f); have F10 := hid (F9.out.trans f (fun _ h _ => h)); have Q10 := hid (cell_fr Q9.out f (fun h => h)); have K10 := hid (cell_fr K9.out f (fun h => h)); clear f)
  clear HNB H9 F9 Q9 K9
  have HAB := hid (SH.ack H10.out (by omega) 4)
  rw [san6] at HAB
  go_upto_region 15 with (go_at_call 23; refine HAB.out.mono ?_; rintro e w11 ⟨rfl, h, f⟩; have H11 := hid (show SH X4 w11 s san6s 5 from h); have F11 := hid (F10.out.trans f (fun k hk hl => by have := HX4.out k hk; omega)); have Q11 := hid (cell_fr Q10.out f (fun hk => by have h1 := HX6.out _ hk; have h2 := HG.out; omega)); have K11 := hid (cell_fr K10.out f (fun hk => by have h1 := HX6.out _ hk; have h2 := HG.out; omega)); clear h f)
  clear HAB H10 F10 Q10 K10
  have HQC := hid (SH.queued H11.out (by omega) 9)
  have hqc : san6s.told.take (qn 9 san6s.queue.length) = [] := rfl
  rw [hqc] at HQC
  clear hqc
  have HNC := hid (fun W (f : Fr (fun _ => False) w11 W) => SH.need (H11.out.fre f) (by omega) ⟨by simp [san6s], by simp [san6s]⟩)
  rw [show needM san6s = 5 from rfl] at HNC
  go_wp2_with (first
    | (go_at_call 18; refine HQC.out.mono ?_; rintro e w12 ⟨uc, zs, rfl, hx, ht, f⟩; obtain ⟨ac, cc, ec, -⟩ := ht.r.slice; have hl1 : zs.length = 0 := (by have := congrArg List.length hx; simpa using this); rw [hl1] at ec; subst ec; have F12 := hid f; clear hx ht f hl1)
    | (go_at_call 25; refine (HNC.out _ F12.out).mono ?_; rintro e w13 ⟨rfl, f⟩; have F13 := hid (F11.out.trans (F12.out.trans f (fun _ h _ => h)) (fun _ h _ => h)); have q13 := cell_fr (cell_fr Q11.out F12.out (fun h => h)) f (fun h => h); have k13 := cell_fr (cell_fr K11.out F12.out (fun h => h)) f (fun h => h); clear f))
  go_ret
  exact ⟨rfl, F13.out⟩
end Go.Proofs.YtiimomgbklgicaaGreat
namespace Go.VB.Slt
open Go.VB Go.VB.Oct Go.VB.Cat Go.VB.Rec
/-- the queue q0 told up to L, confirmed up to a -/
structure Tk (q0 : List Dn) (L a : Int) (m : Slt) : Prop where
  ack : m.acked = a
  last : m.last = L
  q : m.queue = q0.filter fun d => !decide (d.lsn ≤ a)
theorem Tk.ok {q0 : List Dn} {L a k : Int} {m : Slt} (h : Tk q0 L a m) (h1 : a ≤ k) (h2 : k ≤ L) : (ackM m k).2 = 0 ∧ Tk q0 L k (ackM m k).1 := by
  have ha := h.ack
  have hl := h.last
  unfold ackM
  rw [if_neg (fun g => g.elim (fun g => by omega) (fun g => by omega))]
  refine ⟨rfl, rfl, h.last, ?_⟩
  show m.queue.filter _ = _
  rw [h.q, List.filter_filter]
  refine List.filter_congr fun d _ => ?_
  by_cases hd : d.lsn ≤ k
  · simp [hd]
  · have hd2 : ¬ d.lsn ≤ a := by omega
    simp [hd, hd2]
theorem Tk.no {q0 : List Dn} {L a k : Int} {m : Slt} (h : Tk q0 L a m) (h1 : k < a ∨ L < k) : ackM m k = (m, 1) := by
  have ha := h.ack
  have hl := h.last
  unfold ackM
  rw [if_pos (h1.elim (fun g => .inl (by omega)) (fun g => .inr (by omega)))]
theorem drop_filter : ∀ (q : List Dn) (a : Int), (q.Pairwise fun x y => x.lsn < y.lsn) → ∀ f, f ≤ q.length → (∀ i (h : i < q.length), i < f → q[i].lsn ≤ a) → (∀ h : f < q.length, a < q[f].lsn) → q.drop f = q.filter fun d => !decide (d.lsn ≤ a)
  | [], a, _, f, _, _, _ => by simp
  | d :: q, a, hp, 0, _, _, h2 => by
    have hd : a < d.lsn := h2 (Nat.succ_pos _)
    have hq := (List.pairwise_cons.1 hp).1
    rw [List.drop_zero]
    symm
    refine List.filter_eq_self.2 fun x hx => ?_
    rcases List.mem_cons.1 hx with rfl | hx
    · simp; omega
    · have := hq x hx
      simp; omega
  | d :: q, a, hp, f + 1, hf, h1, h2 => by
    have hd : d.lsn ≤ a := h1 0 (Nat.succ_pos _) (Nat.succ_pos _)
    have ih := drop_filter q a (List.pairwise_cons.1 hp).2 f (by simpa using hf) (fun i h hi => h1 (i + 1) (by simpa using h) (by omega)) (fun h => h2 (by simpa using h))
    rw [List.drop_succ_cons, ih, List.filter_cons]
    simp [hd]
/-- a queue that rises, told no later than the last record, and after what is confirmed -/
structure Rg (m : Slt) : Prop where
  asc : m.queue.Pairwise fun x y => x.lsn < y.lsn
  le : ∀ d ∈ m.queue, d.lsn ≤ m.last
  gt : ∀ d ∈ m.queue, m.acked < d.lsn
theorem mid_keeps (m : Slt) (lsn : Int) (r : Rc) : (midM m lsn r).queue = m.queue ∧ (midM m lsn r).acked = m.acked ∧ (midM m lsn r).last = lsn := by
  unfold midM
  split
  · exact ⟨rfl, rfl, rfl⟩
  · split
    · split <;> exact ⟨rfl, rfl, rfl⟩
    · split <;> exact ⟨rfl, rfl, rfl⟩
theorem Rg.feed {m : Slt} (h : Rg m) {lsn : Int} (hl : m.last < lsn) (r : Rc) : Rg (feedM m lsn r) ∧ (feedM m lsn r).last = lsn ∧ (feedM m lsn r).acked = m.acked := by
  obtain ⟨k1, k2, k3⟩ := mid_keeps m lsn r
  unfold feedM
  rw [if_neg (by omega)]
  generalize midM m lsn r = M at *
  generalize toldM m r = T
  have hM : Rg M := ⟨by rw [k1]; exact h.asc, fun d hd => by rw [k1] at hd; rw [k3]; have := h.le d hd; omega, fun d hd => by rw [k1] at hd; rw [k2]; exact h.gt d hd⟩
  unfold queueM
  split
  · exact ⟨hM, k3, k2⟩
  · rename_i hn
    have hn2 : ¬ lsn ≤ M.acked := fun g => hn (.inr g)
    refine ⟨⟨?_, ?_, ?_⟩, k3, k2⟩
    · show (M.queue ++ [_]).Pairwise _
      rw [List.pairwise_append]
      refine ⟨hM.asc, List.pairwise_singleton .., fun x hx y hy => ?_⟩
      rw [List.mem_singleton] at hy
      subst hy
      rw [k1] at hx
      have := h.le x hx
      show x.lsn < lsn
      omega
    · intro d hd
      show d.lsn ≤ M.last
      rcases List.mem_append.1 hd with hd | hd
      · exact hM.le d hd
      · rw [List.mem_singleton] at hd
        subst hd
        show lsn ≤ M.last
        omega
    · intro d hd
      show M.acked < d.lsn
      rcases List.mem_append.1 hd with hd | hd
      · exact hM.gt d hd
      · rw [List.mem_singleton] at hd
        subst hd
        show M.acked < lsn
        omega
theorem Rg.new (name : Bs) (n : Int) (c : List Tab) : Rg (newM name n c) := ⟨List.Pairwise.nil, fun d hd => by simp [newM] at hd, fun d hd => by simp [newM] at hd⟩
/-- a log fed from LSN n + 1 on -/
def feedsM : Slt → Int → List Rc → Slt
  | m, _, [] => m
  | m, n, r :: l => feedsM (feedM m (n + 1) r) (n + 1) l
theorem feedsM_snoc : ∀ (l : List Rc) (m : Slt) (n : Int) (r : Rc), feedsM m n (l ++ [r]) = feedM (feedsM m n l) (n + l.length + 1) r
  | [], m, n, r => by show feedM m (n + 1) r = feedM m (n + (0 : Nat) + 1) r; rw [show n + ((0 : Nat) : Int) + 1 = n + 1 from by omega]
  | x :: l, m, n, r => by
    rw [List.cons_append]
    show feedsM (feedM m (n + 1) x) (n + 1) (l ++ [r]) = _
    rw [feedsM_snoc l, show n + 1 + (l.length : Int) + 1 = n + ((x :: l).length : Int) + 1 from by rw [List.length_cons]; push_cast; omega]
    rfl
theorem Rg.feeds : ∀ (l : List Rc) {m : Slt}, Rg m → Rg (feedsM m m.last l) ∧ (feedsM m m.last l).last = m.last + l.length ∧ (feedsM m m.last l).acked = m.acked
  | [], m, h => ⟨h, by show m.last = m.last + ((0 : Nat) : Int); omega, rfl⟩
  | x :: l, m, h => by
    obtain ⟨a, b, c⟩ := h.feed (lsn := m.last + 1) (by omega) x
    have ih := Rg.feeds l a
    rw [b] at ih
    refine ⟨ih.1, ?_, ih.2.2.trans c⟩
    show (feedsM (feedM m (m.last + 1) x) (m.last + 1) l).last = _
    rw [ih.2.1, List.length_cons]
    push_cast
    omega
theorem Tk.told {q0 : List Dn} {L a : Int} {m : Slt} (h : Tk q0 L a m) (hp : q0.Pairwise fun x y => x.lsn < y.lsn) (f : Nat) (hf : f ≤ q0.length) (h1 : ∀ i (h : i < q0.length), i < f → q0[i].lsn ≤ a) (h2 : ∀ h : f < q0.length, a < q0[f].lsn) : m.told = (q0.map fun d => (d.lsn, d.cs)).drop f := by
  unfold Slt.told
  rw [h.q, ← drop_filter q0 a hp f hf h1 h2, List.map_drop]
end Go.VB.Slt
namespace Go.Proofs.YtiimomgbklgicaaGreat
open Go.RowKit Go.VB
theorem own : ownKnob Tryz.prog.godebug = none := by kernel_rfl
theorem sound : soundB Tryz.prog = true := by kernel_rfl
end Go.Proofs.YtiimomgbklgicaaGreat
namespace Go.Proofs.YtiimomgbklgicaaGreat
open Go.RowKit Go.VB Go.VB.Oct Go.VB.Cat Go.VB.Rec Go.VB.Slt
theorem rest_any (w : World) (x n : Int) (hn : 0 < n) (hn2 : n ≤ 1099511627776) : Calls Tryz.prog 16 #[.int .i64 x, .int .i64 n] w fun e w' => e = .returned (.int .i64 (x % n)) ∧ w = w' := by
  have h1 := Int.tmod_lt_of_pos x hn
  have h2 : -n < x.tmod n := Int.lt_tmod_of_pos x hn
  have h3 := tmod_fix x n hn
  go_enter Tryz.func16, Tryz.ntmps16
  go_wp2
  go_ret
  exact ⟨rfl, rfl⟩
end Go.Proofs.YtiimomgbklgicaaGreat
namespace Go.Proofs.YtiimomgbklgicaaGreat
open Go.RowKit Go.VB Go.VB.Oct Go.VB.Cat Go.VB.Rec Go.VB.Slt
/-- a record to be read, its blocks those of now -/
theorem RecO.now {B : Nat} {W : World} {r : RecV} (h : RecO B W r) : RecS (fun k => k < W.heap.size) W r :=
  ⟨own_sl h.o.own (fun k hk => h.o.lt hk), own_sl h.n.own (fun k hk => h.n.lt hk), own_sl h.x.own (fun k hk => h.x.lt hk), ⟨none, 0, 0, h.e⟩, by have := h.g.lo; omega, by have := h.g.ln; omega, by have := h.g.lx; omega⟩
/-- such a record, fed to a slot that lies behind it -/
theorem SH.feedL {B : Nat} {w2 W : World} {X : Nat → Prop} {s N : Nat} {m : Slt} (h : SH X W s m N) (hN : N ≤ 1000000) (f : Fr (fun _ => False) w2 W) (hx : ∀ k, X k → w2.heap.size ≤ k) {r : RecV} (hr : RecO B w2 r) (lsn : Int) :
    Calls Tryz.prog 15 #[.pointer (some ⟨s, 0, none⟩), .int .i64 lsn, .agg r.cells.toArray] W fun e w' => e = .returned (.tuple #[]) ∧ ∃ X' : Nat → Prop, SH X' w' s (feedM m lsn r.r) (N + 1) ∧ (∀ k, X' k → w2.heap.size ≤ k) ∧ Fr (fun _ => False) w2 w' := by
  have g := hr.g
  refine (h.feedX (Fr.refl _ _) hN (hr.now.fr f (fun _ _ h => h)) (P := fun k => k < w2.heap.size) (fun k hk => ⟨fun hX => by have := hx k hX; omega, Nat.lt_of_lt_of_le hk f.size⟩) lsn ⟨by have := g.xid; omega, by have := g.xid; omega⟩ ⟨by have := g.table; omega, by have := g.table; omega⟩ (fun x hx => ⟨by have := g.xids x hx; omega, by have := g.xids x hx; omega⟩) (by have := g.note; omega)).mono ?_
  rintro e w' ⟨rfl, X', h1, h2, h3⟩
  exact ⟨rfl, X', h1, fun k hk => (h2 k hk).elim (hx k) (fun g => Nat.le_trans f.size g), f.trans h3 (fun k hk hl => by have := hx k hk; omega)⟩
theorem feeds_take (m : Slt) (n : Int) {l : List Rc} {i : Nat} (hi : i < l.length) : feedsM m n (l.take (i + 1)) = feedM (feedsM m n (l.take i)) (n + i + 1) l[i] := by
  have e : l.take (i + 1) = l.take i ++ [l[i]] := by rw [List.take_add_one, List.getElem?_eq_getElem hi]; rfl
  rw [e, feedsM_snoc, List.length_take, Nat.min_eq_left (by omega)]
theorem i64_wf {x : Int} (h : (Lit.int .i64 x).wf = true) : -9223372036854775808 ≤ x ∧ x ≤ 9223372036854775807 := by
  simp [Lit.wf, IntKind.min, IntKind.max, IntKind.bits, IntKind.signed] at h
  omega
theorem qn_all {n : Nat} (h : n ≤ 1000) : qn 1000 n = n := by unfold qn; omega
/-- all that is queued, where it is not much -/
theorem SH.queuedAll {X : Nat → Prop} {w : World} {s N : Nat} {m : Slt} (h : SH X w s m N) (hN : N ≤ 1000) :
    Calls Tryz.prog 18 #[.pointer (some ⟨s, 0, none⟩), .int .i64 1000] w fun e w' => ∃ (a : Option Addr) (c : Nat) (xs : List TxnV), e = .returned (.slice a xs.length c) ∧ xs.length ≤ c ∧ xs.map TxnV.t = m.told ∧ xs.length ≤ N ∧ (∀ x ∈ xs, x.cs.length ≤ N) ∧ TxnsR w.heap.size w' (.slice a xs.length c) xs ∧ Fr (fun _ => False) w w' := by
  have hq := h.few.qs
  have hc := h.few.q
  refine (h.queued (by omega) 1000).mono ?_
  rintro e w' ⟨u, xs, rfl, h1, h2, h3⟩
  obtain ⟨a, c, rfl, hcap⟩ := h2.r.slice
  have e1 : xs.map TxnV.t = m.told := by
    rw [h1, qn_all (by omega)]
    exact List.take_of_length_le (by unfold Slt.told; rw [List.length_map]; exact Nat.le_refl _)
  have e2 := congrArg List.length e1
  unfold Slt.told at e2
  rw [List.length_map, List.length_map] at e2
  refine ⟨a, c, xs, rfl, hcap, e1, by omega, fun x hx => ?_, h2, h3⟩
  have hm : x.t ∈ m.told := by rw [← e1]; exact List.mem_map_of_mem hx
  obtain ⟨d, hd, e⟩ := List.mem_map.1 hm
  have := hc d hd
  have e3 : d.cs.length = x.cs.length := by
    have := congrArg (fun p => p.2.length) e
    simpa [TxnV.t] using this
  omega
end Go.Proofs.YtiimomgbklgicaaGreat
namespace Go.Proofs.YtiimomgbklgicaaGreat
open Go.RowKit Go.VB Go.VB.Oct Go.VB.Cat Go.VB.Rec Go.VB.Slt
theorem bs_list_eq (a b : List UInt8) : ((bs a).toList = (bs b).toList) = (a = b) := by
  have := beq_dec a b
  by_cases h : a = b
  · simp [h]
  · rw [decide_eq_false h] at this
    simp only [h, eq_iff_iff, iff_false]
    exact fun e => by rw [e] at this; simp at this
theorem step_neq_V {op : Oper} {a : Act} {w : World} (xo yo : Operand) (ho : op.op = .binOp .neq 85 xo yo 85) {x y : V} (hx : a.eval xo = .agg x.cells.toArray) (hy : a.eval yo = .agg y.cells.toArray) : (execOp a.eval op).run Tryz.prog w = .ok (.value (.bool (!decide (x = y)))) w := by
  unfold execOp
  simp only [ho, hx, hy]
  obtain ⟨k, n, s⟩ := x
  obtain ⟨k', n', s'⟩ := y
  unfold V.cells
  go_simp
  simp only [bs_list_eq]
  by_cases h1 : k = k' <;> by_cases h2 : n = n' <;> by_cases h3 : s = s' <;> simp [h1, h2, h3]
theorem size_Val : (Tryz.prog.info? 85).map (·.size) = some 3 := by kernel_rfl
/-- an element of a slice, in memory -/
theorem sl_at {α : Type} {k n : Nat} {R : Nat → Prop} {w : World} {a : Option Addr} {c : Nat} {l : List α} {f : α → List Value} (hk : 0 < k) (hf : ∀ x, (f x).length = k) (h : Sl R w (.slice a n c) l.length (l.flatMap f)) {j : Nat} (hj : j < l.length) : ∃ g o, a = some ⟨g, o, none⟩ ∧ w.rangeAt g (o + j * k) (f l[j]) := by
  obtain ⟨a', c', e, hc, hx⟩ := h
  have hne : l.flatMap f ≠ [] := by
    intro e
    have := congrArg List.length e
    rw [flat_len hf, List.length_nil] at this
    rcases Nat.mul_eq_zero.1 this with e | e <;> omega
  obtain ⟨g, o, e2, hR, hr⟩ := hx hne
  have e3 : a = a' := by injection e
  refine ⟨g, o, by rw [e3, e2], fun i u hu => ?_⟩
  have hi : i < k := by rw [← hf l[j]]; exact (List.getElem?_eq_some_iff.1 hu).1
  have := hr (j * k + i) u (by rw [flatK f hf l j hj i hi]; exact hu)
  rwa [← Nat.add_assoc] at this
set_option maxRecDepth 20000 in
set_option maxHeartbeats 4000000 in
theorem r2Same_go {R R' : Nat → Prop} {w : World} {va vb : Value} {l : List V} (h : Sl R w va l.length (l.flatMap V.cells)) (k : Sl R' w vb l.length (l.flatMap V.cells)) (hn : l.length ≤ 1099511627776) :
    Calls Tryz.prog 76 #[va, vb] w fun e w' => e = .returned (.bool true) ∧ Fr (fun _ => False) w w' := by
  have HX := hid h
  have HY := hid k
  obtain ⟨a, c, rfl, hc, -⟩ := h
  obtain ⟨b, d, rfl, hd, -⟩ := k
  have F0 := hid (Fr.refl (fun _ => False) w)
  go_enter Tryz.func76, Tryz.ntmps76
  go_wp2_with (fail)
  go_loopw [5] (fun i wr => ∃ j : Nat, j ≤ l.length ∧ i = .int .i64 j ∧ Fr (fun _ => False) w wr) (fun i _ => l.length - (intOf i).toNat)
  case atStart => exact ⟨0, by omega, rfl, F0.out⟩
  case round =>
    obtain ⟨j, hj, rfl, fr⟩ := hrel
    have FR := hid fr
    clear fr F0
    rename World => WR
    by_cases hjl : j < l.length
    · obtain ⟨g, o, rfl, rx⟩ := sl_at (k := 3) (by decide) (fun _ => rfl) (HX.out.fr FR.out (fun _ _ h => h)) hjl
      obtain ⟨g', o', rfl, ry⟩ := sl_at (k := 3) (by decide) (fun _ => rfl) (HY.out.fr FR.out (fun _ _ h => h)) hjl
      have i1 : (0 : Int) ≤ (j : Int) := by omega
      have i2 : (j : Int) < l.length := by omega
      have i9 : IntKind.i64.wrap ((j : Int) + 1) = (j : Int) + 1 := IntWalk.i64_in _ (by omega)
      have RX := hid rx
      have RY := hid ry
      clear rx ry
      generalize l[j] = x at *
      go_upto_region 6 with fail
      refine wp_region_scr (.take 0 (.take 1 (.take 2 (.take 3 (.take 4 (.take 5 (.take 6 (.take 7 (.take 8 .done))))))))) (fun kz w => (kz ≤ 9 → w.rangeAt g (o + j * 3) (V.cells x) ∧ w.rangeAt g' (o' + j * 3) (V.cells x)) ∧ True) (by kernel_rfl) (by kernel_rfl) (by intro c a d v w h; cases d <;> exact h) ?_
      repeat
        first
        | (refine wpT_pure rfl rfl rfl ?_; apply Exists.intro; refine ⟨?_, ?_⟩; intro w; (first | (first | exact run_load_mid _ _ rfl g _ rfl _ _ qa.1 Tryz.underlying85 rfl size_Val | exact run_load_mid _ _ rfl g' _ rfl _ _ qa.2 Tryz.underlying85 rfl size_Val | exact step_neq_V _ _ rfl rfl rfl) | (go_simp <;> rfl)); simp only [Act.put, List.setIfInBounds_toArray, List.set_cons_zero, List.set_cons_succ])
        | (refine wpT_take 9 rfl rfl (by decide +kernel) ⟨fun _ => ⟨RX.out, RY.out⟩, trivial⟩ ?_; apply Exists.intro; refine ⟨?_, ?_⟩; intro w hw; (have qa := hw.1 (Nat.le_refl _); have qb := hw.2); (first | (first | exact run_load_mid _ _ rfl g _ rfl _ _ qa.1 Tryz.underlying85 rfl size_Val | exact run_load_mid _ _ rfl g' _ rfl _ _ qa.2 Tryz.underlying85 rfl size_Val | exact step_neq_V _ _ rfl rfl rfl) | (go_simp <;> rfl)); simp only [Act.put, List.setIfInBounds_toArray, List.set_cons_zero, List.set_cons_succ])
        | (refine wpT_skip rfl rfl ?_; simp only [Act.put, List.setIfInBounds_toArray, List.set_cons_zero, List.set_cons_succ])
      refine wpT_nil ?_
      simp only [decide_true, Bool.not_true]
      go_wp2_with (fail)
      go_roundw
      case rel => exact ⟨j + 1, by omega, by go_num, FR.out.drew⟩
      case measure => simp [intOf]; omega
    · obtain rfl : j = l.length := by omega
      have j2 : ¬ ((l.length : Int) < (l.length : Int)) := by omega
      go_wp2_with (fail)
      go_ret
      exact ⟨rfl, FR.out⟩
set_option maxRecDepth 20000 in
set_option maxHeartbeats 4000000 in
theorem texts_go {R R' : Nat → Prop} {w : World} {va vb : Value} {l : List Bs} (h : Sl R w va l.length (l.flatMap scell)) (k : Sl R' w vb l.length (l.flatMap scell)) (hn : l.length ≤ 1099511627776) :
    Calls Tryz.prog 75 #[va, vb] w fun e w' => e = .returned (.bool true) ∧ Fr (fun _ => False) w w' := by
  have HX := hid h
  have HY := hid k
  obtain ⟨a, c, rfl, hc, -⟩ := h
  obtain ⟨b, d, rfl, hd, -⟩ := k
  have F0 := hid (Fr.refl (fun _ => False) w)
  go_enter Tryz.func75, Tryz.ntmps75
  go_wp2_with (fail)
  go_loopw [5] (fun i wr => ∃ j : Nat, j ≤ l.length ∧ i = .int .i64 j ∧ Fr (fun _ => False) w wr) (fun i _ => l.length - (intOf i).toNat)
  case atStart => exact ⟨0, by omega, rfl, F0.out⟩
  case round =>
    obtain ⟨j, hj, rfl, fr⟩ := hrel
    have FR := hid fr
    clear fr F0
    rename World => WR
    by_cases hjl : j < l.length
    · obtain ⟨g, o, rfl, rx⟩ := sl_at (k := 1) (by decide) scell_len (HX.out.fr FR.out (fun _ _ h => h)) hjl
      obtain ⟨g', o', rfl, ry⟩ := sl_at (k := 1) (by decide) scell_len (HY.out.fr FR.out (fun _ _ h => h)) hjl
      have i1 : (0 : Int) ≤ (j : Int) := by omega
      have i2 : (j : Int) < l.length := by omega
      have i9 : IntKind.i64.wrap ((j : Int) + 1) = (j : Int) + 1 := IntWalk.i64_in _ (by omega)
      have q1 : WR.cell? ⟨g, o + j, none⟩ = some (.string (bs l[j])) := by have := rx 0 (.string (bs l[j])) rfl; simpa using this
      have q2 : WR.cell? ⟨g', o' + j, none⟩ = some (.string (bs l[j])) := by have := ry 0 (.string (bs l[j])) rfl; simpa using this
      clear rx ry
      generalize l[j] = x at *
      go_upto_region 6 with fail
      go_quiet (fail)
      clear q1 q2
      go_wp2_with (fail)
      go_roundw
      case rel => exact ⟨j + 1, by omega, by go_num, FR.out.drewN _⟩
      case measure => simp [intOf]; omega
    · obtain rfl : j = l.length := by omega
      have j2 : ¬ ((l.length : Int) < (l.length : Int)) := by omega
      go_wp2_with (fail)
      go_ret
      exact ⟨rfl, FR.out⟩
end Go.Proofs.YtiimomgbklgicaaGreat
namespace Go.Proofs.YtiimomgbklgicaaGreat
open Go.RowKit Go.VB Go.VB.Oct Go.VB.Cat Go.VB.Rec Go.VB.Slt
/-- a transaction to be read -/
structure TxnS (R : Nat → Prop) (W : World) (x : TxnV) : Prop where
  r : Sl R W x.v x.cs.length (x.cs.flatMap ChgV.cells)
  c : ∀ c ∈ x.cs, ChgS R W c
structure TxnsS (R : Nat → Prop) (W : World) (v : Value) (xs : List TxnV) : Prop where
  r : Sl R W v xs.length (xs.flatMap TxnV.cells)
  t : ∀ x ∈ xs, TxnS R W x
theorem ChgS.mono {R R' : Nat → Prop} {W : World} {c : ChgV} (h : ChgS R W c) (hR : ∀ k, R k → R' k) : ChgS R' W c := ⟨h.n.mono hR, h.o.mono hR, h.w.mono hR, h.ln, h.lo, h.lw⟩
theorem TxnsR.s {B : Nat} {W : World} {u : Value} {xs : List TxnV} (h : TxnsR B W u xs) : TxnsS (fun k => B ≤ k) W u xs :=
  ⟨h.r.sl, fun x hx => ⟨(h.t x hx).r.sl, fun c hc => ⟨((h.t x hx).c c hc).n.sl, ((h.t x hx).c c hc).o.sl, ((h.t x hx).c c hc).w.sl, ((h.t x hx).c c hc).ln, ((h.t x hx).c c hc).lo, ((h.t x hx).c c hc).lw⟩⟩⟩
theorem TxnsS.fr {R U : Nat → Prop} {W W' : World} {u : Value} {xs : List TxnV} (h : TxnsS R W u xs) (f : Fr U W W') (hU : ∀ k, R k → ¬ U k) : TxnsS R W' u xs :=
  ⟨h.r.fr f hU, fun x hx => ⟨(h.t x hx).r.fr f hU, fun c hc => ((h.t x hx).c c hc).fr f hU⟩⟩
theorem TxnsS.fre {R : Nat → Prop} {W W' : World} {u : Value} {xs : List TxnV} (h : TxnsS R W u xs) (f : Fr (fun _ => False) W W') : TxnsS R W' u xs := h.fr f (fun _ _ h => h)
set_option maxRecDepth 20000 in
set_option maxHeartbeats 8000000 in
theorem Same_go {R R' : Nat → Prop} {w : World} {u1 u2 : Value} {xs ys : List TxnV} (h1 : TxnsS R w u1 xs) (h2 : TxnsS R' w u2 ys) (he : xs.map TxnV.t = ys.map TxnV.t) (hn : xs.length ≤ 1099511627776) (hc : ∀ x ∈ xs, x.cs.length ≤ 1099511627776) :
    Calls Tryz.prog 22 #[u1, u2] w fun e w' => e = .returned (.bool true) ∧ Fr (fun _ => False) w w' := by
  have H1 := hid h1
  have H2 := hid h2
  have HCN := hid hc
  have HL := hid (show ys.length = xs.length from by have := congrArg List.length he; rw [List.length_map, List.length_map] at this; exact this.symm)
  have HAT := hid (fun (t : Nat) (ht : t < xs.length) => show xs[t].lsn = (ys[t]'(by rw [HL.out]; exact ht)).lsn ∧ xs[t].cs.map ChgV.c = (ys[t]'(by rw [HL.out]; exact ht)).cs.map ChgV.c from by
    have h3 : t < ys.length := by rw [HL.out]; exact ht
    have e := congrArg (fun l => l[t]?) he
    simp only [List.getElem?_map, List.getElem?_eq_getElem ht, List.getElem?_eq_getElem h3, Option.map_some, Option.some.injEq] at e
    exact ⟨(Prod.mk.inj e).1, (Prod.mk.inj e).2⟩)
  obtain ⟨a1, c1, e1, -, -⟩ := h1.r
  obtain ⟨a2, c2, e2, -, -⟩ := h2.r
  subst e1
  rw [HL.out] at e2
  subst e2
  have HS1 := hid h1.r
  have HS2 := hid h2.r
  have F0 := hid (Fr.refl (fun _ => False) w)
  obtain ⟨n, hn'⟩ : ∃ n, n = xs.length := ⟨_, rfl⟩
  rw [← hn'] at HS1 HS2 H1 H2 hn ⊢
  have HNE := hid hn'
  clear h1 h2 hc he hn'
  go_enter Tryz.func22, Tryz.ntmps22
  go_wp2_with (fail)
  go_loopw [5] (fun s5 wr => ∃ t : Nat, t ≤ n ∧ s5 = .int .i64 t ∧ Fr (fun _ => False) w wr) (fun s5 _ => n - (intOf s5).toNat)
  case atStart => exact ⟨0, by omega, rfl, F0.out⟩
  case round =>
    obtain ⟨t, ht, rfl, hf⟩ := hrel
    have FR := hid hf
    clear hf F0
    rename World => WR
    by_cases htn : t < n
    · have htx : t < xs.length := by rw [← HNE.out]; exact htn
      have hty : t < ys.length := by rw [HL.out]; exact htx
      have HXD := hid (HAT.out t htx)
      obtain ⟨g, o, rfl, rx⟩ := sl_at (k := 2) (by decide) (fun _ => rfl) (show Sl R w (.slice a1 n c1) xs.length (xs.flatMap TxnV.cells) from by have := HS1.out; rw [HNE.out] at this ⊢; exact this) htx
      obtain ⟨g', o', rfl, ry⟩ := sl_at (k := 2) (by decide) (fun _ => rfl) (show Sl R' w (.slice a2 n c2) ys.length (ys.flatMap TxnV.cells) from HS2.out) hty
      have HTX := hid (H1.out.t _ (List.getElem_mem htx))
      have HTY := hid (H2.out.t _ (List.getElem_mem hty))
      have HCX := hid (HCN.out _ (List.getElem_mem htx))
      obtain ⟨x, hx⟩ : ∃ x, x = xs[t] := ⟨_, rfl⟩
      obtain ⟨y, hy⟩ : ∃ y, y = ys[t] := ⟨_, rfl⟩
      rw [← hx] at HXD HTX rx HCX
      rw [← hy] at HXD HTY ry
      clear hx hy
      have HYL := hid (show y.cs.length = x.cs.length from by have := congrArg List.length HXD.out.2; rw [List.length_map, List.length_map] at this; exact this.symm)
      obtain ⟨ax, cx, ex, -, -⟩ := HTX.out.r
      obtain ⟨ay, cy, ey, -, -⟩ := HTY.out.r
      rw [HYL.out] at ey
      have HEX := hid ex
      have HEY := hid ey
      obtain ⟨m, hm⟩ : ∃ m, m = x.cs.length := ⟨_, rfl⟩
      rw [← hm] at ex ey HYL HEX HEY HCX
      have HME := hid hm
      have HPX := hid (show w.cell? ⟨g, o + t * 2 + 1, none⟩ = some (.slice ax m cx) from rx 1 (.slice ax m cx) (by show some x.v = _; rw [ex]))
      have HPY := hid (show w.cell? ⟨g', o' + t * 2 + 1, none⟩ = some (.slice ay m cy) from ry 1 (.slice ay m cy) (by show some y.v = _; rw [ey]))
      have p0 := cell_fr (show w.cell? ⟨g, o + t * 2, none⟩ = some (.int .i64 x.lsn) from by have := rx 0 (.int .i64 x.lsn) rfl; simpa using this) FR.out (fun h => h)
      have p1 := cell_fr (show w.cell? ⟨g', o' + t * 2, none⟩ = some (.int .i64 x.lsn) from by have := ry 0 (.int .i64 y.lsn) rfl; rw [← HXD.out.1] at this; simpa using this) FR.out (fun h => h)
      have p2 := cell_fr HPX.out FR.out (fun h => h)
      have p3 := cell_fr HPY.out FR.out (fun h => h)
      have i1 : (0 : Int) ≤ (t : Int) := by omega
      have i2 : (t : Int) < (n : Int) := by omega
      have w1 : IntKind.i64.wrap ((t : Int) + 1) = (t : Int) + 1 := IntWalk.i64_in _ (by omega)
      generalize x.lsn = lx at *
      clear ex ey hm rx ry HAT
      go_upto_region 6 with fail
      go_quiet (fail)
      have FQ := hid (FR.out.drewN nq)
      clear p0 p1 p2 p3 FR
      generalize WR.drewN nq = WQ at *
      go_wp2_with (fail)
      go_loopw [6] (fun s6 wr => ∃ k : Nat, k ≤ m ∧ s6 = .int .i64 k ∧ Fr (fun _ => False) w wr) (fun s6 _ => m - (intOf s6).toNat)
      case atStart => exact ⟨0, by omega, rfl, FQ.out⟩
      case round =>
        obtain ⟨k, hk, rfl, hf⟩ := hrel
        have FK := hid hf
        clear hf FQ
        rename World => WK
        have p2 := cell_fr HPX.out FK.out (fun h => h)
        by_cases hkm : k < m
        · have p3 := cell_fr HPY.out FK.out (fun h => h)
          have hkx : k < x.cs.length := by rw [← HME.out]; exact hkm
          have hky : k < y.cs.length := by rw [HYL.out]; exact hkm
          have HCC := hid (show x.cs[k].c = y.cs[k].c from by
            have e := congrArg (fun l => l[k]?) HXD.out.2
            simp only [List.getElem?_map, List.getElem?_eq_getElem hkx, List.getElem?_eq_getElem hky, Option.map_some, Option.some.injEq] at e
            exact e)
          obtain ⟨gx, ox, rfl, rx⟩ := sl_at (k := 5) (by decide) (fun _ => rfl) (show Sl R w (.slice ax m cx) x.cs.length (x.cs.flatMap ChgV.cells) from by rw [← HEX.out]; exact HTX.out.r) hkx
          obtain ⟨gy, oy, rfl, ry⟩ := sl_at (k := 5) (by decide) (fun _ => rfl) (show Sl R' w (.slice ay m cy) y.cs.length (y.cs.flatMap ChgV.cells) from by rw [← HEY.out]; exact HTY.out.r) hky
          have HX := hid (HTX.out.c _ (List.getElem_mem hkx))
          have HY := hid (HTY.out.c _ (List.getElem_mem hky))
          obtain ⟨b, hb⟩ : ∃ b, b = x.cs[k] := ⟨_, rfl⟩
          obtain ⟨d, hd⟩ : ∃ d, d = y.cs[k] := ⟨_, rfl⟩
          rw [← hb] at HX HCC rx
          rw [← hd] at HY HCC ry
          clear hb hd
          obtain ⟨cc, vn, vo, vw⟩ := b
          obtain ⟨dc, un, uo, uw⟩ := d
          have hcc := HCC.out
          dsimp only at hcc
          subst hcc
          obtain ⟨kind, table, names, old, new⟩ := cc
          obtain ⟨x1, z1, g1, -, -⟩ := HX.out.n
          obtain ⟨x2, z2, g2, -, -⟩ := HX.out.o
          obtain ⟨x3, z3, g3, -, -⟩ := HX.out.w
          obtain ⟨y1, v1, g4, -, -⟩ := HY.out.n
          obtain ⟨y2, v2, g5, -, -⟩ := HY.out.o
          obtain ⟨y3, v3, g6, -, -⟩ := HY.out.w
          dsimp only at g1 g2 g3 g4 g5 g6
          subst g1 g2 g3 g4 g5 g6
          have q0 : WK.cell? ⟨gx, ox + k * 5, none⟩ = some (.int .i64 kind) := cell_fr (show w.cell? ⟨gx, ox + k * 5, none⟩ = some (.int .i64 kind) from by have := rx 0 (.int .i64 kind) rfl; simpa using this) FK.out (fun h => h)
          have q1 : WK.cell? ⟨gx, ox + k * 5 + 1, none⟩ = some (.string (bs table)) := cell_fr (rx 1 (.string (bs table)) rfl) FK.out (fun h => h)
          have q2 : WK.cell? ⟨gx, ox + k * 5 + 2, none⟩ = some (.slice x1 names.length z1) := cell_fr (rx 2 (.slice x1 names.length z1) rfl) FK.out (fun h => h)
          have q3 : WK.cell? ⟨gx, ox + k * 5 + 3, none⟩ = some (.slice x2 old.length z2) := cell_fr (rx 3 (.slice x2 old.length z2) rfl) FK.out (fun h => h)
          have q4 : WK.cell? ⟨gx, ox + k * 5 + 4, none⟩ = some (.slice x3 new.length z3) := cell_fr (rx 4 (.slice x3 new.length z3) rfl) FK.out (fun h => h)
          have fa := (Fr.refl (fun _ => False) WK).alloc (.cells #[.int .i64 kind, .string (bs table), .slice x1 names.length z1, .slice x2 old.length z2, .slice x3 new.length z3] 80)
          have D7 := hid (Blk.new WK [.int .i64 kind, .string (bs table), .slice x1 names.length z1, .slice x2 old.length z2, .slice x3 new.length z3] 80)
          have F7 := hid (FK.out.trans fa (fun _ h _ => h))
          have j1 : (0 : Int) ≤ (k : Int) := by omega
          have j2 : (k : Int) < (m : Int) := by omega
          have w2 : IntKind.i64.wrap ((k : Int) + 1) = (k : Int) + 1 := IntWalk.i64_in _ (by have := HCX.out; omega)
          clear fa rx
          go_upto_region 12 with fail
          clear q0 q1 q2 q3 q4 p2 p3 FK
          generalize WK.heap.size = d7 at *
          generalize WK.alloc _ = W7 at *
          have p3 := cell_fr HPY.out F7.out (fun h => h)
          have q0 : W7.cell? ⟨gy, oy + k * 5, none⟩ = some (.int .i64 kind) := cell_fr (show w.cell? ⟨gy, oy + k * 5, none⟩ = some (.int .i64 kind) from by have := ry 0 (.int .i64 kind) rfl; simpa using this) F7.out (fun h => h)
          have q1 : W7.cell? ⟨gy, oy + k * 5 + 1, none⟩ = some (.string (bs table)) := cell_fr (ry 1 (.string (bs table)) rfl) F7.out (fun h => h)
          have q2 : W7.cell? ⟨gy, oy + k * 5 + 2, none⟩ = some (.slice y1 names.length v1) := cell_fr (ry 2 (.slice y1 names.length v1) rfl) F7.out (fun h => h)
          have q3 : W7.cell? ⟨gy, oy + k * 5 + 3, none⟩ = some (.slice y2 old.length v2) := cell_fr (ry 3 (.slice y2 old.length v2) rfl) F7.out (fun h => h)
          have q4 : W7.cell? ⟨gy, oy + k * 5 + 4, none⟩ = some (.slice y3 new.length v3) := cell_fr (ry 4 (.slice y3 new.length v3) rfl) F7.out (fun h => h)
          have fb := (Fr.refl (fun _ => False) W7).alloc (.cells #[.int .i64 kind, .string (bs table), .slice y1 names.length v1, .slice y2 old.length v2, .slice y3 new.length v3] 80)
          have D8 := hid (Blk.new W7 [.int .i64 kind, .string (bs table), .slice y1 names.length v1, .slice y2 old.length v2, .slice y3 new.length v3] 80)
          have D78 := hid (Blk.fr D7.out fb (fun h => h))
          have F8 := hid (F7.out.trans fb (fun _ h _ => h))
          clear fb ry
          go_upto_region 13 with fail
          clear q0 q1 q2 q3 q4 p3 F7 D7
          generalize W7.heap.size = d8 at *
          generalize W7.alloc _ = W8 at *
          have r2 : W8.cell? ⟨d7, 2, none⟩ = some (.slice x1 names.length z1) := D78.out.cell 2
          have s2 : W8.cell? ⟨d8, 2, none⟩ = some (.slice y1 names.length v1) := D8.out.cell 2
          have HT := hid (texts_go (HX.out.n.fr F8.out (fun _ _ h => h)) (HY.out.n.fr F8.out (fun _ _ h => h)) (by have := HX.out.ln; omega))
          go_upto_region 14 with (go_at_call 75; refine HT.out.mono ?_; rintro e w9 ⟨rfl, f⟩; have F9 := hid (F8.out.trans f (fun _ h _ => h)); have D79 := hid (Blk.fr D78.out f (fun h => h)); have D89 := hid (Blk.fr D8.out f (fun h => h)); clear f)
          clear r2 s2 HT F8 D78 D8
          have r3 : w9.cell? ⟨d7, 3, none⟩ = some (.slice x2 old.length z2) := D79.out.cell 3
          have s3 : w9.cell? ⟨d8, 3, none⟩ = some (.slice y2 old.length v2) := D89.out.cell 3
          have HO := hid (r2Same_go (HX.out.o.fr F9.out (fun _ _ h => h)) (HY.out.o.fr F9.out (fun _ _ h => h)) (by have := HX.out.lo; omega))
          go_upto_region 15 with (go_at_call 76; refine HO.out.mono ?_; rintro e w10 ⟨rfl, f⟩; have F10 := hid (F9.out.trans f (fun _ h _ => h)); have D710 := hid (Blk.fr D79.out f (fun h => h)); have D810 := hid (Blk.fr D89.out f (fun h => h)); clear f)
          clear r3 s3 HO F9 D79 D89
          have r4 : w10.cell? ⟨d7, 4, none⟩ = some (.slice x3 new.length z3) := D710.out.cell 4
          have s4 : w10.cell? ⟨d8, 4, none⟩ = some (.slice y3 new.length v3) := D810.out.cell 4
          have HN := hid (r2Same_go (HX.out.w.fr F10.out (fun _ _ h => h)) (HY.out.w.fr F10.out (fun _ _ h => h)) (by have := HX.out.lw; omega))
          go_upto_region 16 with (go_at_call 76; refine HN.out.mono ?_; rintro e w11 ⟨rfl, f⟩; have F11 := hid (F10.out.trans f (fun _ h _ => h)); have D711 := hid (Blk.fr D710.out f (fun h => h)); have D811 := hid (Blk.fr D810.out f (fun h => h)); clear f)
          clear r4 s4 HN F10 D710 D810
          have r0 : w11.cell? ⟨d7, 0, none⟩ = some (.int .i64 kind) := D711.out.cell 0
          have s0 : w11.cell? ⟨d8, 0, none⟩ = some (.int .i64 kind) := D811.out.cell 0
          have r1 : w11.cell? ⟨d7, 1, none⟩ = some (.string (bs table)) := D711.out.cell 1
          have s1 : w11.cell? ⟨d8, 1, none⟩ = some (.string (bs table)) := D811.out.cell 1
          go_wp2_with (fail)
          go_roundw
          case rel => exact ⟨k + 1, by omega, by go_num, F11.out⟩
          case measure => simp [intOf]; omega
        · obtain rfl : k = m := by omega
          have j2 : ¬ ((k : Int) < (k : Int)) := by omega
          go_wp2_with (fail)
          go_roundw
          case rel => exact ⟨t + 1, by omega, by go_num, FK.out⟩
          case measure => simp [intOf]; omega
    · obtain rfl : t = n := by omega
      have j2 : ¬ ((t : Int) < (t : Int)) := by omega
      go_wp2_with (fail)
      go_ret
      exact ⟨rfl, FR.out⟩
end Go.Proofs.YtiimomgbklgicaaGreat
namespace Go.VB.Slt
open Go.VB Go.VB.Oct Go.VB.Cat Go.VB.Rec
/-- the catalog that is valid ahead of LSN k, out of those kept -/
def catAt (ts : List (Int × List Tab)) (k : Int) : List Tab := ts.foldl (fun c t => if t.1 < k then t.2 else c) ((ts.head?.map (·.2)).getD [])
theorem catAt_take (ts : List (Int × List Tab)) (k : Int) (c : List Tab) {j : Nat} (h : j < ts.length) : (ts.take (j + 1)).foldl (fun c t => if t.1 < k then t.2 else c) c = (if (ts[j]).1 < k then (ts[j]).2 else (ts.take j).foldl (fun c t => if t.1 < k then t.2 else c) c) := by
  rw [List.take_add_one, List.foldl_append, List.getElem?_eq_getElem h]
  rfl
theorem catAt_ok (ts : List (Int × List Tab)) (h : ∀ t ∈ ts, Ok t.2) (k : Int) : Ok (catAt ts k) := by
  unfold catAt
  have : ∀ (l : List (Int × List Tab)) (c : List Tab), (∀ t ∈ l, Ok t.2) → Ok c → Ok (l.foldl (fun c t => if t.1 < k then t.2 else c) c) := by
    intro l
    induction l with
    | nil => intro c _ hc; exact hc
    | cons x l ih =>
      intro c hl hc
      rw [List.foldl_cons]
      refine ih _ (fun t ht => hl t (List.mem_cons_of_mem _ ht)) ?_
      split
      · exact hl x List.mem_cons_self
      · exact hc
  refine this ts _ h ?_
  cases ts with
  | nil => exact ok_nil
  | cons x l => exact h x List.mem_cons_self
def sbytes (m : Slt) : Bs := text m.name ++ be 4 m.acked.toNat ++ be 4 (needM m).toNat ++ text (Cat.bytes (catAt m.times (needM m)))
end Go.VB.Slt
