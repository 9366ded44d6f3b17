import Derived.Test.YtiimomgbklgicaaCtD
/- A catalog in memory; New, find. -/
set_option linter.unusedVariables false
namespace Go.VB.Cat
open Go.VB Go.VB.Oct
theorem pos_map {α β : Type} (f : α → β) (p : β → Bool) (l : List α) : pos p (l.map f) = pos (fun x => p (f x)) l := by
  rcases pos_cases (fun x => p (f x)) l with ⟨h1, h2⟩ | ⟨i, hi, h1, h2, h3⟩
  · rw [h1]
    refine pos_none fun y hy => ?_
    obtain ⟨x, hx, rfl⟩ := List.mem_map.1 hy
    exact h2 x hx
  · rw [h1]
    exact pos_at (by simpa using hi) (by simpa using h2) (fun j hj => by simpa using h3 j hj)
end Go.VB.Cat
namespace Go.Proofs.Ytiimomgbklgicaa
open Go.RowKit Go.VB Go.VB.Oct Go.VB.Cat Go.VB.Rec
/-- the blocks S, and those that were made between two worlds -/
def Ext (S : Nat → Prop) (w w' : World) (k : Nat) : Prop := S k ∨ (w.heap.size ≤ k ∧ k < w'.heap.size)
/-- a table's own blocks lie in S -/
structure TabO (S : Nat → Prop) (W : World) (t : TabV) : Prop where
  c : Row 55 2 0 W t.vc t.t.cols.length (t.t.cols.flatMap Col.cells)
  cS : ∀ k, t.vc.ownBlock = some k → S k
  i : Row 113 3 0 W t.vi t.ix.length (t.ix.flatMap IxV.cells)
  iS : ∀ k, t.vi.ownBlock = some k → S k
  e : t.t.ixs = t.ix.map IxV.x
  x : ∀ x ∈ t.ix, Row 3 1 0 W x.v x.x.cols.length (x.x.cols.flatMap icell) ∧ ∀ k, x.v.ownBlock = some k → S k
theorem TabO.fr {S U : Nat → Prop} {W W' : World} {t : TabV} (h : TabO S W t) (f : Fr U W W') (hU : ∀ k, S k → ¬ U k) : TabO S W' t :=
  ⟨h.c.fr f (fun k hk => hU k (h.cS k hk)), h.cS, h.i.fr f (fun k hk => hU k (h.iS k hk)), h.iS, h.e, fun x hx => ⟨(h.x x hx).1.fr f (fun k hk => hU k ((h.x x hx).2 k hk)), (h.x x hx).2⟩⟩
theorem TabO.mono {S T : Nat → Prop} {W : World} {t : TabV} (h : TabO S W t) (hT : ∀ k, S k → T k) : TabO T W t :=
  ⟨h.c, fun k hk => hT k (h.cS k hk), h.i, fun k hk => hT k (h.iS k hk), h.e, fun x hx => ⟨(h.x x hx).1, fun k hk => hT k ((h.x x hx).2 k hk)⟩⟩
/-- a catalog in block c, its slice v, its tables ts -/
structure CRv (tc : TypeId) (S : Nat → Prop) (W : World) (c : Nat) (v : Value) (ts : List TabV) : Prop where
  b : Blk W c [v] tc
  bS : S c
  r : Row 110 4 0 W v ts.length (ts.flatMap TabV.cells)
  rS : ∀ k, v.ownBlock = some k → S k
  t : ∀ t ∈ ts, TabO S W t
  dc : ts.Pairwise fun a b => ∀ k, a.vc.ownBlock = some k → b.vc.ownBlock ≠ some k
  di : ts.Pairwise fun a b => ∀ k, a.vi.ownBlock = some k → b.vi.ownBlock ≠ some k
  lt : ∀ k, S k → k < W.heap.size
theorem CRv.fr {tc : TypeId} {S U : Nat → Prop} {W W' : World} {c : Nat} {v : Value} {ts : List TabV} (h : CRv tc S W c v ts) (f : Fr U W W') (hU : ∀ k, S k → ¬ U k) : CRv tc S W' c v ts :=
  ⟨h.b.fr f (hU c h.bS), h.bS, h.r.fr f (fun k hk => hU k (h.rS k hk)), h.rS, fun t ht => (h.t t ht).fr f hU, h.dc, h.di, fun k hk => Nat.lt_of_lt_of_le (h.lt k hk) f.size⟩
theorem CRv.fre {tc : TypeId} {S : Nat → Prop} {W W' : World} {c : Nat} {v : Value} {ts : List TabV} (h : CRv tc S W c v ts) (f : Fr (fun _ => False) W W') : CRv tc S W' c v ts := h.fr f (fun _ _ h => h)
theorem CRv.mono {tc : TypeId} {S T : Nat → Prop} {W : World} {c : Nat} {v : Value} {ts : List TabV} (h : CRv tc S W c v ts) (hT : ∀ k, S k → T k) (hl : ∀ k, T k → k < W.heap.size) : CRv tc T W c v ts :=
  ⟨h.b, hT c h.bS, h.r, fun k hk => hT k (h.rS k hk), fun t ht => (h.t t ht).mono hT, h.dc, h.di, hl⟩
/-- a catalog that is the model m -/
def CR (tc : TypeId) (S : Nat → Prop) (W : World) (c : Nat) (m : List Tab) : Prop := ∃ v ts, CRv tc S W c v ts ∧ ts.map TabV.t = m
theorem CR.fr {tc : TypeId} {S U : Nat → Prop} {W W' : World} {c : Nat} {m : List Tab} (h : CR tc S W c m) (f : Fr U W W') (hU : ∀ k, S k → ¬ U k) : CR tc S W' c m := by
  obtain ⟨v, ts, h, e⟩ := h
  exact ⟨v, ts, h.fr f hU, e⟩
theorem CR.fre {tc : TypeId} {S : Nat → Prop} {W W' : World} {c : Nat} {m : List Tab} (h : CR tc S W c m) (f : Fr (fun _ => False) W W') : CR tc S W' c m := h.fr f (fun _ _ h => h)
theorem CR.ext {tc : TypeId} {S : Nat → Prop} {W W' : World} {c : Nat} {m : List Tab} (h : CR tc S W c m) (f : Fr (fun _ => False) W W') : CR tc (Ext S W W') W' c m := by
  obtain ⟨v, ts, h, e⟩ := h
  exact ⟨v, ts, (h.fre f).mono (fun k hk => .inl hk) (fun k hk => hk.elim (fun hk => Nat.lt_of_lt_of_le (h.lt k hk) f.size) (fun hk => hk.2)), e⟩
theorem New_go (w : World) : Calls Try.prog 16 #[] w fun e w' => e = .returned (.pointer (some ⟨w.heap.size, 0, none⟩)) ∧ CR 93 (fun k => k = w.heap.size) w' w.heap.size [] ∧ Fr (fun _ => False) w w' := by
  have F1 := hid ((Fr.refl (fun _ => False) w).alloc (.cells #[.slice none 0 0] 93))
  have B1 := hid (Blk.new w [.slice none 0 0] 93)
  go_enter Try.func16, Try.ntmps16
  go_wp2_with (fail)
  go_ret
  exact ⟨rfl, ⟨_, [], ⟨B1.out, rfl, Row.nil, fun k hk => by simp [Value.ownBlock] at hk, fun t ht => by simp at ht, List.Pairwise.nil, List.Pairwise.nil, fun k hk => by subst hk; exact B1.out.lt⟩, rfl⟩, F1.out⟩
set_option maxRecDepth 20000 in
theorem find_go {S : Nat → Prop} {w : World} {c : Nat} {v : Value} {ts : List TabV} (h : CRv 93 S w c v ts) (hl : ts.length ≤ 1048576) (n : Bs) :
    Calls Try.prog 84 #[.pointer (some ⟨c, 0, none⟩), .string (bs n)] w fun e w' => e = .returned (.int .i64 (find (ts.map TabV.t) n)) ∧ Fr (fun _ => False) w w' := by
  have F1 := hid ((Fr.refl (fun _ => False) w).alloc (.cells #[.string (bs n)] 9))
  have c0 : (w.alloc (.cells #[.string (bs n)] 9)).cell? ⟨c, 0, none⟩ = some v := (h.b.fr F1.out (fun h => h)).cell 0
  have B1 := hid (Blk.new w [.string (bs n)] 9)
  have HI := hid (IndexFunc_find (cv := .pointer (some ⟨w.heap.size, 0, none⟩)) (p := fun t : TabV => t.t.name == n) (h.r.fre F1.out).sl (by omega) (fun x _ w' f => find1_go x n w.heap.size (cell_fr (B1.out.cell 0) f (fun h => h))))
  have HF := hid (show pos (fun t : TabV => t.t.name == n) ts = find (ts.map TabV.t) n from (pos_map TabV.t (fun t => t.name == n) ts).symm)
  rw [HF.out] at HI
  generalize find (ts.map TabV.t) n = z at *
  clear h HF
  go_enter Try.func84, Try.ntmps84
  go_wp2_with (go_at_call 102; refine HI.out.mono ?_; rintro e w1 ⟨rfl, f⟩; have F2 := hid (F1.out.trans f (fun _ h _ => h)); clear f)
  go_ret
  exact ⟨rfl, F2.out⟩
end Go.Proofs.Ytiimomgbklgicaa
