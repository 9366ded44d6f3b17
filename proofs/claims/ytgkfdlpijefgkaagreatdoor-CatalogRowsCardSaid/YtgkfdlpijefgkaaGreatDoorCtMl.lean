import Derived.Test.YtgkfdlpijefgkaaGreatDoorCtMd
import Derived.Test.YtgkfdlpijefgkaaGreatDoorCtPk
/- Statements that Made gave, done on a catalog; slices of slices of integers as arguments. -/
set_option linter.unusedVariables false
namespace Go.Proofs.YtgkfdlpijefgkaaGreatDoor
open Go.RowKit Go.VB Go.VB.Oct Go.VB.Cat Go.VB.Rec
abbrev Arg := Value × List Int
def acells (p : Arg) : List Value := [p.1]
/-- slices of integers as an argument -/
structure ArgsR (w : World) (v : Value) (L : List Arg) : Prop where
  s : Sl (fun k => k < w.heap.size) w v L.length (L.flatMap acells)
  x : ∀ p ∈ L, Sl (fun k => k < w.heap.size) w p.1 p.2.length (p.2.flatMap icell) ∧ p.2.length ≤ 9223372036854775807
theorem ArgsR.fre {w W : World} {v : Value} {L : List Arg} (h : ArgsR w v L) (f : Fr (fun _ => False) w W) : Sl (fun k => k < w.heap.size) W v L.length (L.flatMap acells) ∧ ∀ p ∈ L, Sl (fun k => k < w.heap.size) W p.1 p.2.length (p.2.flatMap icell) ∧ p.2.length ≤ 9223372036854775807 :=
  ⟨h.s.fr f (fun _ _ h => h), fun p hp => ⟨(h.x p hp).1.fr f (fun _ _ h => h), (h.x p hp).2⟩⟩
section
variable {H : Type} {enc : TypeId × Value → H}
set_option maxRecDepth 100000 in
/-- slices of slices of integers as an argument -/
theorem open_ints2 {w w0 : World} {r : Reach} {b0 base : Nat} {sp : Nat → Bool} {held : Bool} {v : Value} {d : DataW H} {ps : List MemPlace} (hval : Value.okWide Tryz.prog w0 r b0 22 v) (h : DataW.Trod enc Tryz.prog w base sp held 22 v d ps) :
    ∃ L : List Arg, ArgsR w v L := by
  have : ∃ L : List Arg, Sl (fun k => k < w.heap.size) w v L.length (L.flatMap acells) ∧ (∀ p ∈ L, Sl (fun k => k < w.heap.size) w p.1 p.2.length (p.2.flatMap icell) ∧ p.2.length ≤ 9223372036854775807) ∧ L.length ≤ maxLen := by
    refine open_sl Tryz.underlying22 (k := 1) (by kernel_rfl) (by omega) hval h acells (fun p => Sl (fun k => k < w.heap.size) w p.1 p.2.length (p.2.flatMap icell) ∧ p.2.length ≤ 9223372036854775807) (fun _ => rfl) ?_
    intro fuel cs r' hcs ht
    obtain ⟨v', L, rfl, h1, -, h3⟩ := open_cs Tryz.underlying42 (k := 1) (by kernel_rfl) (by omega) ht icell (fun _ => True) (fun _ => rfl) (fun fuel cs r hc h => by
      obtain ⟨x, hx, -⟩ := elem_int Tryz.underlying3 fuel cs r h
      exact ⟨x, hx, trivial⟩)
    exact ⟨(v', L), rfl, h1, by unfold maxLen at h3; omega⟩
  obtain ⟨L, h1, h2, -⟩ := this
  exact ⟨L, h1, h2⟩
end
/-- argument i, in the world of now -/
theorem ArgsR.at_ {w W : World} {a : Option Addr} {c : Nat} {L : List Arg} (h : ArgsR w (.slice a L.length c) L) (f : Fr (fun _ => False) w W) {i : Nat} (hi : i < L.length) :
    ∃ (g o : Nat) (v : Value) (x : List Int), a = some ⟨g, o, none⟩ ∧ W.cell? ⟨g, o + i, none⟩ = some v ∧ Sl (fun k => k < w.heap.size) W v x.length (x.flatMap icell) ∧ x.length ≤ 9223372036854775807 := by
  obtain ⟨h1, h2⟩ := h.fre f
  obtain ⟨g, o, rfl, hg, hcell⟩ := sl_cell1 (f := acells) (fun _ => rfl) h1 (fun hn => by rw [hn] at hi; simp at hi)
  exact ⟨g, o, L[i].1, L[i].2, rfl, hcell i hi, (h2 _ (List.getElem_mem hi)).1, (h2 _ (List.getElem_mem hi)).2⟩
def scells (s : St) (vc vn : Value) : List Value := [.int .i64 s.kind, .string (bs s.table), .string (bs s.name), vc, vn, .slice none 0 0, .slice none 0 0, .slice none 0 0, .string (bs s.join), .string ⟨#[]⟩, .string ⟨#[]⟩, .int .i64 0, .slice none 0 0, .int .i64 0, .int .i64 0]
theorem mcells_split (s : St) (vc vn : Value) (root : Int) : mcells s vc vn root = [] ++ scells s vc vn ++ [.int .i64 root] := rfl
/-- a statement that Made gave, in a block of its own -/
structure MK (B : Nat) (W : World) (d : Nat) (s : St) (vc vn : Value) (root : Int) : Prop where
  b : Blk W d (mcells s vc vn root) 57
  c : Row 80 2 B W vc s.cols.length (s.cols.flatMap Col.cells)
  n : Row 9 1 B W vn s.names.length (sv s.names)
  g : GoodS s root
  ge : B ≤ d
namespace MK
variable {B : Nat} {W W' : World} {d : Nat} {s : St} {vc vn : Value} {root : Int}
theorem fr {S : Nat → Prop} (h : MK B W d s vc vn root) (f : Fr S W W') (hS : ∀ k, S k → k < B) : MK B W' d s vc vn root :=
  ⟨h.b.fr f (fun k => by have := hS _ k; have := h.ge; omega), h.c.fr f (fun k hk e => by have := hS _ e; have := h.c.new k hk; omega), h.n.fr f (fun k hk e => by have := hS _ e; have := h.n.new k hk; omega), h.g, h.ge⟩
theorem fre (h : MK B W d s vc vn root) (f : Fr (fun _ => False) W W') : MK B W' d s vc vn root := h.fr f (fun _ h => h.elim)
theorem rng (h : MK B W d s vc vn root) : W.rangeAt d 0 (scells s vc vn) := h.b.range [] (scells s vc vn) [.int .i64 root] (mcells_split s vc vn root)
theorem at15 (h : MK B W d s vc vn root) : W.cell? ⟨d, 15, none⟩ = some (.int .i64 root) := h.b.cell 15
theorem made {w w' : World} {s : St} {vc vn : Value} {root : Int} (hc : Row 80 2 w.heap.size w' vc s.cols.length (s.cols.flatMap Col.cells)) (hn : Row 9 1 w.heap.size w' vn s.names.length (sv s.names)) (hg : GoodS s root) (f : Fr (fun _ => False) w w') :
    MK w.heap.size (w'.alloc (.cells (mcells s vc vn root).toArray 57)) w'.heap.size s vc vn root := by
  have f1 := (Fr.refl (fun _ => False) w').alloc (.cells (mcells s vc vn root).toArray 57)
  exact ⟨Blk.new w' _ _, hc.fre f1, hn.fre f1, hg, f.size⟩
end MK
/-- the statement, done on a catalog of the call's own -/
theorem OS.madeDo {w0 W : World} {S : Nat → Prop} {c : Nat} {m : List Tab} (h : OS w0 S W c m) {B d : Nat} {s : St} {oc on : Option Addr} {cc cn : Nat} {root : Int} (hk : MK B W d s (.slice oc s.cols.length cc) (.slice on s.names.length cn) root) :
    Calls Tryz.prog 16 #[.pointer (some ⟨c, 0, none⟩), .agg (scells s (.slice oc s.cols.length cc) (.slice on s.names.length cn)).toArray, .int .i64 root] W fun e w' =>
      e = .returned (.int .i64 (doM m s root).2) ∧ OS w0 (Ext S W w') w' c (doM m s root).1 ∧ Fr S W w' := by
  have g := hk.g
  have hk1 := g.kind
  have := h.st s.kind s.table s.name s.join (l := s.cols) (ns := s.names) (P := fun _ => True) (by omega) (hk.c.sl' (fun _ _ => trivial)) (hk.n.sl' (fun _ _ => trivial)) (by have := g.cols; omega) (by have := g.names; omega) (fun c hc => by have := (g.col c hc).1; omega) (fun c hc => by have := (g.nam c hc).1; omega) root
  exact this
theorem size_stmt : (Tryz.prog.info? 55).map (·.size) = some 15 := by kernel_rfl
theorem good_tilde {m : List Tab} (h : NoCol tilde m) {s : St} {root : Int} (g : GoodS s root) : NoCol tilde (doM m s root).1 := noCol_do h (fun c hc => (g.col c hc).2) g.join.2
end Go.Proofs.YtgkfdlpijefgkaaGreatDoor
