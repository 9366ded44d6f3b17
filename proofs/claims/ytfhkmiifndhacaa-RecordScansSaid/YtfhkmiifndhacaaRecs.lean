import Derived.Test.YtfhkmiifndhacaaSan
import Derived.Test.YtfhkmiifndhacaaFin
import Derived.Test.YtfhkmiifndhacaaLog
import Derived.Test.YtfhkmiifndhacaaLaw
/- Records in memory as elements; slices of slices of integers as arguments. -/
set_option linter.unusedVariables false
namespace Go.Proofs.Ytfhkmiifndhacaa
open Go.RowKit Go.VB Go.VB.Oct Go.VB.Rec
theorem raw_pos (r : R) : 1 ≤ r.raw.length := by
  unfold R.raw
  simp only [List.length_append, be_length _ _ (show 1 ≤ 8 by omega)]
  omega
theorem flat8 : ∀ (L : List Q) (j : Nat) (h : j < L.length) (i : Nat), i < 8 → (L.flatMap Q.cells)[j * 8 + i]? = (Q.cells L[j])[i]?
  | q :: L, 0, _, i, hi => by simp [List.getElem?_append, qcells_len, hi]
  | q :: L, j + 1, h, i, hi => by
    rw [List.flatMap_cons, List.getElem?_append_right (by rw [qcells_len]; omega), qcells_len, show (j + 1) * 8 + i - 8 = j * 8 + i by omega, flat8 L j (by simpa using h) i hi]
    rfl
/-- the eight cells of record j -/
theorem row_rec {B n : Nat} {W : World} {a : Option Addr} {c : Nat} {qs : List Q} (h : Row 27 8 B W (.slice a n c) qs.length (qs.flatMap Q.cells)) (hn : qs.length = n) (hq : qs ≠ []) :
    ∃ g, a = some ⟨g, 0, none⟩ ∧ ∀ j (hj : j < qs.length), W.rangeAt g (j * 8) (Q.cells qs[j]) := by
  subst hn
  obtain ⟨g, h1, h2, h3⟩ := row_cells h (fun e => by
    cases qs with
    | nil => exact hq rfl
    | cons q L => have := congrArg List.length e; simp [qcells_len] at this)
  refine ⟨g, h1, fun j hj i u hu => ?_⟩
  have hi : i < 8 := (List.getElem?_eq_some_iff.1 hu).1
  exact h3 _ u (by rw [flat8 qs j hj i hi, hu])
theorem q_cells {W : World} {g o : Nat} {q : Q} (h : W.rangeAt g o q.cells) : W.cell? ⟨g, o, none⟩ = some (.int .i64 q.r.kind) ∧ W.cell? ⟨g, o + 1, none⟩ = some (.int .i64 q.r.xid) ∧ W.cell? ⟨g, o + 2, none⟩ = some (.int .i64 q.r.table) ∧ W.cell? ⟨g, o + 3, none⟩ = some q.o ∧ W.cell? ⟨g, o + 4, none⟩ = some q.n ∧ W.cell? ⟨g, o + 5, none⟩ = some q.e ∧ W.cell? ⟨g, o + 6, none⟩ = some q.x ∧ W.cell? ⟨g, o + 7, none⟩ = some (.string (bs q.r.note)) :=
  ⟨h 0 _ rfl, h 1 _ rfl, h 2 _ rfl, h 3 _ rfl, h 4 _ rfl, h 5 _ rfl, h 6 _ rfl, h 7 _ rfl⟩
theorem modl (x n : Nat) (hn : 0 < n) : ∃ k : Nat, (x : Int).tmod (n : Int) = k ∧ (x : Int) % (n : Int) = k ∧ k < n := ⟨x % n, by rw [Int.tmod_eq_emod_of_nonneg (by omega), Int.natCast_emod], (Int.natCast_emod _ _).symm, Nat.mod_lt _ hn⟩
section
variable {H : Type} {enc : TypeId × Value → H}
set_option maxRecDepth 100000 in
/-- slices of slices of integers as an argument -/
theorem open_ints2 {w w0 : World} {r : Reach} {b0 base : Nat} {sp : Nat → Bool} {held : Bool} {v : Value} {d : DataW H} {ps : List MemPlace} (hval : Value.okWide Try.prog w0 r b0 44 v) (h : DataW.Trod enc Try.prog w base sp held 44 v d ps) :
    ∃ L : List Arg, Sl (fun k => k < w.heap.size) w v L.length (L.flatMap acells) ∧ (∀ p ∈ L, Sl (fun k => k < w.heap.size) w p.1 p.2.length (p.2.flatMap icell) ∧ p.2.length ≤ 9223372036854775807) ∧ L.length ≤ maxLen := by
  refine open_sl Try.underlying44 (k := 1) (by kernel_rfl) (by omega) hval h acells (fun p => Sl (fun k => k < w.heap.size) w p.1 p.2.length (p.2.flatMap icell) ∧ p.2.length ≤ 9223372036854775807) (fun _ => rfl) ?_
  intro fuel cs r' hcs ht
  obtain ⟨v', L, rfl, h1, -, h3⟩ := open_cs Try.underlying25 (k := 1) (by kernel_rfl) (by omega) ht icell (fun _ => True) (fun _ => rfl) (fun fuel cs r hc h => by
    obtain ⟨x, hx, -⟩ := elem_int Try.underlying3 fuel cs r h
    exact ⟨x, hx, trivial⟩)
  exact ⟨(v', L), rfl, h1, by unfold maxLen at h3; omega⟩
end
end Go.Proofs.Ytfhkmiifndhacaa
