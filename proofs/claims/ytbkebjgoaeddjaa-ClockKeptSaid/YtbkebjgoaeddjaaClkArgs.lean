import Derived.Test.YtbkebjgoaeddjaaClkL
import Derived.Test.YtbkebjgoaeddjaaSl
/- How a call, as an argument, opens; integers. -/
set_option linter.unusedVariables false
namespace Go.VB.Clk
open Go.RowKit
structure Cl where
  kind : Int
  x : Int
  s : Int
def ccl (p : Cl) : List Value := [.int .i64 p.kind, .int .i64 p.x, .int .i64 p.s]
/-- integers as cells -/
def iv (q : List Int) : List Value := q.map fun x => Value.int .i64 x
theorem iv_flat (L : List Int) : L.flatMap (fun x => [Value.int .i64 x]) = iv L := by
  induction L with
  | nil => rfl
  | cons a L ih => rw [List.flatMap_cons, ih]; rfl
end Go.VB.Clk
namespace Go.VB
theorem flatMap_at {α : Type} (f : α → List Value) (k : Nat) (hf : ∀ x, (f x).length = k) : ∀ (L : List α) (i : Nat) (hi : i < L.length) (j : Nat), j < k → (L.flatMap f)[i * k + j]? = (f L[i])[j]?
  | [], i, hi, _, _ => by simp at hi
  | x :: L, 0, _, j, hj => by
    rw [List.flatMap_cons, Nat.zero_mul, Nat.zero_add, List.getElem?_append_left (by rw [hf]; exact hj)]
    rfl
  | x :: L, i + 1, hi, j, hj => by
    have := flatMap_at f k hf L i (by simpa using hi) j hj
    rw [List.flatMap_cons, List.getElem?_append_right (by rw [hf, Nat.succ_mul]; omega), hf, Nat.succ_mul, show i * k + k + j - k = i * k + j by omega, this]
    rfl
end Go.VB
namespace Go.Proofs.Ytbkebjgoaeddjaa
open Go.RowKit Go.VB Go.VB.Clk Go.WideShapes Go.ChangeShapes
section
variable {H : Type} {enc : TypeId × Value → H} {w : World} {base : Nat} {sp : Nat → Bool} {held : Bool}
theorem cells_int : Try.prog.cellsOf 3 = 1 := by kernel_rfl
theorem cells_call : Try.prog.cellsOf 48 = 3 := by kernel_rfl
set_option maxRecDepth 100000 in
theorem elem_call : ∀ fuel cs (r : DataW H × List MemPlace), cs.length = 3 → DataW.trod enc Try.prog w base sp held fuel 48 cs = some r → ∃ p : Cl, cs = ccl p ∧ True := by
  intro fuel cs r hl h
  match cs, hl with
  | [a, b, c], _ =>
    cases fuel with
    | zero => simp [DataW.trod] at h
    | succ m =>
      unfold DataW.trod at h
      rw [Try.underlying48] at h
      dsimp only at h
      rw [if_pos (by rw [cells_call]; rfl)] at h
      simp only [Option.map_eq_some_iff, List.mapM_cons, List.mapM_nil, Option.bind_eq_bind, Option.bind_eq_some_iff, Option.pure_def, Option.some.injEq, cells_int] at h
      obtain ⟨xs, ⟨y0, h0, x1, ⟨y1, h1, x2, ⟨y2, h2, -⟩, -⟩, -⟩, -⟩ := h
      obtain ⟨i0, e0, -⟩ := elem_int Try.underlying3 _ _ _ h0
      obtain ⟨i1, e1, -⟩ := elem_int Try.underlying3 _ _ _ h1
      obtain ⟨i2, e2, -⟩ := elem_int Try.underlying3 _ _ _ h2
      obtain rfl : a = .int .i64 i0 := by simpa using e0
      obtain rfl : b = .int .i64 i1 := by simpa using e1
      obtain rfl : c = .int .i64 i2 := by simpa using e2
      exact ⟨⟨i0, i1, i2⟩, rfl, trivial⟩
set_option maxRecDepth 100000 in
theorem call_agg {w0 : World} {r : Reach} {b0 : Nat} {v : Value} {d : DataW H} {ps : List MemPlace}
    (hval : Value.okWide Try.prog w0 r b0 48 v) (h : DataW.Trod enc Try.prog w base sp held 48 v d ps) : ∃ p : Cl, v = .agg (ccl p).toArray := by
  obtain ⟨fuel, h⟩ := h
  simp only [Value.okWide, Try.underlying48] at hval
  obtain ⟨cs, rfl, hs, -⟩ := hval
  rw [cells_call] at hs
  obtain ⟨p, hp, -⟩ := elem_call _ _ _ (by simpa [Value.cells] using hs) h
  refine ⟨p, ?_⟩
  rw [← hp]
  simp [Value.cells]
set_option maxRecDepth 100000 in
theorem open_calls {w0 : World} {r : Reach} {b0 : Nat} {v : Value} {d : DataW H} {ps : List MemPlace}
    (hval : Value.okWide Try.prog w0 r b0 46 v) (h : DataW.Trod enc Try.prog w base sp held 46 v d ps) :
    ∃ L : List Cl, Sl (fun k => k < w.heap.size) w v L.length (L.flatMap ccl) ∧ L.length ≤ maxLen := by
  obtain ⟨L, hs, -, hl⟩ := open_sl Try.underlying46 (k := 3) cells_call (by omega) hval h ccl (fun _ => True) (fun _ => rfl) (fun fuel cs r hcs h => elem_call fuel cs r hcs h)
  exact ⟨L, hs, hl⟩

set_option maxRecDepth 100000 in
theorem open_ins {w0 : World} {r : Reach} {b0 : Nat} {v : Value} {d : DataW H} {ps : List MemPlace}
    (hval : Value.okWide Try.prog w0 r b0 26 v) (h : DataW.Trod enc Try.prog w base sp held 26 v d ps) :
    ∃ L : List Int, Sl (fun k => k < w.heap.size) w v L.length (iv L) ∧ L.length ≤ maxLen ∧ ∀ x ∈ L, (Lit.int .i64 x).wf = true := by
  obtain ⟨L, hs, hg, hl⟩ := open_sl Try.underlying26 (k := 1) cells_int (by omega) hval h (fun x => [Value.int .i64 x]) (fun x => (Lit.int .i64 x).wf = true) (fun _ => rfl) (fun fuel cs r _ h => by obtain ⟨x, h1, h2⟩ := elem_int Try.underlying3 fuel cs r h; exact ⟨x, h1, h2⟩)
  rw [iv_flat] at hs
  exact ⟨L, hs, hl, hg⟩
end
end Go.Proofs.Ytbkebjgoaeddjaa
