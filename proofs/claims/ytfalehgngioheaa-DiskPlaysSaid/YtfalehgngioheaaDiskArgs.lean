import Derived.Test.YtfalehgngioheaaDiskFew
/- How a call, as an argument, opens. -/
set_option linter.unusedVariables false
namespace Go.Proofs.Ytfalehgngioheaa
open Go.RowKit Go.VB Go.VB.Disk Go.WideShapes Go.ChangeShapes
theorem iv_flat (L : List Int) : L.flatMap (fun x => [Value.int .i64 x]) = iv L := by
  induction L with
  | nil => rfl
  | cons a L ih => rw [List.flatMap_cons, ih]; rfl
theorem QRep_of {R : Nat → Prop} {w : World} {v : Value} {q : List Int} (h : Sl R w v q.length (iv q)) : QRep R w v q := by
  obtain ⟨a, cap, rfl, hc, h⟩ := h
  exact ⟨a, cap, rfl, hc, fun hq => h (by simpa [iv] using hq)⟩
section
variable {H : Type} {enc : TypeId × Value → H} {w : World} {base : Nat} {sp : Nat → Bool} {held : Bool}
theorem elem_ints : ∀ fuel cs (r : DataW H × List MemPlace), DataW.trod enc Try.prog w base sp held fuel 32 cs = some r → ∃ p : List Int × Value, cs = [p.2] ∧ (QRep (fun j => j < w.heap.size) w p.2 p.1 ∧ p.1.length ≤ maxLen) := by
  intro fuel cs r h
  obtain ⟨v, L, rfl, h1, -, h3⟩ := open_cs (P := Try.prog) Try.underlying32 (k := 1) (by kernel_rfl) (by omega) h (fun x => [Value.int .i64 x]) (fun x => True) (fun _ => rfl) (fun fuel cs r _ h => by obtain ⟨x, h1, _⟩ := elem_int Try.underlying3 fuel cs r h; exact ⟨x, h1, trivial⟩)
  rw [iv_flat] at h1
  exact ⟨(L, v), rfl, QRep_of h1, h3⟩
theorem cells_int : Try.prog.cellsOf 3 = 1 := by kernel_rfl
theorem cells_str : Try.prog.cellsOf 9 = 1 := by kernel_rfl
theorem cells_ints : Try.prog.cellsOf 32 = 1 := by kernel_rfl
theorem cells_call : Try.prog.cellsOf 52 = 4 := by kernel_rfl
def GoodCall (w : World) (p : Ca × Value) : Prop := p.1.s.length ≤ maxLen ∧ p.1.q.length ≤ maxLen ∧ QRep (fun j => j < w.heap.size) w p.2 p.1.q
theorem elem_call : ∀ fuel cs (r : DataW H × List MemPlace), cs.length = 4 → DataW.trod enc Try.prog w base sp held fuel 52 cs = some r → ∃ p : Ca × Value, cs = ccs p ∧ GoodCall w p := by
  intro fuel cs r hl h
  match cs, hl with
  | [a, b, c, d], _ =>
    cases fuel with
    | zero => simp [DataW.trod] at h
    | succ m =>
      unfold DataW.trod at h
      rw [Try.underlying52] at h
      dsimp only at h
      rw [if_pos (by rw [cells_call]; rfl)] at h
      simp only [Option.map_eq_some_iff, List.mapM_cons, List.mapM_nil, Option.bind_eq_bind, Option.bind_eq_some_iff, Option.pure_def, Option.some.injEq, cells_int, cells_str, cells_ints] at h
      obtain ⟨xs, ⟨y0, h0, x1, ⟨y1, h1, x2, ⟨y2, h2, x3, ⟨y3, h3, -⟩, -⟩, -⟩, -⟩, -⟩ := h
      obtain ⟨i0, e0, -⟩ := elem_int Try.underlying3 _ _ _ h0
      obtain ⟨i1, e1, -⟩ := elem_int Try.underlying3 _ _ _ h1
      obtain ⟨s2, e2, g2⟩ := elem_string Try.underlying9 _ _ _ h2
      obtain ⟨p3, e3, g3⟩ := elem_ints _ _ _ h3
      obtain rfl : a = .int .i64 i0 := by simpa using e0
      obtain rfl : b = .int .i64 i1 := by simpa using e1
      obtain rfl : c = .string (bs s2) := by simpa using e2
      obtain rfl : d = p3.2 := by simpa using e3
      exact ⟨(⟨i0, i1, s2, p3.1⟩, p3.2), rfl, g2, g3.2, g3.1⟩
end
end Go.Proofs.Ytfalehgngioheaa
