import Derived.Test.YtgkfdlpijefgkaaDoorCtLs
/- Tables and rows as a law's arguments. -/
set_option linter.unusedVariables false
namespace Go.Proofs.YtgkfdlpijefgkaaDoor
open Go.RowKit Go.VB Go.VB.Oct Go.VB.Cat Go.VB.Rec Go.WideShapes Go.ChangeShapes
/-- a 64-bit integer -/
def I64 (x : Int) : Prop := -9223372036854775808 ≤ x ∧ x ≤ 9223372036854775807
theorem wf_in {x : Int} (h : (Lit.int .i64 x).wf = true) : I64 x := by
  simp [Lit.wf, IntKind.min, IntKind.max, IntKind.bits, IntKind.signed] at h
  unfold I64
  omega
/-- a value of an argument -/
def VIn (v : V) : Prop := I64 v.1 ∧ I64 v.2
section
variable {H : Type} {enc : TypeId × Value → H} {w : World} {base : Nat} {sp : Nat → Bool} {held : Bool}
theorem cells_int : Tryd.prog.cellsOf 3 = 1 := by kernel_rfl
theorem cells_i64 : Tryd.prog.cellsOf 2 = 1 := by kernel_rfl
theorem cells_str : Tryd.prog.cellsOf 9 = 1 := by kernel_rfl
theorem cells_row : Tryd.prog.cellsOf 29 = 1 := by kernel_rfl
theorem cells_val : Tryd.prog.cellsOf 77 = 3 := by kernel_rfl
theorem cells_col : Tryd.prog.cellsOf 40 = 2 := by kernel_rfl
theorem cells_tab : Tryd.prog.cellsOf 25 = 4 := by kernel_rfl
theorem cells_cols : Tryd.prog.cellsOf 22 = 1 := by kernel_rfl
theorem cells_ixs : Tryd.prog.cellsOf 23 = 1 := by kernel_rfl
set_option maxRecDepth 100000 in
theorem elem_val : ∀ fuel cs (r : DataW H × List MemPlace), cs.length = 3 → DataW.trod enc Tryd.prog w base sp held fuel 77 cs = some r → ∃ p : V, cs = p.cells ∧ VIn p := by
  intro fuel cs r hl h
  match cs, hl with
  | [a, b, c], _ =>
    cases fuel with
    | zero => simp [DataW.trod] at h
    | succ m =>
      unfold DataW.trod at h
      rw [Tryd.underlying77] at h
      dsimp only at h
      rw [if_pos (by rw [cells_val]; rfl)] at h
      simp only [Option.map_eq_some_iff, List.mapM_cons, List.mapM_nil, Option.bind_eq_bind, Option.bind_eq_some_iff, Option.pure_def, Option.some.injEq, cells_int, cells_i64, cells_str] at h
      obtain ⟨xs, ⟨y0, h0, x1, ⟨y1, h1, x2, ⟨y2, h2, -⟩, -⟩, -⟩, -⟩ := h
      obtain ⟨i0, e0, g0⟩ := elem_int Tryd.underlying3 _ _ _ h0
      obtain ⟨i1, e1, g1⟩ := elem_int Tryd.underlying2 _ _ _ h1
      obtain ⟨s2, e2, g2⟩ := elem_string Tryd.underlying9 _ _ _ h2
      obtain rfl : a = .int .i64 i0 := by simpa using e0
      obtain rfl : b = .int .i64 i1 := by simpa using e1
      obtain rfl : c = .string (bs s2) := by simpa using e2
      exact ⟨⟨i0, i1, s2⟩, rfl, wf_in g0, wf_in g1⟩
set_option maxRecDepth 100000 in
theorem elem_col : ∀ fuel cs (r : DataW H × List MemPlace), cs.length = 2 → DataW.trod enc Tryd.prog w base sp held fuel 40 cs = some r → ∃ p : Col, cs = p.cells ∧ p.name.length ≤ maxLen ∧ I64 p.kind := by
  intro fuel cs r hl h
  match cs, hl with
  | [a, b], _ =>
    cases fuel with
    | zero => simp [DataW.trod] at h
    | succ m =>
      unfold DataW.trod at h
      rw [Tryd.underlying40] at h
      dsimp only at h
      rw [if_pos (by rw [cells_col]; rfl)] at h
      simp only [Option.map_eq_some_iff, List.mapM_cons, List.mapM_nil, Option.bind_eq_bind, Option.bind_eq_some_iff, Option.pure_def, Option.some.injEq, cells_int, cells_str] at h
      obtain ⟨xs, ⟨y0, h0, x1, ⟨y1, h1, -⟩, -⟩, -⟩ := h
      obtain ⟨s0, e0, g0⟩ := elem_string Tryd.underlying9 _ _ _ h0
      obtain ⟨i1, e1, g1⟩ := elem_int Tryd.underlying3 _ _ _ h1
      obtain rfl : a = .string (bs s0) := by simpa using e0
      obtain rfl : b = .int .i64 i1 := by simpa using e1
      exact ⟨⟨s0, i1⟩, rfl, g0, wf_in g1⟩
set_option maxRecDepth 100000 in
theorem open_rows {w0 : World} {r : Reach} {b0 : Nat} {v : Value} {d : DataW H} {ps : List MemPlace} (hval : Value.okWide Tryd.prog w0 r b0 26 v) (h : DataW.Trod enc Tryd.prog w base sp held 26 v d ps) :
    ∃ L : List RowV, RowsA (fun k => k < w.heap.size) w v L := by
  obtain ⟨L, h1, h2, h3⟩ := open_sl Tryd.underlying26 (k := 1) cells_row (by omega) hval h RowV.cells (fun p => Sl (fun k => k < w.heap.size) w p.v p.r.length (p.r.flatMap V.cells) ∧ p.r.length ≤ maxLen) (fun _ => rfl) (fun fuel cs r' hcs ht => by
    obtain ⟨v', L, rfl, h1, -, h3⟩ := open_cs Tryd.underlying29 (k := 3) cells_val (by omega) ht V.cells VIn (fun _ => rfl) (fun fuel cs r hc h => elem_val fuel cs r hc h)
    exact ⟨⟨v', L⟩, rfl, h1, h3⟩)
  exact ⟨L, h1, h2, h3⟩
set_option maxRecDepth 100000 in
/-- a table as an argument; its indexes stay unread -/
theorem open_tab {w0 : World} {r : Reach} {b0 : Nat} {v : Value} {d : DataW H} {ps : List MemPlace} (hval : Value.okWide Tryd.prog w0 r b0 25 v) (h : DataW.Trod enc Tryd.prog w base sp held 25 v d ps) :
    ∃ (id : Int) (name : Bs) (ac ai : Option Addr) (cols : List Col) (cc ni ci : Nat), v = .agg #[.int .i64 id, .string (bs name), .slice ac cols.length cc, .slice ai ni ci] ∧ Sl (fun k => k < w.heap.size) w (.slice ac cols.length cc) cols.length (cols.flatMap Col.cells) ∧ cols.length ≤ maxLen ∧ ∀ c ∈ cols, c.name.length ≤ maxLen ∧ I64 c.kind := by
  obtain ⟨fuel, h⟩ := h
  simp only [Value.okWide, Tryd.underlying25] at hval
  obtain ⟨cs, rfl, hs, -⟩ := hval
  rw [cells_tab] at hs
  have hs2 : (Value.agg cs).cells.toList.length = 4 := by simpa [Value.cells] using hs
  have hcs : (Value.agg cs).cells.toList = cs.toList := by simp [Value.cells]
  rw [hcs] at h hs2
  cases fuel with
  | zero => simp [DataW.trod] at h
  | succ m =>
    match hm : cs.toList, hs2 with
    | [a, b, c, d], _ =>
      rw [hm] at h
      unfold DataW.trod at h
      rw [Tryd.underlying25] at h
      dsimp only at h
      rw [if_pos (by rw [cells_tab]; rfl)] at h
      simp only [Option.map_eq_some_iff, List.mapM_cons, List.mapM_nil, Option.bind_eq_bind, Option.bind_eq_some_iff, Option.pure_def, Option.some.injEq, cells_int, cells_str, cells_cols, cells_ixs] at h
      obtain ⟨xs, ⟨y0, h0, x1, ⟨y1, h1, x2, ⟨y2, h2, x3, ⟨y3, h3, -⟩, -⟩, -⟩, -⟩, -⟩ := h
      obtain ⟨i0, e0, g0⟩ := elem_int Tryd.underlying3 _ _ _ h0
      obtain ⟨s1, e1, g1⟩ := elem_string Tryd.underlying9 _ _ _ h1
      obtain ⟨v2, L, e2, k2, gd, g2⟩ := open_cs Tryd.underlying22 (k := 2) cells_col (by omega) h2 Col.cells (fun c => c.name.length ≤ maxLen ∧ I64 c.kind) (fun _ => rfl) (fun fuel cs r hc h => elem_col fuel cs r hc h)
      have h4 : ∃ ai ni ci, d = .slice ai ni ci := by
        rcases DataW.trod_slice Tryd.underlying23 h3 with ⟨e, -⟩ | ⟨a, len, cap, elems, rest, n, _, e, -⟩
        · exact ⟨_, _, _, by simpa using e⟩
        · exact ⟨_, _, _, by simpa using e⟩
      obtain ⟨ai, ni, ci, rfl⟩ := h4
      obtain rfl : a = .int .i64 i0 := by simpa using e0
      obtain rfl : b = .string (bs s1) := by simpa using e1
      obtain rfl : c = v2 := by simpa using e2
      obtain ⟨a2, c2, rfl, hc2, hx2⟩ := k2
      refine ⟨i0, s1, a2, ai, L, c2, ni, ci, ?_, ⟨a2, c2, rfl, hc2, hx2⟩, g2, gd⟩
      congr 1
      apply Array.ext'
      rw [hm]
end
end Go.Proofs.YtgkfdlpijefgkaaDoor
