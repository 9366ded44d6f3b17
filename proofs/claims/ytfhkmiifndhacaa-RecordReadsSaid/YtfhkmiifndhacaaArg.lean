import Derived.Test.YtfhkmiifndhacaaFew
/- How a record, a row, as an argument, opens. -/
set_option linter.unusedVariables false
namespace Go.VB.Rec
def in64 (n : Int) : Prop := -9223372036854775808 ≤ n ∧ n ≤ 9223372036854775807
def V.In2 (v : V) : Prop := in64 v.k ∧ in64 v.n
structure R.In (r : R) : Prop where
  kind : in64 r.kind
  xid : in64 r.xid
  table : in64 r.table
  old : ∀ v ∈ r.old, v.In2
  new : ∀ v ∈ r.new, v.In2
end Go.VB.Rec
namespace Go.Proofs.Ytfhkmiifndhacaa
open Go.RowKit Go.VB Go.VB.Oct Go.VB.Rec Go.WideShapes Go.ChangeShapes
theorem wf_in {x : Int} (h : (Lit.int .i64 x).wf = true) : in64 x := by
  simp [Lit.wf, IntKind.min, IntKind.max, IntKind.bits, IntKind.signed] at h
  unfold in64
  omega
section
variable {H : Type} {enc : TypeId × Value → H} {w : World} {base : Nat} {sp : Nat → Bool} {held : Bool}
theorem cells_int : Try.prog.cellsOf 3 = 1 := by kernel_rfl
theorem cells_i64 : Try.prog.cellsOf 2 = 1 := by kernel_rfl
theorem cells_str : Try.prog.cellsOf 9 = 1 := by kernel_rfl
theorem cells_row : Try.prog.cellsOf 23 = 1 := by kernel_rfl
theorem cells_eds : Try.prog.cellsOf 24 = 1 := by kernel_rfl
theorem cells_ints : Try.prog.cellsOf 25 = 1 := by kernel_rfl
theorem cells_val : Try.prog.cellsOf 53 = 3 := by kernel_rfl
theorem cells_edit : Try.prog.cellsOf 55 = 3 := by kernel_rfl
theorem cells_rec : Try.prog.cellsOf 27 = 8 := by kernel_rfl
set_option maxRecDepth 100000 in
theorem elem_val : ∀ fuel cs (r : DataW H × List MemPlace), cs.length = 3 → DataW.trod enc Try.prog w base sp held fuel 53 cs = some r → ∃ p : V, cs = p.cells ∧ V.In2 p := by
  intro fuel cs r hl h
  match cs, hl with
  | [a, b, c], _ =>
    cases fuel with
    | zero => simp [DataW.trod] at h
    | succ m =>
      unfold DataW.trod at h
      rw [Try.underlying53] at h
      dsimp only at h
      rw [if_pos (by rw [cells_val]; rfl)] at h
      simp only [Option.map_eq_some_iff, List.mapM_cons, List.mapM_nil, Option.bind_eq_bind, Option.bind_eq_some_iff, Option.pure_def, Option.some.injEq, cells_int, cells_i64, cells_str] at h
      obtain ⟨xs, ⟨y0, h0, x1, ⟨y1, h1, x2, ⟨y2, h2, -⟩, -⟩, -⟩, -⟩ := h
      obtain ⟨i0, e0, g0⟩ := elem_int Try.underlying3 _ _ _ h0
      obtain ⟨i1, e1, g1⟩ := elem_int Try.underlying2 _ _ _ h1
      obtain ⟨s2, e2, g2⟩ := elem_string Try.underlying9 _ _ _ h2
      obtain rfl : a = .int .i64 i0 := by simpa using e0
      obtain rfl : b = .int .i64 i1 := by simpa using e1
      obtain rfl : c = .string (bs s2) := by simpa using e2
      exact ⟨⟨i0, i1, s2⟩, rfl, wf_in g0, wf_in g1⟩
set_option maxRecDepth 100000 in
theorem elem_edit : ∀ fuel cs (r : DataW H × List MemPlace), cs.length = 3 → DataW.trod enc Try.prog w base sp held fuel 55 cs = some r → ∃ p : E, cs = p.cells ∧ True := by
  intro fuel cs r hl h
  match cs, hl with
  | [a, b, c], _ =>
    cases fuel with
    | zero => simp [DataW.trod] at h
    | succ m =>
      unfold DataW.trod at h
      rw [Try.underlying55] at h
      dsimp only at h
      rw [if_pos (by rw [cells_edit]; rfl)] at h
      simp only [Option.map_eq_some_iff, List.mapM_cons, List.mapM_nil, Option.bind_eq_bind, Option.bind_eq_some_iff, Option.pure_def, Option.some.injEq, cells_int, cells_str] at h
      obtain ⟨xs, ⟨y0, h0, x1, ⟨y1, h1, x2, ⟨y2, h2, -⟩, -⟩, -⟩, -⟩ := h
      obtain ⟨i0, e0, g0⟩ := elem_int Try.underlying3 _ _ _ h0
      obtain ⟨i1, e1, g1⟩ := elem_int Try.underlying3 _ _ _ h1
      obtain ⟨s2, e2, g2⟩ := elem_string Try.underlying9 _ _ _ h2
      obtain rfl : a = .int .i64 i0 := by simpa using e0
      obtain rfl : b = .int .i64 i1 := by simpa using e1
      obtain rfl : c = .string (bs s2) := by simpa using e2
      exact ⟨⟨i0, i1, s2⟩, rfl, trivial⟩
theorem elem_row : ∀ fuel cs (r : DataW H × List MemPlace), DataW.trod enc Try.prog w base sp held fuel 23 cs = some r → ∃ (v : Value) (L : List V), cs = [v] ∧ Sl (fun k => k < w.heap.size) w v L.length (L.flatMap V.cells) ∧ (∀ x ∈ L, V.In2 x) ∧ L.length ≤ maxLen :=
  fun _ _ _ h => open_cs (P := Try.prog) Try.underlying23 (k := 3) cells_val (by omega) h V.cells V.In2 (fun _ => rfl) (fun fuel cs r hc h => elem_val fuel cs r hc h)
theorem elem_edits : ∀ fuel cs (r : DataW H × List MemPlace), DataW.trod enc Try.prog w base sp held fuel 24 cs = some r → ∃ (v : Value) (L : List E), cs = [v] ∧ Sl (fun k => k < w.heap.size) w v L.length (L.flatMap E.cells) ∧ (∀ x ∈ L, True) ∧ L.length ≤ maxLen :=
  fun _ _ _ h => open_cs (P := Try.prog) Try.underlying24 (k := 3) cells_edit (by omega) h E.cells (fun _ => True) (fun _ => rfl) (fun fuel cs r hc h => elem_edit fuel cs r hc h)
theorem elem_ints : ∀ fuel cs (r : DataW H × List MemPlace), DataW.trod enc Try.prog w base sp held fuel 25 cs = some r → ∃ (v : Value) (L : List Int), cs = [v] ∧ Sl (fun k => k < w.heap.size) w v L.length (L.flatMap icell) ∧ (∀ x ∈ L, in64 x) ∧ L.length ≤ maxLen :=
  fun _ _ _ h => open_cs (P := Try.prog) Try.underlying25 (k := 1) cells_int (by omega) h icell in64 (fun _ => rfl) (fun fuel cs r hc h => by obtain ⟨x, h1, h2⟩ := elem_int Try.underlying3 fuel cs r h; exact ⟨x, h1, wf_in h2⟩)
set_option maxRecDepth 100000 in
theorem rec_agg {w0 : World} {r : Reach} {b0 : Nat} {v : Value} {d : DataW H} {ps : List MemPlace}
    (hval : Value.okWide Try.prog w0 r b0 27 v) (h : DataW.Trod enc Try.prog w base sp held 27 v d ps) : ∃ (r : R) (vo vn ve vx : Value), v = .agg (rv r vo vn ve vx).toArray ∧ AV (fun k => k < w.heap.size) w r vo vn ve vx ∧ r.In := by
  obtain ⟨fuel, h⟩ := h
  simp only [Value.okWide, Try.underlying27] at hval
  obtain ⟨cs, rfl, hs, -⟩ := hval
  rw [cells_rec] at hs
  have hs2 : (Value.agg cs).cells.toList.length = 8 := by simpa [Value.cells] using hs
  have hcs : (Value.agg cs).cells.toList = cs.toList := by simp [Value.cells]
  rw [hcs] at h hs2
  cases fuel with
  | zero => simp [DataW.trod] at h
  | succ m =>
    match hm : cs.toList, hs2 with
    | [a, b, c, d, e, f, g, i], _ =>
      rw [hm] at h
      unfold DataW.trod at h
      rw [Try.underlying27] at h
      dsimp only at h
      rw [if_pos (by rw [cells_rec]; rfl)] at h
      simp only [Option.map_eq_some_iff, List.mapM_cons, List.mapM_nil, Option.bind_eq_bind, Option.bind_eq_some_iff, Option.pure_def, Option.some.injEq, cells_int, cells_str, cells_row, cells_eds, cells_ints] at h
      obtain ⟨xs, ⟨y0, h0, x1, ⟨y1, h1, x2, ⟨y2, h2, x3, ⟨y3, h3, x4, ⟨y4, h4, x5, ⟨y5, h5, x6, ⟨y6, h6, x7, ⟨y7, h7, -⟩, -⟩, -⟩, -⟩, -⟩, -⟩, -⟩, -⟩, -⟩ := h
      obtain ⟨i0, e0, g0⟩ := elem_int Try.underlying3 _ _ _ h0
      obtain ⟨i1, e1, g1⟩ := elem_int Try.underlying3 _ _ _ h1
      obtain ⟨i2, e2, g2⟩ := elem_int Try.underlying3 _ _ _ h2
      obtain ⟨v3, l3, e3, s3, t3, u3⟩ := elem_row _ _ _ h3
      obtain ⟨v4, l4, e4, s4, t4, u4⟩ := elem_row _ _ _ h4
      obtain ⟨v5, l5, e5, s5, t5, u5⟩ := elem_edits _ _ _ h5
      obtain ⟨v6, l6, e6, s6, t6, u6⟩ := elem_ints _ _ _ h6
      obtain ⟨s7, e7, g7⟩ := elem_string Try.underlying9 _ _ _ h7
      obtain rfl : a = .int .i64 i0 := by simpa using e0
      obtain rfl : b = .int .i64 i1 := by simpa using e1
      obtain rfl : c = .int .i64 i2 := by simpa using e2
      obtain rfl : d = v3 := by simpa using e3
      obtain rfl : e = v4 := by simpa using e4
      obtain rfl : f = v5 := by simpa using e5
      obtain rfl : g = v6 := by simpa using e6
      obtain rfl : i = .string (bs s7) := by simpa using e7
      unfold maxLen at u3 u4 u5 u6
      refine ⟨⟨i0, i1, i2, l3, l4, l5, l6, s7⟩, d, e, f, g, ?_, ⟨s3, s4, s5, s6, by dsimp only; omega, by dsimp only; omega, by dsimp only; omega, by dsimp only; omega⟩, ⟨wf_in g0, wf_in g1, wf_in g2, t3, t4⟩⟩
      congr 1
      apply Array.ext'
      rw [hm]
      rfl
set_option maxRecDepth 100000 in
/-- a row as an argument -/
theorem open_row {w0 : World} {r : Reach} {b0 : Nat} {v : Value} {d : DataW H} {ps : List MemPlace} (hval : Value.okWide Try.prog w0 r b0 23 v) (h : DataW.Trod enc Try.prog w base sp held 23 v d ps) :
    ∃ L : List V, Sl (fun k => k < w.heap.size) w v L.length (L.flatMap V.cells) ∧ (∀ x ∈ L, V.In2 x) ∧ L.length ≤ maxLen :=
  open_sl Try.underlying23 (k := 3) cells_val (by omega) hval h V.cells V.In2 (fun _ => rfl) (fun fuel cs r hc h => elem_val fuel cs r hc h)
set_option maxRecDepth 100000 in
/-- integers as an argument -/
theorem open_ins {w0 : World} {r : Reach} {b0 : Nat} {v : Value} {d : DataW H} {ps : List MemPlace} (hval : Value.okWide Try.prog w0 r b0 25 v) (h : DataW.Trod enc Try.prog w base sp held 25 v d ps) :
    ∃ L : List Int, Sl (fun k => k < w.heap.size) w v L.length (L.flatMap icell) ∧ (∀ x ∈ L, in64 x) ∧ L.length ≤ maxLen :=
  open_sl Try.underlying25 (k := 1) cells_int (by omega) hval h icell in64 (fun _ => rfl) (fun fuel cs r hc h => by obtain ⟨x, h1, h2⟩ := elem_int Try.underlying3 fuel cs r h; exact ⟨x, h1, wf_in h2⟩)
end
theorem AV.slices {P : Nat → Prop} {w : World} {r : R} {vo vn ve vx : Value} (h : AV P w r vo vn ve vx) : ∃ a1 c1 a2 c2 a3 c3 a4 c4, vo = .slice a1 r.old.length c1 ∧ vn = .slice a2 r.new.length c2 ∧ ve = .slice a3 r.edits.length c3 ∧ vx = .slice a4 r.xids.length c4 := by
  obtain ⟨a1, c1, h1, -⟩ := h.o
  obtain ⟨a2, c2, h2, -⟩ := h.n
  obtain ⟨a3, c3, h3, -⟩ := h.e
  obtain ⟨a4, c4, h4, -⟩ := h.x
  exact ⟨a1, c1, a2, c2, a3, c3, a4, c4, h1, h2, h3, h4⟩
theorem AV.fre {P : Nat → Prop} {w w' : World} {r : R} {vo vn ve vx : Value} (h : AV P w r vo vn ve vx) (f : Fr (fun _ => False) w w') : AV P w' r vo vn ve vx :=
  ⟨h.o.fr f (fun _ _ h => h), h.n.fr f (fun _ _ h => h), h.e.fr f (fun _ _ h => h), h.x.fr f (fun _ _ h => h), h.lo, h.ln, h.le, h.lx⟩
theorem few_is {P : Nat → Prop} {w : World} {r : R} {vo vn ve vx : Value} (h : AV P w r vo vn ve vx) : Calls Try.prog 13 #[.agg (rv r vo vn ve vx).toArray] w fun e w' => ∃ (a1 a2 a3 a4 : Option Addr) (c1 c2 c3 c4 : Nat), e = .returned (.agg #[.int .i64 (R.few r).kind, .int .i64 (R.few r).xid, .int .i64 (R.few r).table, .slice a1 (R.few r).old.length c1, .slice a2 (R.few r).new.length c2, .slice a3 (R.few r).edits.length c3, .slice a4 (R.few r).xids.length c4, .string (bs (R.few r).note)]) ∧
      FewS w w' ⟨R.few r, .slice a1 (R.few r).old.length c1, .slice a2 (R.few r).new.length c2, .slice a3 (R.few r).edits.length c3, .slice a4 (R.few r).xids.length c4⟩ (R.few r) := by
  refine (few_go h).mono ?_
  rintro e w' ⟨q, rfl, hq⟩
  obtain ⟨r', vo', vn', ve', vx'⟩ := q
  obtain rfl : r' = R.few r := hq.is
  obtain ⟨a1, c1, h1, -⟩ := hq.o.slice
  obtain ⟨a2, c2, h2, -⟩ := hq.n.slice
  obtain ⟨a3, c3, h3, -⟩ := hq.e.slice
  obtain ⟨a4, c4, h4, -⟩ := hq.x.slice
  (try dsimp only at h1 h2 h3 h4)
  subst h1 h2 h3 h4
  exact ⟨a1, a2, a3, a4, c1, c2, c3, c4, rfl, hq⟩
end Go.Proofs.Ytfhkmiifndhacaa
