import Derived.Test.YtfhkmiifndhacaaDoorMdB
import Derived.Test.YtfhkmiifndhacaaDoorScA
import Derived.Test.YtfhkmiifndhacaaDoorRecF
import Derived.Deep.CutBlock
/- The reference's Made: some valid record. -/
set_option linter.unusedVariables false
namespace Go.Proofs.YtfhkmiifndhacaaDoor
open Go.RowKit Go.VB Go.VB.Oct Go.VB.Rec
abbrev nilM : Value := .slice none 0 0
def xcells (X : Nat → Nat) : List Value := (List.range 12).map fun i => .int .i64 (X i : Int)
theorem xcells_len (X : Nat → Nat) : (xcells X).length = 12 := by simp [xcells]
theorem xcells_at (X : Nat → Nat) {i : Nat} (h : i < 12) : (xcells X)[i]? = some (.int .i64 (X i : Int)) := by simp [xcells, h]
structure MdS (w0 W : World) (X : Nat → Nat) (d : Nat) (r : R) (vo vn ve vx : Value) : Prop where
  res : Blk W w0.heap.size (rv R.zero nilM nilM nilM nilM) 28
  bl : Blk W (w0.heap.size + 1) (xcells X) 3
  rc : Blk W d (rv r vo vn ve vx) 28
  o : Row 50 3 (w0.heap.size + 2) W vo r.old.length (r.old.flatMap V.cells)
  n : Row 50 3 (w0.heap.size + 2) W vn r.new.length (r.new.flatMap V.cells)
  e : Row 48 3 (w0.heap.size + 2) W ve r.edits.length (r.edits.flatMap E.cells)
  x : Row 3 1 (w0.heap.size + 2) W vx r.xids.length (r.xids.flatMap icell)
  fr : Fr (fun _ => False) w0 W
  gd : w0.heap.size + 1 < d
theorem icells_len : ∀ l : List Int, (l.flatMap icell).length = l.length
  | [] => rfl
  | x :: l => by rw [List.flatMap_cons, List.length_append, icells_len l, List.length_cons]; simp [icell]; omega
namespace MdS
variable {w0 W W' wg : World} {X : Nat → Nat} {d : Nat} {r : R} {vo vn ve vx v' : Value}
theorem at_ (h : MdS w0 W X d r vo vn ve vx) {i : Nat} (hi : i < 12) : W.cell? ⟨w0.heap.size + 1, i, none⟩ = some (.int .i64 (X i : Int)) := by rw [h.bl.cell, xcells_at X hi]
theorem size (h : MdS w0 W X d r vo vn ve vx) : w0.heap.size + 2 ≤ W.heap.size := by have := h.rc.lt; have := h.gd; omega
theorem fre (h : MdS w0 W X d r vo vn ve vx) (f : Fr (fun _ => False) W W') : MdS w0 W' X d r vo vn ve vx :=
  ⟨Blk.fr h.res f (fun h => h), Blk.fr h.bl f (fun h => h), Blk.fr h.rc f (fun h => h), h.o.fre f, h.n.fre f, h.e.fre f, h.x.fre f, h.fr.trans f (fun _ h _ => h), h.gd⟩
theorem put (h : MdS w0 W X d r vo vn ve vx) (i : Nat) (u : Value) (r' : R) (vo' vn' ve' vx' : Value) (hs : (rv r vo vn ve vx).set i u = rv r' vo' vn' ve' vx')
    (o : Row 50 3 (w0.heap.size + 2) W vo' r'.old.length (r'.old.flatMap V.cells)) (n : Row 50 3 (w0.heap.size + 2) W vn' r'.new.length (r'.new.flatMap V.cells)) (e : Row 48 3 (w0.heap.size + 2) W ve' r'.edits.length (r'.edits.flatMap E.cells)) (x : Row 3 1 (w0.heap.size + 2) W vx' r'.xids.length (r'.xids.flatMap icell)) :
    MdS w0 (W.setCell ⟨d, i, none⟩ u) X d r' vo' vn' ve' vx' := by
  have f := (Fr.refl (fun k => k = d) W).setCell ⟨d, i, none⟩ u (fun _ => rfl)
  have hq := h.rc.set i u
  rw [hs] at hq
  have := h.gd
  exact ⟨h.res.fr f (fun e => by omega), h.bl.fr f (fun e => by omega), hq, o.fr f (fun k hk => o.ne h.rc (by decide) k hk), n.fr f (fun k hk => n.ne h.rc (by decide) k hk), e.fr f (fun k hk => e.ne h.rc (by decide) k hk), x.fr f (fun k hk => x.ne h.rc (by decide) k hk), h.fr.trans f (fun k hk hl => by omega), h.gd⟩
theorem growE (h : MdS w0 W X d r vo vn ve vx) {x : E} (hg : App 48 3 (w0.heap.size + 2) W wg ve v' r.edits.length (r.edits.flatMap E.cells) x.cells) :
    MdS w0 (wg.setCell ⟨d, 5, none⟩ v') X d { r with edits := r.edits ++ [x] } vo vn v' vx := by
  have hne : ∀ {d l t}, Blk W d l t → t ≠ 48 → ¬ (ve.ownBlock = some d) := fun b ht hk => h.e.ne b ht _ hk rfl
  have rc' := h.rc.fr hg.fr (hne h.rc (by decide))
  have fs := (Fr.refl (fun k => k = d) wg).setCell ⟨d, 5, none⟩ v' (fun _ => rfl)
  have o' := h.o.fr hg.fr (fun k hk => row_apart h.o h.e (by decide) k hk)
  have n' := h.n.fr hg.fr (fun k hk => row_apart h.n h.e (by decide) k hk)
  have x' := h.x.fr hg.fr (fun k hk => row_apart h.x h.e (by decide) k hk)
  have e' : Row 48 3 (w0.heap.size + 2) wg v' (r.edits ++ [x]).length ((r.edits ++ [x]).flatMap E.cells) := hg.row.cast (by simp) (by simp)
  have := h.gd
  exact ⟨(h.res.fr hg.fr (hne h.res (by decide))).fr fs (fun e => by omega), (h.bl.fr hg.fr (hne h.bl (by decide))).fr fs (fun e => by omega), rc'.set 5 v',
    o'.fr fs (fun k hk => o'.ne rc' (by decide) k hk), n'.fr fs (fun k hk => n'.ne rc' (by decide) k hk), e'.fr fs (fun k hk => e'.ne rc' (by decide) k hk), x'.fr fs (fun k hk => x'.ne rc' (by decide) k hk),
    (h.fr.trans hg.fr (fun k hk hl => by have := h.e.new k hk; omega)).trans fs (fun k hk hl => by omega), h.gd⟩
theorem growX (h : MdS w0 W X d r vo vn ve vx) {x : Int} (hg : App 3 1 (w0.heap.size + 2) W wg vx v' r.xids.length (r.xids.flatMap icell) (icell x)) :
    MdS w0 (wg.setCell ⟨d, 6, none⟩ v') X d { r with xids := r.xids ++ [x] } vo vn ve v' := by
  have hne : ∀ {d l t}, Blk W d l t → t ≠ 3 → ¬ (vx.ownBlock = some d) := fun b ht hk => h.x.ne b ht _ hk rfl
  have rc' := h.rc.fr hg.fr (hne h.rc (by decide))
  have fs := (Fr.refl (fun k => k = d) wg).setCell ⟨d, 6, none⟩ v' (fun _ => rfl)
  have o' := h.o.fr hg.fr (fun k hk => row_apart h.o h.x (by decide) k hk)
  have n' := h.n.fr hg.fr (fun k hk => row_apart h.n h.x (by decide) k hk)
  have e' := h.e.fr hg.fr (fun k hk => row_apart h.e h.x (by decide) k hk)
  have x' : Row 3 1 (w0.heap.size + 2) wg v' (r.xids ++ [x]).length ((r.xids ++ [x]).flatMap icell) := hg.row.cast (by simp) (by simp)
  have := h.gd
  exact ⟨(h.res.fr hg.fr (hne h.res (by decide))).fr fs (fun e => by omega), (h.bl.fr hg.fr (fun hk => by have := h.x.new _ hk; omega)).fr fs (fun e => by omega), rc'.set 6 v',
    o'.fr fs (fun k hk => o'.ne rc' (by decide) k hk), n'.fr fs (fun k hk => n'.ne rc' (by decide) k hk), e'.fr fs (fun k hk => e'.ne rc' (by decide) k hk), x'.fr fs (fun k hk => x'.ne rc' (by decide) k hk),
    (h.fr.trans hg.fr (fun k hk hl => by have := h.x.new k hk; omega)).trans fs (fun k hk hl => by omega), h.gd⟩
theorem atE (h : MdS w0 W X d r vo vn ve vx) {n : Nat} {xs news : List Value} (hg : App 48 3 (w0.heap.size + 2) W wg ve v' n xs news) : Blk wg d (rv r vo vn ve vx) 28 := h.rc.fr hg.fr (fun hk => h.e.ne h.rc (by decide) _ hk rfl)
theorem atX (h : MdS w0 W X d r vo vn ve vx) {n : Nat} {xs news : List Value} (hg : App 3 1 (w0.heap.size + 2) W wg vx v' n xs news) : Blk wg d (rv r vo vn ve vx) 28 ∧ Blk wg (w0.heap.size + 1) (xcells X) 3 := ⟨h.rc.fr hg.fr (fun hk => h.x.ne h.rc (by decide) _ hk rfl), h.bl.fr hg.fr (fun hk => by have := h.x.new _ hk; omega)⟩
theorem tail (h : MdS w0 W X d r vo vn ve vx) (k : Nat) (hk : k ≤ 12) : Sl (fun b => b = w0.heap.size + 1) W (.slice (some ⟨w0.heap.size + 1, k, none⟩) ((12 - k : Nat)) ((12 - k : Nat))) ((List.range (12 - k)).map fun i => (X (k + i) : Int)).length (((List.range (12 - k)).map fun i => (X (k + i) : Int)).flatMap icell) := by
  refine ⟨_, 12 - k, by simp, by simp, fun _ => ⟨_, k, rfl, rfl, ?_⟩⟩
  intro j u hu
  have hj : j < 12 - k := by
    have := (List.getElem?_eq_some_iff.1 hu).1
    have e : (((List.range (12 - k)).map fun i => (X (k + i) : Int)).flatMap icell).length = 12 - k := by rw [icells_len]; simp
    omega
  have h2 := flat1 icell (fun _ => rfl) ((List.range (12 - k)).map fun i => (X (k + i) : Int)) j (by simpa using hj)
  rw [h2] at hu
  simp [icell] at hu
  rw [h.at_ (by omega), ← hu]
end MdS
theorem modf (x : Nat) (n : Int) (hn : 0 < n) : ∃ k : Nat, (x : Int).tmod n = k ∧ (x : Int) % n = k ∧ (k : Int) < n :=
  ⟨((x : Int) % n).toNat, by rw [Int.tmod_eq_emod_of_nonneg (by omega), Int.toNat_of_nonneg (Int.emod_nonneg _ (by omega))], by rw [Int.toNat_of_nonneg (Int.emod_nonneg _ (by omega))], by rw [Int.toNat_of_nonneg (Int.emod_nonneg _ (by omega))]; exact Int.emod_lt_of_pos _ hn⟩
theorem MdS.start {w0 W : World} {X : Nat → Nat} (hb : Blk W w0.heap.size (rv R.zero nilM nilM nilM nilM) 28) (hl : Blk W (w0.heap.size + 1) (xcells X) 3) (fr : Fr (fun _ => False) w0 W) (k x t : Int) :
    MdS w0 ((W.alloc (.cells #[.int .i64 0, .int .i64 0, .int .i64 0, .slice none 0 0, .slice none 0 0, .slice none 0 0, .slice none 0 0, .string ⟨#[]⟩] 28)).setCells W.heap.size 0 (rv ⟨k, x, t, [], [], [], [], []⟩ nilM nilM nilM nilM)) X W.heap.size ⟨k, x, t, [], [], [], [], []⟩ nilM nilM nilM nilM := by
  have b0 := Blk.new W (rv R.zero nilM nilM nilM nilM) 28
  have b1 := b0.put 0 (rv ⟨k, x, t, [], [], [], [], []⟩ nilM nilM nilM nilM) (by simp [rv])
  have f := ((Fr.refl (fun _ => False) W).alloc (.cells (rv R.zero nilM nilM nilM nilM).toArray 28)).put W.heap.size 0 (rv ⟨k, x, t, [], [], [], [], []⟩ nilM nilM nilM nilM) (fun h => absurd h (by omega))
  exact ⟨Blk.fr hb f (fun h => h), Blk.fr hl f (fun h => h), b1, Row.nil, Row.nil, Row.nil, Row.nil, fr.trans f (fun _ h _ => h), by have := hl.lt; omega⟩
theorem MdS.far {w0 W W' : World} {X : Nat → Nat} {d dd : Nat} {r : R} {vo vn ve vx : Value} {l : List Value} (h : MdS w0 W X d r vo vn ve vx) (b : Blk W dd l 48) (h1 : w0.heap.size + 2 ≤ dd) (h2 : d < dd) (h3 : ∀ k, ve.ownBlock = some k → k < dd) (f : Fr (fun k => k = dd) W W') : MdS w0 W' X d r vo vn ve vx :=
  ⟨h.res.fr f (fun e => by omega), h.bl.fr f (fun e => by omega), h.rc.fr f (fun e => by omega), h.o.fr f (fun k hk => h.o.ne b (by decide) k hk), h.n.fr f (fun k hk => h.n.ne b (by decide) k hk), h.e.fr f (fun k hk e => by have := h3 k hk; omega), h.x.fr f (fun k hk => h.x.ne b (by decide) k hk), h.fr.trans f (fun k hk hl => by omega), h.gd⟩
theorem MdS.edit {w0 W : World} {X : Nat → Nat} {d : Nat} {r : R} {vo vn ve vx : Value} (h : MdS w0 W X d r vo vn ve vx) (x : E) :
    MdS w0 ((W.alloc (.cells #[.int .i64 0, .int .i64 0, .string ⟨#[]⟩] 48)).setCells W.heap.size 0 x.cells) X d r vo vn ve vx ∧ Blk ((W.alloc (.cells #[.int .i64 0, .int .i64 0, .string ⟨#[]⟩] 48)).setCells W.heap.size 0 x.cells) W.heap.size x.cells 48 := by
  have f := ((Fr.refl (fun _ => False) W).alloc (.cells #[.int .i64 0, .int .i64 0, .string ⟨#[]⟩] 48)).put W.heap.size 0 x.cells (fun h => absurd h (by omega))
  have b := (Blk.new W [.int .i64 0, .int .i64 0, .string ⟨#[]⟩] 48).put 0 x.cells (by simp [E.cells])
  exact ⟨h.fre f, b⟩
theorem MdS.fin {w0 W : World} {X : Nat → Nat} {d : Nat} {r : R} {vo vn ve vx : Value} (h : MdS w0 W X d r vo vn ve vx) (lo : r.old.length ≤ 100) (ln : r.new.length ≤ 100) (le : r.edits.length ≤ 100) (lx : r.xids.length ≤ 100) :
    Blk (W.setCells w0.heap.size 0 (rv r vo vn ve vx)) w0.heap.size (rv r vo vn ve vx) 28 ∧ Q.RV (fun k => w0.heap.size ≤ k ∧ k < (W.setCells w0.heap.size 0 (rv r vo vn ve vx)).heap.size) (W.setCells w0.heap.size 0 (rv r vo vn ve vx)) ⟨r, vo, vn, ve, vx⟩ ∧ Fr (fun _ => False) w0 (W.setCells w0.heap.size 0 (rv r vo vn ve vx)) := by
  have f := (Fr.refl (fun k => k = w0.heap.size) W).put w0.heap.size 0 (rv r vo vn ve vx) (fun _ => rfl)
  have b := h.res.put 0 (rv r vo vn ve vx) (by simp [rv])
  have o' := h.o.fr f (fun k hk e => by have := h.o.new k hk; omega)
  have n' := h.n.fr f (fun k hk e => by have := h.n.new k hk; omega)
  have e' := h.e.fr f (fun k hk e => by have := h.e.new k hk; omega)
  have x' := h.x.fr f (fun k hk e => by have := h.x.new k hk; omega)
  refine ⟨b, ⟨own_sl o'.own (fun k hk => ⟨?_, o'.lt hk⟩), own_sl n'.own (fun k hk => ⟨?_, n'.lt hk⟩), own_sl e'.own (fun k hk => ⟨?_, e'.lt hk⟩), own_sl x'.own (fun k hk => ⟨?_, x'.lt hk⟩), by dsimp only; omega, by dsimp only; omega, by dsimp only; omega, by dsimp only; omega, fun _ h => h.2⟩, h.fr.trans f (fun k hk hl => by omega)⟩
  · have := o'.new k hk; omega
  · have := n'.new k hk; omega
  · have := e'.new k hk; omega
  · have := x'.new k hk; omega
theorem fine_row {l : List V} (h : Fine l) (hl : l.length ≤ 3) : row l = true := by
  unfold row
  simp only [Bool.and_eq_true, decide_eq_true_eq, List.all_eq_true]
  exact ⟨by omega, fun v hv => (h v hv).1⟩
theorem idx (j : Nat) (k : Int) (hk : 0 ≤ k) (h : k + j < 12) : ∃ y : Nat, k + (j : Int) = y ∧ IntKind.i64.wrap (y : Int) = y ∧ (y : Int) < 12 := ⟨(k + j).toNat, by omega, by rw [IntKind.wrap_i64]; omega, by omega⟩
set_option maxRecDepth 20000 in
set_option maxHeartbeats 20000000 in
theorem Made_go {P : Nat → Prop} {w0 : World} {va : Value} {L : List Int} (h : Sl P w0 va L.length (L.flatMap icell)) (hl : L.length ≤ 9223372036854775807) :
    Calls Tryd.prog 5 #[va] w0 fun e w' => ∃ (q : Q), e = .returned (.agg q.cells.toArray) ∧ q.RV (fun k => w0.heap.size ≤ k ∧ k < w'.heap.size) w' ∧ q.r.right = true ∧ Fine q.r.old ∧ Fine q.r.new ∧ Fr (fun _ => False) w0 w' := by
  obtain ⟨a, c, rfl, hc, hx⟩ := h
  have HX := hid (show Sl P w0 (.slice a L.length c) L.length (L.flatMap icell) from ⟨a, c, rfl, hc, hx⟩)
  clear hx
  obtain ⟨Z, HZ, hk⟩ : ∃ Z, Hid (xcells (fun _ => 0) = Z) ∧ ∀ W : World, (Instr.makeSlice 24 (.int .i64 12) (.int .i64 12)).run Tryd.prog W = .ok (.slice (some ⟨W.heap.size, 0, none⟩) 12 12) (W.alloc (.cells Z.toArray 3)) :=
    ⟨_, hid rfl, fun W => run_make_rows W (t := 24) (z := [.int .i64 0]) Tryd.underlying24 info_int rfl rfl 12 (by omega) (by omega) (by omega)⟩
  have B0 := hid (Blk.new w0 (rv R.zero nilM nilM nilM nilM) 28)
  have F0 := hid ((Fr.refl (fun _ => False) w0).alloc (.cells (rv R.zero nilM nilM nilM nilM).toArray 28))
  have B1 := hid (B0.out.alloc (.cells Z.toArray 3))
  have F1 := hid (F0.out.alloc (.cells Z.toArray 3))
  have L1 : Hid (Blk ((w0.alloc (.cells (rv R.zero nilM nilM nilM nilM).toArray 28)).alloc (.cells Z.toArray 3)) (w0.heap.size + 1) (xcells (fun _ => 0)) 3) := by
    have := Blk.new (w0.alloc (.cells (rv R.zero nilM nilM nilM nilM).toArray 28)) Z 3
    rw [World.size_alloc] at this
    rw [HZ.out]
    exact hid this
  go_enter Tryd.func5, Tryd.ntmps5
  go_upto_block 0 with fail
  go_cut [4] (fun v4 wx => ∃ (X : Nat → Nat), (∀ i, X i < 65536) ∧ Blk wx w0.heap.size (rv R.zero nilM nilM nilM nilM) 28 ∧ Blk wx (w0.heap.size + 1) (xcells X) 3 ∧ Fr (fun _ => False) w0 wx)
  case first =>
    go_wp2_with (fail)
    go_loopw [4] (fun i wr => ∃ (j : Nat) (X : Nat → Nat), j ≤ 12 ∧ i = .int .i64 j ∧ (∀ i, X i < 65536) ∧ Blk wr w0.heap.size (rv R.zero nilM nilM nilM nilM) 28 ∧ Blk wr (w0.heap.size + 1) (xcells X) 3 ∧ Fr (fun _ => False) w0 wr) (fun i _ => 12 - (intOf i).toNat)
    case atStart => exact ⟨0, fun _ => 0, by omega, rfl, fun _ => by dsimp only; omega, B1.out, L1.out, F1.out⟩
    case round =>
      obtain ⟨j, X, hj, rfl, hX, hb, hbl, fr⟩ := hrel
      have HB := hid hb
      have HL := hid hbl
      have FR := hid fr
      have HXX := hid hX
      clear hb hbl fr hX B0 F0 B1 F1 L1 HZ hk
      have i1 : (0 : Int) ≤ (j : Int) := by omega
      by_cases hc12 : j < 12 ∧ j < L.length
      · obtain ⟨h12, hjL⟩ := hc12
        obtain ⟨g, o, rfl, hg, hcell⟩ := sl_cell1 (f := icell) (fun _ => rfl) (HX.out.fr FR.out (fun _ _ h => h)) (fun hn => by rw [hn] at hjL; simp at hjL)
        have hcj : wr.cell? ⟨g, o + j, none⟩ = some (.int .i64 L[j]) := hcell j hjL
        obtain ⟨x, hx, hx2, -⟩ := and_16 L[j]
        have i2 : (j : Int) < L.length := by omega
        have i3 : (j : Int) < 12 := by omega
        have cj : wr.cell? ⟨w0.heap.size + 1, j, none⟩ = some (.int .i64 (X j : Int)) := by rw [HL.out.cell, xcells_at X h12]
        have zj := HL.out.frozen j
        clear hcell
        go_wp2_with (fail)
        go_roundw
        case rel =>
          have fs := FR.out.setCell ⟨w0.heap.size + 1, j, none⟩ (.int .i64 (x : Int)) (fun hlt => by have : w0.heap.size + 1 < w0.heap.size := hlt; omega)
          refine ⟨j + 1, fun i => if i = j then x else X i, by omega, by simp, fun i => by dsimp only; split; exact hx2; exact HXX.out i, HB.out.set_ne _ _ (fun e => by simp at e), ?_, fs⟩
          have hs := HL.out.set j (.int .i64 (x : Int))
          have e : (xcells X).set j (.int .i64 (x : Int)) = xcells (fun i => if i = j then x else X i) := by
            apply List.ext_getElem?
            intro i
            rw [List.getElem?_set]
            by_cases hij : j = i
            · subst hij
              rw [if_pos rfl, if_pos (by rw [xcells_len]; exact h12), xcells_at _ h12, if_pos rfl]
            · rw [if_neg hij]
              by_cases h : i < 12
              · rw [xcells_at _ h, xcells_at _ h, if_neg (fun e => hij e.symm)]
              · rw [List.getElem?_eq_none (by rw [xcells_len]; omega), List.getElem?_eq_none (by rw [xcells_len]; omega)]
          rw [← e]
          exact hs
        case measure => simp [intOf]; omega
      · have hor : (12 : Int) ≤ (j : Int) ∨ (L.length : Int) ≤ (j : Int) := by omega
        rcases hor with h12 | h12
        all_goals
          go_wp2_with (fail)
          all_goals (go_meet; exact ⟨X, HXX.out, HB.out, HL.out, FR.out⟩)
  case rest =>
  obtain ⟨X, hX, hb, hbl, fr⟩ := hcut
  have HXX := hid hX
  have HB := hid hb
  have HL := hid hbl
  have FR := hid fr
  clear hX hb hbl fr B0 F0 B1 F1 L1 HZ hk HX
  go_upto_region 6 with fail
  obtain ⟨k0, a0, b0, h0⟩ := modf (X 0) 10 (by omega)
  obtain ⟨k1, a1, b1, h1⟩ := modf (X 1) 128 (by omega)
  obtain ⟨k2, a2, b2, h2⟩ := modf (X 2) 9 (by omega)
  have HM0 := hid (MdS.start (k := 1 + (k0 : Int)) (x := k1) (t := k2) (HB.out.drew) (HL.out.drew) FR.out.drew)
  have l0 : ∀ o, (wc.drew.alloc o).cell? ⟨w0.heap.size + 1, 0, none⟩ = some (.int .i64 (X 0 : Int)) ∧ (wc.drew.alloc o).cell? ⟨w0.heap.size + 1, 1, none⟩ = some (.int .i64 (X 1 : Int)) ∧ (wc.drew.alloc o).cell? ⟨w0.heap.size + 1, 2, none⟩ = some (.int .i64 (X 2 : Int)) := fun o => by
    have b := (HL.out.drew).alloc o
    exact ⟨by rw [b.cell, xcells_at X (by omega)], by rw [b.cell, xcells_at X (by omega)], by rw [b.cell, xcells_at X (by omega)]⟩
  have HLA := hid l0
  clear l0
  go_cut [5] (fun v5 wx => ∃ d, v5 = .pointer (some ⟨d, 0, none⟩) ∧ MdS w0 wx X d ⟨1 + (k0 : Int), k1, k2, [], [], [], [], []⟩ nilM nilM nilM nilM)
  case first =>
    refine wp_region_scr (.take 0 (.take 1 (.take 2 (.take 3 (.take 4 (.take 5 (.take 6 (.take 7 (.take 8 (.take 9 (.take 10 (.take 11 (.take 12 (.two 13 14 (.op 14 (.op 15 .done)) (.op 13 (.op 15 .done)))))))))))))))) (fun kz w => (kz ≤ 15 → w.cell? ⟨w0.heap.size + 1, 0, none⟩ = some (.int .i64 (X 0 : Int)) ∧ w.cell? ⟨w0.heap.size + 1, 1, none⟩ = some (.int .i64 (X 1 : Int)) ∧ w.cell? ⟨w0.heap.size + 1, 2, none⟩ = some (.int .i64 (X 2 : Int))) ∧ True) (by kernel_rfl) (by kernel_rfl) (by intro c a d v w h; cases d <;> exact h) ?_
    repeat
      first
      | (refine wpT_pure rfl rfl rfl ?_; apply Exists.intro; refine ⟨?_, ?_⟩; intro w; (first | ((obtain ⟨q1, q2, q3⟩ := qa; go_simp <;> rfl)) | (go_simp <;> rfl)); simp only [Act.put, List.setIfInBounds_toArray, List.set_cons_zero, List.set_cons_succ])
      | (refine wpT_take 15 rfl rfl (by decide +kernel) ⟨fun _ => ⟨by rw [HL.out.drew.cell, xcells_at X (by omega)], by rw [HL.out.drew.cell, xcells_at X (by omega)], by rw [HL.out.drew.cell, xcells_at X (by omega)]⟩, trivial⟩ ?_; apply Exists.intro; refine ⟨?_, ?_⟩; intro w hw; (have qa := hw.1 (Nat.le_refl _); have qb := hw.2); (first | ((obtain ⟨q1, q2, q3⟩ := qa; go_simp <;> rfl)) | (go_simp <;> rfl)); simp only [Act.put, List.setIfInBounds_toArray, List.set_cons_zero, List.set_cons_succ])
      | (refine wpT_skip rfl rfl ?_; simp only [Act.put, List.setIfInBounds_toArray, List.set_cons_zero, List.set_cons_succ])
    refine wpT_two ?_ ?_
    focus
          refine wpT_op rfl ?_
          go_wp2_with (fail)
          (refine ⟨?_, ?_⟩; focus (intro kz hk hk2 hh; first | (exfalso; simp at hk2; omega) | exact hh | exact (fun h => absurd h (by omega)) | obtain ⟨qa, qb⟩ := hh; first | exact ⟨qa, qb⟩ | (refine ⟨fun h => absurd h (by omega), ?_⟩; first | exact qb | (exact qa)) | (refine ⟨fun h => ?_, ?_⟩; (have qa := qa h); all_goals (first | exact qa | exact qb | (exact qa)))))
          refine wpT_op rfl ?_
          go_wp2_with (fail)
          (refine ⟨?_, ?_⟩; focus (intro kz hk hk2 hh; first | (exfalso; simp at hk2; omega) | exact hh | exact (fun h => absurd h (by omega)) | obtain ⟨qa, qb⟩ := hh; first | exact ⟨qa, qb⟩ | (refine ⟨fun h => absurd h (by omega), ?_⟩; first | exact qb | (exact HLA.out _)) | (refine ⟨fun h => ?_, ?_⟩; (have qa := qa h); all_goals (first | exact qa | exact qb | (exact HLA.out _)))))
          have hth : (((wc.drew).alloc (.cells #[.int .i64 0, .int .i64 0, .int .i64 0, .slice none 0 0, .slice none 0 0, .slice none 0 0, .slice none 0 0, .string ⟨#[]⟩] 28))).there wc.heap.size 0 8 := (Blk.new wc.drew (rv R.zero nilM nilM nilM nilM) 28).there 0 8 (by simp [rv])
          refine wpT_op rfl ?_
          refine wpList_store_mid rfl 28 (.tmp 5) (.tmp 41) rfl _ 0 (rv ⟨1 + (k0 : Int), k1, k2, [], [], [], [], []⟩ nilM nilM nilM nilM).toArray rfl rfl hth size_Rec (by simp [Value.oneCell', rv]) ?_
          rw [List.toList_toArray]
          go_wp2_with (fail)
          refine ⟨fun kz hk hk2 hh => ⟨fun _ => ⟨HM0.out.at_ (i := 0) (by omega), HM0.out.at_ (i := 1) (by omega), HM0.out.at_ (i := 2) (by omega)⟩, trivial⟩, ?_⟩
          clear hth
          refine wpT_nil ?_
          go_wp2_with (fail)
          go_meet
          exact ⟨_, rfl, HM0.out⟩
    focus
          refine wpT_op rfl ?_
          go_wp2_with (fail)
          (refine ⟨?_, ?_⟩; focus (intro kz hk hk2 hh; first | (exfalso; simp at hk2; omega) | exact hh | exact (fun h => absurd h (by omega)) | obtain ⟨qa, qb⟩ := hh; first | exact ⟨qa, qb⟩ | (refine ⟨fun h => absurd h (by omega), ?_⟩; first | exact qb | (exact HLA.out _)) | (refine ⟨fun h => ?_, ?_⟩; (have qa := qa h); all_goals (first | exact qa | exact qb | (exact HLA.out _)))))
          refine wpT_op rfl ?_
          go_wp2_with (fail)
          (refine ⟨?_, ?_⟩; focus (intro kz hk hk2 hh; first | (exfalso; simp at hk2; omega) | exact hh | exact (fun h => absurd h (by omega)) | obtain ⟨qa, qb⟩ := hh; first | exact ⟨qa, qb⟩ | (refine ⟨fun h => absurd h (by omega), ?_⟩; first | exact qb | (exact qa)) | (refine ⟨fun h => ?_, ?_⟩; (have qa := qa h); all_goals (first | exact qa | exact qb | (exact qa)))))
          have hth : (((wc.drew).alloc (.cells #[.int .i64 0, .int .i64 0, .int .i64 0, .slice none 0 0, .slice none 0 0, .slice none 0 0, .slice none 0 0, .string ⟨#[]⟩] 28))).there wc.heap.size 0 8 := (Blk.new wc.drew (rv R.zero nilM nilM nilM nilM) 28).there 0 8 (by simp [rv])
          refine wpT_op rfl ?_
          refine wpList_store_mid rfl 28 (.tmp 5) (.tmp 41) rfl _ 0 (rv ⟨1 + (k0 : Int), k1, k2, [], [], [], [], []⟩ nilM nilM nilM nilM).toArray rfl rfl hth size_Rec (by simp [Value.oneCell', rv]) ?_
          rw [List.toList_toArray]
          go_wp2_with (fail)
          refine ⟨fun kz hk hk2 hh => ⟨fun _ => ⟨HM0.out.at_ (i := 0) (by omega), HM0.out.at_ (i := 1) (by omega), HM0.out.at_ (i := 2) (by omega)⟩, trivial⟩, ?_⟩
          clear hth
          refine wpT_nil ?_
          go_wp2_with (fail)
          go_meet
          exact ⟨_, rfl, HM0.out⟩
  case rest =>
  obtain ⟨d, rfl, hS⟩ := hcut
  have HS := hid (hS.fre ((Fr.refl (fun _ => False) wc).drew))
  clear hS HM0 HLA HB HL FR a0 b0 a1 b1 a2 b2
  obtain ⟨k3, a3, b3, h3⟩ := modf (X 3) 4 (by omega)
  go_upto_region 7 with fail
  refine wp_region_scr (.take 0 (.take 1 (.take 2 (.take 3 (.take 4 (.take 5 (.op 6 (.take 7 (.op 8 .done))))))))) (fun kz w => (kz ≤ 8 → w.cell? ⟨w0.heap.size + 1, 3, none⟩ = some (.int .i64 (X 3 : Int))) ∧ True) (by kernel_rfl) (by kernel_rfl) (by intro c a d v w h; cases d <;> exact h) ?_
  repeat
    first
    | (refine wpT_pure rfl rfl rfl ?_; apply Exists.intro; refine ⟨?_, ?_⟩; intro w; ((go_simp <;> rfl)); simp only [Act.put, List.setIfInBounds_toArray, List.set_cons_zero, List.set_cons_succ])
    | (refine wpT_take 8 rfl rfl (by decide +kernel) ⟨fun _ => HS.out.at_ (by omega), trivial⟩ ?_; apply Exists.intro; refine ⟨?_, ?_⟩; intro w hw; (have qa := hw.1 (Nat.le_refl _); have qb := hw.2); ((go_simp <;> rfl)); simp only [Act.put, List.setIfInBounds_toArray, List.set_cons_zero, List.set_cons_succ])
    | (refine wpT_skip rfl rfl ?_; simp only [Act.put, List.setIfInBounds_toArray, List.set_cons_zero, List.set_cons_succ])
  refine wpT_op rfl ?_
  go_wp2_with ((go_at_call 18; refine (rMade_go (HS.out.tail 4 (by omega)) (fun k hk => by have := HS.out.bl.lt; have : k = _ := hk; omega) (by simp) k3 (by omega)).mono ?_; rintro e w8 ⟨vo, lo, rfl, hrow, hfine, hlen, f⟩; have H8 := hid (HS.out.fre f); have RO := hid (hrow.low HS.out.size); have FO := hid (show Fine lo ∧ lo.length ≤ 3 from ⟨hfine, hlen⟩); clear hrow hfine hlen f HS; obtain ⟨ao, co, rfl, _⟩ := RO.out.slice))
  (refine ⟨?_, ?_⟩; focus (intro kz hk hk2 hh; first | (exfalso; simp at hk2; omega) | exact hh | exact (fun h => absurd h (by omega)) | obtain ⟨qa, qb⟩ := hh; first | exact ⟨qa, qb⟩ | (refine ⟨fun h => absurd h (by omega), ?_⟩; first | exact qb | (exact H8.out.at_ (by omega))) | (refine ⟨fun h => ?_, ?_⟩; (have qa := qa h); all_goals (first | exact qa | exact qb | (exact H8.out.at_ (by omega))))))
  repeat
    first
    | (refine wpT_pure rfl rfl rfl ?_; apply Exists.intro; refine ⟨?_, ?_⟩; intro w; ((go_simp <;> rfl)); simp only [Act.put, List.setIfInBounds_toArray, List.set_cons_zero, List.set_cons_succ])
    | (refine wpT_take 8 rfl rfl (by decide +kernel) ⟨fun _ => H8.out.at_ (by omega), trivial⟩ ?_; apply Exists.intro; refine ⟨?_, ?_⟩; intro w hw; (have qa := hw.1 (Nat.le_refl _); have qb := hw.2); ((go_simp <;> rfl)); simp only [Act.put, List.setIfInBounds_toArray, List.set_cons_zero, List.set_cons_succ])
    | (refine wpT_skip rfl rfl ?_; simp only [Act.put, List.setIfInBounds_toArray, List.set_cons_zero, List.set_cons_succ])
  have c3 : w8.cell? ⟨d, 3, none⟩ = some (.slice none 0 0) := H8.out.rc.cell 3
  have z3 := H8.out.rc.frozen 3
  have H9 := hid (H8.out.put 3 _ ⟨1 + (k0 : Int), k1, k2, lo, [], [], [], []⟩ _ _ _ _ rfl RO.out H8.out.n H8.out.e H8.out.x)
  refine wpT_op rfl ?_
  go_wp2_with (fail)
  refine ⟨fun kz hk hk2 hh => ⟨fun _ => H9.out.at_ (by omega), trivial⟩, ?_⟩
  refine wpT_nil ?_
  clear c3 z3 H8 RO
  obtain ⟨k4, a4, b4, h4⟩ := modf (X 4) 4 (by omega)
  go_upto_region 8 with fail
  generalize w8.setCell _ _ = w8 at *
  replace H9 := hid (H9.out.fre ((Fr.refl (fun _ => False) w8).drew))
  refine wp_region_scr (.take 0 (.take 1 (.take 2 (.take 3 (.take 4 (.take 5 (.op 6 (.take 7 (.op 8 .done))))))))) (fun kz w => (kz ≤ 8 → w.cell? ⟨w0.heap.size + 1, 4, none⟩ = some (.int .i64 (X 4 : Int))) ∧ True) (by kernel_rfl) (by kernel_rfl) (by intro c a d v w h; cases d <;> exact h) ?_
  repeat
    first
    | (refine wpT_pure rfl rfl rfl ?_; apply Exists.intro; refine ⟨?_, ?_⟩; intro w; ((go_simp <;> rfl)); simp only [Act.put, List.setIfInBounds_toArray, List.set_cons_zero, List.set_cons_succ])
    | (refine wpT_take 8 rfl rfl (by decide +kernel) ⟨fun _ => H9.out.at_ (by omega), trivial⟩ ?_; apply Exists.intro; refine ⟨?_, ?_⟩; intro w hw; (have qa := hw.1 (Nat.le_refl _); have qb := hw.2); ((go_simp <;> rfl)); simp only [Act.put, List.setIfInBounds_toArray, List.set_cons_zero, List.set_cons_succ])
    | (refine wpT_skip rfl rfl ?_; simp only [Act.put, List.setIfInBounds_toArray, List.set_cons_zero, List.set_cons_succ])
  refine wpT_op rfl ?_
  go_wp2_with ((go_at_call 18; refine (rMade_go (H9.out.tail 5 (by omega)) (fun k hk => by have := H9.out.bl.lt; have : k = _ := hk; omega) (by simp) k4 (by omega)).mono ?_; rintro e wA ⟨vn, ln, rfl, hrow, hfine, hlen, f⟩; have HA := hid (H9.out.fre f); have RN := hid (hrow.low H9.out.size); have FN := hid (show Fine ln ∧ ln.length ≤ 3 from ⟨hfine, hlen⟩); clear hrow hfine hlen f H9; obtain ⟨an, cn, rfl, _⟩ := RN.out.slice))
  (refine ⟨?_, ?_⟩; focus (intro kz hk hk2 hh; first | (exfalso; simp at hk2; omega) | exact hh | exact (fun h => absurd h (by omega)) | obtain ⟨qa, qb⟩ := hh; first | exact ⟨qa, qb⟩ | (refine ⟨fun h => absurd h (by omega), ?_⟩; first | exact qb | (exact HA.out.at_ (by omega))) | (refine ⟨fun h => ?_, ?_⟩; (have qa := qa h); all_goals (first | exact qa | exact qb | (exact HA.out.at_ (by omega))))))
  repeat
    first
    | (refine wpT_pure rfl rfl rfl ?_; apply Exists.intro; refine ⟨?_, ?_⟩; intro w; ((go_simp <;> rfl)); simp only [Act.put, List.setIfInBounds_toArray, List.set_cons_zero, List.set_cons_succ])
    | (refine wpT_take 8 rfl rfl (by decide +kernel) ⟨fun _ => HA.out.at_ (by omega), trivial⟩ ?_; apply Exists.intro; refine ⟨?_, ?_⟩; intro w hw; (have qa := hw.1 (Nat.le_refl _); have qb := hw.2); ((go_simp <;> rfl)); simp only [Act.put, List.setIfInBounds_toArray, List.set_cons_zero, List.set_cons_succ])
    | (refine wpT_skip rfl rfl ?_; simp only [Act.put, List.setIfInBounds_toArray, List.set_cons_zero, List.set_cons_succ])
  have c3 : wA.cell? ⟨d, 4, none⟩ = some (.slice none 0 0) := HA.out.rc.cell 4
  have z3 := HA.out.rc.frozen 4
  have HB := hid (HA.out.put 4 _ ⟨1 + (k0 : Int), k1, k2, lo, ln, [], [], []⟩ _ _ _ _ rfl HA.out.o RN.out HA.out.e HA.out.x)
  refine wpT_op rfl ?_
  go_wp2_with (fail)
  refine ⟨fun kz hk hk2 hh => ⟨fun _ => HB.out.at_ (by omega), trivial⟩, ?_⟩
  refine wpT_nil ?_
  clear c3 z3 HA RN a3 b3 a4 b4 h3 h4
  obtain ⟨k5, a5, b5, h5⟩ := modf (X 5) 4 (by omega)
  go_upto_block 2 with fail
  generalize wA.setCell _ _ = wA at *
  go_wp2_with (fail)
  go_loopw [6] (fun i wr => ∃ (j : Nat) (ed : List E) (ve : Value), j ≤ k5 ∧ i = .int .i64 j ∧ MdS w0 wr X d ⟨1 + (k0 : Int), k1, k2, lo, ln, ed, [], []⟩ (.slice ao lo.length co) (.slice an ln.length cn) ve nilM ∧ (∀ e ∈ ed, e.right = true) ∧ ed.length = j) (fun i _ => k5 - (intOf i).toNat)
  case atStart => exact ⟨0, [], nilM, by omega, rfl, HB.out, fun e he => by simp at he, rfl⟩
  case round =>
    obtain ⟨j, ed, ve, hj, rfl, hS, hgood, hlen⟩ := hrel
    have HS := hid hS
    have HG := hid hgood
    have HLE := hid hlen
    obtain ⟨ae, ce, hve, _⟩ := hS.e.slice
    dsimp only at hve
    subst hve
    clear hS hgood hlen HB
    have q5 := HS.out.at_ (i := 5) (by omega)
    by_cases hjk : j < k5
    · have hk5 : k5 ≤ 3 := by omega
      obtain ⟨y6, s6, w6, n6⟩ := idx j 6 (by omega) (by omega)
      obtain ⟨y7, s7, w7, n7⟩ := idx j 7 (by omega) (by omega)
      obtain ⟨y8, s8, w8', n8⟩ := idx j 8 (by omega) (by omega)
      obtain ⟨k6, a6, b6, h6⟩ := modf (X y6) 400 (by omega)
      obtain ⟨k7, a7, b7, h7⟩ := modf (X y7) 24 (by omega)
      obtain ⟨k8, a8, b8, h8⟩ := modf (X y8) 13 (by omega)
      obtain ⟨m6, d6, e6, f6⟩ := modf (X y6) 5 (by omega)
      obtain ⟨m7, d7, e7, f7⟩ := modf (X y7) 3 (by omega)
      have hex : (⟨#[105, 116, 101, 109, 32, 98, 121, 32, 105, 116, 101, 109]⟩ : ByteArray).extract 0 k8 = bs (([105, 116, 101, 109, 32, 98, 121, 32, 105, 116, 101, 109] : List UInt8).take k8) := by apply ByteArray.ext; simp [bs]
      have htx := hid (show (([105, 116, 101, 109, 32, 98, 121, 32, 105, 116, 101, 109] : List UInt8).take k8).length ≤ 20 by simp; omega)
      generalize ([105, 116, 101, 109, 32, 98, 121, 32, 105, 116, 101, 109] : List UInt8).take k8 = tx at *
      have HW6 := hid (show IntKind.i64.wrap (6 + (j : Int)) = (y6 : Int) from by rw [s6, w6])
      have HW7 := hid (show IntKind.i64.wrap (7 + (j : Int)) = (y7 : Int) from by rw [s7, w7])
      have HW8 := hid (show IntKind.i64.wrap (8 + (j : Int)) = (y8 : Int) from by rw [s8, w8'])
      have i6 : (0 : Int) ≤ (y6 : Int) := by omega
      have i7 : (0 : Int) ≤ (y7 : Int) := by omega
      have i8 : (0 : Int) ≤ (y8 : Int) := by omega
      have i9 : (0 : Int) ≤ (k8 : Int) := by omega
      have i10 : (k8 : Int) ≤ 12 := by omega
      go_upto_region 12 with fail
      clear q5
      replace HS := hid (HS.out.fre ((Fr.refl (fun _ => False) wr).drew))
      go_cut [7] (fun v7 wx => ∃ dd, v7 = .pointer (some ⟨dd, 0, none⟩) ∧ MdS w0 wx X d ⟨1 + (k0 : Int), k1, k2, lo, ln, ed, [], []⟩ (.slice ao lo.length co) (.slice an ln.length cn) (.slice ae ed.length ce) nilM ∧ Blk wx dd [.int .i64 k6, .int .i64 k7, .string (bs tx)] 48 ∧ w0.heap.size + 2 ≤ dd ∧ d < dd ∧ ∀ k, (Value.slice ae ed.length ce).ownBlock = some k → k < dd)
      case first =>
        refine wp_region_scr (.take 0 (.take 1 (.take 2 (.take 3 (.take 4 (.take 5 (.take 6 (.take 7 (.take 8 (.take 9 (.take 10 (.take 11 (.take 12 (.take 13 (.take 14 (.take 15 (.take 16 (.take 17 (.take 18 (.two 19 20 (.op 20 (.op 21 .done)) (.op 19 (.op 21 .done)))))))))))))))))))))) (fun kz w => (kz ≤ 21 → w.cell? ⟨w0.heap.size + 1, y6, none⟩ = some (.int .i64 (X y6 : Int)) ∧ w.cell? ⟨w0.heap.size + 1, y7, none⟩ = some (.int .i64 (X y7 : Int)) ∧ w.cell? ⟨w0.heap.size + 1, y8, none⟩ = some (.int .i64 (X y8 : Int))) ∧ True) (by kernel_rfl) (by kernel_rfl) (by intro c a d v w h; cases d <;> exact h) ?_
        repeat
          first
          | (refine wpT_pure rfl rfl rfl ?_; apply Exists.intro; refine ⟨?_, ?_⟩; intro w; (first | (first | (go_simp; rw [HW6.out, Int.toNat_natCast, if_pos ⟨i6, n6⟩]; done) | (go_simp; rw [HW7.out, Int.toNat_natCast, if_pos ⟨i7, n7⟩]; done) | (go_simp; rw [HW8.out, Int.toNat_natCast, if_pos ⟨i8, n8⟩]; done) | (obtain ⟨q1, q2, q3⟩ := qa; go_simp <;> rfl)) | (go_simp <;> rfl)); simp only [Act.put, List.setIfInBounds_toArray, List.set_cons_zero, List.set_cons_succ])
          | (refine wpT_take 21 rfl rfl (by decide +kernel) ⟨fun _ => ⟨HS.out.at_ (by omega), HS.out.at_ (by omega), HS.out.at_ (by omega)⟩, trivial⟩ ?_; apply Exists.intro; refine ⟨?_, ?_⟩; intro w hw; (have qa := hw.1 (Nat.le_refl _); have qb := hw.2); (first | (first | (go_simp; rw [HW6.out, Int.toNat_natCast, if_pos ⟨i6, n6⟩]; done) | (go_simp; rw [HW7.out, Int.toNat_natCast, if_pos ⟨i7, n7⟩]; done) | (go_simp; rw [HW8.out, Int.toNat_natCast, if_pos ⟨i8, n8⟩]; done) | (obtain ⟨q1, q2, q3⟩ := qa; go_simp <;> rfl)) | (go_simp <;> rfl)); simp only [Act.put, List.setIfInBounds_toArray, List.set_cons_zero, List.set_cons_succ])
          | (refine wpT_skip rfl rfl ?_; simp only [Act.put, List.setIfInBounds_toArray, List.set_cons_zero, List.set_cons_succ])
        have HLA := hid (fun o => (HS.out.fre ((Fr.refl (fun _ => False) wr.drew).alloc o)))
        refine wpT_two ?_ ?_
        focus
          refine wpT_op rfl ?_
          go_wp2_with (fail)
          (refine ⟨?_, ?_⟩; focus (intro kz hk hk2 hh; first | (exfalso; simp at hk2; omega) | exact hh | exact (fun h => absurd h (by omega)) | obtain ⟨qa, qb⟩ := hh; first | exact ⟨qa, qb⟩ | (refine ⟨fun h => absurd h (by omega), ?_⟩; first | exact qb | (exact qa)) | (refine ⟨fun h => ?_, ?_⟩; (have qa := qa h); all_goals (first | exact qa | exact qb | (exact qa)))))
          refine wpT_op rfl ?_
          go_wp2_with (fail)
          refine ⟨fun kz hk hk2 hh => (by first | exact ⟨fun _ => ⟨(HLA.out _).at_ (by omega), (HLA.out _).at_ (by omega), (HLA.out _).at_ (by omega)⟩, trivial⟩ | exact fun _ => ⟨(HLA.out _).at_ (by omega), (HLA.out _).at_ (by omega), (HLA.out _).at_ (by omega)⟩), ?_⟩
          have hth : (wr.drew.alloc (.cells #[.int .i64 0, .int .i64 0, .string ⟨#[]⟩] 48)).there wr.heap.size 0 3 := (Blk.new wr.drew [.int .i64 0, .int .i64 0, .string ⟨#[]⟩] 48).there 0 3 (by simp)
          have HE := hid (HS.out.edit ⟨k6, k7, tx⟩)
          refine wpT_op rfl ?_
          refine wpList_store_mid rfl 48 (.tmp 7) (.tmp 85) rfl _ 0 #[.int .i64 k6, .int .i64 k7, .string (bs tx)] rfl rfl hth size_Edit (by simp [Value.oneCell']) ?_
          rw [List.toList_toArray]
          go_wp2_with (fail)
          refine ⟨fun kz hk hk2 hh => (by first | exact ⟨fun _ => ⟨HE.out.1.at_ (by omega), HE.out.1.at_ (by omega), HE.out.1.at_ (by omega)⟩, trivial⟩ | exact fun _ => ⟨HE.out.1.at_ (by omega), HE.out.1.at_ (by omega), HE.out.1.at_ (by omega)⟩), ?_⟩
          clear hth
          refine wpT_nil ?_
          go_wp2_with (fail)
          go_meet
          exact ⟨_, rfl, HE.out.1, HE.out.2, HS.out.size, HS.out.rc.lt, fun k hk => HS.out.e.lt hk⟩
        focus
          refine wpT_op rfl ?_
          go_wp2_with (fail)
          refine ⟨fun kz hk hk2 hh => (by first | exact ⟨fun _ => ⟨(HLA.out _).at_ (by omega), (HLA.out _).at_ (by omega), (HLA.out _).at_ (by omega)⟩, trivial⟩ | exact fun _ => ⟨(HLA.out _).at_ (by omega), (HLA.out _).at_ (by omega), (HLA.out _).at_ (by omega)⟩), ?_⟩
          refine wpT_op rfl ?_
          go_wp2_with (fail)
          (refine ⟨?_, ?_⟩; focus (intro kz hk hk2 hh; first | (exfalso; simp at hk2; omega) | exact hh | exact (fun h => absurd h (by omega)) | obtain ⟨qa, qb⟩ := hh; first | exact ⟨qa, qb⟩ | (refine ⟨fun h => absurd h (by omega), ?_⟩; first | exact qb | (exact qa)) | (refine ⟨fun h => ?_, ?_⟩; (have qa := qa h); all_goals (first | exact qa | exact qb | (exact qa)))))
          have hth : (wr.drew.alloc (.cells #[.int .i64 0, .int .i64 0, .string ⟨#[]⟩] 48)).there wr.heap.size 0 3 := (Blk.new wr.drew [.int .i64 0, .int .i64 0, .string ⟨#[]⟩] 48).there 0 3 (by simp)
          have HE := hid (HS.out.edit ⟨k6, k7, tx⟩)
          refine wpT_op rfl ?_
          refine wpList_store_mid rfl 48 (.tmp 7) (.tmp 85) rfl _ 0 #[.int .i64 k6, .int .i64 k7, .string (bs tx)] rfl rfl hth size_Edit (by simp [Value.oneCell']) ?_
          rw [List.toList_toArray]
          go_wp2_with (fail)
          refine ⟨fun kz hk hk2 hh => (by first | exact ⟨fun _ => ⟨HE.out.1.at_ (by omega), HE.out.1.at_ (by omega), HE.out.1.at_ (by omega)⟩, trivial⟩ | exact fun _ => ⟨HE.out.1.at_ (by omega), HE.out.1.at_ (by omega), HE.out.1.at_ (by omega)⟩), ?_⟩
          clear hth
          refine wpT_nil ?_
          go_wp2_with (fail)
          go_meet
          exact ⟨_, rfl, HE.out.1, HE.out.2, HS.out.size, HS.out.rc.lt, fun k hk => HS.out.e.lt hk⟩
      case rest =>
        obtain ⟨dd, rfl, hS, hb, hdd, hd2, hd3⟩ := hcut
        have HD3 := hid hd3
        clear hd3
        replace HS := hid hS
        have HBE := hid hb
        clear hS hb a6 b6 a7 b7 a8 b8 hex
        have q6 := HS.out.at_ (i := y6) (by omega)
        have HER := hid (show E.right ⟨k6, k7, tx⟩ = true from by
          unfold E.right
          have := htx.out
          rw [if_neg (by dsimp only; omega)]
          simp only [Bool.and_eq_true, decide_eq_true_eq]
          omega)
        go_upto_if 92 with fail
        clear q6
        go_cut [] (fun wx => ∃ x : E, x.right = true ∧ MdS w0 wx X d ⟨1 + (k0 : Int), k1, k2, lo, ln, ed, [], []⟩ (.slice ao lo.length co) (.slice an ln.length cn) (.slice ae ed.length ce) nilM ∧ Blk wx dd x.cells 48)
        case first =>
          by_cases hm : m6 = 1
          · subst hm
            have cd1 : wc.cell? ⟨dd, 1, none⟩ = some (.int .i64 k7) := HBE.out.cell 1
            have zd1 := HBE.out.frozen 1
            have fs := (Fr.refl (fun k => k = dd) wc).setCell ⟨dd, 1, none⟩ (.int .i64 (-1)) (fun _ => rfl)
            have HS1 := hid ((HS.out.far HBE.out hdd hd2 HD3.out fs).fre ((Fr.refl (fun _ => False) _).drew))
            have HB1 := hid ((HBE.out.set 1 (.int .i64 (-1))).drew)
            clear fs
            go_upto_region 15 with fail
            clear cd1 zd1
            have hex : (⟨#[0, 1, 2]⟩ : ByteArray).extract m7 (m7 + 1) = bs [UInt8.ofNat m7] := by
              rcases (by omega : m7 = 0 ∨ m7 = 1 ∨ m7 = 2) with rfl | rfl | rfl <;> (apply ByteArray.ext; rfl)
            have HW7' := hid (show IntKind.i64.wrap ((m7 : Int) + 1) = ((m7 + 1 : Nat) : Int) from by rw [IntKind.wrap_i64]; omega)
            generalize wc.setCell _ _ = wq at *
            refine wp_region_scr (.take 0 (.take 1 (.take 2 (.take 3 (.take 4 (.take 5 (.take 6 (.take 7 (.take 8 (.take 9 (.take 10 (.take 11 (.take 12 (.take 13 (.take 14 (.op 15 .done)))))))))))))))) (fun kz w => (kz ≤ 15 → w.cell? ⟨w0.heap.size + 1, y7, none⟩ = some (.int .i64 (X y7 : Int))) ∧ True) (by kernel_rfl) (by kernel_rfl) (by intro c a d v w h; cases d <;> exact h) ?_
            repeat
              first
              | (refine wpT_pure rfl rfl rfl ?_; apply Exists.intro; refine ⟨?_, ?_⟩; intro w; (first | (first | (go_simp; rw [HW7.out, Int.toNat_natCast, if_pos ⟨i7, n7⟩]; done) | (go_simp <;> rfl)) | (go_simp <;> rfl)); simp only [Act.put, List.setIfInBounds_toArray, List.set_cons_zero, List.set_cons_succ])
              | (refine wpT_take 15 rfl rfl (by decide +kernel) ⟨fun _ => HS1.out.at_ (by omega), trivial⟩ ?_; apply Exists.intro; refine ⟨?_, ?_⟩; intro w hw; (have qa := hw.1 (Nat.le_refl _); have qb := hw.2); (first | (first | (go_simp; rw [HW7.out, Int.toNat_natCast, if_pos ⟨i7, n7⟩]; done) | (go_simp <;> rfl)) | (go_simp <;> rfl)); simp only [Act.put, List.setIfInBounds_toArray, List.set_cons_zero, List.set_cons_succ])
              | (refine wpT_skip rfl rfl ?_; simp only [Act.put, List.setIfInBounds_toArray, List.set_cons_zero, List.set_cons_succ])
            refine wpT_pure rfl rfl rfl ?_
            refine ⟨.string (bs [UInt8.ofNat m7]), fun w => ?_, ?_⟩
            focus
              go_simp
              rw [HW7'.out, if_pos ⟨by omega, by omega⟩, if_pos (by omega), Int.toNat_natCast, hex]
            repeat
              first
              | (refine wpT_pure rfl rfl rfl ?_; apply Exists.intro; refine ⟨?_, ?_⟩; intro w; ((go_simp <;> rfl)); simp only [Act.put, List.setIfInBounds_toArray, List.set_cons_zero, List.set_cons_succ])
              | (refine wpT_take 15 rfl rfl (by decide +kernel) ⟨fun _ => HS1.out.at_ (by omega), trivial⟩ ?_; apply Exists.intro; refine ⟨?_, ?_⟩; intro w hw; (have qa := hw.1 (Nat.le_refl _); have qb := hw.2); ((go_simp <;> rfl)); simp only [Act.put, List.setIfInBounds_toArray, List.set_cons_zero, List.set_cons_succ])
              | (refine wpT_skip rfl rfl ?_; simp only [Act.put, List.setIfInBounds_toArray, List.set_cons_zero, List.set_cons_succ])
            have cd2 : wq.drew.cell? ⟨dd, 2, none⟩ = some (.string (bs tx)) := HB1.out.cell 2
            have zd2 := HB1.out.frozen 2
            have fs := (Fr.refl (fun k => k = dd) wq.drew).setCell ⟨dd, 2, none⟩ (.string (bs [UInt8.ofNat m7])) (fun _ => rfl)
            have HS2 := hid (HS1.out.far HB1.out hdd hd2 HD3.out fs)
            have HB2 := hid (HB1.out.set 2 (.string (bs [UInt8.ofNat m7])))
            have HER2 := hid (show E.right ⟨k6, -1, [UInt8.ofNat m7]⟩ = true from by
              have hk6 : (k6 : Int) ≤ 399 := by omega
              rcases (by omega : m7 = 0 ∨ m7 = 1 ∨ m7 = 2) with rfl | rfl | rfl <;> simp [E.right, hk6])
            clear fs
            refine wpT_op rfl ?_
            go_wp2_with (fail)
            refine ⟨fun kz hk hk2 hh => (by first | exact ⟨fun _ => HS2.out.at_ (by omega), trivial⟩ | exact fun _ => HS2.out.at_ (by omega)), ?_⟩
            refine wpT_nil ?_
            go_wp2_with (fail)
            go_meet
            exact ⟨_, HER2.out, HS2.out, HB2.out⟩
          · have hm1 : ((m6 : Int) == 1) = false := by simp; omega
            have hm2 : ¬ (m6 : Int) = 1 := by omega
            go_wp2_with (fail)
            go_meet
            exact ⟨_, HER.out, HS.out, HBE.out⟩
        case rest =>
          obtain ⟨⟨x1, x2, x3⟩, hxr, hS, hb⟩ := hcut
          replace HS := hid hS
          replace HBE := hid hb
          have HXR := hid hxr
          clear hS hb hxr HD3 HW6 HW7 HW8
          have g0 : wc.cell? ⟨dd, 0, none⟩ = some (.int .i64 x1) := HBE.out.cell 0
          have g1 : wc.cell? ⟨dd, 1, none⟩ = some (.int .i64 x2) := HBE.out.cell 1
          have g2 : wc.cell? ⟨dd, 2, none⟩ = some (.string (bs x3)) := HBE.out.cell 2
          have c5 : wc.cell? ⟨d, 5, none⟩ = some (.slice ae ed.length ce) := HS.out.rc.cell 5
          go_wp2_with (at_builtin; refine wpList_app1 rfl (s := .tmp 110) (x := .tmp 112) (t := 26) rfl Tryd.underlying26 info_edit edit_zcells rfl rfl HS.out.e HS.out.size rfl (by simp [Value.oneCell']) (by have := HLE.out; dsimp only; omega) (by have := HLE.out; dsimp only; omega) ?_; intro ab ac wg APP; have HGR := hid (HS.out.growE (x := ⟨x1, x2, x3⟩) APP); have hre := HS.out.atE APP; have c6 : wg.cell? ⟨d, 5, none⟩ = some (.slice ae ed.length ce) := hre.cell 5; have z6 := hre.frozen 5; clear APP hre g0 g1 g2 c5)
          go_roundw
          case rel => exact ⟨j + 1, ed ++ [⟨x1, x2, x3⟩], _, by omega, by simp, HGR.out, fun e he => (List.mem_append.1 he).elim (HG.out e) (fun h => by obtain rfl := List.mem_singleton.1 h; exact HXR.out), by have := HLE.out; simp; omega⟩
          case measure => simp [intOf]; omega
    · obtain ⟨k9, a9, b9, h9⟩ := modf (X 9) 3 (by omega)
      have hle := HLE.out
      have hel3 : ed.length ≤ 3 := by omega
      clear hle
      go_wp2_with (fail)
      clear q5 a5 b5
      go_loopw [8] (fun i wr => ∃ (j : Nat) (xs : List Int) (vx : Value), j ≤ k9 ∧ i = .int .i64 j ∧ MdS w0 wr X d ⟨1 + (k0 : Int), k1, k2, lo, ln, ed, xs, []⟩ (.slice ao lo.length co) (.slice an ln.length cn) (.slice ae ed.length ce) vx ∧ (∀ x ∈ xs, 3 ≤ x ∧ x ≤ 127) ∧ xs.length = j) (fun i _ => k9 - (intOf i).toNat)
      case atStart => exact ⟨0, [], nilM, by omega, rfl, HS.out, fun e he => by simp at he, rfl⟩
      case round =>
        obtain ⟨j, xs, vx, hj, rfl, hS, hgood, hlen⟩ := hrel
        replace HS := hid hS
        have HGX := hid hgood
        have HLX := hid hlen
        obtain ⟨ax, cx, hvx, _⟩ := hS.x.slice
        dsimp only at hvx
        subst hvx
        clear hS hgood hlen
        have q9 := HS.out.at_ (i := 9) (by omega)
        by_cases hjk : j < k9
        · have hk9 : k9 ≤ 2 := by omega
          obtain ⟨y10, s10, w10, n10⟩ := idx j 10 (by omega) (by omega)
          obtain ⟨k10, a10, b10, h10⟩ := modf (X y10) 125 (by omega)
          have HW10 := hid (show IntKind.i64.wrap (10 + (j : Int)) = (y10 : Int) from by rw [s10, w10])
          have HWX := hid (show IntKind.i64.wrap (3 + (k10 : Int)) = ((3 + k10 : Nat) : Int) from by rw [IntKind.wrap_i64]; omega)
          have i10 : (0 : Int) ≤ (y10 : Int) := by omega
          go_upto_region 20 with fail
          clear q9
          replace HS := hid (HS.out.fre ((Fr.refl (fun _ => False) _).drew))
          refine wp_region_scr (.take 0 (.take 1 (.take 2 (.take 3 (.take 4 (.take 5 (.take 6 (.take 7 (.take 8 (.op 9 (.op 10 (.take 11 (.op 12 .done))))))))))))) (fun kz w => (kz ≤ 12 → w.cell? ⟨w0.heap.size + 1, y10, none⟩ = some (.int .i64 (X y10 : Int)) ∧ w.cell? ⟨d, 6, none⟩ = some (.slice ax xs.length cx)) ∧ True) (by kernel_rfl) (by kernel_rfl) (by intro c a d v w h; cases d <;> exact h) ?_
          repeat
            first
            | (refine wpT_pure rfl rfl rfl ?_; apply Exists.intro; refine ⟨?_, ?_⟩; intro w; (first | (first | (go_simp; rw [HW10.out, Int.toNat_natCast, if_pos ⟨i10, n10⟩]; done) | (go_simp; rw [HWX.out]; done) | (obtain ⟨q1, q2⟩ := qa; go_simp <;> rfl)) | (go_simp <;> rfl)); simp only [Act.put, List.setIfInBounds_toArray, List.set_cons_zero, List.set_cons_succ])
            | (refine wpT_take 12 rfl rfl (by decide +kernel) ⟨fun _ => ⟨HS.out.at_ (by omega), HS.out.rc.cell 6⟩, trivial⟩ ?_; apply Exists.intro; refine ⟨?_, ?_⟩; intro w hw; (have qa := hw.1 (Nat.le_refl _); have qb := hw.2); (first | (first | (go_simp; rw [HW10.out, Int.toNat_natCast, if_pos ⟨i10, n10⟩]; done) | (go_simp; rw [HWX.out]; done) | (obtain ⟨q1, q2⟩ := qa; go_simp <;> rfl)) | (go_simp <;> rfl)); simp only [Act.put, List.setIfInBounds_toArray, List.set_cons_zero, List.set_cons_succ])
            | (refine wpT_skip rfl rfl ?_; simp only [Act.put, List.setIfInBounds_toArray, List.set_cons_zero, List.set_cons_succ])
          have HLA := hid (fun o => (HS.out.fre ((Fr.refl (fun _ => False) wr.drew).alloc o)))
          refine wpT_op rfl ?_
          go_wp2_with (fail)
          refine ⟨fun kz hk hk2 hh => (by first | exact ⟨fun _ => ⟨(HLA.out _).at_ (by omega), (HLA.out _).rc.cell 6⟩, trivial⟩ | exact fun _ => ⟨(HLA.out _).at_ (by omega), (HLA.out _).rc.cell 6⟩), ?_⟩
          refine wpT_op rfl ?_
          refine wpList_app1 rfl (s := .tmp 124) (x := .tmp 132) (t := 24) rfl Tryd.underlying24 info_int rfl rfl rfl HS.out.x HS.out.size rfl (by simp [Value.oneCell']) (by have := HLX.out; dsimp only; omega) (by have := HLX.out; dsimp only; omega) ?_
          intro ab ac wg APP
          have HGR := hid (HS.out.growX (x := ((3 + k10 : Nat) : Int)) APP)
          obtain ⟨hre, hrl⟩ := HS.out.atX APP
          have HRL := hid hrl
          have HRE := hid hre
          clear hrl hre APP
          go_wp2_with (fail)
          refine ⟨fun kz hk hk2 hh => (by first | exact ⟨fun _ => ⟨by rw [HRL.out.cell, xcells_at X (by omega)], HRE.out.cell 6⟩, trivial⟩ | exact fun _ => ⟨by rw [HRL.out.cell, xcells_at X (by omega)], HRE.out.cell 6⟩), ?_⟩
          repeat
            first
            | (refine wpT_pure rfl rfl rfl ?_; apply Exists.intro; refine ⟨?_, ?_⟩; intro w; ((go_simp <;> rfl)); simp only [Act.put, List.setIfInBounds_toArray, List.set_cons_zero, List.set_cons_succ])
            | (refine wpT_take 12 rfl rfl (by decide +kernel) ⟨fun _ => ⟨by rw [HRL.out.cell, xcells_at X (by omega)], HRE.out.cell 6⟩, trivial⟩ ?_; apply Exists.intro; refine ⟨?_, ?_⟩; intro w hw; (have qa := hw.1 (Nat.le_refl _); have qb := hw.2); ((go_simp <;> rfl)); simp only [Act.put, List.setIfInBounds_toArray, List.set_cons_zero, List.set_cons_succ])
            | (refine wpT_skip rfl rfl ?_; simp only [Act.put, List.setIfInBounds_toArray, List.set_cons_zero, List.set_cons_succ])
          have c6 : wg.cell? ⟨d, 6, none⟩ = some (.slice ax xs.length cx) := HRE.out.cell 6
          have z6 := HRE.out.frozen 6
          refine wpT_op rfl ?_
          go_wp2_with (fail)
          refine ⟨fun kz hk hk2 hh => (by first | exact ⟨fun h => absurd h (by simp at hk2; omega), trivial⟩ | exact fun h => absurd h (by simp at hk2; omega)), ?_⟩
          refine wpT_nil ?_
          go_wp2_with (fail)
          go_roundw
          case rel => exact ⟨j + 1, xs ++ [((3 + k10 : Nat) : Int)], _, by omega, by simp, HGR.out, fun e he => (List.mem_append.1 he).elim (HGX.out e) (fun h => by obtain rfl := List.mem_singleton.1 h; omega), by have := HLX.out; simp; omega⟩
          case measure => simp [intOf]; omega
        · obtain ⟨k11, a11, b11, h11⟩ := modf (X 11) 18 (by omega)
          have hlx := HLX.out
          have hxl2 : xs.length ≤ 2 := by omega
          clear hlx
          have q11 := HS.out.at_ (i := 11) (by omega)
          have hex : (⟨#[97, 32, 110, 111, 116, 101, 32, 111, 102, 32, 105, 116, 115, 32, 111, 119, 110]⟩ : ByteArray).extract 0 k11 = bs (([97, 32, 110, 111, 116, 101, 32, 111, 102, 32, 105, 116, 115, 32, 111, 119, 110] : List UInt8).take k11) := by apply ByteArray.ext; simp [bs]
          have htn := hid (show (([97, 32, 110, 111, 116, 101, 32, 111, 102, 32, 105, 116, 115, 32, 111, 119, 110] : List UInt8).take k11).length ≤ 20 by simp; omega)
          generalize ([97, 32, 110, 111, 116, 101, 32, 111, 102, 32, 105, 116, 115, 32, 111, 119, 110] : List UInt8).take k11 = tn at *
          have i11 : (0 : Int) ≤ (k11 : Int) := by omega
          have i12 : (k11 : Int) ≤ 17 := by omega
          have c7 : wr.cell? ⟨d, 7, none⟩ = some (.string (bs [])) := HS.out.rc.cell 7
          have z7 := HS.out.rc.frozen 7
          have HT := hid (HS.out.put 7 (.string (bs tn)) ⟨1 + (k0 : Int), k1, k2, lo, ln, ed, xs, tn⟩ _ _ _ _ rfl HS.out.o HS.out.n HS.out.e HS.out.x)
          go_upto_region 22 with fail
          clear c7 z7 q9 q11 HS
          generalize wr.setCell _ _ = wr at *
          obtain ⟨p0, p1, p2, p3, p4, p5, p6, p7⟩ := rec_cells HT.out.rc
          have hth := HT.out.res.there 0 8 (by simp [rv])
          have HFI := hid (HT.out.fin (by have := FO.out.2; dsimp only; omega) (by have := FN.out.2; dsimp only; omega) (by dsimp only; omega) (by dsimp only; omega))
          go_wp2_with (refine wpList_store_mid rfl 28 (.tmp 2) (.tmp 141) rfl w0.heap.size 0 (rv ⟨1 + (k0 : Int), k1, k2, lo, ln, ed, xs, tn⟩ (.slice ao lo.length co) (.slice an ln.length cn) (.slice ae ed.length ce) (.slice ax xs.length cx)).toArray rfl rfl hth size_Rec (by simp [Value.oneCell', rv]) ?_; rw [List.toList_toArray])
          refine bodyPost_ret (v := .agg (rv ⟨1 + (k0 : Int), k1, k2, lo, ln, ed, xs, tn⟩ (.slice ao lo.length co) (.slice an ln.length cn) (.slice ae ed.length ce) (.slice ax xs.length cx)).toArray) (results_cell_mid (b := w0.heap.size) (o := 0) rfl _ _ rfl (cs := rv ⟨1 + (k0 : Int), k1, k2, lo, ln, ed, xs, tn⟩ (.slice ao lo.length co) (.slice an ln.length cn) (.slice ae ed.length ce) (.slice ax xs.length cx)) (Blk.all _ HFI.out.1) Tryd.underlying28 rfl size_Rec) rfl ?_
          refine ⟨_, rfl, HFI.out.2.1, ?_, FO.out.1, FN.out.1, HFI.out.2.2⟩
          unfold R.right
          have r1 := fine_row FO.out.1 FO.out.2
          have r2 := fine_row FN.out.1 FN.out.2
          have r3 := htn.out
          simp only [r1, r2, Bool.and_eq_true, decide_eq_true_eq, List.all_eq_true]
          exact ⟨⟨⟨⟨⟨⟨⟨⟨⟨⟨by omega, by omega⟩, by omega⟩, by omega⟩, by omega⟩, by omega⟩, by omega, HG.out⟩, by omega, HGX.out⟩, trivial⟩, trivial⟩, by omega⟩
end Go.Proofs.YtfhkmiifndhacaaDoor
