import Derived.Test.YtfhkmiifndhacaaDoorRdA
import Derived.Test.YtfhkmiifndhacaaDoorRecD
/- record.Read, whole. -/
set_option linter.unusedVariables false
namespace Go.Proofs.YtfhkmiifndhacaaDoor
open Go.RowKit Go.VB Go.VB.Oct Go.VB.Rec
/-- where the reading stands: result, reader, pointer to it, whether all fitted, the record so far -/
structure RdS (w0 W : World) (p q dr : Nat) (rm : RM) (fits : Bool) (r : R) (vo vn ve vx : Value) : Prop where
  res : Blk W w0.heap.size (rv R.zero (.slice none 0 0) (.slice none 0 0) (.slice none 0 0) (.slice none 0 0)) 28
  rd : RdRep W p rm
  ok : rm.Ok
  bp : Blk W q [.pointer (some ⟨p, 0, none⟩)] 51
  bf : Blk W (q + 1) [.bool fits] 4
  rc : Blk W dr (rv r vo vn ve vx) 28
  o : Row 50 3 w0.heap.size W vo r.old.length (r.old.flatMap V.cells)
  n : Row 50 3 w0.heap.size W vn r.new.length (r.new.flatMap V.cells)
  e : Row 48 3 w0.heap.size W ve r.edits.length (r.edits.flatMap E.cells)
  x : Row 3 1 w0.heap.size W vx r.xids.length (r.xids.flatMap icell)
  fr : Fr (fun _ => False) w0 W
  gp : w0.heap.size < p
  gq : w0.heap.size < q
  gr : w0.heap.size < dr
namespace RdS
variable {w0 W W' : World} {p q dr : Nat} {rm rm' : RM} {fits fits' : Bool} {r : R} {vo vn ve vx : Value}
/-- the reader alone has moved -/
theorem move (h : RdS w0 W p q dr rm fits r vo vn ve vx) (hr : RdRep W' p rm') (ok : rm'.Ok) (f : Fr (fun k => k = p) W W') : RdS w0 W' p q dr rm' fits r vo vn ve vx :=
  ⟨h.res.fr f (fun e => by have := h.gp; omega), hr, ok, h.bp.fr f (fun e => h.rd.ne_of_type h.bp (by decide) e.symm), h.bf.fr f (fun e => h.rd.ne_of_type h.bf (by decide) e.symm), h.rc.fr f (fun e => h.rd.ne_of_type h.rc (by decide) e.symm),
    h.o.fr f (fun k hk => h.o.ne h.rd (by decide) k hk), h.n.fr f (fun k hk => h.n.ne h.rd (by decide) k hk), h.e.fr f (fun k hk => h.e.ne h.rd (by decide) k hk), h.x.fr f (fun k hk => h.x.ne h.rd (by decide) k hk), h.fr.trans f (fun k hk hl => by have := h.gp; omega), h.gp, h.gq, h.gr⟩
theorem fre (h : RdS w0 W p q dr rm fits r vo vn ve vx) (f : Fr (fun _ => False) W W') : RdS w0 W' p q dr rm fits r vo vn ve vx :=
  h.move (h.rd.fre f) h.ok (f.mono (fun _ h _ => h.elim))
theorem num (h : RdS w0 W p q dr rm fits r vo vn ve vx) (k : Nat) (hk : k ≤ 6) {m : RM × Nat} (hm : rm.num k = m) : Calls Tryd.prog 23 #[.pointer (some ⟨p, 0, none⟩), .int .i64 k] W fun e W' => e = .returned (.int .i64 m.2) ∧ RdS w0 W' p q dr m.1 fits r vo vn ve vx ∧ Fr (fun k => k = p) W W' := by
  subst hm
  refine (ONum_go h.rd h.ok k hk).mono ?_
  rintro e W' ⟨rfl, hr, f⟩
  exact ⟨rfl, h.move hr (h.ok.num k) f, f⟩
theorem text (h : RdS w0 W p q dr rm fits r vo vn ve vx) {m : RM × List UInt8} (hm : rm.text = m) : Calls Tryd.prog 21 #[.pointer (some ⟨p, 0, none⟩)] W fun e W' => e = .returned (.string (bs m.2)) ∧ RdS w0 W' p q dr m.1 fits r vo vn ve vx ∧ Fr (fun k => k = p) W W' := by
  subst hm
  refine (OText_go h.rd h.ok).mono ?_
  rintro e W' ⟨rfl, hr, f⟩
  exact ⟨rfl, h.move hr h.ok.text f, f⟩
theorem rows (h : RdS w0 W p q dr rm fits r vo vn ve vx) {m : RM × Bool × List V} (hm : rowsM rm fits = m) : Calls Tryd.prog 20 #[.pointer (some ⟨q, 0, none⟩), .pointer (some ⟨q + 1, 0, none⟩)] W fun e W' => ∃ va, e = .returned va ∧ Row 50 3 w0.heap.size W' va m.2.2.length (m.2.2.flatMap V.cells) ∧ RdS w0 W' p q dr m.1 m.2.1 r vo vn ve vx := by
  subst hm
  refine (rows_go h.bp h.bf h.rd h.ok).mono ?_
  rintro e W' ⟨va, rfl, hrow, hr, hf, f⟩
  have hk : ∀ k, (k = p ∨ k = q + 1) → k ≠ w0.heap.size ∧ k ≠ q ∧ k ≠ dr := fun k hk => by
    have h1 := h.rd.ne_of_type h.bp (by decide)
    have h2 := h.rd.ne_of_type h.rc (by decide)
    have h3 := h.bf.ne_of_type h.rc (by decide)
    have := h.gp
    have := h.gq
    omega
  refine ⟨va, rfl, hrow.low h.fr.size, h.res.fr f (fun e => (hk _ e).1 rfl), hr, ok_rowsM h.ok fits, h.bp.fr f (fun e => (hk _ e).2.1 rfl), hf, h.rc.fr f (fun e => (hk _ e).2.2 rfl),
    h.o.fr f (fun k hk e => e.elim (h.o.ne h.rd (by decide) k hk) (h.o.ne h.bf (by decide) k hk)), h.n.fr f (fun k hk e => e.elim (h.n.ne h.rd (by decide) k hk) (h.n.ne h.bf (by decide) k hk)), h.e.fr f (fun k hk e => e.elim (h.e.ne h.rd (by decide) k hk) (h.e.ne h.bf (by decide) k hk)), h.x.fr f (fun k hk e => e.elim (h.x.ne h.rd (by decide) k hk) (h.x.ne h.bf (by decide) k hk)),
    h.fr.trans f (fun k hk hl => by have := h.gp; have := h.gq; omega), h.gp, h.gq, h.gr⟩
/-- the record's variable is written -/
theorem put (h : RdS w0 W p q dr rm fits r vo vn ve vx) (i : Nat) (u : Value) (r' : R) (vo' vn' ve' vx' : Value) (hs : (rv r vo vn ve vx).set i u = rv r' vo' vn' ve' vx')
    (o : Row 50 3 w0.heap.size W vo' r'.old.length (r'.old.flatMap V.cells)) (n : Row 50 3 w0.heap.size W vn' r'.new.length (r'.new.flatMap V.cells)) (e : Row 48 3 w0.heap.size W ve' r'.edits.length (r'.edits.flatMap E.cells)) (x : Row 3 1 w0.heap.size W vx' r'.xids.length (r'.xids.flatMap icell)) :
    RdS w0 (W.setCell ⟨dr, i, none⟩ u) p q dr rm fits r' vo' vn' ve' vx' := by
  have f := (Fr.refl (fun k => k = dr) W).setCell ⟨dr, i, none⟩ u (fun _ => rfl)
  have hq := h.rc.set i u
  rw [hs] at hq
  exact ⟨h.res.fr f (fun e => by have := h.gr; omega), h.rd.fr f (fun e => h.rd.ne_of_type h.rc (by decide) e), h.ok, h.bp.fr f (fun e => h.bp.ne_of_type h.rc (by decide) e), h.bf.fr f (fun e => h.bf.ne_of_type h.rc (by decide) e), hq,
    o.fr f (fun k hk => o.ne h.rc (by decide) k hk), n.fr f (fun k hk => n.ne h.rc (by decide) k hk), e.fr f (fun k hk => e.ne h.rc (by decide) k hk), x.fr f (fun k hk => x.ne h.rc (by decide) k hk), h.fr.trans f (fun k hk hl => by have := h.gr; omega), h.gp, h.gq, h.gr⟩
end RdS
structure RdI (w0 W : World) (p q : Nat) (rm : RM) : Prop where
  res : Blk W w0.heap.size (rv R.zero (.slice none 0 0) (.slice none 0 0) (.slice none 0 0) (.slice none 0 0)) 28
  rd : RdRep W p rm
  ok : rm.Ok
  bp : Blk W q [.pointer (some ⟨p, 0, none⟩)] 51
  bf : Blk W (q + 1) [.bool true] 4
  fr : Fr (fun _ => False) w0 W
  gp : w0.heap.size < p
  gq : w0.heap.size < q
namespace RdI
variable {w0 W W' : World} {p q : Nat} {rm rm' : RM}
theorem move (h : RdI w0 W p q rm) (hr : RdRep W' p rm') (ok : rm'.Ok) (f : Fr (fun k => k = p) W W') : RdI w0 W' p q rm' :=
  ⟨h.res.fr f (fun e => by have := h.gp; omega), hr, ok, h.bp.fr f (fun e => h.rd.ne_of_type h.bp (by decide) e.symm), h.bf.fr f (fun e => h.rd.ne_of_type h.bf (by decide) e.symm), h.fr.trans f (fun k hk hl => by have := h.gp; omega), h.gp, h.gq⟩
theorem fre (h : RdI w0 W p q rm) (f : Fr (fun _ => False) W W') : RdI w0 W' p q rm := h.move (h.rd.fre f) h.ok (f.mono (fun _ h _ => h.elim))
theorem num (h : RdI w0 W p q rm) (k : Nat) (hk : k ≤ 6) {m : RM × Nat} (hm : rm.num k = m) : Calls Tryd.prog 23 #[.pointer (some ⟨p, 0, none⟩), .int .i64 k] W fun e W' => e = .returned (.int .i64 m.2) ∧ RdI w0 W' p q m.1 ∧ Fr (fun k => k = p) W W' := by
  subst hm
  refine (ONum_go h.rd h.ok k hk).mono ?_
  rintro e W' ⟨rfl, hr, f⟩
  exact ⟨rfl, h.move hr (h.ok.num k) f, f⟩
theorem new (h : RdI w0 W p q rm) : RdS w0 (W.alloc (.cells #[.int .i64 0, .int .i64 0, .int .i64 0, .slice none 0 0, .slice none 0 0, .slice none 0 0, .slice none 0 0, .string ⟨#[]⟩] 28)) p q W.heap.size rm true R.zero (.slice none 0 0) (.slice none 0 0) (.slice none 0 0) (.slice none 0 0) := by
  have f := (Fr.refl (fun _ => False) W).alloc (.cells (rv R.zero (.slice none 0 0) (.slice none 0 0) (.slice none 0 0) (.slice none 0 0)).toArray 28)
  have h' := h.fre f
  show RdS w0 (W.alloc (.cells (rv R.zero (.slice none 0 0) (.slice none 0 0) (.slice none 0 0) (.slice none 0 0)).toArray 28)) p q W.heap.size rm true R.zero (.slice none 0 0) (.slice none 0 0) (.slice none 0 0) (.slice none 0 0)
  exact ⟨h'.res, h'.rd, h'.ok, h'.bp, h'.bf, Blk.new W _ _, Row.nil, Row.nil, Row.nil, Row.nil, h'.fr, h.gp, h.gq, Nat.lt_of_lt_of_le h.gp (by have := h.rd.lt; omega)⟩
end RdI
theorem RdS.all {w0 W : World} {p q dr : Nat} {rm : RM} {fits : Bool} {r : R} {vo vn ve vx : Value} (h : RdS w0 W p q dr rm fits r vo vn ve vx) (k x t : Int) :
    RdS w0 (W.setCells dr 0 [.int .i64 k, .int .i64 x, .int .i64 t, .slice none 0 0, .slice none 0 0, .slice none 0 0, .slice none 0 0, .string ⟨#[]⟩]) p q dr rm fits ⟨k, x, t, [], [], [], [], []⟩ (.slice none 0 0) (.slice none 0 0) (.slice none 0 0) (.slice none 0 0) := by
  show RdS w0 (W.setCells dr 0 (rv ⟨k, x, t, [], [], [], [], []⟩ (.slice none 0 0) (.slice none 0 0) (.slice none 0 0) (.slice none 0 0))) p q dr rm fits ⟨k, x, t, [], [], [], [], []⟩ (.slice none 0 0) (.slice none 0 0) (.slice none 0 0) (.slice none 0 0)
  have f := (Fr.refl (fun k => k = dr) W).put dr 0 (rv ⟨k, x, t, [], [], [], [], []⟩ (.slice none 0 0) (.slice none 0 0) (.slice none 0 0) (.slice none 0 0)) (fun _ => rfl)
  have hq := h.rc.put 0 (rv ⟨k, x, t, [], [], [], [], []⟩ (.slice none 0 0) (.slice none 0 0) (.slice none 0 0) (.slice none 0 0)) (by simp [rv])
  exact ⟨h.res.fr f (fun e => by have := h.gr; omega), h.rd.fr f (fun e => h.rd.ne_of_type h.rc (by decide) e), h.ok, h.bp.fr f (fun e => h.bp.ne_of_type h.rc (by decide) e), h.bf.fr f (fun e => h.bf.ne_of_type h.rc (by decide) e), hq,
    Row.nil, Row.nil, Row.nil, Row.nil, h.fr.trans f (fun k hk hl => by have := h.gr; omega), h.gp, h.gq, h.gr⟩
theorem row_apart {e1 e2 : TypeId} {s1 s2 B1 B2 n1 n2 : Nat} {W : World} {v1 v2 : Value} {xs1 xs2 : List Value} (h : Row e1 s1 B1 W v1 n1 xs1) (k : Row e2 s2 B2 W v2 n2 xs2) (hte : e2 ≠ e1) : ∀ b, v1.ownBlock = some b → ¬ v2.ownBlock = some b := by
  intro b hb hb2
  rcases k.own.2 with ⟨rfl, rfl⟩ | ⟨g, cap, cur, rfl, hbb, hgg, h2, h3, h4, h5⟩
  · simp [Value.ownBlock] at hb2
  · have hB : Blk W g cur.toList e2 := by unfold Blk; simpa using hgg
    have hg : g = b := by simpa [Value.ownBlock] using hb2
    exact h.ne hB hte b hb hg.symm
namespace RdS
variable {w0 W W' wg : World} {p q dr : Nat} {rm rm' : RM} {fits fits' : Bool} {r : R} {vo vn ve vx v' : Value}
theorem growE (h : RdS w0 W p q dr rm fits r vo vn ve vx) {x : E} (hg : App 48 3 w0.heap.size W wg ve v' r.edits.length (r.edits.flatMap E.cells) x.cells) :
    RdS w0 (wg.setCell ⟨dr, 5, none⟩ v') p q dr rm fits { r with edits := r.edits ++ [x] } vo vn v' vx := by
  have hne : ∀ {d l t}, Blk W d l t → t ≠ 48 → ¬ (ve.ownBlock = some d) := fun b ht hk => h.e.ne b ht _ hk rfl
  have rc' := h.rc.fr hg.fr (hne h.rc (by decide))
  have fs := (Fr.refl (fun k => k = dr) wg).setCell ⟨dr, 5, none⟩ v' (fun _ => rfl)
  have o' := h.o.fr hg.fr (fun k hk => row_apart h.o h.e (by decide) k hk)
  have n' := h.n.fr hg.fr (fun k hk => row_apart h.n h.e (by decide) k hk)
  have x' := h.x.fr hg.fr (fun k hk => row_apart h.x h.e (by decide) k hk)
  have e' : Row 48 3 w0.heap.size wg v' (r.edits ++ [x]).length ((r.edits ++ [x]).flatMap E.cells) := hg.row.cast (by simp) (by simp)
  exact ⟨(h.res.fr hg.fr (hne h.res (by decide))).fr fs (fun e => by have := h.gr; omega), (h.rd.fr hg.fr (hne h.rd (by decide))).fr fs (fun e => h.rd.ne_of_type h.rc (by decide) e), h.ok, (h.bp.fr hg.fr (hne h.bp (by decide))).fr fs (fun e => h.bp.ne_of_type h.rc (by decide) e), (h.bf.fr hg.fr (hne h.bf (by decide))).fr fs (fun e => h.bf.ne_of_type h.rc (by decide) e), rc'.set 5 v',
    o'.fr fs (fun k hk => o'.ne rc' (by decide) k hk), n'.fr fs (fun k hk => n'.ne rc' (by decide) k hk), e'.fr fs (fun k hk => e'.ne rc' (by decide) k hk), x'.fr fs (fun k hk => x'.ne rc' (by decide) k hk),
    (h.fr.trans hg.fr (fun k hk hl => by have := h.e.new k hk; omega)).trans fs (fun k hk hl => by have := h.gr; omega), h.gp, h.gq, h.gr⟩
theorem growX (h : RdS w0 W p q dr rm fits r vo vn ve vx) {x : Int} (hg : App 3 1 w0.heap.size W wg vx v' r.xids.length (r.xids.flatMap icell) (icell x)) :
    RdS w0 (wg.setCell ⟨dr, 6, none⟩ v') p q dr rm fits { r with xids := r.xids ++ [x] } vo vn ve v' := by
  have hne : ∀ {d l t}, Blk W d l t → t ≠ 3 → ¬ (vx.ownBlock = some d) := fun b ht hk => h.x.ne b ht _ hk rfl
  have rc' := h.rc.fr hg.fr (hne h.rc (by decide))
  have fs := (Fr.refl (fun k => k = dr) wg).setCell ⟨dr, 6, none⟩ v' (fun _ => rfl)
  have o' := h.o.fr hg.fr (fun k hk => row_apart h.o h.x (by decide) k hk)
  have n' := h.n.fr hg.fr (fun k hk => row_apart h.n h.x (by decide) k hk)
  have e' := h.e.fr hg.fr (fun k hk => row_apart h.e h.x (by decide) k hk)
  have x' : Row 3 1 w0.heap.size wg v' (r.xids ++ [x]).length ((r.xids ++ [x]).flatMap icell) := hg.row.cast (by simp) (by simp)
  exact ⟨(h.res.fr hg.fr (hne h.res (by decide))).fr fs (fun e => by have := h.gr; omega), (h.rd.fr hg.fr (hne h.rd (by decide))).fr fs (fun e => h.rd.ne_of_type h.rc (by decide) e), h.ok, (h.bp.fr hg.fr (hne h.bp (by decide))).fr fs (fun e => h.bp.ne_of_type h.rc (by decide) e), (h.bf.fr hg.fr (hne h.bf (by decide))).fr fs (fun e => h.bf.ne_of_type h.rc (by decide) e), rc'.set 6 v',
    o'.fr fs (fun k hk => o'.ne rc' (by decide) k hk), n'.fr fs (fun k hk => n'.ne rc' (by decide) k hk), e'.fr fs (fun k hk => e'.ne rc' (by decide) k hk), x'.fr fs (fun k hk => x'.ne rc' (by decide) k hk),
    (h.fr.trans hg.fr (fun k hk hl => by have := h.x.new k hk; omega)).trans fs (fun k hk hl => by have := h.gr; omega), h.gp, h.gq, h.gr⟩
theorem atE (h : RdS w0 W p q dr rm fits r vo vn ve vx) {n : Nat} {xs news : List Value} (hg : App 48 3 w0.heap.size W wg ve v' n xs news) : Blk wg q [.pointer (some ⟨p, 0, none⟩)] 51 ∧ Blk wg dr (rv r vo vn ve vx) 28 :=
  ⟨h.bp.fr hg.fr (fun hk => h.e.ne h.bp (by decide) _ hk rfl), h.rc.fr hg.fr (fun hk => h.e.ne h.rc (by decide) _ hk rfl)⟩
theorem atX (h : RdS w0 W p q dr rm fits r vo vn ve vx) {n : Nat} {xs news : List Value} (hg : App 3 1 w0.heap.size W wg vx v' n xs news) : Blk wg q [.pointer (some ⟨p, 0, none⟩)] 51 ∧ Blk wg dr (rv r vo vn ve vx) 28 :=
  ⟨h.bp.fr hg.fr (fun hk => h.x.ne h.bp (by decide) _ hk rfl), h.rc.fr hg.fr (fun hk => h.x.ne h.rc (by decide) _ hk rfl)⟩
theorem rv (h : RdS w0 W p q dr rm fits r vo vn ve vx) (lo : r.old.length ≤ 1099511627776) (ln : r.new.length ≤ 1099511627776) (le : r.edits.length ≤ 1099511627776) (lx : r.xids.length ≤ 1099511627776) : RV (fun k => w0.heap.size ≤ k ∧ k < W.heap.size) W r vo vn ve vx :=
  ⟨own_sl h.o.own (fun k hk => ⟨h.o.new k hk, h.o.lt hk⟩), own_sl h.n.own (fun k hk => ⟨h.n.new k hk, h.n.lt hk⟩), own_sl h.e.own (fun k hk => ⟨h.e.new k hk, h.e.lt hk⟩), own_sl h.x.own (fun k hk => ⟨h.x.new k hk, h.x.lt hk⟩), lo, ln, le, lx, fun _ h => h.2⟩
theorem fin (h : RdS w0 W p q dr rm fits r vo vn ve vx) (r' : R) (uo un ue ux : Value) : Blk (W.setCells w0.heap.size 0 (Go.Proofs.YtfhkmiifndhacaaDoor.rv r' uo un ue ux)) w0.heap.size (Go.Proofs.YtfhkmiifndhacaaDoor.rv r' uo un ue ux) 28 ∧ Fr (fun _ => False) w0 (W.setCells w0.heap.size 0 (Go.Proofs.YtfhkmiifndhacaaDoor.rv r' uo un ue ux)) ∧ Fr (fun k => k = w0.heap.size) W (W.setCells w0.heap.size 0 (Go.Proofs.YtfhkmiifndhacaaDoor.rv r' uo un ue ux)) := by
  have f := (Fr.refl (fun k => k = w0.heap.size) W).put w0.heap.size 0 (Go.Proofs.YtfhkmiifndhacaaDoor.rv r' uo un ue ux) (fun _ => rfl)
  exact ⟨h.res.put 0 (Go.Proofs.YtfhkmiifndhacaaDoor.rv r' uo un ue ux) (by simp [Go.Proofs.YtfhkmiifndhacaaDoor.rv]), h.fr.trans f (fun k hk hl => by have : k = w0.heap.size := hk; omega), f⟩
theorem finR (h : RdS w0 W p q dr rm fits r vo vn ve vx) {W' : World} (f : Fr (fun k => k = w0.heap.size) W W') (lo : r.old.length ≤ 1099511627776) (ln : r.new.length ≤ 1099511627776) (le : r.edits.length ≤ 1099511627776) (lx : r.xids.length ≤ 1099511627776) : RV (fun k => w0.heap.size ≤ k ∧ k < W'.heap.size) W' r vo vn ve vx := by
  have o' := h.o.fr f (fun k hk => h.o.ne h.res (by decide) k hk)
  have n' := h.n.fr f (fun k hk => h.n.ne h.res (by decide) k hk)
  have e' := h.e.fr f (fun k hk => h.e.ne h.res (by decide) k hk)
  have x' := h.x.fr f (fun k hk => h.x.ne h.res (by decide) k hk)
  exact ⟨own_sl o'.own (fun k hk => ⟨o'.new k hk, o'.lt hk⟩), own_sl n'.own (fun k hk => ⟨n'.new k hk, n'.lt hk⟩), own_sl e'.own (fun k hk => ⟨e'.new k hk, e'.lt hk⟩), own_sl x'.own (fun k hk => ⟨x'.new k hk, x'.lt hk⟩), lo, ln, le, lx, fun _ h => h.2⟩
end RdS
theorem size_Rec : (Tryd.prog.info? 28).map (·.size) = some 8 := by kernel_rfl
theorem RV_zero (P : Nat → Prop) (w : World) (hP : ∀ k, P k → k < w.heap.size) : RV P w R.zero (.slice none 0 0) (.slice none 0 0) (.slice none 0 0) (.slice none 0 0) :=
  ⟨⟨none, 0, rfl, Nat.le_refl _, fun h => absurd rfl h⟩, ⟨none, 0, rfl, Nat.le_refl _, fun h => absurd rfl h⟩, ⟨none, 0, rfl, Nat.le_refl _, fun h => absurd rfl h⟩, ⟨none, 0, rfl, Nat.le_refl _, fun h => absurd rfl h⟩, by simp [R.zero], by simp [R.zero], by simp [R.zero], by simp [R.zero], hP⟩
theorem rec_ret {fn : Func} (hf : fn.results = #[.cell 2 28, .tmp 3]) {W : World} {b : Nat} {r : R} {vo vn ve vx : Value} {e : Int} {tmps : Array Value} (hp : tmps.getD 2 undef = .pointer (some ⟨b, 0, none⟩)) (hu : tmps.getD 3 undef = .int .i64 e) (hb : Blk W b (rv r vo vn ve vx) 28) :
    (results fn tmps).run Tryd.prog W = .ok (.tuple #[.agg (rv r vo vn ve vx).toArray, .int .i64 e]) W := by
  have hp' := hp
  have hu' := hu
  rw [Array.getD_eq_getD_getElem?] at hp' hu'
  have := run_loadVar_mid (P := Tryd.prog) W b 0 28 (rv r vo vn ve vx) _ (Blk.all _ hb) Tryd.underlying28 rfl size_Rec
  simp [results, hf, hp', hu', asAddr, this]
theorem rec_cells {W : World} {b : Nat} {k x t : Int} {o n : List V} {ed : List E} {xs : List Int} {nt : List UInt8} {vo vn ve vx : Value} (h : Blk W b (rv ⟨k, x, t, o, n, ed, xs, nt⟩ vo vn ve vx) 28) :
    W.cell? ⟨b, 0, none⟩ = some (.int .i64 k) ∧ W.cell? ⟨b, 1, none⟩ = some (.int .i64 x) ∧ W.cell? ⟨b, 2, none⟩ = some (.int .i64 t) ∧ W.cell? ⟨b, 3, none⟩ = some vo ∧ W.cell? ⟨b, 4, none⟩ = some vn ∧ W.cell? ⟨b, 5, none⟩ = some ve ∧ W.cell? ⟨b, 6, none⟩ = some vx ∧ W.cell? ⟨b, 7, none⟩ = some (.string (bs nt)) :=
  ⟨h.cell 0, h.cell 1, h.cell 2, h.cell 3, h.cell 4, h.cell 5, h.cell 6, h.cell 7⟩
theorem info_edit : (Tryd.prog.info? 48).map (fun i => (i.zero, i.size, i.bytes)) = some (some (.agg #[.int .i64 0, .int .i64 0, .string .empty]), 3, 32) := by kernel_rfl
theorem edit_zcells : (Value.agg #[.int .i64 0, .int .i64 0, .string .empty]).cells.size = 3 := by kernel_rfl
theorem info_int : (Tryd.prog.info? 3).map (fun i => (i.zero, i.size, i.bytes)) = some (some (.int .i64 0), 1, 8) := by kernel_rfl
set_option maxRecDepth 20000 in
set_option maxHeartbeats 20000000 in
theorem RRead_go (s : List UInt8) (hs : s.length ≤ 1099511627776) (w : World) : Calls Tryd.prog 7 #[.string (bs s)] w fun e w' => ∃ vo vn ve vx, e = .returned (.tuple #[.agg (rv (readR s).1 vo vn ve vx).toArray, .int .i64 (readR s).2]) ∧ RV (fun k => w.heap.size ≤ k ∧ k < w'.heap.size) w' (readR s).1 vo vn ve vx ∧ Fr (fun _ => False) w w' := by
  have hmf : ∀ (fn : Fn) (first cap : Array Value) (w : World), (Instr.makeFunc fn first cap).run Tryd.prog w = .ok (.func fn first cap) w := fun _ _ _ _ => rfl
  have B0 := hid (Blk.new w (rv R.zero (.slice none 0 0) (.slice none 0 0) (.slice none 0 0) (.slice none 0 0)) 28)
  have F0 := hid ((Fr.refl (fun _ => False) w).alloc (.cells (rv R.zero (.slice none 0 0) (.slice none 0 0) (.slice none 0 0) (.slice none 0 0)).toArray 28))
  obtain ⟨m1, h1⟩ : ∃ m, (RM.new s).num 1 = m := ⟨_, rfl⟩
  obtain ⟨m2, h2⟩ : ∃ m, m1.1.num 1 = m := ⟨_, rfl⟩
  obtain ⟨m3, h3⟩ : ∃ m, m2.1.num 2 = m := ⟨_, rfl⟩
  obtain ⟨mo, ho⟩ : ∃ m, rowsM m3.1 true = m := ⟨_, rfl⟩
  obtain ⟨mn, hn⟩ : ∃ m, rowsM mo.1 mo.2.1 = m := ⟨_, rfl⟩
  obtain ⟨mc, hc⟩ : ∃ m, mn.1.num 1 = m := ⟨_, rfl⟩
  obtain ⟨me, he⟩ : ∃ m, editsAt mc.2 mc.1 = m := ⟨_, rfl⟩
  obtain ⟨md, hd⟩ : ∃ m, me.1.num 1 = m := ⟨_, rfl⟩
  obtain ⟨mx, hx⟩ : ∃ m, xidsAt md.2 md.1 = m := ⟨_, rfl⟩
  obtain ⟨mt, ht⟩ : ∃ m, mx.1.text = m := ⟨_, rfl⟩
  obtain ⟨res, hres⟩ : ∃ res, readR s = res := ⟨_, rfl⟩
  rw [hres]
  rw [readR_eq s h1 h2 h3 ho hn hc he hd hx ht] at hres
  have hlo : mo.2.2.length ≤ 6 := by rw [← ho]; exact rowsM_len _ _
  have hln : mn.2.2.length ≤ 6 := by rw [← hn]; exact rowsM_len _ _
  have hle : me.2.length ≤ 255 := by rw [← he, editsAt_len, ← hc]; have := RM.num_lt mn.1 1; omega
  have hlx : mx.2.length ≤ 255 := by rw [← hx, xidsAt_len, ← hd]; have := RM.num_lt me.1 1; omega
  have HLN := hid (show mo.2.2.length ≤ 1099511627776 ∧ mn.2.2.length ≤ 1099511627776 ∧ me.2.length ≤ 1099511627776 ∧ mx.2.length ≤ 1099511627776 from ⟨by omega, by omega, by omega, by omega⟩)
  have HRES := hid hres
  clear hlo hln hle hlx hres
  have M1 := hid h1
  clear h1
  have M2 := hid h2
  clear h2
  have M3 := hid h3
  clear h3
  have MO := hid ho
  clear ho
  have MN := hid hn
  clear hn
  have MC := hid hc
  clear hc
  have ME := hid he
  clear he
  have MD := hid hd
  clear hd
  have MX := hid hx
  clear hx
  have MT := hid ht
  clear ht
  go_enter Tryd.func7, Tryd.ntmps7
  go_wp2_with (first
    | (go_at_call 19; refine (ORead_go s _).mono ?_; rintro e w1 ⟨rfl, h1, f1⟩))
  have H0 : Hid (RdI w ((w1.alloc (.cells #[.pointer (some ⟨w.heap.size + 1, 0, none⟩)] 51)).alloc (.cells #[.bool true] 4)).drew (w.heap.size + 1) w1.heap.size (RM.new s)) := by
    have g1 : (w.alloc (.cells (rv R.zero (.slice none 0 0) (.slice none 0 0) (.slice none 0 0) (.slice none 0 0)).toArray 28)).heap.size = w.heap.size + 1 := World.size_alloc _ _
    have h1' : RdRep w1 (w.heap.size + 1) (RM.new s) := g1 ▸ h1
    have f1' : Fr (fun _ => False) (w.alloc (.cells (rv R.zero (.slice none 0 0) (.slice none 0 0) (.slice none 0 0) (.slice none 0 0)).toArray 28)) w1 := f1
    have fa := (((Fr.refl (fun _ => False) w1).alloc (.cells #[.pointer (some ⟨w.heap.size + 1, 0, none⟩)] 51)).alloc (.cells #[.bool true] 4)).drew
    have b1 := (Blk.new w1 [.pointer (some ⟨w.heap.size + 1, 0, none⟩)] 51).alloc (.cells #[.bool true] 4)
    have b2 := Blk.new (w1.alloc (.cells #[.pointer (some ⟨w.heap.size + 1, 0, none⟩)] 51)) [.bool true] 4
    rw [World.size_alloc] at b2
    exact hid ⟨(B0.out.fr f1' (fun h => h)).fr fa (fun h => h), h1'.fre fa, ⟨Nat.zero_le _, hs⟩, b1.drew, b2.drew, (F0.out.trans f1' (fun _ h _ => h)).trans fa (fun _ h _ => h), by omega, by have := h1'.lt; omega⟩
  clear B0 F0 h1 f1
  generalize hW0 : ((w1.alloc (.cells #[.pointer (some ⟨w.heap.size + 1, 0, none⟩)] 51)).alloc (.cells #[.bool true] 4)) = W0 at *
  generalize w1.heap.size = q at *
  generalize w.heap.size + 1 = p at *
  clear hW0
  go_cut [7] (fun s7 wx => ∃ dr, s7 = .pointer (some ⟨dr, 0, none⟩) ∧ RdS w wx p q dr (m3.1) true ⟨m1.2, m2.2, m3.2, [], [], [], [], []⟩ (.slice none 0 0) (.slice none 0 0) (.slice none 0 0) (.slice none 0 0))
  case first =>
    refine wp_region_scr (.take 0 (.take 2 (.take 4 (.two 1 7 (.two 3 7 (.two 5 7 (.two 6 7 (.op 7 (.op 8 .done)) (.op 6 (.op 8 .done))) (.op 5 (.op 6 (.op 8 .done)))) (.op 3 (.op 5 (.op 6 (.op 8 .done))))) (.op 1 (.op 3 (.op 5 (.op 6 (.op 8 .done))))))))) (fun kz w => (kz ≤ 8 → w.cell? ⟨q, 0, none⟩ = some (.pointer (some ⟨p, 0, none⟩))) ∧ True) (by kernel_rfl) (by kernel_rfl) (by intro c a d v w h; cases d <;> exact h) ?_
    repeat
      first
      | (refine wpT_pure rfl rfl rfl ?_; apply Exists.intro; refine ⟨?_, ?_⟩; intro w; ((go_simp <;> rfl)); simp only [Act.put, List.setIfInBounds_toArray, List.set_cons_zero, List.set_cons_succ])
      | (refine wpT_take 8 rfl rfl (by decide +kernel) ⟨fun _ => H0.out.bp.cell 0, trivial⟩ ?_; apply Exists.intro; refine ⟨?_, ?_⟩; intro w hw; (have qa := hw.1 (Nat.le_refl _); have qb := hw.2); ((go_simp <;> rfl)); simp only [Act.put, List.setIfInBounds_toArray, List.set_cons_zero, List.set_cons_succ])
      | (refine wpT_skip rfl rfl ?_; simp only [Act.put, List.setIfInBounds_toArray, List.set_cons_zero, List.set_cons_succ])
    refine wpT_two ?_ ?_
    focus
      refine wpT_op rfl ?_
      go_wp2_with ((go_at_call 23; refine (H0.out.num 1 (by omega) M1.out).mono ?_; rintro e w21 ⟨rfl, h, f⟩; have H1 := hid h; clear h f))
      (refine ⟨?_, ?_⟩; focus (intro kz hk hk2 hh; first | (exfalso; simp at hk2; omega) | exact hh | exact (fun h => absurd h (by omega)) | obtain ⟨qa, qb⟩ := hh; first | exact ⟨qa, qb⟩ | (refine ⟨fun h => absurd h (by omega), ?_⟩; first | exact qb | (exact H1.out.bp.cell 0)) | (refine ⟨fun h => ?_, ?_⟩; (have qa := qa h); all_goals (first | exact qa | exact qb | (exact H1.out.bp.cell 0)))))
      refine wpT_two ?_ ?_
      focus
        refine wpT_op rfl ?_
        go_wp2_with ((go_at_call 23; refine (H1.out.num 1 (by omega) M2.out).mono ?_; rintro e w22 ⟨rfl, h, f⟩; have H2 := hid h; clear h f))
        (refine ⟨?_, ?_⟩; focus (intro kz hk hk2 hh; first | (exfalso; simp at hk2; omega) | exact hh | exact (fun h => absurd h (by omega)) | obtain ⟨qa, qb⟩ := hh; first | exact ⟨qa, qb⟩ | (refine ⟨fun h => absurd h (by omega), ?_⟩; first | exact qb | (exact H2.out.bp.cell 0)) | (refine ⟨fun h => ?_, ?_⟩; (have qa := qa h); all_goals (first | exact qa | exact qb | (exact H2.out.bp.cell 0)))))
        refine wpT_two ?_ ?_
        focus
          refine wpT_op rfl ?_
          go_wp2_with ((go_at_call 23; refine (H2.out.num 2 (by omega) M3.out).mono ?_; rintro e w23 ⟨rfl, h, f⟩; have H3 := hid h; clear h f))
          (refine ⟨?_, ?_⟩; focus (intro kz hk hk2 hh; first | (exfalso; simp at hk2; omega) | exact hh | exact (fun h => absurd h (by omega)) | obtain ⟨qa, qb⟩ := hh; first | exact ⟨qa, qb⟩ | (refine ⟨fun h => absurd h (by omega), ?_⟩; first | exact qb | (exact H3.out.bp.cell 0)) | (refine ⟨fun h => ?_, ?_⟩; (have qa := qa h); all_goals (first | exact qa | exact qb | (exact H3.out.bp.cell 0)))))
          refine wpT_two ?_ ?_
          focus
            refine wpT_op rfl ?_
            go_wp2_with (fail)
            (refine ⟨?_, ?_⟩; focus (intro kz hk hk2 hh; first | (exfalso; simp at hk2; omega) | exact hh | exact (fun h => absurd h (by omega)) | obtain ⟨qa, qb⟩ := hh; first | exact ⟨qa, qb⟩ | (refine ⟨fun h => absurd h (by omega), ?_⟩; first | exact qb | (exact qa)) | (refine ⟨fun h => ?_, ?_⟩; (have qa := qa h); all_goals (first | exact qa | exact qb | (exact qa)))))
            refine wpT_op rfl ?_
            go_wp2_with (fail)
            (refine ⟨?_, ?_⟩; focus (intro kz hk hk2 hh; first | (exfalso; simp at hk2; omega) | exact hh | exact (fun h => absurd h (by omega)) | obtain ⟨qa, qb⟩ := hh; first | exact ⟨qa, qb⟩ | (refine ⟨fun h => absurd h (by omega), ?_⟩; first | exact qb | (exact cell_fr qa ((Fr.refl (fun _ => False) _).alloc _) (fun h => h))) | (refine ⟨fun h => ?_, ?_⟩; (have qa := qa h); all_goals (first | exact qa | exact qb | (exact cell_fr qa ((Fr.refl (fun _ => False) _).alloc _) (fun h => h))))))
            have H5 := hid H3.out.new
            have FIN := hid (H5.out.all m1.2 m2.2 m3.2)
            have hth := H5.out.rc.there 0 8 (by simp [rv])
            refine wpT_op rfl ?_
            refine wpList_store_mid rfl 28 (.tmp 7) (.tmp 19) rfl _ 0 (rv ⟨m1.2, m2.2, m3.2, [], [], [], [], []⟩ (.slice none 0 0) (.slice none 0 0) (.slice none 0 0) (.slice none 0 0)).toArray rfl rfl hth size_Rec (by simp [Value.oneCell', rv]) ?_
            rw [List.toList_toArray]
            go_wp2_with (fail)
            refine ⟨fun kz hk hk2 hh => ⟨fun _ => FIN.out.bp.cell 0, trivial⟩, ?_⟩
            clear hth
            refine wpT_nil ?_
            go_wp2_with (fail)
            go_meet
            exact ⟨_, rfl, FIN.out⟩
          focus
            refine wpT_op rfl ?_
            go_wp2_with (fail)
            (refine ⟨?_, ?_⟩; focus (intro kz hk hk2 hh; first | (exfalso; simp at hk2; omega) | exact hh | exact (fun h => absurd h (by omega)) | obtain ⟨qa, qb⟩ := hh; first | exact ⟨qa, qb⟩ | (refine ⟨fun h => absurd h (by omega), ?_⟩; first | exact qb | (exact cell_fr qa ((Fr.refl (fun _ => False) _).alloc _) (fun h => h))) | (refine ⟨fun h => ?_, ?_⟩; (have qa := qa h); all_goals (first | exact qa | exact qb | (exact cell_fr qa ((Fr.refl (fun _ => False) _).alloc _) (fun h => h))))))
            have H4 := hid H3.out.new
            refine wpT_op rfl ?_
            go_wp2_with (fail)
            (refine ⟨?_, ?_⟩; focus (intro kz hk hk2 hh; first | (exfalso; simp at hk2; omega) | exact hh | exact (fun h => absurd h (by omega)) | obtain ⟨qa, qb⟩ := hh; first | exact ⟨qa, qb⟩ | (refine ⟨fun h => absurd h (by omega), ?_⟩; first | exact qb | (exact qa)) | (refine ⟨fun h => ?_, ?_⟩; (have qa := qa h); all_goals (first | exact qa | exact qb | (exact qa)))))
            have FIN := hid (H4.out.all m1.2 m2.2 m3.2)
            have hth := H4.out.rc.there 0 8 (by simp [rv])
            refine wpT_op rfl ?_
            refine wpList_store_mid rfl 28 (.tmp 7) (.tmp 19) rfl _ 0 (rv ⟨m1.2, m2.2, m3.2, [], [], [], [], []⟩ (.slice none 0 0) (.slice none 0 0) (.slice none 0 0) (.slice none 0 0)).toArray rfl rfl hth size_Rec (by simp [Value.oneCell', rv]) ?_
            rw [List.toList_toArray]
            go_wp2_with (fail)
            refine ⟨fun kz hk hk2 hh => ⟨fun _ => FIN.out.bp.cell 0, trivial⟩, ?_⟩
            clear hth
            refine wpT_nil ?_
            go_wp2_with (fail)
            go_meet
            exact ⟨_, rfl, FIN.out⟩
        focus
          refine wpT_op rfl ?_
          go_wp2_with (fail)
          (refine ⟨?_, ?_⟩; focus (intro kz hk hk2 hh; first | (exfalso; simp at hk2; omega) | exact hh | exact (fun h => absurd h (by omega)) | obtain ⟨qa, qb⟩ := hh; first | exact ⟨qa, qb⟩ | (refine ⟨fun h => absurd h (by omega), ?_⟩; first | exact qb | (exact cell_fr qa ((Fr.refl (fun _ => False) _).alloc _) (fun h => h))) | (refine ⟨fun h => ?_, ?_⟩; (have qa := qa h); all_goals (first | exact qa | exact qb | (exact cell_fr qa ((Fr.refl (fun _ => False) _).alloc _) (fun h => h))))))
          have H3 := hid H2.out.new
          refine wpT_op rfl ?_
          go_wp2_with ((go_at_call 23; refine (H3.out.num 2 (by omega) M3.out).mono ?_; rintro e w24 ⟨rfl, h, f⟩; have H4 := hid h; clear h f))
          (refine ⟨?_, ?_⟩; focus (intro kz hk hk2 hh; first | (exfalso; simp at hk2; omega) | exact hh | exact (fun h => absurd h (by omega)) | obtain ⟨qa, qb⟩ := hh; first | exact ⟨qa, qb⟩ | (refine ⟨fun h => absurd h (by omega), ?_⟩; first | exact qb | (exact H4.out.bp.cell 0)) | (refine ⟨fun h => ?_, ?_⟩; (have qa := qa h); all_goals (first | exact qa | exact qb | (exact H4.out.bp.cell 0)))))
          refine wpT_op rfl ?_
          go_wp2_with (fail)
          (refine ⟨?_, ?_⟩; focus (intro kz hk hk2 hh; first | (exfalso; simp at hk2; omega) | exact hh | exact (fun h => absurd h (by omega)) | obtain ⟨qa, qb⟩ := hh; first | exact ⟨qa, qb⟩ | (refine ⟨fun h => absurd h (by omega), ?_⟩; first | exact qb | (exact qa)) | (refine ⟨fun h => ?_, ?_⟩; (have qa := qa h); all_goals (first | exact qa | exact qb | (exact qa)))))
          have FIN := hid (H4.out.all m1.2 m2.2 m3.2)
          have hth := H4.out.rc.there 0 8 (by simp [rv])
          refine wpT_op rfl ?_
          refine wpList_store_mid rfl 28 (.tmp 7) (.tmp 19) rfl _ 0 (rv ⟨m1.2, m2.2, m3.2, [], [], [], [], []⟩ (.slice none 0 0) (.slice none 0 0) (.slice none 0 0) (.slice none 0 0)).toArray rfl rfl hth size_Rec (by simp [Value.oneCell', rv]) ?_
          rw [List.toList_toArray]
          go_wp2_with (fail)
          refine ⟨fun kz hk hk2 hh => ⟨fun _ => FIN.out.bp.cell 0, trivial⟩, ?_⟩
          clear hth
          refine wpT_nil ?_
          go_wp2_with (fail)
          go_meet
          exact ⟨_, rfl, FIN.out⟩
      focus
        refine wpT_op rfl ?_
        go_wp2_with (fail)
        (refine ⟨?_, ?_⟩; focus (intro kz hk hk2 hh; first | (exfalso; simp at hk2; omega) | exact hh | exact (fun h => absurd h (by omega)) | obtain ⟨qa, qb⟩ := hh; first | exact ⟨qa, qb⟩ | (refine ⟨fun h => absurd h (by omega), ?_⟩; first | exact qb | (exact cell_fr qa ((Fr.refl (fun _ => False) _).alloc _) (fun h => h))) | (refine ⟨fun h => ?_, ?_⟩; (have qa := qa h); all_goals (first | exact qa | exact qb | (exact cell_fr qa ((Fr.refl (fun _ => False) _).alloc _) (fun h => h))))))
        have H2 := hid H1.out.new
        refine wpT_op rfl ?_
        go_wp2_with ((go_at_call 23; refine (H2.out.num 1 (by omega) M2.out).mono ?_; rintro e w23 ⟨rfl, h, f⟩; have H3 := hid h; clear h f))
        (refine ⟨?_, ?_⟩; focus (intro kz hk hk2 hh; first | (exfalso; simp at hk2; omega) | exact hh | exact (fun h => absurd h (by omega)) | obtain ⟨qa, qb⟩ := hh; first | exact ⟨qa, qb⟩ | (refine ⟨fun h => absurd h (by omega), ?_⟩; first | exact qb | (exact H3.out.bp.cell 0)) | (refine ⟨fun h => ?_, ?_⟩; (have qa := qa h); all_goals (first | exact qa | exact qb | (exact H3.out.bp.cell 0)))))
        refine wpT_op rfl ?_
        go_wp2_with ((go_at_call 23; refine (H3.out.num 2 (by omega) M3.out).mono ?_; rintro e w24 ⟨rfl, h, f⟩; have H4 := hid h; clear h f))
        (refine ⟨?_, ?_⟩; focus (intro kz hk hk2 hh; first | (exfalso; simp at hk2; omega) | exact hh | exact (fun h => absurd h (by omega)) | obtain ⟨qa, qb⟩ := hh; first | exact ⟨qa, qb⟩ | (refine ⟨fun h => absurd h (by omega), ?_⟩; first | exact qb | (exact H4.out.bp.cell 0)) | (refine ⟨fun h => ?_, ?_⟩; (have qa := qa h); all_goals (first | exact qa | exact qb | (exact H4.out.bp.cell 0)))))
        refine wpT_op rfl ?_
        go_wp2_with (fail)
        (refine ⟨?_, ?_⟩; focus (intro kz hk hk2 hh; first | (exfalso; simp at hk2; omega) | exact hh | exact (fun h => absurd h (by omega)) | obtain ⟨qa, qb⟩ := hh; first | exact ⟨qa, qb⟩ | (refine ⟨fun h => absurd h (by omega), ?_⟩; first | exact qb | (exact qa)) | (refine ⟨fun h => ?_, ?_⟩; (have qa := qa h); all_goals (first | exact qa | exact qb | (exact qa)))))
        have FIN := hid (H4.out.all m1.2 m2.2 m3.2)
        have hth := H4.out.rc.there 0 8 (by simp [rv])
        refine wpT_op rfl ?_
        refine wpList_store_mid rfl 28 (.tmp 7) (.tmp 19) rfl _ 0 (rv ⟨m1.2, m2.2, m3.2, [], [], [], [], []⟩ (.slice none 0 0) (.slice none 0 0) (.slice none 0 0) (.slice none 0 0)).toArray rfl rfl hth size_Rec (by simp [Value.oneCell', rv]) ?_
        rw [List.toList_toArray]
        go_wp2_with (fail)
        refine ⟨fun kz hk hk2 hh => ⟨fun _ => FIN.out.bp.cell 0, trivial⟩, ?_⟩
        clear hth
        refine wpT_nil ?_
        go_wp2_with (fail)
        go_meet
        exact ⟨_, rfl, FIN.out⟩
    focus
      refine wpT_op rfl ?_
      go_wp2_with (fail)
      (refine ⟨?_, ?_⟩; focus (intro kz hk hk2 hh; first | (exfalso; simp at hk2; omega) | exact hh | exact (fun h => absurd h (by omega)) | obtain ⟨qa, qb⟩ := hh; first | exact ⟨qa, qb⟩ | (refine ⟨fun h => absurd h (by omega), ?_⟩; first | exact qb | (exact cell_fr qa ((Fr.refl (fun _ => False) _).alloc _) (fun h => h))) | (refine ⟨fun h => ?_, ?_⟩; (have qa := qa h); all_goals (first | exact qa | exact qb | (exact cell_fr qa ((Fr.refl (fun _ => False) _).alloc _) (fun h => h))))))
      have H1 := hid H0.out.new
      refine wpT_op rfl ?_
      go_wp2_with ((go_at_call 23; refine (H1.out.num 1 (by omega) M1.out).mono ?_; rintro e w22 ⟨rfl, h, f⟩; have H2 := hid h; clear h f))
      (refine ⟨?_, ?_⟩; focus (intro kz hk hk2 hh; first | (exfalso; simp at hk2; omega) | exact hh | exact (fun h => absurd h (by omega)) | obtain ⟨qa, qb⟩ := hh; first | exact ⟨qa, qb⟩ | (refine ⟨fun h => absurd h (by omega), ?_⟩; first | exact qb | (exact H2.out.bp.cell 0)) | (refine ⟨fun h => ?_, ?_⟩; (have qa := qa h); all_goals (first | exact qa | exact qb | (exact H2.out.bp.cell 0)))))
      refine wpT_op rfl ?_
      go_wp2_with ((go_at_call 23; refine (H2.out.num 1 (by omega) M2.out).mono ?_; rintro e w23 ⟨rfl, h, f⟩; have H3 := hid h; clear h f))
      (refine ⟨?_, ?_⟩; focus (intro kz hk hk2 hh; first | (exfalso; simp at hk2; omega) | exact hh | exact (fun h => absurd h (by omega)) | obtain ⟨qa, qb⟩ := hh; first | exact ⟨qa, qb⟩ | (refine ⟨fun h => absurd h (by omega), ?_⟩; first | exact qb | (exact H3.out.bp.cell 0)) | (refine ⟨fun h => ?_, ?_⟩; (have qa := qa h); all_goals (first | exact qa | exact qb | (exact H3.out.bp.cell 0)))))
      refine wpT_op rfl ?_
      go_wp2_with ((go_at_call 23; refine (H3.out.num 2 (by omega) M3.out).mono ?_; rintro e w24 ⟨rfl, h, f⟩; have H4 := hid h; clear h f))
      (refine ⟨?_, ?_⟩; focus (intro kz hk hk2 hh; first | (exfalso; simp at hk2; omega) | exact hh | exact (fun h => absurd h (by omega)) | obtain ⟨qa, qb⟩ := hh; first | exact ⟨qa, qb⟩ | (refine ⟨fun h => absurd h (by omega), ?_⟩; first | exact qb | (exact H4.out.bp.cell 0)) | (refine ⟨fun h => ?_, ?_⟩; (have qa := qa h); all_goals (first | exact qa | exact qb | (exact H4.out.bp.cell 0)))))
      refine wpT_op rfl ?_
      go_wp2_with (fail)
      (refine ⟨?_, ?_⟩; focus (intro kz hk hk2 hh; first | (exfalso; simp at hk2; omega) | exact hh | exact (fun h => absurd h (by omega)) | obtain ⟨qa, qb⟩ := hh; first | exact ⟨qa, qb⟩ | (refine ⟨fun h => absurd h (by omega), ?_⟩; first | exact qb | (exact qa)) | (refine ⟨fun h => ?_, ?_⟩; (have qa := qa h); all_goals (first | exact qa | exact qb | (exact qa)))))
      have FIN := hid (H4.out.all m1.2 m2.2 m3.2)
      have hth := H4.out.rc.there 0 8 (by simp [rv])
      refine wpT_op rfl ?_
      refine wpList_store_mid rfl 28 (.tmp 7) (.tmp 19) rfl _ 0 (rv ⟨m1.2, m2.2, m3.2, [], [], [], [], []⟩ (.slice none 0 0) (.slice none 0 0) (.slice none 0 0) (.slice none 0 0)).toArray rfl rfl hth size_Rec (by simp [Value.oneCell', rv]) ?_
      rw [List.toList_toArray]
      go_wp2_with (fail)
      refine ⟨fun kz hk hk2 hh => ⟨fun _ => FIN.out.bp.cell 0, trivial⟩, ?_⟩
      clear hth
      refine wpT_nil ?_
      go_wp2_with (fail)
      go_meet
      exact ⟨_, rfl, FIN.out⟩
  case rest =>
  obtain ⟨dr, rfl, hS⟩ := hcut
  have H1 := hid hS
  clear hS H0 M1 M2 M3
  go_upto_region 6 with (go_at_call 20; refine (H1.out.rows MO.out).mono ?_; rintro e w2 ⟨vo, rfl, hro, h⟩; have H2 := hid h; have RO := hid hro; clear h hro H1; have c3 : w2.cell? ⟨dr, 3, none⟩ = some (.slice none 0 0) := H2.out.rc.cell 3; have z3 := H2.out.rc.frozen 3; obtain ⟨ao, co, rfl, _⟩ := RO.out.slice)
  have H3 := hid (H2.out.put 3 _ ⟨m1.2, m2.2, m3.2, mo.2.2, [], [], [], []⟩ _ _ _ _ rfl RO.out H2.out.n H2.out.e H2.out.x)
  clear H2 RO MO c3 z3
  generalize w2.setCell _ _ = w2 at *
  go_upto_region 7 with (go_at_call 20; refine (H3.out.rows MN.out).mono ?_; rintro e w3 ⟨vn, rfl, hrn, h⟩; have H4 := hid h; have RN := hid hrn; clear h hrn H3; have c3 : w3.cell? ⟨dr, 4, none⟩ = some (.slice none 0 0) := H4.out.rc.cell 4; have z3 := H4.out.rc.frozen 4; obtain ⟨an, cn, rfl, _⟩ := RN.out.slice)
  have H5 := hid (H4.out.put 4 _ ⟨m1.2, m2.2, m3.2, mo.2.2, mn.2.2, [], [], []⟩ _ _ _ _ rfl H4.out.o RN.out H4.out.e H4.out.x)
  clear H4 RN MN c3 z3
  generalize w3.setCell _ _ = w3 at *
  have q5 := H5.out.bp.cell 0
  go_wp2_with (first
    | (go_at_call 23; refine (H5.out.num 1 (by omega) MC.out).mono ?_; rintro e w4 ⟨rfl, h, _⟩; have H6 := hid h; clear h H5 q5))
  have hcb : mc.2 < 256 := by rw [← MC.out]; exact RM.num_lt _ 1
  go_loopw [28] (fun i wr => ∃ (j : Nat) (ve : Value), j ≤ mc.2 ∧ i = .int .i64 j ∧ RdS w wr p q dr (editsAt j mc.1).1 mn.2.1 ⟨m1.2, m2.2, m3.2, mo.2.2, mn.2.2, (editsAt j mc.1).2, [], []⟩ (.slice ao mo.2.2.length co) (.slice an mn.2.2.length cn) ve (.slice none 0 0)) (fun i _ => mc.2 - (intOf i).toNat)
  case atStart => exact ⟨0, _, by omega, rfl, H6.out⟩
  case round =>
    obtain ⟨j, ve, hj, rfl, h7⟩ := hrel
    have H7 := hid h7
    clear h7 H6
    by_cases hjn : j < mc.2
    · obtain ⟨n1, g1⟩ : ∃ m, (editsAt j mc.1).1.num 2 = m := ⟨_, rfl⟩
      obtain ⟨n2, g2⟩ : ∃ m, n1.1.num 1 = m := ⟨_, rfl⟩
      obtain ⟨n3, g3⟩ : ∃ m, n2.1.text = m := ⟨_, rfl⟩
      have HST := hid (show editsAt (j + 1) mc.1 = (n3.1, (editsAt j mc.1).2 ++ [⟨n1.2, n2.2 - 1, n3.2⟩]) by subst g1 g2 g3; rfl)
      have hel := editsAt_len mc.1 j
      generalize editsAt j mc.1 = ej at *
      have N1 := hid g1
      have N2 := hid g2
      have N3 := hid g3
      have HEL := hid hel
      clear g1 g2 g3 hel
      obtain ⟨ae, ce, hve, _⟩ := H7.out.e.slice
      dsimp only at hve
      subst hve
      go_upto_region 9 with fail
      replace H7 := hid (H7.out.fre ((Fr.refl (fun _ => False) wr).drew))
      refine wp_region_scr (.take 0 (.take 1 (.take 2 (.take 4 (.take 7 (.op 3 (.op 5 (.take 6 (.op 8 (.op 9 (.op 10 (.op 11 (.take 12 .done))))))))))))) (fun kz w => (kz ≤ 12 → w.cell? ⟨q, 0, none⟩ = some (.pointer (some ⟨p, 0, none⟩))) ∧ w.cell? ⟨dr, 5, none⟩ = some (.slice ae ej.2.length ce)) (by kernel_rfl) (by kernel_rfl) (by intro c a d v w h; cases d <;> exact h) ?_
      repeat
        first
        | (refine wpT_pure rfl rfl rfl ?_; apply Exists.intro; refine ⟨?_, ?_⟩; intro w; ((go_simp <;> rfl)); simp only [Act.put, List.setIfInBounds_toArray, List.set_cons_zero, List.set_cons_succ])
        | (refine wpT_take 12 rfl rfl (by decide +kernel) ⟨fun _ => H7.out.bp.cell 0, H7.out.rc.cell 5⟩ ?_; apply Exists.intro; refine ⟨?_, ?_⟩; intro w hw; (have qa := hw.1 (Nat.le_refl _); have qb := hw.2); ((go_simp <;> rfl)); simp only [Act.put, List.setIfInBounds_toArray, List.set_cons_zero, List.set_cons_succ])
        | (refine wpT_skip rfl rfl ?_; simp only [Act.put, List.setIfInBounds_toArray, List.set_cons_zero, List.set_cons_succ])
      have hb1 : n1.2 < 65536 := by rw [← N1.out]; exact RM.num_lt _ 2
      have hb2 : n2.2 < 256 := by rw [← N2.out]; exact RM.num_lt _ 1
      refine wpT_op rfl ?_
      go_wp2_with ((go_at_call 23; refine (H7.out.num 2 (by omega) N1.out).mono ?_; rintro e w8 ⟨rfl, h, _⟩; have H8 := hid h; clear h H7))
      (refine ⟨?_, ?_⟩; focus (intro kz hk hk2 hh; first | (exfalso; simp at hk2; omega) | exact hh | exact (fun h => absurd h (by omega)) | obtain ⟨qa, qb⟩ := hh; first | exact ⟨qa, qb⟩ | (refine ⟨fun h => absurd h (by omega), ?_⟩; first | exact qb | (first | exact H8.out.bp.cell 0 | exact H8.out.rc.cell 5)) | (refine ⟨fun h => ?_, ?_⟩; (have qa := qa h); all_goals (first | exact qa | exact qb | (first | exact H8.out.bp.cell 0 | exact H8.out.rc.cell 5)))))
      refine wpT_op rfl ?_
      go_wp2_with ((go_at_call 23; refine (H8.out.num 1 (by omega) N2.out).mono ?_; rintro e w9 ⟨rfl, h, _⟩; have H9 := hid h; clear h H8))
      (refine ⟨?_, ?_⟩; focus (intro kz hk hk2 hh; first | (exfalso; simp at hk2; omega) | exact hh | exact (fun h => absurd h (by omega)) | obtain ⟨qa, qb⟩ := hh; first | exact ⟨qa, qb⟩ | (refine ⟨fun h => absurd h (by omega), ?_⟩; first | exact qb | (first | exact H9.out.bp.cell 0 | exact H9.out.rc.cell 5)) | (refine ⟨fun h => ?_, ?_⟩; (have qa := qa h); all_goals (first | exact qa | exact qb | (first | exact H9.out.bp.cell 0 | exact H9.out.rc.cell 5)))))
      repeat
        first
        | (refine wpT_pure rfl rfl rfl ?_; apply Exists.intro; refine ⟨?_, ?_⟩; intro w; ((go_simp <;> rfl)); simp only [Act.put, List.setIfInBounds_toArray, List.set_cons_zero, List.set_cons_succ])
        | (refine wpT_take 12 rfl rfl (by decide +kernel) ⟨fun _ => H9.out.bp.cell 0, H9.out.rc.cell 5⟩ ?_; apply Exists.intro; refine ⟨?_, ?_⟩; intro w hw; (have qa := hw.1 (Nat.le_refl _); have qb := hw.2); ((go_simp <;> rfl)); simp only [Act.put, List.setIfInBounds_toArray, List.set_cons_zero, List.set_cons_succ])
        | (refine wpT_skip rfl rfl ?_; simp only [Act.put, List.setIfInBounds_toArray, List.set_cons_zero, List.set_cons_succ])
      refine wpT_op rfl ?_
      go_wp2_with ((go_at_call 21; refine (H9.out.text N3.out).mono ?_; rintro e wA ⟨rfl, h, _⟩; have HA := hid h; clear h H9))
      (refine ⟨?_, ?_⟩; focus (intro kz hk hk2 hh; first | (exfalso; simp at hk2; omega) | exact hh | exact (fun h => absurd h (by omega)) | obtain ⟨qa, qb⟩ := hh; first | exact ⟨qa, qb⟩ | (refine ⟨fun h => absurd h (by omega), ?_⟩; first | exact qb | (first | exact HA.out.bp.cell 0 | exact HA.out.rc.cell 5)) | (refine ⟨fun h => ?_, ?_⟩; (have qa := qa h); all_goals (first | exact qa | exact qb | (first | exact HA.out.bp.cell 0 | exact HA.out.rc.cell 5)))))
      refine wpT_op rfl ?_
      go_wp2_with (fail)
      (refine ⟨?_, ?_⟩; focus (intro kz hk hk2 hh; first | (exfalso; simp at hk2; omega) | exact hh | exact (fun h => absurd h (by omega)) | obtain ⟨qa, qb⟩ := hh; first | exact ⟨qa, qb⟩ | (refine ⟨fun h => absurd h (by omega), ?_⟩; first | exact qb | (exact qa)) | (refine ⟨fun h => ?_, ?_⟩; (have qa := qa h); all_goals (first | exact qa | exact qb | (exact qa)))))
      refine wpT_op rfl ?_
      go_wp2_with (fail)
      (refine ⟨?_, ?_⟩; focus (intro kz hk hk2 hh; first | (exfalso; simp at hk2; omega) | exact hh | exact (fun h => absurd h (by omega)) | obtain ⟨qa, qb⟩ := hh; first | exact ⟨qa, qb⟩ | (refine ⟨fun h => absurd h (by omega), ?_⟩; first | exact qb | (first | exact cell_fr qa ((Fr.refl (fun _ => False) _).alloc _) (fun h => h) | exact cell_fr qb ((Fr.refl (fun _ => False) _).alloc _) (fun h => h))) | (refine ⟨fun h => ?_, ?_⟩; (have qa := qa h); all_goals (first | exact qa | exact qb | (first | exact cell_fr qa ((Fr.refl (fun _ => False) _).alloc _) (fun h => h) | exact cell_fr qb ((Fr.refl (fun _ => False) _).alloc _) (fun h => h))))))
      refine wpT_op rfl ?_
      refine wpList_app1 rfl (s := .tmp 31) (x := .tmp 40) (t := 26) rfl Tryd.underlying26 info_edit edit_zcells rfl rfl HA.out.e HA.out.fr.size rfl (by simp [Value.oneCell']) (by have := HEL.out; dsimp only; omega) (by have := HEL.out; dsimp only; omega) ?_
      intro ab ac wg APP
      obtain ⟨hq7, hr7⟩ := HA.out.atE APP
      have HQ7 := hid hq7
      have HR7 := hid hr7
      clear hq7 hr7
      go_wp2_with (fail)
      refine ⟨fun kz hk hk2 hh => ⟨fun _ => HQ7.out.cell 0, HR7.out.cell 5⟩, ?_⟩
      repeat
        first
        | (refine wpT_pure rfl rfl rfl ?_; apply Exists.intro; refine ⟨?_, ?_⟩; intro w; ((go_simp <;> rfl)); simp only [Act.put, List.setIfInBounds_toArray, List.set_cons_zero, List.set_cons_succ])
        | (refine wpT_take 12 rfl rfl (by decide +kernel) ⟨fun _ => HQ7.out.cell 0, HR7.out.cell 5⟩ ?_; apply Exists.intro; refine ⟨?_, ?_⟩; intro w hw; (have qa := hw.1 (Nat.le_refl _); have qb := hw.2); ((go_simp <;> rfl)); simp only [Act.put, List.setIfInBounds_toArray, List.set_cons_zero, List.set_cons_succ])
        | (refine wpT_skip rfl rfl ?_; simp only [Act.put, List.setIfInBounds_toArray, List.set_cons_zero, List.set_cons_succ])
      refine wpT_nil ?_
      have c5 : wg.cell? ⟨dr, 5, none⟩ = some (.slice ae ej.2.length ce) := HR7.out.cell 5
      have z5 := HR7.out.frozen 5
      go_wp2_with (fail)
      go_roundw
      case rel => exact ⟨j + 1, _, by omega, by simp, by rw [HST.out]; exact HA.out.growE APP⟩
      case measure => simp [intOf]; omega
    · obtain rfl : j = mc.2 := by omega
      have h7 := H7.out
      rw [ME.out] at h7
      obtain ⟨ae, ce, hve, _⟩ := h7.e.slice
      dsimp only at hve
      subst hve
      replace H7 := hid h7
      clear h7 ME MC hcb
      have q5 := H7.out.bp.cell 0
      go_wp2_with (first
        | (go_at_call 23; refine (H7.out.num 1 (by omega) MD.out).mono ?_; rintro e w8 ⟨rfl, h, _⟩; have H8 := hid h; clear h H7 q5))
      have hdb : md.2 < 256 := by rw [← MD.out]; exact RM.num_lt _ 1
      go_loopw [47] (fun i wr => ∃ (j : Nat) (vx : Value), j ≤ md.2 ∧ i = .int .i64 j ∧ RdS w wr p q dr (xidsAt j md.1).1 mn.2.1 ⟨m1.2, m2.2, m3.2, mo.2.2, mn.2.2, me.2, (xidsAt j md.1).2, []⟩ (.slice ao mo.2.2.length co) (.slice an mn.2.2.length cn) (.slice ae me.2.length ce) vx) (fun i _ => md.2 - (intOf i).toNat)
      case atStart => exact ⟨0, _, by omega, rfl, H8.out⟩
      case round =>
        obtain ⟨j, vx, hj, rfl, h7⟩ := hrel
        have H7 := hid h7
        clear h7 H8
        by_cases hjn : j < md.2
        · obtain ⟨n1, g1⟩ : ∃ m, (xidsAt j md.1).1.num 1 = m := ⟨_, rfl⟩
          have HST := hid (show xidsAt (j + 1) md.1 = (n1.1, (xidsAt j md.1).2 ++ [(n1.2 : Int)]) by subst g1; rfl)
          have hel := xidsAt_len md.1 j
          generalize xidsAt j md.1 = xj at *
          have N1 := hid g1
          have HEL := hid hel
          clear g1 hel
          obtain ⟨ax, cx, hvx, _⟩ := H7.out.x.slice
          dsimp only at hvx
          subst hvx
          go_upto_region 14 with fail
          replace H7 := hid (H7.out.fre ((Fr.refl (fun _ => False) _).drew))
          refine wp_region_scr (.take 0 (.take 1 (.take 2 (.op 3 (.op 4 (.op 5 (.take 6 .done))))))) (fun kz w => (kz ≤ 6 → w.cell? ⟨q, 0, none⟩ = some (.pointer (some ⟨p, 0, none⟩))) ∧ w.cell? ⟨dr, 6, none⟩ = some (.slice ax xj.2.length cx)) (by kernel_rfl) (by kernel_rfl) (by intro c a d v w h; cases d <;> exact h) ?_
          repeat
            first
            | (refine wpT_pure rfl rfl rfl ?_; apply Exists.intro; refine ⟨?_, ?_⟩; intro w; ((go_simp <;> rfl)); simp only [Act.put, List.setIfInBounds_toArray, List.set_cons_zero, List.set_cons_succ])
            | (refine wpT_take 6 rfl rfl (by decide +kernel) ⟨fun _ => H7.out.bp.cell 0, H7.out.rc.cell 6⟩ ?_; apply Exists.intro; refine ⟨?_, ?_⟩; intro w hw; (have qa := hw.1 (Nat.le_refl _); have qb := hw.2); ((go_simp <;> rfl)); simp only [Act.put, List.setIfInBounds_toArray, List.set_cons_zero, List.set_cons_succ])
            | (refine wpT_skip rfl rfl ?_; simp only [Act.put, List.setIfInBounds_toArray, List.set_cons_zero, List.set_cons_succ])
          have hb1 : n1.2 < 256 := by rw [← N1.out]; exact RM.num_lt _ 1
          refine wpT_op rfl ?_
          go_wp2_with ((go_at_call 23; refine (H7.out.num 1 (by omega) N1.out).mono ?_; rintro e w9 ⟨rfl, h, _⟩; have HA := hid h; clear h H7))
          (refine ⟨?_, ?_⟩; focus (intro kz hk hk2 hh; first | (exfalso; simp at hk2; omega) | exact hh | exact (fun h => absurd h (by omega)) | obtain ⟨qa, qb⟩ := hh; first | exact ⟨qa, qb⟩ | (refine ⟨fun h => absurd h (by omega), ?_⟩; first | exact qb | (first | exact HA.out.bp.cell 0 | exact HA.out.rc.cell 6)) | (refine ⟨fun h => ?_, ?_⟩; (have qa := qa h); all_goals (first | exact qa | exact qb | (first | exact HA.out.bp.cell 0 | exact HA.out.rc.cell 6)))))
          refine wpT_op rfl ?_
          go_wp2_with (fail)
          (refine ⟨?_, ?_⟩; focus (intro kz hk hk2 hh; first | (exfalso; simp at hk2; omega) | exact hh | exact (fun h => absurd h (by omega)) | obtain ⟨qa, qb⟩ := hh; first | exact ⟨qa, qb⟩ | (refine ⟨fun h => absurd h (by omega), ?_⟩; first | exact qb | (first | exact cell_fr qa ((Fr.refl (fun _ => False) _).alloc _) (fun h => h) | exact cell_fr qb ((Fr.refl (fun _ => False) _).alloc _) (fun h => h))) | (refine ⟨fun h => ?_, ?_⟩; (have qa := qa h); all_goals (first | exact qa | exact qb | (first | exact cell_fr qa ((Fr.refl (fun _ => False) _).alloc _) (fun h => h) | exact cell_fr qb ((Fr.refl (fun _ => False) _).alloc _) (fun h => h))))))
          refine wpT_op rfl ?_
          refine wpList_app1 rfl (s := .tmp 50) (x := .tmp 53) (t := 24) rfl Tryd.underlying24 info_int rfl rfl rfl HA.out.x HA.out.fr.size rfl (by simp [Value.oneCell']) (by have := HEL.out; dsimp only; omega) (by have := HEL.out; dsimp only; omega) ?_
          intro ab ac wg APP
          obtain ⟨hq7, hr7⟩ := HA.out.atX APP
          have HQ7 := hid hq7
          have HR7 := hid hr7
          clear hq7 hr7
          go_wp2_with (fail)
          refine ⟨fun kz hk hk2 hh => ⟨fun _ => HQ7.out.cell 0, HR7.out.cell 6⟩, ?_⟩
          repeat
            first
            | (refine wpT_pure rfl rfl rfl ?_; apply Exists.intro; refine ⟨?_, ?_⟩; intro w; ((go_simp <;> rfl)); simp only [Act.put, List.setIfInBounds_toArray, List.set_cons_zero, List.set_cons_succ])
            | (refine wpT_take 6 rfl rfl (by decide +kernel) ⟨fun _ => HQ7.out.cell 0, HR7.out.cell 6⟩ ?_; apply Exists.intro; refine ⟨?_, ?_⟩; intro w hw; (have qa := hw.1 (Nat.le_refl _); have qb := hw.2); ((go_simp <;> rfl)); simp only [Act.put, List.setIfInBounds_toArray, List.set_cons_zero, List.set_cons_succ])
            | (refine wpT_skip rfl rfl ?_; simp only [Act.put, List.setIfInBounds_toArray, List.set_cons_zero, List.set_cons_succ])
          refine wpT_nil ?_
          have c5 : wg.cell? ⟨dr, 6, none⟩ = some (.slice ax xj.2.length cx) := HR7.out.cell 6
          have z5 := HR7.out.frozen 6
          go_wp2_with (fail)
          go_roundw
          case rel => exact ⟨j + 1, _, by omega, by simp, by rw [HST.out]; exact HA.out.growX APP⟩
          case measure => simp [intOf]; omega
        · obtain rfl : j = md.2 := by omega
          have h7 := H7.out
          rw [MX.out] at h7
          obtain ⟨ax, cx, hvx, _⟩ := h7.x.slice
          dsimp only at hvx
          subst hvx
          replace H7 := hid h7
          clear h7 MX MD hdb
          have q5 := H7.out.bp.cell 0
          go_upto_region 18 with (go_at_call 21; refine (H7.out.text MT.out).mono ?_; rintro e w9 ⟨rfl, h, _⟩; have H8 := hid h; clear h H7 q5; have c7 : w9.cell? ⟨dr, 7, none⟩ = some (.string (bs [])) := H8.out.rc.cell 7; have z7 := H8.out.rc.frozen 7)
          have H9 := hid (H8.out.put 7 (.string (bs mt.2)) ⟨m1.2, m2.2, m3.2, mo.2.2, mn.2.2, me.2, mx.2, mt.2⟩ _ _ _ _ rfl H8.out.o H8.out.n H8.out.e H8.out.x)
          clear H8 MT c7 z7
          generalize w9.setCell _ _ = w9 at *
          have q5 := H9.out.bp.cell 0
          have hth := H9.out.res.there 0 8 (by simp [rv])
          have HTH := hid hth
          clear hth
          have FS := hid (fun (l : List Value) => (Fr.refl (fun k => k = w.heap.size) w9).put w.heap.size 0 l (fun _ => rfl))
          have FB := hid (fun (r : R) (vo vn ve vx : Value) => (by have := H9.out.res.put 0 (rv r vo vn ve vx) (by simp [rv]); exact this : Blk (w9.setCells w.heap.size 0 (rv r vo vn ve vx)) w.heap.size (rv r vo vn ve vx) 28))
          cases hfl : mt.1.failed with
          | true =>
            go_wp2_with (first
              | (go_at_call 22; refine (OFailed_go H9.out.rd).mono ?_; rintro e w2 ⟨rfl, rfl⟩; rw [hfl])
              | (refine wpList_store_mid rfl 28 (.tmp 2) (.tmp 64) rfl w.heap.size 0 (rv R.zero (.slice none 0 0) (.slice none 0 0) (.slice none 0 0) (.slice none 0 0)).toArray rfl rfl HTH.out size_Rec (by simp [Value.oneCell', rv]) ?_; rw [List.toList_toArray]))
            have hrs : res = (R.zero, 10) := by rw [← HRES.out, if_pos hfl]
            refine bodyPost_ret (rec_ret rfl rfl rfl (FB.out R.zero (.slice none 0 0) (.slice none 0 0) (.slice none 0 0) (.slice none 0 0))) rfl ?_
            rw [hrs]
            exact ⟨_, _, _, _, rfl, RV_zero _ _ (fun _ h => h.2), H9.out.fr.trans (FS.out _) (fun k hk hl => by have : k = w.heap.size := hk; omega)⟩
          | false =>
            have f5 := H9.out.bf.cell 0
            obtain ⟨rr, hrr⟩ : ∃ rr, R.right ⟨m1.2, m2.2, m3.2, mo.2.2, mn.2.2, me.2, mx.2, mt.2⟩ = rr := ⟨_, rfl⟩
            obtain ⟨ff, hff⟩ : ∃ ff, mn.2.1 = ff := ⟨_, rfl⟩
            rw [hff] at f5
            obtain ⟨lf, hlf⟩ : ∃ lf, mt.1.left = lf := ⟨_, rfl⟩
            have HL := hid (OLeft_go H9.out.rd H9.out.ok)
            rw [hlf] at HL
            have HR2 := hid (show res = if !ff || decide (0 < lf) || !rr then (R.zero, 11) else (⟨m1.2, m2.2, m3.2, mo.2.2, mn.2.2, me.2, mx.2, mt.2⟩, 0) from by rw [← HRES.out, if_neg (by rw [hfl]; simp), hff, hlf, hrr])
            have HRQ := hid hrr
            clear hrr hff hlf HRES
            rcases Nat.lt_or_ge 0 lf with hl | hl
            focus
              have hl1 : (0 : Int) < (lf : Int) := by omega
              replace HR2 : Hid (res = (R.zero, 11)) := hid (by rw [HR2.out, decide_eq_true hl]; simp)
              clear hl
              cases ff <;> cases rr
              all_goals
                go_wp2_with (first
                  | (go_at_call 22; refine (OFailed_go H9.out.rd).mono ?_; rintro e w2 ⟨rfl, rfl⟩; rw [hfl])
                  | (go_at_call 24; refine HL.out.mono ?_; rintro e w2 ⟨rfl, f2⟩; have H10 := hid (H9.out.fre f2); clear f2; obtain ⟨k0, k1, k2, k3, k4, k5, k6, k7⟩ := rec_cells H10.out.rc)
                  | (go_at_call 17; refine (RRight_go (H10.out.rv HLN.out.1 HLN.out.2.1 HLN.out.2.2.1 HLN.out.2.2.2)).mono ?_; rw [HRQ.out]; rintro e w3 ⟨rfl, f3⟩; have H11 := hid (H10.out.fre f3); clear f3 k0 k1 k2 k3 k4 k5 k6 k7; obtain ⟨k0, k1, k2, k3, k4, k5, k6, k7⟩ := rec_cells H11.out.rc)
                  | (refine wpList_store_mid rfl 28 (.tmp 2) (.tmp 78) rfl w.heap.size 0 (rv R.zero (.slice none 0 0) (.slice none 0 0) (.slice none 0 0) (.slice none 0 0)).toArray rfl rfl (H11.out.res.there 0 8 (by simp [rv])) size_Rec (by simp [Value.oneCell', rv]) ?_; rw [List.toList_toArray])
                  | (refine wpList_store_mid rfl 28 (.tmp 2) (.tmp 78) rfl w.heap.size 0 (rv R.zero (.slice none 0 0) (.slice none 0 0) (.slice none 0 0) (.slice none 0 0)).toArray rfl rfl (H10.out.res.there 0 8 (by simp [rv])) size_Rec (by simp [Value.oneCell', rv]) ?_; rw [List.toList_toArray])
                  | (refine wpList_store_mid rfl 28 (.tmp 2) (.tmp 78) rfl w.heap.size 0 (rv R.zero (.slice none 0 0) (.slice none 0 0) (.slice none 0 0) (.slice none 0 0)).toArray rfl rfl (H9.out.res.there 0 8 (by simp [rv])) size_Rec (by simp [Value.oneCell', rv]) ?_; rw [List.toList_toArray])
                  | (refine wpList_store_mid rfl 28 (.tmp 2) (.tmp 79) rfl w.heap.size 0 (rv ⟨m1.2, m2.2, m3.2, mo.2.2, mn.2.2, me.2, mx.2, mt.2⟩ (.slice ao mo.2.2.length co) (.slice an mn.2.2.length cn) (.slice ae me.2.length ce) (.slice ax mx.2.length cx)).toArray rfl rfl (H11.out.res.there 0 8 (by simp [rv])) size_Rec (by simp [Value.oneCell', rv]) ?_; rw [List.toList_toArray]))
              all_goals first
                | (refine bodyPost_ret (rec_ret rfl rfl rfl (H10.out.fin R.zero (.slice none 0 0) (.slice none 0 0) (.slice none 0 0) (.slice none 0 0)).1) rfl ?_; rw [HR2.out]; exact ⟨_, _, _, _, rfl, RV_zero _ _ (fun _ h => h.2), (H10.out.fin R.zero (.slice none 0 0) (.slice none 0 0) (.slice none 0 0) (.slice none 0 0)).2.1⟩)
                | (refine bodyPost_ret (rec_ret rfl rfl rfl (H9.out.fin R.zero (.slice none 0 0) (.slice none 0 0) (.slice none 0 0) (.slice none 0 0)).1) rfl ?_; rw [HR2.out]; exact ⟨_, _, _, _, rfl, RV_zero _ _ (fun _ h => h.2), (H9.out.fin R.zero (.slice none 0 0) (.slice none 0 0) (.slice none 0 0) (.slice none 0 0)).2.1⟩)
            focus
              obtain rfl : lf = 0 := by omega
              clear hl
              cases ff <;> cases rr
              all_goals
                go_wp2_with (first
                  | (go_at_call 22; refine (OFailed_go H9.out.rd).mono ?_; rintro e w2 ⟨rfl, rfl⟩; rw [hfl])
                  | (go_at_call 24; refine HL.out.mono ?_; rintro e w2 ⟨rfl, f2⟩; have H10 := hid (H9.out.fre f2); clear f2; obtain ⟨k0, k1, k2, k3, k4, k5, k6, k7⟩ := rec_cells H10.out.rc)
                  | (go_at_call 17; refine (RRight_go (H10.out.rv HLN.out.1 HLN.out.2.1 HLN.out.2.2.1 HLN.out.2.2.2)).mono ?_; rw [HRQ.out]; rintro e w3 ⟨rfl, f3⟩; have H11 := hid (H10.out.fre f3); clear f3 k0 k1 k2 k3 k4 k5 k6 k7; obtain ⟨k0, k1, k2, k3, k4, k5, k6, k7⟩ := rec_cells H11.out.rc)
                  | (refine wpList_store_mid rfl 28 (.tmp 2) (.tmp 78) rfl w.heap.size 0 (rv R.zero (.slice none 0 0) (.slice none 0 0) (.slice none 0 0) (.slice none 0 0)).toArray rfl rfl (H11.out.res.there 0 8 (by simp [rv])) size_Rec (by simp [Value.oneCell', rv]) ?_; rw [List.toList_toArray])
                  | (refine wpList_store_mid rfl 28 (.tmp 2) (.tmp 78) rfl w.heap.size 0 (rv R.zero (.slice none 0 0) (.slice none 0 0) (.slice none 0 0) (.slice none 0 0)).toArray rfl rfl (H10.out.res.there 0 8 (by simp [rv])) size_Rec (by simp [Value.oneCell', rv]) ?_; rw [List.toList_toArray])
                  | (refine wpList_store_mid rfl 28 (.tmp 2) (.tmp 78) rfl w.heap.size 0 (rv R.zero (.slice none 0 0) (.slice none 0 0) (.slice none 0 0) (.slice none 0 0)).toArray rfl rfl (H9.out.res.there 0 8 (by simp [rv])) size_Rec (by simp [Value.oneCell', rv]) ?_; rw [List.toList_toArray])
                  | (refine wpList_store_mid rfl 28 (.tmp 2) (.tmp 79) rfl w.heap.size 0 (rv ⟨m1.2, m2.2, m3.2, mo.2.2, mn.2.2, me.2, mx.2, mt.2⟩ (.slice ao mo.2.2.length co) (.slice an mn.2.2.length cn) (.slice ae me.2.length ce) (.slice ax mx.2.length cx)).toArray rfl rfl (H11.out.res.there 0 8 (by simp [rv])) size_Rec (by simp [Value.oneCell', rv]) ?_; rw [List.toList_toArray]))
              focus
                (refine bodyPost_ret (rec_ret rfl rfl rfl (H9.out.fin R.zero (.slice none 0 0) (.slice none 0 0) (.slice none 0 0) (.slice none 0 0)).1) rfl ?_; rw [HR2.out]; exact ⟨_, _, _, _, rfl, RV_zero _ _ (fun _ h => h.2), (H9.out.fin R.zero (.slice none 0 0) (.slice none 0 0) (.slice none 0 0) (.slice none 0 0)).2.1⟩)
              focus
                (refine bodyPost_ret (rec_ret rfl rfl rfl (H9.out.fin R.zero (.slice none 0 0) (.slice none 0 0) (.slice none 0 0) (.slice none 0 0)).1) rfl ?_; rw [HR2.out]; exact ⟨_, _, _, _, rfl, RV_zero _ _ (fun _ h => h.2), (H9.out.fin R.zero (.slice none 0 0) (.slice none 0 0) (.slice none 0 0) (.slice none 0 0)).2.1⟩)
              focus
                (refine bodyPost_ret (rec_ret rfl rfl rfl (H11.out.fin R.zero (.slice none 0 0) (.slice none 0 0) (.slice none 0 0) (.slice none 0 0)).1) rfl ?_; rw [HR2.out]; exact ⟨_, _, _, _, rfl, RV_zero _ _ (fun _ h => h.2), (H11.out.fin R.zero (.slice none 0 0) (.slice none 0 0) (.slice none 0 0) (.slice none 0 0)).2.1⟩)
              focus
                (refine bodyPost_ret (rec_ret rfl rfl rfl (H11.out.fin ⟨m1.2, m2.2, m3.2, mo.2.2, mn.2.2, me.2, mx.2, mt.2⟩ (.slice ao mo.2.2.length co) (.slice an mn.2.2.length cn) (.slice ae me.2.length ce) (.slice ax mx.2.length cx)).1) rfl ?_; rw [HR2.out]; exact ⟨_, _, _, _, rfl, H11.out.finR (H11.out.fin ⟨m1.2, m2.2, m3.2, mo.2.2, mn.2.2, me.2, mx.2, mt.2⟩ (.slice ao mo.2.2.length co) (.slice an mn.2.2.length cn) (.slice ae me.2.length ce) (.slice ax mx.2.length cx)).2.2 HLN.out.1 HLN.out.2.1 HLN.out.2.2.1 HLN.out.2.2.2, (H11.out.fin ⟨m1.2, m2.2, m3.2, mo.2.2, mn.2.2, me.2, mx.2, mt.2⟩ (.slice ao mo.2.2.length co) (.slice an mn.2.2.length cn) (.slice ae me.2.length ce) (.slice ax mx.2.length cx)).2.1⟩)
end Go.Proofs.YtfhkmiifndhacaaDoor
