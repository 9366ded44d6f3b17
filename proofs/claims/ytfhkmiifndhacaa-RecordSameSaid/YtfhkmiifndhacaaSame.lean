/- Proved: for every two records and every integer the law RecordSame of chapter 04 returns true, and its arguments read afterwards as before. Conditions: none beyond the given statement. -/
import Derived.Test.YtfhkmiifndhacaaArg
import Derived.Test.YtfhkmiifndhacaaRsA
set_option linter.unusedVariables false
namespace Go.Proofs.Ytfhkmiifndhacaa
open Go.RowKit Go.VB Go.VB.Oct Go.VB.Rec
theorem AV.slices {P : Nat → Prop} {w : World} {r : R} {vo vn ve vx : Value} (h : AV P w r vo vn ve vx) : ∃ a1 c1 a2 c2 a3 c3 a4 c4, vo = .slice a1 r.old.length c1 ∧ vn = .slice a2 r.new.length c2 ∧ ve = .slice a3 r.edits.length c3 ∧ vx = .slice a4 r.xids.length c4 := by
  obtain ⟨a1, c1, h1, -⟩ := h.o
  obtain ⟨a2, c2, h2, -⟩ := h.n
  obtain ⟨a3, c3, h3, -⟩ := h.e
  obtain ⟨a4, c4, h4, -⟩ := h.x
  exact ⟨a1, c1, a2, c2, a3, c3, a4, c4, h1, h2, h3, h4⟩
theorem AV.fre {P : Nat → Prop} {w w' : World} {r : R} {vo vn ve vx : Value} (h : AV P w r vo vn ve vx) (f : Fr (fun _ => False) w w') : AV P w' r vo vn ve vx :=
  ⟨h.o.fr f (fun _ _ h => h), h.n.fr f (fun _ _ h => h), h.e.fr f (fun _ _ h => h), h.x.fr f (fun _ _ h => h), h.lo, h.ln, h.le, h.lx⟩
theorem few_is {P : Nat → Prop} {w : World} {r : R} {vo vn ve vx : Value} (h : AV P w r vo vn ve vx) : Calls Try.prog 13 #[.agg (rv r vo vn ve vx).toArray] w fun e w' => ∃ (a1 a2 a3 a4 : Option Addr) (c1 c2 c3 c4 : Nat), e = .returned (.agg #[.int .i64 (R.few r).kind, .int .i64 (R.few r).xid, .int .i64 (R.few r).table, .slice a1 (R.few r).old.length c1, .slice a2 (R.few r).new.length c2, .slice a3 (R.few r).edits.length c3, .slice a4 (R.few r).xids.length c4, .string (bs (R.few r).note)]) ∧
      FewS w w' ⟨R.few r, .slice a1 (R.few r).old.length c1, .slice a2 (R.few r).new.length c2, .slice a3 (R.few r).edits.length c3, .slice a4 (R.few r).xids.length c4⟩ (R.few r) := by
  refine (few_go h).mono ?_
  rintro e w' ⟨q, rfl, hq⟩
  obtain ⟨r', vo', vn', ve', vx'⟩ := q
  obtain rfl : r' = R.few r := hq.is
  obtain ⟨a1, c1, h1, -⟩ := hq.o.slice
  obtain ⟨a2, c2, h2, -⟩ := hq.n.slice
  obtain ⟨a3, c3, h3, -⟩ := hq.e.slice
  obtain ⟨a4, c4, h4, -⟩ := hq.x.slice
  (try dsimp only at h1 h2 h3 h4)
  subst h1 h2 h3 h4
  exact ⟨a1, a2, a3, a4, c1, c2, c3, c4, rfl, hq⟩
/-- a copy under change -/
structure CpS (w0 W : World) (d : Nat) (q : Q) : Prop where
  blk : Blk W d q.cells 27
  o : Row 53 3 w0.heap.size W q.o q.r.old.length (q.r.old.flatMap V.cells)
  n : Row 53 3 w0.heap.size W q.n q.r.new.length (q.r.new.flatMap V.cells)
  e : Row 55 3 w0.heap.size W q.e q.r.edits.length (q.r.edits.flatMap E.cells)
  x : Row 3 1 w0.heap.size W q.x q.r.xids.length (q.r.xids.flatMap icell)
  on : ∀ b, q.o.ownBlock = some b → ¬ q.n.ownBlock = some b
  fr : Fr (fun _ => False) w0 W
  ge : w0.heap.size ≤ d
/-- a changed copy -/
structure CpD (w0 W : World) (d : Nat) (q : Q) (a : R) : Prop where
  blk : Blk W d q.cells 27
  rv : q.RV (fun k => w0.heap.size ≤ k ∧ k < W.heap.size) W
  fr : Fr (fun _ => False) w0 W
  ne : a ≠ q.r
def Pd (w0 wg : World) (d k : Nat) : Prop := w0.heap.size ≤ k ∧ k < wg.heap.size ∧ k ≠ d
theorem row_pd {w0 wg : World} {e t : TypeId} {s n d : Nat} {v : Value} {xs l : List Value} (h : Row e s w0.heap.size wg v n xs) (b : Blk wg d l t) (hte : t ≠ e) : Sl (Pd w0 wg d) wg v n xs := own_sl h.own (fun k hk => ⟨h.new k hk, h.lt hk, h.ne b hte k hk⟩)
theorem CpS.done {w0 W wg : World} {d : Nat} {q q' : Q} {a : R} (h : CpS w0 W d q) {S : Nat → Prop} (f : Fr S W wg) (hd : ¬ S d) (hS : ∀ k, S k → w0.heap.size ≤ k) (i : Nat) (u : Value) (hs : q.cells.set i u = q'.cells)
    (o : Sl (Pd w0 wg d) wg q'.o q'.r.old.length (q'.r.old.flatMap V.cells)) (n : Sl (Pd w0 wg d) wg q'.n q'.r.new.length (q'.r.new.flatMap V.cells)) (e : Sl (Pd w0 wg d) wg q'.e q'.r.edits.length (q'.r.edits.flatMap E.cells)) (x : Sl (Pd w0 wg d) wg q'.x q'.r.xids.length (q'.r.xids.flatMap icell))
    (lo : q'.r.old.length ≤ 100) (ln : q'.r.new.length ≤ 100) (le : q'.r.edits.length ≤ 100) (lx : q'.r.xids.length ≤ 100) (hne : a ≠ q'.r) : CpD w0 (wg.setCell ⟨d, i, none⟩ u) d q' a := by
  have fs := (Fr.refl (fun k => k = d) wg).setCell ⟨d, i, none⟩ u (fun _ => rfl)
  have hb := (h.blk.fr f hd).set i u
  rw [hs] at hb
  have hP : ∀ k, Pd w0 wg d k → w0.heap.size ≤ k ∧ k < (wg.setCell ⟨d, i, none⟩ u).heap.size := fun k hk => ⟨hk.1, Nat.lt_of_lt_of_le hk.2.1 fs.size⟩
  exact ⟨hb, ⟨(o.fr fs (fun k hk => hk.2.2)).mono hP, (n.fr fs (fun k hk => hk.2.2)).mono hP, (e.fr fs (fun k hk => hk.2.2)).mono hP, (x.fr fs (fun k hk => hk.2.2)).mono hP, by omega, by omega, by omega, by omega, fun k hk => hk.2⟩,
    (h.fr.trans f (fun k hk hl => by have := hS k hk; omega)).trans fs (fun k hk hl => by have := h.ge; omega), hne⟩
theorem FewS.rvl {w0 W : World} {q : Q} {r : R} (h : FewS w0 W q r) (lo : r.old.length ≤ 100) (ln : r.new.length ≤ 100) (le : r.edits.length ≤ 100) (lx : r.xids.length ≤ 100) : q.RV (fun k => w0.heap.size ≤ k ∧ k < W.heap.size) W := by
  have e := h.is
  refine ⟨?_, ?_, ?_, ?_, ?_, ?_, ?_, ?_, fun k hk => hk.2⟩
  · rw [e]; exact own_sl h.o.own (fun k hk => ⟨h.o.new k hk, h.o.lt hk⟩)
  · rw [e]; exact own_sl h.n.own (fun k hk => ⟨h.n.new k hk, h.n.lt hk⟩)
  · rw [e]; exact own_sl h.e.own (fun k hk => ⟨h.e.new k hk, h.e.lt hk⟩)
  · rw [e]; exact own_sl h.x.own (fun k hk => ⟨h.x.new k hk, h.x.lt hk⟩)
  all_goals (rw [e]; omega)
theorem vcells_one (l : List V) : ∀ u ∈ l.flatMap V.cells, u.oneCell' = true := by
  intro u hu
  obtain ⟨x, -, hx⟩ := List.mem_flatMap.1 hu
  simp only [V.cells, List.mem_cons, List.mem_nil_iff, or_false] at hx
  rcases hx with rfl | rfl | rfl <;> rfl
theorem ecells_one (l : List E) : ∀ u ∈ l.flatMap E.cells, u.oneCell' = true := by
  intro u hu
  obtain ⟨x, -, hx⟩ := List.mem_flatMap.1 hu
  simp only [E.cells, List.mem_cons, List.mem_nil_iff, or_false] at hx
  rcases hx with rfl | rfl | rfl <;> rfl
theorem take_map_take {α : Type} (f : α → α) (hf : ∀ x, f (f x) = f x) (l : List α) (n : Nat) : (((l.take n).map f).take n).map f = (l.take n).map f := by
  rw [← List.map_take, List.take_take, Nat.min_self, List.map_map]
  congr 1
  funext x
  exact hf x
theorem few_few (r : R) : R.few (R.few r) = R.few r := by
  unfold R.few cutRow
  dsimp only
  rw [take_map_take V.cut (fun v => by unfold V.cut; dsimp only; rw [List.take_take, Nat.min_self]), take_map_take V.cut (fun v => by unfold V.cut; dsimp only; rw [List.take_take, Nat.min_self]), take_map_take E.cut (fun v => by unfold E.cut; dsimp only; rw [List.take_take, Nat.min_self]), List.take_take, List.take_take, Nat.min_self, Nat.min_self]
set_option maxRecDepth 20000 in
set_option maxHeartbeats 20000000 in
theorem Same_walk {P P' : Nat → Prop} {w : World} {a b : R} {vo vn ve vx uo un ue ux : Value} (h : AV P w a vo vn ve vx) (k : AV P' w b uo un ue ux) (ha : a.In) (n : Int) :
    Calls Try.prog 8 #[.agg (rv a vo vn ve vx).toArray, .agg (rv b uo un ue ux).toArray, .int .i64 n] w fun e w' => e = .returned (.bool true) ∧ Fr (fun _ => False) w w' := by
  obtain ⟨x0, hx0, hy0, -⟩ := and_16 n
  have HSA := hid (fun w => sanity_go w)
  obtain ⟨a1, c1, a2, c2, a3, c3, a4, c4, rfl, rfl, rfl, rfl⟩ := h.slices
  obtain ⟨b1, d1, b2, d2, b3, d3, b4, d4, rfl, rfl, rfl, rfl⟩ := k.slices
  have HFA := hid (fun w' (f : Fr (fun _ => False) w w') => few_is (h.fre f))
  have HFB := hid (fun w' (f : Fr (fun _ => False) w w') => few_is (k.fre f))
  have HAIN := hid ha
  clear h k ha
  have B0 := hid ((Blk.new w (rv a (.slice a1 a.old.length c1) (.slice a2 a.new.length c2) (.slice a3 a.edits.length c3) (.slice a4 a.xids.length c4)) 27).alloc (.cells (rv b (.slice b1 b.old.length d1) (.slice b2 b.new.length d2) (.slice b3 b.edits.length d3) (.slice b4 b.xids.length d4)).toArray 27))
  have B1 := hid (Blk.new (w.alloc (.cells (rv a (.slice a1 a.old.length c1) (.slice a2 a.new.length c2) (.slice a3 a.edits.length c3) (.slice a4 a.xids.length c4)).toArray 27)) (rv b (.slice b1 b.old.length d1) (.slice b2 b.new.length d2) (.slice b3 b.edits.length d3) (.slice b4 b.xids.length d4)) 27)
  have F0 := hid (((Fr.refl (fun _ => False) w).alloc (.cells (rv a (.slice a1 a.old.length c1) (.slice a2 a.new.length c2) (.slice a3 a.edits.length c3) (.slice a4 a.xids.length c4)).toArray 27)).alloc (.cells (rv b (.slice b1 b.old.length d1) (.slice b2 b.new.length d2) (.slice b3 b.edits.length d3) (.slice b4 b.xids.length d4)).toArray 27))
  rw [World.size_alloc] at B1
  unfold rv at *
  go_enter Try.func8, Try.ntmps8
  go_upto_region 1 with fail
  generalize (w.alloc _).alloc _ = W1 at *
  go_upto_region 2 with (go_at_call 12; refine (HSA.out _).mono ?_; rintro e w2 ⟨rfl, f⟩; replace F0 := hid (F0.out.trans f (fun _ h _ => h)); replace B0 := hid (B0.out.fr f (fun h => h)); replace B1 := hid (B1.out.fr f (fun h => h)); clear f)
  obtain ⟨p0, p1, p2, p3, p4, p5, p6, p7⟩ := rec_cells (k := a.kind) (x := a.xid) (t := a.table) (o := a.old) (n := a.new) (ed := a.edits) (xs := a.xids) (nt := a.note) B0.out
  have th := B0.out.there 0 8 (by simp)
  go_upto_region 3 with (first
    | (go_at_call 13; refine (HFA.out _ F0.out).mono ?_; rintro e w3 ⟨x1, x2, x3, x4, y1, y2, y3, y4, rfl, hq⟩; have HQA := hid hq; have F1 := hid (F0.out.trans hq.fr (fun _ h _ => h)); have C0 := hid (B0.out.fr hq.fr (fun h => h)); have C1 := hid (B1.out.fr hq.fr (fun h => h)); have th := C0.out.there 0 8 (by simp); clear hq)
    | (refine wpList_store_mid rfl 27 (.tmp 3) (.tmp 11) rfl w.heap.size 0 #[.int .i64 (R.few a).kind, .int .i64 (R.few a).xid, .int .i64 (R.few a).table, .slice x1 (R.few a).old.length y1, .slice x2 (R.few a).new.length y2, .slice x3 (R.few a).edits.length y3, .slice x4 (R.few a).xids.length y4, .string (bs (R.few a).note)] rfl rfl th size_Rec (by simp [Value.oneCell']) ?_))
  have hwl := B0.out.lt
  have hwl1 := B1.out.lt
  have fs := (Fr.refl (fun k => k = w.heap.size) w3).put w.heap.size 0 [.int .i64 (R.few a).kind, .int .i64 (R.few a).xid, .int .i64 (R.few a).table, .slice x1 (R.few a).old.length y1, .slice x2 (R.few a).new.length y2, .slice x3 (R.few a).edits.length y3, .slice x4 (R.few a).xids.length y4, .string (bs (R.few a).note)] (fun _ => rfl)
  have HRA := hid (HQA.out.rv.fr fs (fun k hk e => by omega))
  have D0 := hid (C0.out.put 0 [.int .i64 (R.few a).kind, .int .i64 (R.few a).xid, .int .i64 (R.few a).table, .slice x1 (R.few a).old.length y1, .slice x2 (R.few a).new.length y2, .slice x3 (R.few a).edits.length y3, .slice x4 (R.few a).xids.length y4, .string (bs (R.few a).note)] (by simp))
  have D1 := hid (C1.out.fr fs (fun e => by omega))
  have G1 := hid (F1.out.trans fs (fun k hk hl => by omega))
  have HLA := hid (few_lens a)
  have HKA := hid (show (R.few a).kind = a.kind ∧ (R.few a).xid = a.xid ∧ (R.few a).table = a.table from ⟨rfl, rfl, rfl⟩)
  clear p0 p1 p2 p3 p4 p5 p6 p7 th fs C0 C1 B0 B1 F0 F1 HFA HQA
  generalize w3.setCells _ _ _ = W3 at *
  obtain ⟨p0, p1, p2, p3, p4, p5, p6, p7⟩ := rec_cells (k := b.kind) (x := b.xid) (t := b.table) (o := b.old) (n := b.new) (ed := b.edits) (xs := b.xids) (nt := b.note) D1.out
  go_upto_region 4 with (first
    | (go_at_call 13; refine (HFB.out _ G1.out).mono ?_; rintro e w4 ⟨z1, z2, z3, z4, t1, t2, t3, t4, rfl, hq⟩; have HQB := hid hq; have F1 := hid (G1.out.trans hq.fr (fun _ h _ => h)); have C0 := hid (D0.out.fr hq.fr (fun h => h)); have C1 := hid (D1.out.fr hq.fr (fun h => h)); have th := C1.out.there 0 8 (by simp); clear hq)
    | (refine wpList_store_mid rfl 27 (.tmp 4) (.tmp 13) rfl (w.heap.size + 1) 0 #[.int .i64 (R.few b).kind, .int .i64 (R.few b).xid, .int .i64 (R.few b).table, .slice z1 (R.few b).old.length t1, .slice z2 (R.few b).new.length t2, .slice z3 (R.few b).edits.length t3, .slice z4 (R.few b).xids.length t4, .string (bs (R.few b).note)] rfl rfl th size_Rec (by simp [Value.oneCell']) ?_))
  have fs := (Fr.refl (fun k => k = w.heap.size + 1) w4).put (w.heap.size + 1) 0 [.int .i64 (R.few b).kind, .int .i64 (R.few b).xid, .int .i64 (R.few b).table, .slice z1 (R.few b).old.length t1, .slice z2 (R.few b).new.length t2, .slice z3 (R.few b).edits.length t3, .slice z4 (R.few b).xids.length t4, .string (bs (R.few b).note)] (fun _ => rfl)
  have hwl3 := D1.out.lt
  have HRB := hid (HQB.out.rv.fr fs (fun k hk e => by omega))
  have HRA2 := hid ((HRA.out.fre HQB.out.fr).fr fs (fun k hk e => by omega))
  have E1 := hid (C1.out.put 0 [.int .i64 (R.few b).kind, .int .i64 (R.few b).xid, .int .i64 (R.few b).table, .slice z1 (R.few b).old.length t1, .slice z2 (R.few b).new.length t2, .slice z3 (R.few b).edits.length t3, .slice z4 (R.few b).xids.length t4, .string (bs (R.few b).note)] (by simp))
  have E0 := hid (C0.out.fr fs (fun e => by omega))
  have G2 := hid (F1.out.trans fs (fun k hk hl => by omega))
  have HFC := hid (fun w' (f : Fr (fun _ => False) _ w') => few_is ((HRA2.out.fre f).av))
  simp only [few_few a] at HFC
  clear p0 p1 p2 p3 p4 p5 p6 p7 th fs C0 C1 D0 D1 F1 G1 HFB HQB HRA hwl hwl1 hwl3
  generalize w4.setCells _ _ _ = W4 at *
  have HFF := hid (few_few a)
  generalize R.few a = A at *
  generalize R.few b = B at *
  unfold rv at HFC
  dsimp only at HRA2 HRB HFC E0 E1
  simp only [List.take_zero, List.nil_append] at E0 E1
  have HA0 : Hid (Blk W4 w.heap.size (rv A (.slice x1 A.old.length y1) (.slice x2 A.new.length y2) (.slice x3 A.edits.length y3) (.slice x4 A.xids.length y4)) 27) := hid E0.out
  have HB0 : Hid (Blk W4 (w.heap.size + 1) (rv B (.slice z1 B.old.length t1) (.slice z2 B.new.length t2) (.slice z3 B.edits.length t3) (.slice z4 B.xids.length t4)) 27) := hid E1.out
  clear E0 E1
  obtain ⟨p0, p1, p2, p3, p4, p5, p6, p7⟩ := rec_cells (k := A.kind) (x := A.xid) (t := A.table) (o := A.old) (n := A.new) (ed := A.edits) (xs := A.xids) (nt := A.note) HA0.out
  go_upto_region 5 with (go_at_call 13; refine (HFC.out _ (Fr.refl _ _)).mono ?_; rintro e w5 ⟨s1, s2, s3, s4, r1, r2, r3, r4, rfl, hq⟩; have HQC := hid hq; clear hq)
  have HCP : Hid (CpS W4 (w5.alloc (.cells #[.int .i64 A.kind, .int .i64 A.xid, .int .i64 A.table, .slice s1 A.old.length r1, .slice s2 A.new.length r2, .slice s3 A.edits.length r3, .slice s4 A.xids.length r4, .string (bs A.note)] 27)) w5.heap.size ⟨A, .slice s1 A.old.length r1, .slice s2 A.new.length r2, .slice s3 A.edits.length r3, .slice s4 A.xids.length r4⟩) := by
    have f := (Fr.refl (fun _ => False) w5).alloc (.cells #[.int .i64 A.kind, .int .i64 A.xid, .int .i64 A.table, .slice s1 A.old.length r1, .slice s2 A.new.length r2, .slice s3 A.edits.length r3, .slice s4 A.xids.length r4, .string (bs A.note)] 27)
    exact hid ⟨Blk.new w5 _ _, HQC.out.o.fre f, HQC.out.n.fre f, HQC.out.e.fre f, HQC.out.x.fre f, HQC.out.on, HQC.out.fr.trans f (fun _ h _ => h), HQC.out.fr.size⟩
  clear p0 p1 p2 p3 p4 p5 p6 p7 HQC HFC
  generalize w5.heap.size = d at *
  generalize w5.alloc _ = W5 at *
  obtain ⟨k, hk3, hk4⟩ : ∃ k : Int, (x0 : Int) % 10 = k ∧ (0 ≤ k ∧ k < 10) := ⟨_, rfl, by omega⟩
  go_upto_block 0 with fail
  rw [hk3]
  clear hk3
  obtain ⟨ba, hba⟩ : ∃ ba, ba = w.heap.size := ⟨_, rfl⟩
  obtain ⟨bb, hbb⟩ : ∃ bb, bb = w.heap.size + 1 := ⟨_, rfl⟩
  rw [← hbb, ← hba]
  rw [← hba] at HA0
  rw [← hbb] at HB0
  clear hba hbb
  go_cut [] (fun wx => ∃ q, CpD W4 wx d q A)
  case first =>
    have HLN := HLA.out
    rcases (by omega : k = 0 ∨ k = 1 ∨ k = 2 ∨ k = 3 ∨ k = 4 ∨ k = 5 ∨ k = 6 ∨ k = 7 ∨ k = 8 ∨ k = 9) with hk | hk | hk | hk | hk | hk | hk | hk | hk | hk
    focus
      have ke0 : (k == 0) = true := by rw [beq_iff_eq]; omega
      clear hk hk4
      obtain ⟨kz, hkz, hkn⟩ : ∃ kz, wrap64 (A.kind + 1) = kz ∧ kz ≠ A.kind := ⟨_, rfl, by have h1 := HKA.out; have h2 := HAIN.out.kind; unfold in64 at h2; unfold wrap64; omega⟩
      have kc0 : W5.cell? ⟨d, 0, none⟩ = some (.int .i64 A.kind) := HCP.out.blk.cell 0
      have ky0 := HCP.out.blk.frozen 0
      have HD := hid (HCP.out.done (q' := ⟨{ A with kind := kz }, .slice s1 A.old.length r1, .slice s2 A.new.length r2, .slice s3 A.edits.length r3, .slice s4 A.xids.length r4⟩) (a := A) (Fr.refl (fun _ => False) W5) (fun h => h) (fun _ h => h.elim) 0 (.int .i64 kz) rfl (row_pd HCP.out.o HCP.out.blk (by decide)) (row_pd HCP.out.n HCP.out.blk (by decide)) (row_pd HCP.out.e HCP.out.blk (by decide)) (row_pd HCP.out.x HCP.out.blk (by decide)) (by dsimp only; omega) (by dsimp only; omega) (by dsimp only; omega) (by dsimp only; omega) (fun e => hkn (congrArg R.kind e).symm))
      clear hkn HLN
      go_wp2_with (fail)
      go_meet
      exact ⟨_, HD.out⟩
    focus
      have ke0 : (k == 0) = false := by rw [beq_eq_false_iff_ne]; omega
      have ke1 : (k == 1) = true := by rw [beq_iff_eq]; omega
      clear hk hk4
      obtain ⟨kz, hkz, hkn⟩ : ∃ kz, wrap64 (A.xid + 1) = kz ∧ kz ≠ A.xid := ⟨_, rfl, by have h1 := HKA.out; have h2 := HAIN.out.xid; unfold in64 at h2; unfold wrap64; omega⟩
      have kc0 : W5.cell? ⟨d, 1, none⟩ = some (.int .i64 A.xid) := HCP.out.blk.cell 1
      have ky0 := HCP.out.blk.frozen 1
      have HD := hid (HCP.out.done (q' := ⟨{ A with xid := kz }, .slice s1 A.old.length r1, .slice s2 A.new.length r2, .slice s3 A.edits.length r3, .slice s4 A.xids.length r4⟩) (a := A) (Fr.refl (fun _ => False) W5) (fun h => h) (fun _ h => h.elim) 1 (.int .i64 kz) rfl (row_pd HCP.out.o HCP.out.blk (by decide)) (row_pd HCP.out.n HCP.out.blk (by decide)) (row_pd HCP.out.e HCP.out.blk (by decide)) (row_pd HCP.out.x HCP.out.blk (by decide)) (by dsimp only; omega) (by dsimp only; omega) (by dsimp only; omega) (by dsimp only; omega) (fun e => hkn (congrArg R.xid e).symm))
      clear hkn HLN
      go_wp2_with (fail)
      go_meet
      exact ⟨_, HD.out⟩
    focus
      have ke0 : (k == 0) = false := by rw [beq_eq_false_iff_ne]; omega
      have ke1 : (k == 1) = false := by rw [beq_eq_false_iff_ne]; omega
      have ke2 : (k == 2) = true := by rw [beq_iff_eq]; omega
      clear hk hk4
      obtain ⟨kz, hkz, hkn⟩ : ∃ kz, wrap64 (A.table - 1) = kz ∧ kz ≠ A.table := ⟨_, rfl, by have h1 := HKA.out; have h2 := HAIN.out.table; unfold in64 at h2; unfold wrap64; omega⟩
      have kc0 : W5.cell? ⟨d, 2, none⟩ = some (.int .i64 A.table) := HCP.out.blk.cell 2
      have ky0 := HCP.out.blk.frozen 2
      have HD := hid (HCP.out.done (q' := ⟨{ A with table := kz }, .slice s1 A.old.length r1, .slice s2 A.new.length r2, .slice s3 A.edits.length r3, .slice s4 A.xids.length r4⟩) (a := A) (Fr.refl (fun _ => False) W5) (fun h => h) (fun _ h => h.elim) 2 (.int .i64 kz) rfl (row_pd HCP.out.o HCP.out.blk (by decide)) (row_pd HCP.out.n HCP.out.blk (by decide)) (row_pd HCP.out.e HCP.out.blk (by decide)) (row_pd HCP.out.x HCP.out.blk (by decide)) (by dsimp only; omega) (by dsimp only; omega) (by dsimp only; omega) (by dsimp only; omega) (fun e => hkn (congrArg R.table e).symm))
      clear hkn HLN
      go_wp2_with (fail)
      go_meet
      exact ⟨_, HD.out⟩
    focus
      have ke0 : (k == 0) = false := by rw [beq_eq_false_iff_ne]; omega
      have ke1 : (k == 1) = false := by rw [beq_eq_false_iff_ne]; omega
      have ke2 : (k == 2) = false := by rw [beq_eq_false_iff_ne]; omega
      have ke3 : (k == 3) = true := by rw [beq_iff_eq]; omega
      clear hk hk4
      have kc0 : W5.cell? ⟨d, 3, none⟩ = some (.slice s1 A.old.length r1) := HCP.out.blk.cell 3
      have HLL := hid HLN
      clear HLN
      go_wp2_with (first | (at_builtin; refine wpList_app1 rfl (s := .tmp 56) (x := .tmp 58) (t := 23) rfl Try.underlying23 info_val val_cells rfl rfl HCP.out.o HCP.out.fr.size rfl (by simp [Value.oneCell']) (by have := HLL.out; (try dsimp only); omega) (by have := HLL.out; (try dsimp only); omega) ?_; intro ab ac wg APP; have hb := HCP.out.blk.fr APP.fr (fun hk => HCP.out.o.ne HCP.out.blk (by decide) _ hk rfl); have HD := hid (HCP.out.done (q' := ⟨{ A with old := A.old ++ [⟨0, 0, []⟩] }, .slice ab (A.old.length + 1) ac, .slice s2 A.new.length r2, .slice s3 A.edits.length r3, .slice s4 A.xids.length r4⟩) (a := A) APP.fr (fun hk => HCP.out.o.ne HCP.out.blk (by decide) _ hk rfl) (fun k hk => HCP.out.o.new k hk) 3 (.slice ab (A.old.length + 1) ac) rfl (row_pd (APP.row.cast (by simp) (by simp [V.cells, bs])) hb (by decide)) (row_pd (HCP.out.n.fr APP.fr (fun k hk hs => HCP.out.on k hs hk)) hb (by decide)) (row_pd (HCP.out.e.fr APP.fr (fun k hk => row_apart HCP.out.e HCP.out.o (by decide) k hk)) hb (by decide)) (row_pd (HCP.out.x.fr APP.fr (fun k hk => row_apart HCP.out.x HCP.out.o (by decide) k hk)) hb (by decide)) (by have := HLL.out; simp; omega) (by have := HLL.out; dsimp only; omega) (by have := HLL.out; dsimp only; omega) (by have := HLL.out; dsimp only; omega) (fun e => by have := congrArg (fun r : R => r.old.length) e; simp at this)); have kc1 : wg.cell? ⟨d, 3, none⟩ = some (.slice s1 A.old.length r1) := hb.cell 3; have ky1 := hb.frozen 3; clear APP hb))
      go_meet
      exact ⟨_, HD.out⟩
    focus
      have ke0 : (k == 0) = false := by rw [beq_eq_false_iff_ne]; omega
      have ke1 : (k == 1) = false := by rw [beq_eq_false_iff_ne]; omega
      have ke2 : (k == 2) = false := by rw [beq_eq_false_iff_ne]; omega
      have ke3 : (k == 3) = false := by rw [beq_eq_false_iff_ne]; omega
      have ke4 : (k == 4) = true := by rw [beq_iff_eq]; omega
      clear hk hk4
      have W6 := hid (HCP.out.blk.alloc (.cells #[.int .i64 1, .int .i64 7, .string ⟨#[]⟩] 53))
      have kc0 : (W5.alloc (.cells #[.int .i64 1, .int .i64 7, .string ⟨#[]⟩] 53)).cell? ⟨d, 4, none⟩ = some (.slice s2 A.new.length r2) := W6.out.cell 4
      have HLL := hid HLN
      have f6 := hid ((Fr.refl (fun _ => False) W5).alloc (.cells #[.int .i64 1, .int .i64 7, .string ⟨#[]⟩] 53))
      have HR0 := hid (Row.built (e := 53) (n := 1) (size := 3) (B := W5.heap.size) W5 (l := [.int .i64 1, .int .i64 7, .string ⟨#[]⟩]) rfl (by decide) (Nat.le_refl _))
      have HSR := hid ((HCP.out.n.fre f6.out).src (P := Try.prog) (vcells_one A.new))
      clear HLN
      go_wp2_with (first | (at_builtin; refine wpList_appS rfl (s := .tmp 64) (x := .tmp 66) (t := 23) (tx := 23) rfl Try.underlying23 Try.underlying23 (.inr ⟨_, rfl⟩) info_val val_cells rfl rfl HR0.out (by rw [World.size_alloc]; omega) HSR.out (by have := HLL.out; (try dsimp only); omega) (by have := HLL.out; (try dsimp only); omega) ?_; intro ab ac wg APP; have hfg := APP.frB HR0.out f6.out (Nat.le_refl _); have hb := Blk.fr HCP.out.blk hfg (fun h => h); have HD := hid (HCP.out.done (q' := ⟨{ A with new := ⟨1, 7, []⟩ :: A.new }, .slice s1 A.old.length r1, .slice ab (1 + A.new.length) ac, .slice s3 A.edits.length r3, .slice s4 A.xids.length r4⟩) (a := A) hfg (fun h => h) (fun _ h => h.elim) 4 (.slice ab (1 + A.new.length) ac) rfl (row_pd (HCP.out.o.fre hfg) hb (by decide)) (row_pd ((APP.row.low HCP.out.fr.size).cast (by simp; omega) (by simp [V.cells, bs])) hb (by decide)) (row_pd (HCP.out.e.fre hfg) hb (by decide)) (row_pd (HCP.out.x.fre hfg) hb (by decide)) (by have := HLL.out; dsimp only; omega) (by have := HLL.out; simp; omega) (by have := HLL.out; dsimp only; omega) (by have := HLL.out; dsimp only; omega) (fun e => by have := congrArg (fun r : R => r.new.length) e; simp at this)); have kc1 : wg.cell? ⟨d, 4, none⟩ = some (.slice s2 A.new.length r2) := hb.cell 4; have ky1 := hb.frozen 4; clear APP hb hfg))
      go_meet
      exact ⟨_, HD.out⟩
    focus
      have ke0 : (k == 0) = false := by rw [beq_eq_false_iff_ne]; omega
      have ke1 : (k == 1) = false := by rw [beq_eq_false_iff_ne]; omega
      have ke2 : (k == 2) = false := by rw [beq_eq_false_iff_ne]; omega
      have ke3 : (k == 3) = false := by rw [beq_eq_false_iff_ne]; omega
      have ke4 : (k == 4) = false := by rw [beq_eq_false_iff_ne]; omega
      have ke5 : (k == 5) = true := by rw [beq_iff_eq]; omega
      clear hk hk4
      have kc0 : W5.cell? ⟨d, 5, none⟩ = some (.slice s3 A.edits.length r3) := HCP.out.blk.cell 5
      have HLL := hid HLN
      clear HLN
      go_wp2_with (first | (at_builtin; refine wpList_app1 rfl (s := .tmp 72) (x := .tmp 74) (t := 24) rfl Try.underlying24 info_edit edit_zcells rfl rfl HCP.out.e HCP.out.fr.size rfl (by simp [Value.oneCell']) (by have := HLL.out; (try dsimp only); omega) (by have := HLL.out; (try dsimp only); omega) ?_; intro ab ac wg APP; have hb := HCP.out.blk.fr APP.fr (fun hk => HCP.out.e.ne HCP.out.blk (by decide) _ hk rfl); have HD := hid (HCP.out.done (q' := ⟨{ A with edits := A.edits ++ [⟨0, 0, []⟩] }, .slice s1 A.old.length r1, .slice s2 A.new.length r2, .slice ab (A.edits.length + 1) ac, .slice s4 A.xids.length r4⟩) (a := A) APP.fr (fun hk => HCP.out.e.ne HCP.out.blk (by decide) _ hk rfl) (fun k hk => HCP.out.e.new k hk) 5 (.slice ab (A.edits.length + 1) ac) rfl (row_pd (HCP.out.o.fr APP.fr (fun k hk => row_apart HCP.out.o HCP.out.e (by decide) k hk)) hb (by decide)) (row_pd (HCP.out.n.fr APP.fr (fun k hk => row_apart HCP.out.n HCP.out.e (by decide) k hk)) hb (by decide)) (row_pd (APP.row.cast (by simp) (by simp [E.cells, bs])) hb (by decide)) (row_pd (HCP.out.x.fr APP.fr (fun k hk => row_apart HCP.out.x HCP.out.e (by decide) k hk)) hb (by decide)) (by have := HLL.out; dsimp only; omega) (by have := HLL.out; dsimp only; omega) (by have := HLL.out; simp; omega) (by have := HLL.out; dsimp only; omega) (fun e => by have := congrArg (fun r : R => r.edits.length) e; simp at this)); have kc1 : wg.cell? ⟨d, 5, none⟩ = some (.slice s3 A.edits.length r3) := hb.cell 5; have ky1 := hb.frozen 5; clear APP hb))
      go_meet
      exact ⟨_, HD.out⟩
    focus
      have ke0 : (k == 0) = false := by rw [beq_eq_false_iff_ne]; omega
      have ke1 : (k == 1) = false := by rw [beq_eq_false_iff_ne]; omega
      have ke2 : (k == 2) = false := by rw [beq_eq_false_iff_ne]; omega
      have ke3 : (k == 3) = false := by rw [beq_eq_false_iff_ne]; omega
      have ke4 : (k == 4) = false := by rw [beq_eq_false_iff_ne]; omega
      have ke5 : (k == 5) = false := by rw [beq_eq_false_iff_ne]; omega
      have ke6 : (k == 6) = true := by rw [beq_iff_eq]; omega
      clear hk hk4
      have W6 := hid (HCP.out.blk.alloc (.cells #[.int .i64 3] 3))
      have kc0 : (W5.alloc (.cells #[.int .i64 3] 3)).cell? ⟨d, 6, none⟩ = some (.slice s4 A.xids.length r4) := W6.out.cell 6
      have HLL := hid HLN
      have f6 := hid ((Fr.refl (fun _ => False) W5).alloc (.cells #[.int .i64 3] 3))
      have HR0 := hid (Row.built (e := 3) (n := 1) (size := 1) (B := W5.heap.size) W5 (l := [.int .i64 3]) rfl (by decide) (Nat.le_refl _))
      have HSR := hid ((HCP.out.x.fre f6.out).src (P := Try.prog) (icells_one A.xids))
      clear HLN
      go_wp2_with (first | (at_builtin; refine wpList_appS rfl (s := .tmp 79) (x := .tmp 81) (t := 25) (tx := 25) rfl Try.underlying25 Try.underlying25 (.inr ⟨_, rfl⟩) info_int rfl rfl rfl HR0.out (by rw [World.size_alloc]; omega) HSR.out (by have := HLL.out; (try dsimp only); omega) (by have := HLL.out; (try dsimp only); omega) ?_; intro ab ac wg APP; have hfg := APP.frB HR0.out f6.out (Nat.le_refl _); have hb := Blk.fr HCP.out.blk hfg (fun h => h); have HD := hid (HCP.out.done (q' := ⟨{ A with xids := 3 :: A.xids }, .slice s1 A.old.length r1, .slice s2 A.new.length r2, .slice s3 A.edits.length r3, .slice ab (1 + A.xids.length) ac⟩) (a := A) hfg (fun h => h) (fun _ h => h.elim) 6 (.slice ab (1 + A.xids.length) ac) rfl (row_pd (HCP.out.o.fre hfg) hb (by decide)) (row_pd (HCP.out.n.fre hfg) hb (by decide)) (row_pd (HCP.out.e.fre hfg) hb (by decide)) (row_pd ((APP.row.low HCP.out.fr.size).cast (by simp; omega) (by simp [icell])) hb (by decide)) (by have := HLL.out; dsimp only; omega) (by have := HLL.out; dsimp only; omega) (by have := HLL.out; dsimp only; omega) (by have := HLL.out; simp; omega) (fun e => by have := congrArg (fun r : R => r.xids.length) e; simp at this)); have kc1 : wg.cell? ⟨d, 6, none⟩ = some (.slice s4 A.xids.length r4) := hb.cell 6; have ky1 := hb.frozen 6; clear APP hb hfg))
      go_meet
      exact ⟨_, HD.out⟩
    focus
      have ke0 : (k == 0) = false := by rw [beq_eq_false_iff_ne]; omega
      have ke1 : (k == 1) = false := by rw [beq_eq_false_iff_ne]; omega
      have ke2 : (k == 2) = false := by rw [beq_eq_false_iff_ne]; omega
      have ke3 : (k == 3) = false := by rw [beq_eq_false_iff_ne]; omega
      have ke4 : (k == 4) = false := by rw [beq_eq_false_iff_ne]; omega
      have ke5 : (k == 5) = false := by rw [beq_eq_false_iff_ne]; omega
      have ke6 : (k == 6) = false := by rw [beq_eq_false_iff_ne]; omega
      have ke7 : (k == 7) = true := by rw [beq_iff_eq]; omega
      clear hk hk4
      have kc0 : W5.cell? ⟨d, 7, none⟩ = some (.string (bs A.note)) := HCP.out.blk.cell 7
      have ky0 := HCP.out.blk.frozen 7
      have hadd : (Op.stringOp .add (bs A.note) ⟨#[120]⟩).run Try.prog W5 = .ok (.string (bs (A.note ++ [120]))) W5 := run_add_bs (P := Try.prog) W5 A.note [120] (by simp; omega)
      have HD := hid (HCP.out.done (q' := ⟨{ A with note := A.note ++ [120] }, .slice s1 A.old.length r1, .slice s2 A.new.length r2, .slice s3 A.edits.length r3, .slice s4 A.xids.length r4⟩) (a := A) (Fr.refl (fun _ => False) W5) (fun h => h) (fun _ h => h.elim) 7 (.string (bs (A.note ++ [120]))) rfl (row_pd HCP.out.o HCP.out.blk (by decide)) (row_pd HCP.out.n HCP.out.blk (by decide)) (row_pd HCP.out.e HCP.out.blk (by decide)) (row_pd HCP.out.x HCP.out.blk (by decide)) (by dsimp only; omega) (by dsimp only; omega) (by dsimp only; omega) (by dsimp only; omega) (fun e => by have := congrArg (fun r : R => r.note.length) e; simp at this))
      clear HLN
      go_wp2_with (fail)
      go_meet
      exact ⟨_, HD.out⟩
    focus
      have ke0 : (k == 0) = false := by rw [beq_eq_false_iff_ne]; omega
      have ke1 : (k == 1) = false := by rw [beq_eq_false_iff_ne]; omega
      have ke2 : (k == 2) = false := by rw [beq_eq_false_iff_ne]; omega
      have ke3 : (k == 3) = false := by rw [beq_eq_false_iff_ne]; omega
      have ke4 : (k == 4) = false := by rw [beq_eq_false_iff_ne]; omega
      have ke5 : (k == 5) = false := by rw [beq_eq_false_iff_ne]; omega
      have ke6 : (k == 6) = false := by rw [beq_eq_false_iff_ne]; omega
      have ke7 : (k == 7) = false := by rw [beq_eq_false_iff_ne]; omega
      have ke8 : (k == 8) = true := by rw [beq_iff_eq]; omega
      clear hk hk4
      have W6 := hid (HCP.out.blk.alloc (.cells #[.int .i64 1, .int .i64 0, .string ⟨#[121]⟩] 55))
      have kc0 : (W5.alloc (.cells #[.int .i64 1, .int .i64 0, .string ⟨#[121]⟩] 55)).cell? ⟨d, 5, none⟩ = some (.slice s3 A.edits.length r3) := W6.out.cell 5
      have HLL := hid HLN
      have f6 := hid ((Fr.refl (fun _ => False) W5).alloc (.cells #[.int .i64 1, .int .i64 0, .string ⟨#[121]⟩] 55))
      have HR0 := hid (Row.built (e := 55) (n := 1) (size := 3) (B := W5.heap.size) W5 (l := [.int .i64 1, .int .i64 0, .string ⟨#[121]⟩]) rfl (by decide) (Nat.le_refl _))
      have HSR := hid ((HCP.out.e.fre f6.out).src (P := Try.prog) (ecells_one A.edits))
      clear HLN
      go_wp2_with (first | (at_builtin; refine wpList_appS rfl (s := .tmp 93) (x := .tmp 95) (t := 24) (tx := 24) rfl Try.underlying24 Try.underlying24 (.inr ⟨_, rfl⟩) info_edit edit_zcells rfl rfl HR0.out (by rw [World.size_alloc]; omega) HSR.out (by have := HLL.out; (try dsimp only); omega) (by have := HLL.out; (try dsimp only); omega) ?_; intro ab ac wg APP; have hfg := APP.frB HR0.out f6.out (Nat.le_refl _); have hb := Blk.fr HCP.out.blk hfg (fun h => h); have HD := hid (HCP.out.done (q' := ⟨{ A with edits := ⟨1, 0, [121]⟩ :: A.edits }, .slice s1 A.old.length r1, .slice s2 A.new.length r2, .slice ab (1 + A.edits.length) ac, .slice s4 A.xids.length r4⟩) (a := A) hfg (fun h => h) (fun _ h => h.elim) 5 (.slice ab (1 + A.edits.length) ac) rfl (row_pd (HCP.out.o.fre hfg) hb (by decide)) (row_pd (HCP.out.n.fre hfg) hb (by decide)) (row_pd ((APP.row.low HCP.out.fr.size).cast (by simp; omega) (by simp [E.cells, bs])) hb (by decide)) (row_pd (HCP.out.x.fre hfg) hb (by decide)) (by have := HLL.out; dsimp only; omega) (by have := HLL.out; dsimp only; omega) (by have := HLL.out; simp; omega) (by have := HLL.out; dsimp only; omega) (fun e => by have := congrArg (fun r : R => r.edits.length) e; simp at this)); have kc1 : wg.cell? ⟨d, 5, none⟩ = some (.slice s3 A.edits.length r3) := hb.cell 5; have ky1 := hb.frozen 5; clear APP hb hfg))
      go_meet
      exact ⟨_, HD.out⟩
    have ke0 : (k == 0) = false := by rw [beq_eq_false_iff_ne]; omega
    have ke1 : (k == 1) = false := by rw [beq_eq_false_iff_ne]; omega
    have ke2 : (k == 2) = false := by rw [beq_eq_false_iff_ne]; omega
    have ke3 : (k == 3) = false := by rw [beq_eq_false_iff_ne]; omega
    have ke4 : (k == 4) = false := by rw [beq_eq_false_iff_ne]; omega
    have ke5 : (k == 5) = false := by rw [beq_eq_false_iff_ne]; omega
    have ke6 : (k == 6) = false := by rw [beq_eq_false_iff_ne]; omega
    have ke7 : (k == 7) = false := by rw [beq_eq_false_iff_ne]; omega
    have ke8 : (k == 8) = false := by rw [beq_eq_false_iff_ne]; omega
    clear hk hk4
    have HFC := hid (fun w' (f : Fr (fun _ => False) W4 w') => few_is ((HRA2.out.fre f).av))
    have HAF := hid (show R.few A = A from HFF.out)
    have HLN := hid HLN
    simp only [HAF.out] at HFC
    have HS1 := hid (fun w' (f : Fr (fun _ => False) W4 w') => RSame_go (HRA2.out.fre f) (HRB.out.fre f))
    have HS2 := hid (fun w' (f : Fr (fun _ => False) W4 w') => r4Same_go (HRA2.out.fre f) (HRB.out.fre f))
    generalize decide (A = B) = ab at *
    go_upto_region 6 with fail
    have G5 := hid HCP.out.fr.drew
    have RA := hid (Blk.all _ (Blk.fr HA0.out G5.out (fun h => h)))
    have RB := hid (Blk.all _ (Blk.fr HB0.out G5.out (fun h => h)))
    refine wp_region_scr (.take 0 (.take 1 (.take 2 (.take 3 (.op 4 (.op 5 (.take 6 (.take 7 (.take 8 (.take 9 (.take 11 (.take 12 (.op 10 (.op 13 (.take 14 (.take 15 (.take 16 .done))))))))))))))))) (fun kz w => (kz ≤ 17 → w.rangeAt ba 0 (rv A (.slice x1 A.old.length y1) (.slice x2 A.new.length y2) (.slice x3 A.edits.length y3) (.slice x4 A.xids.length y4))) ∧ w.rangeAt bb 0 (rv B (.slice z1 B.old.length t1) (.slice z2 B.new.length t2) (.slice z3 B.edits.length t3) (.slice z4 B.xids.length t4))) (by kernel_rfl) (by kernel_rfl) (by intro c a d v w h; cases d <;> exact h) ?_
    repeat
      first
      | (refine wpT_pure rfl rfl rfl ?_; apply Exists.intro; refine ⟨?_, ?_⟩; intro w; (first | (first | exact run_load_mid _ _ rfl ba _ rfl _ _ qa Try.underlying27 rfl size_Rec | exact run_load_mid _ _ rfl bb _ rfl _ _ qb Try.underlying27 rfl size_Rec) | (go_simp <;> rfl)); simp only [Act.put, List.setIfInBounds_toArray, List.set_cons_zero, List.set_cons_succ])
      | (refine wpT_take 17 rfl rfl (by decide +kernel) ⟨fun _ => RA.out, RB.out⟩ ?_; apply Exists.intro; refine ⟨?_, ?_⟩; intro w hw; (have qa := hw.1 (Nat.le_refl _); have qb := hw.2); (first | (first | exact run_load_mid _ _ rfl ba _ rfl _ _ qa Try.underlying27 rfl size_Rec | exact run_load_mid _ _ rfl bb _ rfl _ _ qb Try.underlying27 rfl size_Rec) | (go_simp <;> rfl)); simp only [Act.put, List.setIfInBounds_toArray, List.set_cons_zero, List.set_cons_succ])
      | (refine wpT_skip rfl rfl ?_; simp only [Act.put, List.setIfInBounds_toArray, List.set_cons_zero, List.set_cons_succ])
    refine wpT_op rfl ?_
    go_wp2_with ((go_at_call 13; refine (HFC.out _ G5.out).mono ?_; rintro e w6 ⟨s1, s2, s3, s4, r1, r2, r3, r4, rfl, hq⟩; have HQF := hid (hq.rvl (by have := HLN.out; omega) (by have := HLN.out; omega) (by have := HLN.out; omega) (by have := HLN.out; omega)); have f := hq.fr; clear hq; have RA6 := hid (range_fr RA.out f (fun h => h)); have RB6 := hid (range_fr RB.out f (fun h => h)); have G6 := hid (G5.out.trans f (fun _ h _ => h)); clear f))
    (refine ⟨?_, ?_⟩; focus (intro kz hk hk2 hh; first | (exfalso; simp at hk2; omega) | exact hh | exact (fun h => absurd h (by omega)) | obtain ⟨qa, qb⟩ := hh; first | exact ⟨qa, qb⟩ | (refine ⟨fun h => absurd h (by omega), ?_⟩; first | exact qb | (first | exact RA6.out | exact RB6.out)) | (refine ⟨fun h => ?_, ?_⟩; (have qa := qa h); all_goals (first | exact qa | exact qb | (first | exact RA6.out | exact RB6.out)))))
    refine wpT_op rfl ?_
    go_wp2_with ((go_at_call 23; refine (RSame_go (HRA2.out.fre G6.out) HQF.out).mono ?_; rw [decide_eq_true (rfl : A = A)]; rintro e w7 ⟨rfl, f⟩; have RA7 := hid (range_fr RA6.out f (fun h => h)); have RB7 := hid (range_fr RB6.out f (fun h => h)); have G7 := hid (G6.out.trans f (fun _ h _ => h)); clear f))
    (refine ⟨?_, ?_⟩; focus (intro kz hk hk2 hh; first | (exfalso; simp at hk2; omega) | exact hh | exact (fun h => absurd h (by omega)) | obtain ⟨qa, qb⟩ := hh; first | exact ⟨qa, qb⟩ | (refine ⟨fun h => absurd h (by omega), ?_⟩; first | exact qb | (first | exact RA7.out | exact RB7.out)) | (refine ⟨fun h => ?_, ?_⟩; (have qa := qa h); all_goals (first | exact qa | exact qb | (first | exact RA7.out | exact RB7.out)))))
    repeat
      first
      | (refine wpT_pure rfl rfl rfl ?_; apply Exists.intro; refine ⟨?_, ?_⟩; intro w; (first | (first | exact run_load_mid _ _ rfl ba _ rfl _ _ qa Try.underlying27 rfl size_Rec | exact run_load_mid _ _ rfl bb _ rfl _ _ qb Try.underlying27 rfl size_Rec) | (go_simp <;> rfl)); simp only [Act.put, List.setIfInBounds_toArray, List.set_cons_zero, List.set_cons_succ])
      | (refine wpT_take 17 rfl rfl (by decide +kernel) ⟨fun _ => RA7.out, RB7.out⟩ ?_; apply Exists.intro; refine ⟨?_, ?_⟩; intro w hw; (have qa := hw.1 (Nat.le_refl _); have qb := hw.2); (first | (first | exact run_load_mid _ _ rfl ba _ rfl _ _ qa Try.underlying27 rfl size_Rec | exact run_load_mid _ _ rfl bb _ rfl _ _ qb Try.underlying27 rfl size_Rec) | (go_simp <;> rfl)); simp only [Act.put, List.setIfInBounds_toArray, List.set_cons_zero, List.set_cons_succ])
      | (refine wpT_skip rfl rfl ?_; simp only [Act.put, List.setIfInBounds_toArray, List.set_cons_zero, List.set_cons_succ])
    refine wpT_op rfl ?_
    go_wp2_with ((go_at_call 23; refine (HS1.out _ G7.out).mono ?_; rintro e w8 ⟨rfl, f⟩; have RA8 := hid (range_fr RA7.out f (fun h => h)); have RB8 := hid (range_fr RB7.out f (fun h => h)); have G8 := hid (G7.out.trans f (fun _ h _ => h)); clear f))
    (refine ⟨?_, ?_⟩; focus (intro kz hk hk2 hh; first | (exfalso; simp at hk2; omega) | exact hh | exact (fun h => absurd h (by omega)) | obtain ⟨qa, qb⟩ := hh; first | exact ⟨qa, qb⟩ | (refine ⟨fun h => absurd h (by omega), ?_⟩; first | exact qb | (first | exact RA8.out | exact RB8.out)) | (refine ⟨fun h => ?_, ?_⟩; (have qa := qa h); all_goals (first | exact qa | exact qb | (first | exact RA8.out | exact RB8.out)))))
    refine wpT_op rfl ?_
    go_wp2_with ((go_at_call 28; refine (HS2.out _ G8.out).mono ?_; rintro e w9 ⟨rfl, f⟩; have RA9 := hid (range_fr RA8.out f (fun h => h)); have RB9 := hid (range_fr RB8.out f (fun h => h)); have G9 := hid (G8.out.trans f (fun _ h _ => h)); clear f))
    (refine ⟨?_, ?_⟩; focus (intro kz hk hk2 hh; first | (exfalso; simp at hk2; omega) | exact hh | exact (fun h => absurd h (by omega)) | obtain ⟨qa, qb⟩ := hh; first | exact ⟨qa, qb⟩ | (refine ⟨fun h => absurd h (by omega), ?_⟩; first | exact qb | (first | exact RA9.out | exact RB9.out)) | (refine ⟨fun h => ?_, ?_⟩; (have qa := qa h); all_goals (first | exact qa | exact qb | (first | exact RA9.out | exact RB9.out)))))
    repeat
      first
      | (refine wpT_pure rfl rfl rfl ?_; apply Exists.intro; refine ⟨?_, ?_⟩; intro w; (first | (first | exact run_load_mid _ _ rfl ba _ rfl _ _ qa Try.underlying27 rfl size_Rec | exact run_load_mid _ _ rfl bb _ rfl _ _ qb Try.underlying27 rfl size_Rec) | (go_simp <;> rfl)); simp only [Act.put, List.setIfInBounds_toArray, List.set_cons_zero, List.set_cons_succ])
      | (refine wpT_take 17 rfl rfl (by decide +kernel) ⟨fun _ => RA9.out, RB9.out⟩ ?_; apply Exists.intro; refine ⟨?_, ?_⟩; intro w hw; (have qa := hw.1 (Nat.le_refl _); have qb := hw.2); (first | (first | exact run_load_mid _ _ rfl ba _ rfl _ _ qa Try.underlying27 rfl size_Rec | exact run_load_mid _ _ rfl bb _ rfl _ _ qb Try.underlying27 rfl size_Rec) | (go_simp <;> rfl)); simp only [Act.put, List.setIfInBounds_toArray, List.set_cons_zero, List.set_cons_succ])
      | (refine wpT_skip rfl rfl ?_; simp only [Act.put, List.setIfInBounds_toArray, List.set_cons_zero, List.set_cons_succ])
    refine wpT_nil ?_
    go_wp2_with (fail)
    go_ret
    exact ⟨ret_bool (by simp), G2.out.trans G9.out (fun _ h _ => h)⟩
  case rest =>
  obtain ⟨q, hD⟩ := hcut
  obtain ⟨C, co, cn, ce, cx⟩ := q
  obtain ⟨u1, e1, u2, e2, u3, e3, u4, e4, h1, h2, h3, h4⟩ := hD.rv.slices
  (try dsimp only at h1 h2 h3 h4)
  subst h1 h2 h3 h4
  have GW := hid hD.fr
  have hrc := hD.rv
  (try dsimp only at hrc)
  have HBC : Hid (Blk wc d (rv C (.slice u1 C.old.length e1) (.slice u2 C.new.length e2) (.slice u3 C.edits.length e3) (.slice u4 C.xids.length e4)) 27) := hid hD.blk
  have HS1 := hid (fun w' (f : Fr (fun _ => False) wc w') => RSame_go (HRA2.out.fre (GW.out.trans f (fun _ h _ => h))) (hrc.fre f))
  have HS2 := hid (fun w' (f : Fr (fun _ => False) wc w') => RSame_go (hrc.fre f) (HRA2.out.fre (GW.out.trans f (fun _ h _ => h))))
  rw [decide_eq_false hD.ne] at HS1
  rw [decide_eq_false (fun e => hD.ne e.symm)] at HS2
  have HS3 := hid (fun w' (f : Fr (fun _ => False) W4 w') => RSame_go (HRA2.out.fre f) (HRB.out.fre f))
  have HS4 := hid (fun w' (f : Fr (fun _ => False) W4 w') => r4Same_go (HRA2.out.fre f) (HRB.out.fre f))
  generalize decide (A = B) = ab at *
  clear hD hrc HCP
  go_upto_region 25 with fail
  have GC := hid ((Fr.refl (fun _ => False) wc).drew)
  have RA := hid (Blk.all _ (Blk.fr HA0.out (GW.out.trans GC.out (fun _ h _ => h)) (fun h => h)))
  have RB := hid (Blk.all _ (Blk.fr HB0.out (GW.out.trans GC.out (fun _ h _ => h)) (fun h => h)))
  have RC := hid (Blk.all _ HBC.out.drew)
  refine wp_region_scr (.take 0 (.take 1 (.take 2 (.take 3 (.op 4 (.take 5 (.take 6 (.take 7 (.take 8 (.take 9 (.op 10 (.take 11 (.take 12 (.take 13 (.take 14 (.take 15 (.take 17 (.take 18 (.op 16 (.op 19 (.take 20 (.take 21 (.take 22 .done))))))))))))))))))))))) (fun kz w => (kz ≤ 23 → w.rangeAt ba 0 (rv A (.slice x1 A.old.length y1) (.slice x2 A.new.length y2) (.slice x3 A.edits.length y3) (.slice x4 A.xids.length y4)) ∧ w.rangeAt d 0 (rv C (.slice u1 C.old.length e1) (.slice u2 C.new.length e2) (.slice u3 C.edits.length e3) (.slice u4 C.xids.length e4))) ∧ w.rangeAt bb 0 (rv B (.slice z1 B.old.length t1) (.slice z2 B.new.length t2) (.slice z3 B.edits.length t3) (.slice z4 B.xids.length t4))) (by kernel_rfl) (by kernel_rfl) (by intro c a d v w h; cases d <;> exact h) ?_
  repeat
    first
    | (refine wpT_pure rfl rfl rfl ?_; apply Exists.intro; refine ⟨?_, ?_⟩; intro w; (first | (first | exact run_load_mid _ _ rfl ba _ rfl _ _ qa.1 Try.underlying27 rfl size_Rec | exact run_load_mid _ _ rfl d _ rfl _ _ qa.2 Try.underlying27 rfl size_Rec | exact run_load_mid _ _ rfl bb _ rfl _ _ qb Try.underlying27 rfl size_Rec) | (go_simp <;> rfl)); simp only [Act.put, List.setIfInBounds_toArray, List.set_cons_zero, List.set_cons_succ])
    | (refine wpT_take 23 rfl rfl (by decide +kernel) ⟨fun _ => ⟨RA.out, RC.out⟩, RB.out⟩ ?_; apply Exists.intro; refine ⟨?_, ?_⟩; intro w hw; (have qa := hw.1 (Nat.le_refl _); have qb := hw.2); (first | (first | exact run_load_mid _ _ rfl ba _ rfl _ _ qa.1 Try.underlying27 rfl size_Rec | exact run_load_mid _ _ rfl d _ rfl _ _ qa.2 Try.underlying27 rfl size_Rec | exact run_load_mid _ _ rfl bb _ rfl _ _ qb Try.underlying27 rfl size_Rec) | (go_simp <;> rfl)); simp only [Act.put, List.setIfInBounds_toArray, List.set_cons_zero, List.set_cons_succ])
    | (refine wpT_skip rfl rfl ?_; simp only [Act.put, List.setIfInBounds_toArray, List.set_cons_zero, List.set_cons_succ])
  refine wpT_op rfl ?_
  go_wp2_with ((go_at_call 23; refine (HS1.out _ GC.out).mono ?_; rintro e w6 ⟨rfl, f⟩; have RA1 := hid (range_fr RA.out f (fun h => h)); have RB1 := hid (range_fr RB.out f (fun h => h)); have RC1 := hid (range_fr RC.out f (fun h => h)); have GC1 := hid (GC.out.trans f (fun _ h _ => h)); clear f))
  (refine ⟨?_, ?_⟩; focus (intro kz hk hk2 hh; first | (exfalso; simp at hk2; omega) | exact hh | exact (fun h => absurd h (by omega)) | obtain ⟨qa, qb⟩ := hh; first | exact ⟨qa, qb⟩ | (refine ⟨fun h => absurd h (by omega), ?_⟩; first | exact qb | (first | exact ⟨RA1.out, RC1.out⟩ | exact RB1.out)) | (refine ⟨fun h => ?_, ?_⟩; (have qa := qa h); all_goals (first | exact qa | exact qb | (first | exact ⟨RA1.out, RC1.out⟩ | exact RB1.out)))))
  repeat
    first
    | (refine wpT_pure rfl rfl rfl ?_; apply Exists.intro; refine ⟨?_, ?_⟩; intro w; (first | (first | exact run_load_mid _ _ rfl ba _ rfl _ _ qa.1 Try.underlying27 rfl size_Rec | exact run_load_mid _ _ rfl d _ rfl _ _ qa.2 Try.underlying27 rfl size_Rec | exact run_load_mid _ _ rfl bb _ rfl _ _ qb Try.underlying27 rfl size_Rec) | (go_simp <;> rfl)); simp only [Act.put, List.setIfInBounds_toArray, List.set_cons_zero, List.set_cons_succ])
    | (refine wpT_take 23 rfl rfl (by decide +kernel) ⟨fun _ => ⟨RA1.out, RC1.out⟩, RB1.out⟩ ?_; apply Exists.intro; refine ⟨?_, ?_⟩; intro w hw; (have qa := hw.1 (Nat.le_refl _); have qb := hw.2); (first | (first | exact run_load_mid _ _ rfl ba _ rfl _ _ qa.1 Try.underlying27 rfl size_Rec | exact run_load_mid _ _ rfl d _ rfl _ _ qa.2 Try.underlying27 rfl size_Rec | exact run_load_mid _ _ rfl bb _ rfl _ _ qb Try.underlying27 rfl size_Rec) | (go_simp <;> rfl)); simp only [Act.put, List.setIfInBounds_toArray, List.set_cons_zero, List.set_cons_succ])
    | (refine wpT_skip rfl rfl ?_; simp only [Act.put, List.setIfInBounds_toArray, List.set_cons_zero, List.set_cons_succ])
  refine wpT_op rfl ?_
  go_wp2_with ((go_at_call 23; refine (HS2.out _ GC1.out).mono ?_; rintro e w7 ⟨rfl, f⟩; have RA2 := hid (range_fr RA1.out f (fun h => h)); have RB2 := hid (range_fr RB1.out f (fun h => h)); have RC2 := hid (range_fr RC1.out f (fun h => h)); have GC2 := hid (GC1.out.trans f (fun _ h _ => h)); clear f))
  (refine ⟨?_, ?_⟩; focus (intro kz hk hk2 hh; first | (exfalso; simp at hk2; omega) | exact hh | exact (fun h => absurd h (by omega)) | obtain ⟨qa, qb⟩ := hh; first | exact ⟨qa, qb⟩ | (refine ⟨fun h => absurd h (by omega), ?_⟩; first | exact qb | (first | exact ⟨RA2.out, RC2.out⟩ | exact RB2.out)) | (refine ⟨fun h => ?_, ?_⟩; (have qa := qa h); all_goals (first | exact qa | exact qb | (first | exact ⟨RA2.out, RC2.out⟩ | exact RB2.out)))))
  repeat
    first
    | (refine wpT_pure rfl rfl rfl ?_; apply Exists.intro; refine ⟨?_, ?_⟩; intro w; (first | (first | exact run_load_mid _ _ rfl ba _ rfl _ _ qa.1 Try.underlying27 rfl size_Rec | exact run_load_mid _ _ rfl d _ rfl _ _ qa.2 Try.underlying27 rfl size_Rec | exact run_load_mid _ _ rfl bb _ rfl _ _ qb Try.underlying27 rfl size_Rec) | (go_simp <;> rfl)); simp only [Act.put, List.setIfInBounds_toArray, List.set_cons_zero, List.set_cons_succ])
    | (refine wpT_take 23 rfl rfl (by decide +kernel) ⟨fun _ => ⟨RA2.out, RC2.out⟩, RB2.out⟩ ?_; apply Exists.intro; refine ⟨?_, ?_⟩; intro w hw; (have qa := hw.1 (Nat.le_refl _); have qb := hw.2); (first | (first | exact run_load_mid _ _ rfl ba _ rfl _ _ qa.1 Try.underlying27 rfl size_Rec | exact run_load_mid _ _ rfl d _ rfl _ _ qa.2 Try.underlying27 rfl size_Rec | exact run_load_mid _ _ rfl bb _ rfl _ _ qb Try.underlying27 rfl size_Rec) | (go_simp <;> rfl)); simp only [Act.put, List.setIfInBounds_toArray, List.set_cons_zero, List.set_cons_succ])
    | (refine wpT_skip rfl rfl ?_; simp only [Act.put, List.setIfInBounds_toArray, List.set_cons_zero, List.set_cons_succ])
  refine wpT_op rfl ?_
  go_wp2_with ((go_at_call 23; refine (HS3.out _ (GW.out.trans GC2.out (fun _ h _ => h))).mono ?_; rintro e w8 ⟨rfl, f⟩; have RA3 := hid (range_fr RA2.out f (fun h => h)); have RB3 := hid (range_fr RB2.out f (fun h => h)); have RC3 := hid (range_fr RC2.out f (fun h => h)); have GC3 := hid (GC2.out.trans f (fun _ h _ => h)); clear f))
  (refine ⟨?_, ?_⟩; focus (intro kz hk hk2 hh; first | (exfalso; simp at hk2; omega) | exact hh | exact (fun h => absurd h (by omega)) | obtain ⟨qa, qb⟩ := hh; first | exact ⟨qa, qb⟩ | (refine ⟨fun h => absurd h (by omega), ?_⟩; first | exact qb | (first | exact ⟨RA3.out, RC3.out⟩ | exact RB3.out)) | (refine ⟨fun h => ?_, ?_⟩; (have qa := qa h); all_goals (first | exact qa | exact qb | (first | exact ⟨RA3.out, RC3.out⟩ | exact RB3.out)))))
  refine wpT_op rfl ?_
  go_wp2_with ((go_at_call 28; refine (HS4.out _ (GW.out.trans GC3.out (fun _ h _ => h))).mono ?_; rintro e w9 ⟨rfl, f⟩; have RA4 := hid (range_fr RA3.out f (fun h => h)); have RB4 := hid (range_fr RB3.out f (fun h => h)); have RC4 := hid (range_fr RC3.out f (fun h => h)); have GC4 := hid (GC3.out.trans f (fun _ h _ => h)); clear f))
  (refine ⟨?_, ?_⟩; focus (intro kz hk hk2 hh; first | (exfalso; simp at hk2; omega) | exact hh | exact (fun h => absurd h (by omega)) | obtain ⟨qa, qb⟩ := hh; first | exact ⟨qa, qb⟩ | (refine ⟨fun h => absurd h (by omega), ?_⟩; first | exact qb | (first | exact ⟨RA4.out, RC4.out⟩ | exact RB4.out)) | (refine ⟨fun h => ?_, ?_⟩; (have qa := qa h); all_goals (first | exact qa | exact qb | (first | exact ⟨RA4.out, RC4.out⟩ | exact RB4.out)))))
  repeat
    first
    | (refine wpT_pure rfl rfl rfl ?_; apply Exists.intro; refine ⟨?_, ?_⟩; intro w; (first | (first | exact run_load_mid _ _ rfl ba _ rfl _ _ qa.1 Try.underlying27 rfl size_Rec | exact run_load_mid _ _ rfl d _ rfl _ _ qa.2 Try.underlying27 rfl size_Rec | exact run_load_mid _ _ rfl bb _ rfl _ _ qb Try.underlying27 rfl size_Rec) | (go_simp <;> rfl)); simp only [Act.put, List.setIfInBounds_toArray, List.set_cons_zero, List.set_cons_succ])
    | (refine wpT_take 23 rfl rfl (by decide +kernel) ⟨fun _ => ⟨RA4.out, RC4.out⟩, RB4.out⟩ ?_; apply Exists.intro; refine ⟨?_, ?_⟩; intro w hw; (have qa := hw.1 (Nat.le_refl _); have qb := hw.2); (first | (first | exact run_load_mid _ _ rfl ba _ rfl _ _ qa.1 Try.underlying27 rfl size_Rec | exact run_load_mid _ _ rfl d _ rfl _ _ qa.2 Try.underlying27 rfl size_Rec | exact run_load_mid _ _ rfl bb _ rfl _ _ qb Try.underlying27 rfl size_Rec) | (go_simp <;> rfl)); simp only [Act.put, List.setIfInBounds_toArray, List.set_cons_zero, List.set_cons_succ])
    | (refine wpT_skip rfl rfl ?_; simp only [Act.put, List.setIfInBounds_toArray, List.set_cons_zero, List.set_cons_succ])
  refine wpT_nil ?_
  go_wp2_with (fail)
  go_ret
  exact ⟨ret_bool (by simp), G2.out.trans (GW.out.trans GC4.out (fun _ h _ => h)) (fun _ h _ => h)⟩
end Go.Proofs.Ytfhkmiifndhacaa
namespace Go.Proofs.Ytfhkmiifndhacaa.recordSame
open Go.ChangeShapes Go.WideShapes Go.ChangeAt Go.RowKit Go.VB Go.VB.Rec
set_option maxHeartbeats 400000 in
set_option maxRecDepth 100000 in
theorem lifted (os : Os) (started : os.Started) (H : Type) (enc : TypeId × Value → H) :
    ReturnsInHanded {} Try.checked os 8 .any (Rows.recordSameSpec.pre6 enc Try.prog Try.f8 Rows.recordSameRow.domain false) (Rows.recordSameSpec.post enc Try.prog Try.f8 false true false false) := by
  refine returnsInHanded_of_change (C := Try.checked) own started (by kernel_rfl) Try.func8
    (ChangeSpec.witness6 (enc := enc) (C := Try.checked) false ⟨#[], #[.agg #[.int .i64 0, .int .i64 0, .int .i64 0, .slice none 0 0, .slice none 0 0, .slice none 0 0, .slice none 0 0, .string ⟨#[]⟩], .agg #[.int .i64 0, .int .i64 0, .int .i64 0, .slice none 0 0, .slice none 0 0, .slice none 0 0, .slice none 0 0, .string ⟨#[]⟩], .int .i64 0], []⟩ 8 (by kernel_rfl) (by kernel_rfl) (by kernel_rfl) (by kernel_rfl)) ?_
  intro W base args ds gs before hval0 hW hcnd _
  have hval : ∀ (j : Nat) t v, Try.f8.params[j]? = some t → args[j]? = some v → Value.okWide Try.prog W .any base t v := hval0
  have hW' := hW
  obtain ⟨p, q, hA0, hV, rfl, hfz, hnd⟩ := hW
  have hA : DataW.TrodAll enc Try.prog W 0 (fun _ => true) true Try.f8.params.toList args.toList ds p := hA0
  rw [Try.params8] at hA hval
  obtain ⟨v0, vs0, d0, ds0, p0, q0, hargs, rfl, rfl, h0, r0⟩ := trodAll_cons hA
  obtain ⟨v1, vs1, d1, ds1, p1, q1, rfl, rfl, rfl, h1, r1⟩ := trodAll_cons r0
  obtain ⟨v2, vs2, d2, ds2, p2, q2, rfl, rfl, rfl, h2, r2⟩ := trodAll_cons r1
  obtain ⟨rfl, rfl, rfl⟩ := trodAll_nil r2
  obtain rfl : args = #[v0, v1, v2] := by cases args; simp_all
  obtain ⟨rfl, rfl⟩ := trodVars_none hV
  clear hA0 hval0
  refine Calls.mono (R := fun e w' => e = .returned (.bool true) ∧ Fr (fun _ => False) W w') ?_ fun e W' ⟨he, hf⟩ => ⟨_, he, post_law sound (by decide +kernel) rfl rfl (ht := Try.underlying4) (by rfl) hW' hf⟩
  obtain ⟨a, vo, vn, ve, vx, rfl, ha, ia⟩ := rec_agg (hval 0 27 v0 rfl rfl) h0
  obtain ⟨b, uo, un, ue, ux, rfl, hb, -⟩ := rec_agg (hval 1 27 v1 rfl rfl) h1
  obtain ⟨n, rfl, -, -, w2⟩ := open_int Try.underlying3 (hval 2 3 v2 rfl rfl) h2
  exact Same_walk ha hb ia n
theorem proved : Rows.RecordSameSaid :=
  OpenClaim.holds_of_wide 8 Try.f8 rfl rfl rfl rfl rfl rfl rfl ⟨rfl, rfl, rfl, rfl, rfl⟩ rfl rfl rfl rfl rfl (by kernel_rfl) Try.func8 (by kernel_rfl)
    (of_decide_eq_true (by kernel_rfl)) (by unfold Func.isWrapper; first | (rw [if_pos (by decide +kernel)]; kernel_rfl) | (rw [if_neg (by decide +kernel)]; exact ⟨rfl, rfl⟩))
    (fun os started H enc _ => lifted os started H enc)
end Go.Proofs.Ytfhkmiifndhacaa.recordSame
