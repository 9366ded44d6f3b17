import Derived.Deep.CutBlock
import Derived.Test.YtiimomgbklgicaaGreatPkRsP
import Derived.Test.YtiimomgbklgicaaGreatPkRsS
set_option linter.unusedVariables false
namespace Go.VB.Slt
open Go.VB Go.VB.Oct Go.VB.Cat Go.VB.Rec
/-- the blocks of a record -/
def RecV.has (r : RecV) (k : Nat) : Prop := r.vo.ownBlock = some k ∨ r.vn.ownBlock = some k ∨ r.vx.ownBlock = some k
/-- a record as Log gives it -/
structure GoodRc (r : Rc) : Prop where
  kind : 1 ≤ r.kind ∧ r.kind ≤ 10
  xid : 0 ≤ r.xid ∧ r.xid ≤ 9
  table : 0 ≤ r.table ∧ r.table ≤ 4
  xids : ∀ x ∈ r.xids, 0 ≤ x ∧ x ≤ 9
  lo : r.old.length ≤ 2
  ln : r.new.length ≤ 2
  lx : r.xids.length ≤ 2
  note : r.note.length ≤ 1585
  vo : ∀ v ∈ r.old, (v.k = 0 ∨ v.k = 1) ∧ v.s = [] ∧ -9223372036854775808 ≤ v.n ∧ v.n ≤ 9223372036854775807
  vn : ∀ v ∈ r.new, (v.k = 0 ∨ v.k = 1) ∧ v.s = [] ∧ -9223372036854775808 ≤ v.n ∧ v.n ≤ 9223372036854775807
end Go.VB.Slt
namespace Go.Proofs.YtiimomgbklgicaaGreat
open Go.RowKit Go.VB Go.VB.Oct Go.VB.Cat Go.VB.Rec Go.VB.Slt
/-- a record of the call's own -/
structure RecO (B : Nat) (W : World) (r : RecV) : Prop where
  o : Row 85 3 B W r.vo r.r.old.length (r.r.old.flatMap V.cells)
  n : Row 85 3 B W r.vn r.r.new.length (r.r.new.flatMap V.cells)
  x : Row 3 1 B W r.vx r.r.xids.length (r.r.xids.flatMap icell)
  e : r.ve = .slice none 0 0
  g : GoodRc r.r
namespace RecO
variable {B A : Nat} {U : Nat → Prop} {W W' : World} {r : RecV}
theorem fr (h : RecO B W r) (f : Fr U W W') (hU : ∀ k, r.has k → ¬ U k) : RecO B W' r :=
  ⟨h.o.fr f (fun k hk => hU k (.inl hk)), h.n.fr f (fun k hk => hU k (.inr (.inl hk))), h.x.fr f (fun k hk => hU k (.inr (.inr hk))), h.e, h.g⟩
theorem fre (h : RecO B W r) (f : Fr (fun _ => False) W W') : RecO B W' r := h.fr f (fun _ _ h => h)
theorem low (h : RecO B W r) (hA : A ≤ B) : RecO A W r := ⟨h.o.low hA, h.n.low hA, h.x.low hA, h.e, h.g⟩
theorem lt (h : RecO B W r) {k : Nat} (hk : r.has k) : k < W.heap.size := hk.elim h.o.lt (fun hk => hk.elim h.n.lt h.x.lt)
theorem ge (h : RecO B W r) {k : Nat} (hk : r.has k) : B ≤ k := hk.elim (h.o.new k) (fun hk => hk.elim (h.n.new k) (h.x.new k))
theorem ne (h : RecO B W r) {d : Nat} {l : List Value} {t : TypeId} (hb : Blk W d l t) (h1 : t ≠ 85) (h2 : t ≠ 3) : ¬ r.has d := fun hk => hk.elim (fun hk => h.o.ne hb h1 d hk rfl) (fun hk => hk.elim (fun hk => h.n.ne hb h1 d hk rfl) (fun hk => h.x.ne hb h2 d hk rfl))
/-- a record to be read -/
theorem s (h : RecO B W r) : RecS (fun k => B ≤ k) W r :=
  ⟨h.o.sl, h.n.sl, h.x.sl, ⟨none, 0, 0, h.e⟩, by have := h.g.lo; omega, by have := h.g.ln; omega, by have := h.g.lx; omega⟩
end RecO
/-- the records so far, the catalog, apart -/
structure LG (w W : World) (c : Nat) (S : Nat → Prop) (m : List Tab) (a : Option Addr) (cc : Nat) (rs : List RecV) : Prop where
  o : OR w S W c m
  r : Row 35 8 w.heap.size W (.slice a rs.length cc) rs.length (rs.flatMap RecV.cells)
  rS : ∀ k, (Value.slice a rs.length cc).ownBlock = some k → ¬ S k
  c : ∀ x ∈ rs, RecO w.heap.size W x
  cS : ∀ x ∈ rs, ∀ k, x.has k → ¬ S k
namespace LG
variable {w W W' wg : World} {c : Nat} {S : Nat → Prop} {m m' : List Tab} {a b : Option Addr} {cc cb : Nat} {rs : List RecV}
theorem fre (h : LG w W c S m a cc rs) (f : Fr (fun _ => False) W W') : LG w W' c S m a cc rs := ⟨h.o.fre f, h.r.fre f, h.rS, fun x hx => (h.c x hx).fre f, h.cS⟩
theorem new (w : World) : LG w (w.alloc (.cells #[.slice none 0 0] 83)) w.heap.size (fun k => k = w.heap.size) [] none 0 [] :=
  ⟨OR.new w, Row.nil, fun k hk => by simp [Value.ownBlock] at hk, fun x hx => by simp at hx, fun x hx => by simp at hx⟩
theorem did (h : LG w W c S m a cc rs) (ho : OR w (Ext S W W') W' c m') (f : Fr S W W') : LG w W' c (Ext S W W') m' a cc rs := by
  have ext : ∀ k, k < W.heap.size → ¬ S k → ¬ Ext S W W' k := fun k hk hn he => he.elim hn (fun g => by omega)
  exact ⟨ho, h.r.fr f h.rS, fun k hk => ext k (h.r.lt hk) (h.rS k hk), fun x hx => (h.c x hx).fr f (h.cS x hx), fun x hx k hk => ext k ((h.c x hx).lt hk) (h.cS x hx k hk)⟩
theorem snoc (h : LG w W c S m a cc rs) {r : RecV} (hr : RecO w.heap.size W r) (hS : ∀ k, r.has k → ¬ S k) (hc : cb = cb) (app : App 35 8 w.heap.size W wg (.slice a rs.length cc) (.slice b (rs.length + 1) cb) rs.length (rs.flatMap RecV.cells) r.cells) :
    LG w wg c S m b cb (rs ++ [r]) := by
  have off : ∀ x : RecV, RecO w.heap.size W x → RecO w.heap.size wg x := fun x hx => hx.fr app.fr fun k hk e => by
    obtain ⟨l, hb⟩ := row_blk h.r e
    exact hx.ne hb (by decide) (by decide) hk
  refine ⟨h.o.keep app.fr fun k hk => ⟨h.rS k hk, h.r.new k hk⟩, ?_, fun k hk => ?_, fun x hx => ?_, fun x hx => ?_⟩
  · rw [List.length_append]
    exact app.row.cast rfl (by rw [List.flatMap_append]; simp)
  · rw [List.length_append] at hk
    rcases app.at_ k hk with g | g
    · exact h.rS k g
    · intro hs
      have := h.o.lt hs
      omega
  · rcases List.mem_append.1 hx with g | g
    · exact off x (h.c x g)
    · rw [List.mem_singleton.1 g]; exact off r hr
  · rcases List.mem_append.1 hx with g | g
    · exact h.cS x g
    · rw [List.mem_singleton.1 g]; exact hS
theorem off (h : LG w W c S m a cc rs) {d : Nat} {l : List Value} (hb : Blk W d l 35) (f : Fr (fun k => k = d) W W') (hS : ¬ S d) (hw : w.heap.size ≤ d) (hr : ∀ k, (Value.slice a rs.length cc).ownBlock = some k → k ≠ d) : LG w W' c S m a cc rs :=
  ⟨h.o.keep f (fun k hk => by subst hk; exact ⟨hS, hw⟩), h.r.fr f hr, h.rS, fun x hx => (h.c x hx).fr f (fun k hk e => (h.c x hx).ne hb (by decide) (by decide) (e ▸ hk)), h.cS⟩
end LG
theorem flat_drop2 {α : Type} {k : Nat} {f : α → List Value} (hf : ∀ x, (f x).length = k) : ∀ (l : List α) (a : Nat), (l.drop a).flatMap f = (l.flatMap f).drop (a * k)
  | l, 0 => by simp
  | [], a + 1 => by simp
  | x :: l, a + 1 => by
    rw [List.drop_succ_cons, flat_drop2 hf l a, List.flatMap_cons, Nat.succ_mul, Nat.add_comm (a * k) k, ← List.drop_drop, List.drop_left' (hf x)]
theorem sl_drop {α : Type} {k n g o c : Nat} {R : Nat → Prop} {w : World} {l : List α} {f : α → List Value} (hf : ∀ x, (f x).length = k) (h : Sl R w (.slice (some ⟨g, o, none⟩) n c) l.length (l.flatMap f)) {a : Nat} (ha : a ≤ l.length) : Sl R w (.slice (some ⟨g, o + a * k, none⟩) (n - a) (c - a)) (l.drop a).length ((l.drop a).flatMap f) := by
  obtain ⟨a', c', e, hc, hx⟩ := h
  injection e with e1 e2 e3
  subst e1 e2 e3
  refine ⟨some ⟨g, o + a * k, none⟩, c - a, by rw [List.length_drop], by rw [List.length_drop]; omega, fun hne => ?_⟩
  rw [flat_drop2 hf] at hne ⊢
  obtain ⟨g', o', e, hR, hr⟩ := hx (fun e => hne (by rw [e]; exact List.drop_nil))
  injection e with e
  injection e with e1 e2
  subst e1 e2
  refine ⟨g, o + a * k, rfl, hR, fun j u hu => ?_⟩
  rw [List.getElem?_drop] at hu
  have := hr _ u hu
  rwa [← Nat.add_assoc] at this
theorem size_rec : (Tryz.prog.info? 35).map (·.size) = some 8 := by kernel_rfl
theorem info_rec : (Tryz.prog.info? 35).map (fun i => (i.zero, i.size, i.bytes)) = some (some (.agg #[.int .i64 0, .int .i64 0, .int .i64 0, .slice none 0 0, .slice none 0 0, .slice none 0 0, .slice none 0 0, .string .empty]), 8, 136) := by kernel_rfl
/-- behind a round's case: the record made, the catalog as it was -/
theorem LG.keepR {w W W' : World} {c d : Nat} {S : Nat → Prop} {m : List Tab} {a : Option Addr} {cc : Nat} {rs : List RecV} (h : LG w W c S m a cc rs) (f : Fr (fun _ => False) W W') {r : RecV} (hb : Blk W' d r.cells 35) (hr : RecO W.heap.size W' r) :
    ∃ (S' : Nat → Prop) (m' : List Tab) (r' : RecV), Blk W' d r'.cells 35 ∧ RecO w.heap.size W' r' ∧ (∀ k, r'.has k → ¬ S' k) ∧ LG w W' c S' m' a cc rs :=
  ⟨S, m, r, hb, hr.low h.o.fr.size, fun k hk hs => by have := hr.ge hk; have := h.o.lt hs; omega, h.fre f⟩
theorem good_of {kind x tb : Int} {old new : List V} {xids : List Int} {note : Bs} (hk : 1 ≤ kind ∧ kind ≤ 10) (hx : 0 ≤ x ∧ x ≤ 9) (ht : 0 ≤ tb ∧ tb ≤ 4) (hi : ∀ y ∈ xids, 0 ≤ y ∧ y ≤ 9) (lo : old.length ≤ 2) (ln : new.length ≤ 2) (lx : xids.length ≤ 2) (hn : note.length ≤ 1585)
    (vo : ∀ v ∈ old, (v.k = 0 ∨ v.k = 1) ∧ v.s = [] ∧ -9223372036854775808 ≤ v.n ∧ v.n ≤ 9223372036854775807) (vn : ∀ v ∈ new, (v.k = 0 ∨ v.k = 1) ∧ v.s = [] ∧ -9223372036854775808 ≤ v.n ∧ v.n ≤ 9223372036854775807) : GoodRc ⟨kind, x, tb, old, new, xids, note⟩ := ⟨hk, hx, ht, hi, lo, ln, lx, hn, vo, vn⟩
/-- one cell of the record that is being made stored -/
theorem rec_put {WR W0 : World} {d j : Nat} {l l' : List Value} (F : Fr (fun _ => False) WR W0) (D : Blk W0 d l 35) (hd : WR.heap.size ≤ d) (v : Value) (hl : l.set j v = l') :
    Blk (W0.setCell ⟨d, j, none⟩ v) d l' 35 ∧ Fr (fun _ => False) WR (W0.setCell ⟨d, j, none⟩ v) ∧ ∀ {e : TypeId} {size B n : Nat} {u : Value} {xs : List Value}, 35 ≠ e → Row e size B W0 u n xs → Row e size B (W0.setCell ⟨d, j, none⟩ v) u n xs := by
  have fs := (Fr.refl (fun k => k = d) W0).setCell ⟨d, j, none⟩ v (fun _ => rfl)
  refine ⟨by rw [← hl]; exact D.set j v, F.trans fs (fun k hk hl => by omega), fun he r => r.fr fs (fun k hk e => r.ne D he k hk e)⟩
end Go.Proofs.YtiimomgbklgicaaGreat
namespace Go.Proofs.YtiimomgbklgicaaGreat
open Go.RowKit Go.VB Go.VB.Oct Go.VB.Cat Go.VB.Rec Go.VB.Slt
set_option maxRecDepth 20000 in
set_option maxHeartbeats 8000000 in
theorem Log_go {P : Nat → Prop} {w : World} {va : Value} {L : List Int} (h : Sl P w va L.length (L.flatMap icell)) (hI : ∀ x ∈ L, -9223372036854775808 ≤ x ∧ x ≤ 9223372036854775807) (hl : L.length ≤ 9223372036854775807) :
    Calls Tryz.prog 9 #[va] w fun e w' => ∃ (u : Value) (rs : List RecV), e = .returned u ∧ rs.length ≤ 100 ∧ Row 35 8 w.heap.size w' u rs.length (rs.flatMap RecV.cells) ∧ (∀ x ∈ rs, RecO w.heap.size w' x) ∧ Fr (fun _ => False) w w' := by
  have HX := hid h
  obtain ⟨a, c, rfl, hc, -⟩ := h
  have HLL := hid hl
  have HCC := hid hc
  have HI := hid hI
  have HO0 := hid (LG.new w)
  clear hl hc hI
  go_enter Tryz.func9, Tryz.ntmps9
  go_upto_region 2 with fail
  generalize w.alloc _ = W1 at *
  generalize hr : w.heap.size = r at *
  have HRE := hid hr
  clear hr
  go_wp2_with (fail)
  go_loopw [4, 5] (fun s4 s5 wr => ∃ (t : Nat) (S : Nat → Prop) (m : List Tab) (b : Option Addr) (cb : Nat) (rs : List RecV), t ≤ 100 ∧ rs.length = t ∧ s5 = .int .i64 ((3 * t : Nat) : Int) ∧ s4 = .slice b rs.length cb ∧ LG w wr r S m b cb rs) (fun _ s5 _ => 300 - (intOf s5).toNat)
  case atStart => exact ⟨0, _, _, none, 0, [], by omega, rfl, rfl, rfl, HO0.out⟩
  case round =>
    obtain ⟨t, S, m, b, cb, rs, ht, hrt, rfl, rfl, hg⟩ := hrel
    have HG := hid hg
    have HRT := hid hrt
    have HT := hid ht
    clear hg HO0 hrt
    rename World => WR
    obtain ⟨i, hi⟩ : ∃ i, i = 3 * t := ⟨_, rfl⟩
    rw [← hi]
    have HIE := hid hi
    have hi300 : i ≤ 300 := by omega
    clear hi
    obtain ⟨i1, h1⟩ : ∃ n : Nat, n = i + 1 := ⟨_, rfl⟩
    obtain ⟨i2, h2⟩ : ∃ n : Nat, n = i + 2 := ⟨_, rfl⟩
    obtain ⟨i3, h3⟩ : ∃ n : Nat, n = i + 3 := ⟨_, rfl⟩
    have HI123 := hid (show i1 = i + 1 ∧ i2 = i + 2 ∧ i3 = i + 3 from ⟨h1, h2, h3⟩)
    have w1 : IntKind.i64.wrap ((i : Int) + 1) = (i1 : Int) := (IntWalk.i64_in _ (by omega)).trans (by omega)
    have w2 : IntKind.i64.wrap ((i : Int) + 2) = (i2 : Int) := (IntWalk.i64_in _ (by omega)).trans (by omega)
    have w3 : IntKind.i64.wrap ((i : Int) + 3) = (i3 : Int) := (IntWalk.i64_in _ (by omega)).trans (by omega)
    by_cases hc12 : i2 < L.length ∧ i < 300
    · obtain ⟨hiL, hi3⟩ := hc12
      have b0 : (i : Int) < 300 := by omega
      have b1 : (i : Int) < (L.length : Int) := by omega
      have b2 : (i1 : Int) < (L.length : Int) := by omega
      have b3 : (i2 : Int) < (L.length : Int) := by omega
      have c1 : (0 : Int) ≤ (i : Int) := by omega
      have c2 : (0 : Int) ≤ (i1 : Int) := by omega
      have c3 : (0 : Int) ≤ (i2 : Int) := by omega
      obtain ⟨g, o, rfl, hg, hcell⟩ := sl_cell1 (f := icell) (fun _ => rfl) (HX.out.fr HG.out.o.fr (fun _ _ h => h)) (fun hn => by rw [hn] at hiL; simp at hiL)
      have q0 : WR.cell? ⟨g, o + i, none⟩ = some (.int .i64 L[i]) := hcell i (by omega)
      have q1 : WR.cell? ⟨g, o + i1, none⟩ = some (.int .i64 L[i1]) := hcell i1 (by omega)
      have q2 : WR.cell? ⟨g, o + i2, none⟩ = some (.int .i64 L[i2]) := hcell i2 (by omega)
      have HN := hid (HI.out L[i2] (List.getElem_mem _))
      have HSD := hid (fun (W : World) (f : Fr (fun _ => False) w W) => show Sl P W (.slice (some ⟨g, o + i, none⟩) (L.length - i) (c - i)) (L.drop i).length ((L.drop i).flatMap icell) from by
        have := sl_drop (k := 1) icell_len (HX.out.fr f (fun _ _ h => h)) (a := i) (by omega)
        rwa [Nat.mul_one] at this)
      have hci : ¬ c = i := by have := HCC.out; omega
      clear hcell hg
      generalize L[i] = x0 at *
      generalize L[i1] = x1 at *
      generalize L[i2] = x2 at *
      clear h1 h2 h3
      have s1 := Int.tmod_lt_of_pos x1 (show (0 : Int) < 7 by omega)
      have s2 : -7 < x1.tmod 7 := Int.lt_tmod_of_pos x1 (show (0 : Int) < 7 by omega)
      have s3 := Int.tmod_lt_of_pos x0 (show (0 : Int) < 16 by omega)
      have s4 : -16 < x0.tmod 16 := Int.lt_tmod_of_pos x0 (show (0 : Int) < 16 by omega)
      have s5 := Int.tmod_lt_of_pos x2 (show (0 : Int) < 4 by omega)
      have s6 : -4 < x2.tmod 4 := Int.lt_tmod_of_pos x2 (show (0 : Int) < 4 by omega)
      have d1 : IntKind.i64.wrap (x1.tmod 7 + 7) = x1.tmod 7 + 7 := IntWalk.i64_in _ (by omega)
      have d2 : IntKind.i64.wrap (x0.tmod 16 + 16) = x0.tmod 16 + 16 := IntWalk.i64_in _ (by omega)
      have d3 : IntKind.i64.wrap (x2.tmod 4 + 4) = x2.tmod 4 + 4 := IntWalk.i64_in _ (by omega)
      obtain ⟨y, hy, hy2, hy3⟩ : ∃ y : Int, (x1.tmod 7 + 7).tmod 7 = y ∧ 0 ≤ y ∧ y < 7 := ⟨x1 % 7, tmod_fix x1 7 (by omega), by omega, by omega⟩
      obtain ⟨k, hk, hk2⟩ : ∃ k : Nat, (x0.tmod 16 + 16).tmod 16 = (k : Int) ∧ k < 16 := ⟨(x0 % 16).toNat, (tmod_fix x0 16 (by omega)).trans (by omega), by omega⟩
      obtain ⟨z, hz, hz2, hz3⟩ : ∃ y : Int, (x2.tmod 4 + 4).tmod 4 = y ∧ 0 ≤ y ∧ y < 4 := ⟨x2 % 4, tmod_fix x2 4 (by omega), by omega, by omega⟩
      obtain ⟨x, hx, hx2⟩ : ∃ x : Int, IntKind.i64.wrap (3 + y) = x ∧ 3 ≤ x ∧ x ≤ 9 := ⟨3 + y, IntWalk.i64_in _ (by omega), by omega, by omega⟩
      obtain ⟨tb, htb, htb2⟩ : ∃ x : Int, IntKind.i64.wrap (1 + z) = x ∧ 1 ≤ x ∧ x ≤ 4 := ⟨1 + z, IntWalk.i64_in _ (by omega), by omega, by omega⟩
      have HXB := hid hx2
      have HTB := hid htb2
      have HKB := hid hk2
      have F9 := hid ((Fr.refl (fun _ => False) WR).alloc (.cells #[.int .i64 1, .int .i64 x, .int .i64 tb, .slice none 0 0, .slice none 0 0, .slice none 0 0, .slice none 0 0, .string ⟨#[]⟩] 35))
      have D9 := hid (Blk.new WR [.int .i64 1, .int .i64 x, .int .i64 tb, .slice none 0 0, .slice none 0 0, .slice none 0 0, .slice none 0 0, .string ⟨#[]⟩] 35)
      clear hx2 htb2 hk2
      go_upto_region 10 with fail
      clear q0 q1 q2 s1 s2 s3 s4 s5 s6 d1 d2 d3 hy hy2 hy3 hk hz hz2 hz3 hx htb w1 w2
      generalize hd : WR.heap.size = d at *
      have HDE := hid (Nat.le_of_eq hd)
      clear hd
      generalize WR.alloc _ = W9 at *
      go_upto_block 2 with fail
      go_cut [] (fun wx => ∃ (S' : Nat → Prop) (m' : List Tab) (r' : RecV), Blk wx d r'.cells 35 ∧ RecO w.heap.size wx r' ∧ (∀ k, r'.has k → ¬ S' k) ∧ LG w wx r S' m' b cb rs)
      case first =>
        have hk : k = 0 ∨ k = 1 ∨ k = 2 ∨ k = 3 ∨ k = 4 ∨ k = 5 ∨ k = 6 ∨ k = 7 ∨ k = 8 ∨ k = 9 ∨ k = 10 ∨ k = 11 ∨ k = 12 ∨ k = 13 ∨ k = 14 ∨ k = 15 := by have := HKB.out; omega
        have c0 : W9.cell? ⟨d, 0, none⟩ = some (.int .i64 1) := D9.out.cell 0
        have z0 : W9.frozen? ⟨d, 0, none⟩ = false := D9.out.frozen 0
        clear HX HI w3 hiL hi3 b3 b2 c2 c3 ht hi300
        rcases hk with rfl | rfl | rfl | rfl | rfl | rfl | rfl | rfl | rfl | rfl | rfl | rfl | rfl | rfl | rfl | rfl
        · skip
          have P10 := rec_put F9.out D9.out HDE.out (.int .i64 2) (j := 0) (l' := [.int .i64 2, .int .i64 x, .int .i64 tb, .slice none 0 0, .slice none 0 0, .slice none 0 0, .slice none 0 0, .string ⟨#[]⟩]) rfl
          go_upto_region 17 with fail
          have D10 := hid P10.1
          have F10 := hid P10.2.1
          clear P10 c0 z0
          generalize W9.setCell ⟨d, 0, none⟩ (.int .i64 2) = W10 at *
          have q4 : (W10.alloc (.cells #[.int .i64 1, .int .i64 x2, .string ⟨#[]⟩] 85)).cell? ⟨d, 4, none⟩ = some (.slice none 0 0) := (D10.out.alloc _).cell 4
          have y4 : (W10.alloc (.cells #[.int .i64 1, .int .i64 x2, .string ⟨#[]⟩] 85)).frozen? ⟨d, 4, none⟩ = false := (D10.out.alloc _).frozen 4
          have P11 := rec_put (F10.out.alloc (.cells #[.int .i64 1, .int .i64 x2, .string ⟨#[]⟩] 85)) (D10.out.alloc _) HDE.out (.slice (some ⟨W10.heap.size, 0, none⟩) 1 1) (j := 4) (l' := [.int .i64 2, .int .i64 x, .int .i64 tb, .slice none 0 0, .slice (some ⟨W10.heap.size, 0, none⟩) 1 1, .slice none 0 0, .slice none 0 0, .string ⟨#[]⟩]) rfl
          have R11 := hid (P11.2.2 (by decide) (Row.built (e := 85) (n := 1) (size := 3) (B := WR.heap.size) W10 (l := [.int .i64 1, .int .i64 x2, .string ⟨#[]⟩]) rfl (by decide) F10.out.size))
          have D11 := hid P11.1
          have F11 := hid P11.2.1
          go_wp2_with (fail)
          go_meet
          exact HG.out.keepR F11.out (r := ⟨⟨2, x, tb, [], [⟨1, x2, []⟩], [], []⟩, .slice none 0 0, .slice (some ⟨W10.heap.size, 0, none⟩) 1 1, .slice none 0 0, .slice none 0 0⟩) D11.out ⟨Row.nil, R11.out, Row.nil, rfl, good_of ⟨by omega, by omega⟩ ⟨by have := HXB.out; omega, by have := HXB.out; omega⟩ ⟨by have := HTB.out; omega, by have := HTB.out; omega⟩ (fun y hy => by simp at hy) (by simp) (by simp) (by simp) (by simp) (fun y hy => by simp at hy) (fun v hv => by rw [List.mem_singleton.1 hv]; exact ⟨.inr rfl, rfl, HN.out.1, HN.out.2⟩)⟩
        · skip
          have P10 := rec_put F9.out D9.out HDE.out (.int .i64 2) (j := 0) (l' := [.int .i64 2, .int .i64 x, .int .i64 tb, .slice none 0 0, .slice none 0 0, .slice none 0 0, .slice none 0 0, .string ⟨#[]⟩]) rfl
          go_upto_region 17 with fail
          have D10 := hid P10.1
          have F10 := hid P10.2.1
          clear P10 c0 z0
          generalize W9.setCell ⟨d, 0, none⟩ (.int .i64 2) = W10 at *
          have q4 : (W10.alloc (.cells #[.int .i64 1, .int .i64 x2, .string ⟨#[]⟩] 85)).cell? ⟨d, 4, none⟩ = some (.slice none 0 0) := (D10.out.alloc _).cell 4
          have y4 : (W10.alloc (.cells #[.int .i64 1, .int .i64 x2, .string ⟨#[]⟩] 85)).frozen? ⟨d, 4, none⟩ = false := (D10.out.alloc _).frozen 4
          have P11 := rec_put (F10.out.alloc (.cells #[.int .i64 1, .int .i64 x2, .string ⟨#[]⟩] 85)) (D10.out.alloc _) HDE.out (.slice (some ⟨W10.heap.size, 0, none⟩) 1 1) (j := 4) (l' := [.int .i64 2, .int .i64 x, .int .i64 tb, .slice none 0 0, .slice (some ⟨W10.heap.size, 0, none⟩) 1 1, .slice none 0 0, .slice none 0 0, .string ⟨#[]⟩]) rfl
          have R11 := hid (P11.2.2 (by decide) (Row.built (e := 85) (n := 1) (size := 3) (B := WR.heap.size) W10 (l := [.int .i64 1, .int .i64 x2, .string ⟨#[]⟩]) rfl (by decide) F10.out.size))
          have D11 := hid P11.1
          have F11 := hid P11.2.1
          go_wp2_with (fail)
          go_meet
          exact HG.out.keepR F11.out (r := ⟨⟨2, x, tb, [], [⟨1, x2, []⟩], [], []⟩, .slice none 0 0, .slice (some ⟨W10.heap.size, 0, none⟩) 1 1, .slice none 0 0, .slice none 0 0⟩) D11.out ⟨Row.nil, R11.out, Row.nil, rfl, good_of ⟨by omega, by omega⟩ ⟨by have := HXB.out; omega, by have := HXB.out; omega⟩ ⟨by have := HTB.out; omega, by have := HTB.out; omega⟩ (fun y hy => by simp at hy) (by simp) (by simp) (by simp) (by simp) (fun y hy => by simp at hy) (fun v hv => by rw [List.mem_singleton.1 hv]; exact ⟨.inr rfl, rfl, HN.out.1, HN.out.2⟩)⟩
        · skip
          have P10 := rec_put F9.out D9.out HDE.out (.int .i64 2) (j := 0) (l' := [.int .i64 2, .int .i64 x, .int .i64 tb, .slice none 0 0, .slice none 0 0, .slice none 0 0, .slice none 0 0, .string ⟨#[]⟩]) rfl
          go_upto_region 17 with fail
          have D10 := hid P10.1
          have F10 := hid P10.2.1
          clear P10 c0 z0
          generalize W9.setCell ⟨d, 0, none⟩ (.int .i64 2) = W10 at *
          have q4 : (W10.alloc (.cells #[.int .i64 1, .int .i64 x2, .string ⟨#[]⟩] 85)).cell? ⟨d, 4, none⟩ = some (.slice none 0 0) := (D10.out.alloc _).cell 4
          have y4 : (W10.alloc (.cells #[.int .i64 1, .int .i64 x2, .string ⟨#[]⟩] 85)).frozen? ⟨d, 4, none⟩ = false := (D10.out.alloc _).frozen 4
          have P11 := rec_put (F10.out.alloc (.cells #[.int .i64 1, .int .i64 x2, .string ⟨#[]⟩] 85)) (D10.out.alloc _) HDE.out (.slice (some ⟨W10.heap.size, 0, none⟩) 1 1) (j := 4) (l' := [.int .i64 2, .int .i64 x, .int .i64 tb, .slice none 0 0, .slice (some ⟨W10.heap.size, 0, none⟩) 1 1, .slice none 0 0, .slice none 0 0, .string ⟨#[]⟩]) rfl
          have R11 := hid (P11.2.2 (by decide) (Row.built (e := 85) (n := 1) (size := 3) (B := WR.heap.size) W10 (l := [.int .i64 1, .int .i64 x2, .string ⟨#[]⟩]) rfl (by decide) F10.out.size))
          have D11 := hid P11.1
          have F11 := hid P11.2.1
          go_wp2_with (fail)
          go_meet
          exact HG.out.keepR F11.out (r := ⟨⟨2, x, tb, [], [⟨1, x2, []⟩], [], []⟩, .slice none 0 0, .slice (some ⟨W10.heap.size, 0, none⟩) 1 1, .slice none 0 0, .slice none 0 0⟩) D11.out ⟨Row.nil, R11.out, Row.nil, rfl, good_of ⟨by omega, by omega⟩ ⟨by have := HXB.out; omega, by have := HXB.out; omega⟩ ⟨by have := HTB.out; omega, by have := HTB.out; omega⟩ (fun y hy => by simp at hy) (by simp) (by simp) (by simp) (by simp) (fun y hy => by simp at hy) (fun v hv => by rw [List.mem_singleton.1 hv]; exact ⟨.inr rfl, rfl, HN.out.1, HN.out.2⟩)⟩
        · skip
          have P10 := rec_put F9.out D9.out HDE.out (.int .i64 2) (j := 0) (l' := [.int .i64 2, .int .i64 x, .int .i64 tb, .slice none 0 0, .slice none 0 0, .slice none 0 0, .slice none 0 0, .string ⟨#[]⟩]) rfl
          go_upto_region 17 with fail
          have D10 := hid P10.1
          have F10 := hid P10.2.1
          clear P10 c0 z0
          generalize W9.setCell ⟨d, 0, none⟩ (.int .i64 2) = W10 at *
          have q4 : (W10.alloc (.cells #[.int .i64 1, .int .i64 x2, .string ⟨#[]⟩] 85)).cell? ⟨d, 4, none⟩ = some (.slice none 0 0) := (D10.out.alloc _).cell 4
          have y4 : (W10.alloc (.cells #[.int .i64 1, .int .i64 x2, .string ⟨#[]⟩] 85)).frozen? ⟨d, 4, none⟩ = false := (D10.out.alloc _).frozen 4
          have P11 := rec_put (F10.out.alloc (.cells #[.int .i64 1, .int .i64 x2, .string ⟨#[]⟩] 85)) (D10.out.alloc _) HDE.out (.slice (some ⟨W10.heap.size, 0, none⟩) 1 1) (j := 4) (l' := [.int .i64 2, .int .i64 x, .int .i64 tb, .slice none 0 0, .slice (some ⟨W10.heap.size, 0, none⟩) 1 1, .slice none 0 0, .slice none 0 0, .string ⟨#[]⟩]) rfl
          have R11 := hid (P11.2.2 (by decide) (Row.built (e := 85) (n := 1) (size := 3) (B := WR.heap.size) W10 (l := [.int .i64 1, .int .i64 x2, .string ⟨#[]⟩]) rfl (by decide) F10.out.size))
          have D11 := hid P11.1
          have F11 := hid P11.2.1
          go_wp2_with (fail)
          go_meet
          exact HG.out.keepR F11.out (r := ⟨⟨2, x, tb, [], [⟨1, x2, []⟩], [], []⟩, .slice none 0 0, .slice (some ⟨W10.heap.size, 0, none⟩) 1 1, .slice none 0 0, .slice none 0 0⟩) D11.out ⟨Row.nil, R11.out, Row.nil, rfl, good_of ⟨by omega, by omega⟩ ⟨by have := HXB.out; omega, by have := HXB.out; omega⟩ ⟨by have := HTB.out; omega, by have := HTB.out; omega⟩ (fun y hy => by simp at hy) (by simp) (by simp) (by simp) (by simp) (fun y hy => by simp at hy) (fun v hv => by rw [List.mem_singleton.1 hv]; exact ⟨.inr rfl, rfl, HN.out.1, HN.out.2⟩)⟩
        · skip
          have P10 := rec_put F9.out D9.out HDE.out (.int .i64 2) (j := 0) (l' := [.int .i64 2, .int .i64 x, .int .i64 tb, .slice none 0 0, .slice none 0 0, .slice none 0 0, .slice none 0 0, .string ⟨#[]⟩]) rfl
          go_upto_region 17 with fail
          have D10 := hid P10.1
          have F10 := hid P10.2.1
          clear P10 c0 z0
          generalize W9.setCell ⟨d, 0, none⟩ (.int .i64 2) = W10 at *
          have q4 : (W10.alloc (.cells #[.int .i64 1, .int .i64 x2, .string ⟨#[]⟩] 85)).cell? ⟨d, 4, none⟩ = some (.slice none 0 0) := (D10.out.alloc _).cell 4
          have y4 : (W10.alloc (.cells #[.int .i64 1, .int .i64 x2, .string ⟨#[]⟩] 85)).frozen? ⟨d, 4, none⟩ = false := (D10.out.alloc _).frozen 4
          have P11 := rec_put (F10.out.alloc (.cells #[.int .i64 1, .int .i64 x2, .string ⟨#[]⟩] 85)) (D10.out.alloc _) HDE.out (.slice (some ⟨W10.heap.size, 0, none⟩) 1 1) (j := 4) (l' := [.int .i64 2, .int .i64 x, .int .i64 tb, .slice none 0 0, .slice (some ⟨W10.heap.size, 0, none⟩) 1 1, .slice none 0 0, .slice none 0 0, .string ⟨#[]⟩]) rfl
          have R11 := hid (P11.2.2 (by decide) (Row.built (e := 85) (n := 1) (size := 3) (B := WR.heap.size) W10 (l := [.int .i64 1, .int .i64 x2, .string ⟨#[]⟩]) rfl (by decide) F10.out.size))
          have D11 := hid P11.1
          have F11 := hid P11.2.1
          go_wp2_with (fail)
          go_meet
          exact HG.out.keepR F11.out (r := ⟨⟨2, x, tb, [], [⟨1, x2, []⟩], [], []⟩, .slice none 0 0, .slice (some ⟨W10.heap.size, 0, none⟩) 1 1, .slice none 0 0, .slice none 0 0⟩) D11.out ⟨Row.nil, R11.out, Row.nil, rfl, good_of ⟨by omega, by omega⟩ ⟨by have := HXB.out; omega, by have := HXB.out; omega⟩ ⟨by have := HTB.out; omega, by have := HTB.out; omega⟩ (fun y hy => by simp at hy) (by simp) (by simp) (by simp) (by simp) (fun y hy => by simp at hy) (fun v hv => by rw [List.mem_singleton.1 hv]; exact ⟨.inr rfl, rfl, HN.out.1, HN.out.2⟩)⟩
        · skip
          have P10 := rec_put F9.out D9.out HDE.out (.int .i64 3) (j := 0) (l' := [.int .i64 3, .int .i64 x, .int .i64 tb, .slice none 0 0, .slice none 0 0, .slice none 0 0, .slice none 0 0, .string ⟨#[]⟩]) rfl
          go_upto_region 21 with fail
          have D10 := hid P10.1
          have F10 := hid P10.2.1
          clear P10 c0 z0
          generalize W9.setCell ⟨d, 0, none⟩ (.int .i64 3) = W10 at *
          obtain ⟨x3, hx3, hx4⟩ : ∃ x3 : Int, IntKind.i64.wrap (x2 + 1) = x3 ∧ -9223372036854775808 ≤ x3 ∧ x3 ≤ 9223372036854775807 := ⟨_, rfl, by rw [IntKind.wrap_i64]; omega, by rw [IntKind.wrap_i64]; omega⟩
          have HX4 := hid hx4
          clear hx4
          have q3 : (W10.alloc (.cells #[.int .i64 1, .int .i64 x2, .string ⟨#[]⟩] 85)).cell? ⟨d, 3, none⟩ = some (.slice none 0 0) := (D10.out.alloc _).cell 3
          have y3 : (W10.alloc (.cells #[.int .i64 1, .int .i64 x2, .string ⟨#[]⟩] 85)).frozen? ⟨d, 3, none⟩ = false := (D10.out.alloc _).frozen 3
          have P11 := rec_put (F10.out.alloc (.cells #[.int .i64 1, .int .i64 x2, .string ⟨#[]⟩] 85)) (D10.out.alloc _) HDE.out (.slice (some ⟨W10.heap.size, 0, none⟩) 1 1) (j := 3) (l' := [.int .i64 3, .int .i64 x, .int .i64 tb, .slice (some ⟨W10.heap.size, 0, none⟩) 1 1, .slice none 0 0, .slice none 0 0, .slice none 0 0, .string ⟨#[]⟩]) rfl
          have R11 := hid (P11.2.2 (by decide) (Row.built (e := 85) (n := 1) (size := 3) (B := WR.heap.size) W10 (l := [.int .i64 1, .int .i64 x2, .string ⟨#[]⟩]) rfl (by decide) F10.out.size))
          go_upto_region 22 with fail
          have D11 := hid P11.1
          have F11 := hid P11.2.1
          clear P11 q3 y3
          generalize (World.setCell _ ⟨d, 3, none⟩ _) = W11 at *
          have q4 : (W11.alloc (.cells #[.int .i64 1, .int .i64 x3, .string ⟨#[]⟩] 85)).cell? ⟨d, 4, none⟩ = some (.slice none 0 0) := (D11.out.alloc _).cell 4
          have y4 : (W11.alloc (.cells #[.int .i64 1, .int .i64 x3, .string ⟨#[]⟩] 85)).frozen? ⟨d, 4, none⟩ = false := (D11.out.alloc _).frozen 4
          have P12 := rec_put (F11.out.alloc (.cells #[.int .i64 1, .int .i64 x3, .string ⟨#[]⟩] 85)) (D11.out.alloc _) HDE.out (.slice (some ⟨W11.heap.size, 0, none⟩) 1 1) (j := 4) (l' := [.int .i64 3, .int .i64 x, .int .i64 tb, .slice (some ⟨W10.heap.size, 0, none⟩) 1 1, .slice (some ⟨W11.heap.size, 0, none⟩) 1 1, .slice none 0 0, .slice none 0 0, .string ⟨#[]⟩]) rfl
          have R12 := hid (P12.2.2 (by decide) (Row.built (e := 85) (n := 1) (size := 3) (B := WR.heap.size) W11 (l := [.int .i64 1, .int .i64 x3, .string ⟨#[]⟩]) rfl (by decide) F11.out.size))
          have D12 := hid P12.1
          have F12 := hid P12.2.1
          go_wp2_with (fail)
          go_meet
          exact HG.out.keepR F12.out (r := ⟨⟨3, x, tb, [⟨1, x2, []⟩], [⟨1, x3, []⟩], [], []⟩, .slice (some ⟨W10.heap.size, 0, none⟩) 1 1, .slice (some ⟨W11.heap.size, 0, none⟩) 1 1, .slice none 0 0, .slice none 0 0⟩) D12.out ⟨P12.2.2 (by decide) (R11.out.fre ((Fr.refl _ _).alloc _)), R12.out, Row.nil, rfl, good_of ⟨by omega, by omega⟩ ⟨by have := HXB.out; omega, by have := HXB.out; omega⟩ ⟨by have := HTB.out; omega, by have := HTB.out; omega⟩ (fun y hy => by simp at hy) (by simp) (by simp) (by simp) (by simp) (fun v hv => by rw [List.mem_singleton.1 hv]; exact ⟨.inr rfl, rfl, HN.out.1, HN.out.2⟩) (fun v hv => by rw [List.mem_singleton.1 hv]; exact ⟨.inr rfl, rfl, HX4.out.1, HX4.out.2⟩)⟩
        · skip
          have P10 := rec_put F9.out D9.out HDE.out (.int .i64 3) (j := 0) (l' := [.int .i64 3, .int .i64 x, .int .i64 tb, .slice none 0 0, .slice none 0 0, .slice none 0 0, .slice none 0 0, .string ⟨#[]⟩]) rfl
          go_upto_region 21 with fail
          have D10 := hid P10.1
          have F10 := hid P10.2.1
          clear P10 c0 z0
          generalize W9.setCell ⟨d, 0, none⟩ (.int .i64 3) = W10 at *
          obtain ⟨x3, hx3, hx4⟩ : ∃ x3 : Int, IntKind.i64.wrap (x2 + 1) = x3 ∧ -9223372036854775808 ≤ x3 ∧ x3 ≤ 9223372036854775807 := ⟨_, rfl, by rw [IntKind.wrap_i64]; omega, by rw [IntKind.wrap_i64]; omega⟩
          have HX4 := hid hx4
          clear hx4
          have q3 : (W10.alloc (.cells #[.int .i64 1, .int .i64 x2, .string ⟨#[]⟩] 85)).cell? ⟨d, 3, none⟩ = some (.slice none 0 0) := (D10.out.alloc _).cell 3
          have y3 : (W10.alloc (.cells #[.int .i64 1, .int .i64 x2, .string ⟨#[]⟩] 85)).frozen? ⟨d, 3, none⟩ = false := (D10.out.alloc _).frozen 3
          have P11 := rec_put (F10.out.alloc (.cells #[.int .i64 1, .int .i64 x2, .string ⟨#[]⟩] 85)) (D10.out.alloc _) HDE.out (.slice (some ⟨W10.heap.size, 0, none⟩) 1 1) (j := 3) (l' := [.int .i64 3, .int .i64 x, .int .i64 tb, .slice (some ⟨W10.heap.size, 0, none⟩) 1 1, .slice none 0 0, .slice none 0 0, .slice none 0 0, .string ⟨#[]⟩]) rfl
          have R11 := hid (P11.2.2 (by decide) (Row.built (e := 85) (n := 1) (size := 3) (B := WR.heap.size) W10 (l := [.int .i64 1, .int .i64 x2, .string ⟨#[]⟩]) rfl (by decide) F10.out.size))
          go_upto_region 22 with fail
          have D11 := hid P11.1
          have F11 := hid P11.2.1
          clear P11 q3 y3
          generalize (World.setCell _ ⟨d, 3, none⟩ _) = W11 at *
          have q4 : (W11.alloc (.cells #[.int .i64 1, .int .i64 x3, .string ⟨#[]⟩] 85)).cell? ⟨d, 4, none⟩ = some (.slice none 0 0) := (D11.out.alloc _).cell 4
          have y4 : (W11.alloc (.cells #[.int .i64 1, .int .i64 x3, .string ⟨#[]⟩] 85)).frozen? ⟨d, 4, none⟩ = false := (D11.out.alloc _).frozen 4
          have P12 := rec_put (F11.out.alloc (.cells #[.int .i64 1, .int .i64 x3, .string ⟨#[]⟩] 85)) (D11.out.alloc _) HDE.out (.slice (some ⟨W11.heap.size, 0, none⟩) 1 1) (j := 4) (l' := [.int .i64 3, .int .i64 x, .int .i64 tb, .slice (some ⟨W10.heap.size, 0, none⟩) 1 1, .slice (some ⟨W11.heap.size, 0, none⟩) 1 1, .slice none 0 0, .slice none 0 0, .string ⟨#[]⟩]) rfl
          have R12 := hid (P12.2.2 (by decide) (Row.built (e := 85) (n := 1) (size := 3) (B := WR.heap.size) W11 (l := [.int .i64 1, .int .i64 x3, .string ⟨#[]⟩]) rfl (by decide) F11.out.size))
          have D12 := hid P12.1
          have F12 := hid P12.2.1
          go_wp2_with (fail)
          go_meet
          exact HG.out.keepR F12.out (r := ⟨⟨3, x, tb, [⟨1, x2, []⟩], [⟨1, x3, []⟩], [], []⟩, .slice (some ⟨W10.heap.size, 0, none⟩) 1 1, .slice (some ⟨W11.heap.size, 0, none⟩) 1 1, .slice none 0 0, .slice none 0 0⟩) D12.out ⟨P12.2.2 (by decide) (R11.out.fre ((Fr.refl _ _).alloc _)), R12.out, Row.nil, rfl, good_of ⟨by omega, by omega⟩ ⟨by have := HXB.out; omega, by have := HXB.out; omega⟩ ⟨by have := HTB.out; omega, by have := HTB.out; omega⟩ (fun y hy => by simp at hy) (by simp) (by simp) (by simp) (by simp) (fun v hv => by rw [List.mem_singleton.1 hv]; exact ⟨.inr rfl, rfl, HN.out.1, HN.out.2⟩) (fun v hv => by rw [List.mem_singleton.1 hv]; exact ⟨.inr rfl, rfl, HX4.out.1, HX4.out.2⟩)⟩
        · skip
          have P10 := rec_put F9.out D9.out HDE.out (.int .i64 4) (j := 0) (l' := [.int .i64 4, .int .i64 x, .int .i64 tb, .slice none 0 0, .slice none 0 0, .slice none 0 0, .slice none 0 0, .string ⟨#[]⟩]) rfl
          go_upto_region 25 with fail
          have D10 := hid P10.1
          have F10 := hid P10.2.1
          clear P10 c0 z0
          generalize W9.setCell ⟨d, 0, none⟩ (.int .i64 4) = W10 at *
          have q3 : (W10.alloc (.cells #[.int .i64 1, .int .i64 x2, .string ⟨#[]⟩, .int .i64 0, .int .i64 0, .string ⟨#[]⟩] 85)).cell? ⟨d, 3, none⟩ = some (.slice none 0 0) := (D10.out.alloc _).cell 3
          have y3 : (W10.alloc (.cells #[.int .i64 1, .int .i64 x2, .string ⟨#[]⟩, .int .i64 0, .int .i64 0, .string ⟨#[]⟩] 85)).frozen? ⟨d, 3, none⟩ = false := (D10.out.alloc _).frozen 3
          have P11 := rec_put (F10.out.alloc (.cells #[.int .i64 1, .int .i64 x2, .string ⟨#[]⟩, .int .i64 0, .int .i64 0, .string ⟨#[]⟩] 85)) (D10.out.alloc _) HDE.out (.slice (some ⟨W10.heap.size, 0, none⟩) 2 2) (j := 3) (l' := [.int .i64 4, .int .i64 x, .int .i64 tb, .slice (some ⟨W10.heap.size, 0, none⟩) 2 2, .slice none 0 0, .slice none 0 0, .slice none 0 0, .string ⟨#[]⟩]) rfl
          have R11 := hid (P11.2.2 (by decide) (Row.built (e := 85) (n := 2) (size := 3) (B := WR.heap.size) W10 (l := [.int .i64 1, .int .i64 x2, .string ⟨#[]⟩, .int .i64 0, .int .i64 0, .string ⟨#[]⟩]) rfl (by decide) F10.out.size))
          have D11 := hid P11.1
          have F11 := hid P11.2.1
          go_wp2_with (fail)
          go_meet
          exact HG.out.keepR F11.out (r := ⟨⟨4, x, tb, [⟨1, x2, []⟩, ⟨0, 0, []⟩], [], [], []⟩, .slice (some ⟨W10.heap.size, 0, none⟩) 2 2, .slice none 0 0, .slice none 0 0, .slice none 0 0⟩) D11.out ⟨R11.out, Row.nil, Row.nil, rfl, good_of ⟨by omega, by omega⟩ ⟨by have := HXB.out; omega, by have := HXB.out; omega⟩ ⟨by have := HTB.out; omega, by have := HTB.out; omega⟩ (fun y hy => by simp at hy) (by simp) (by simp) (by simp) (by simp) (fun v hv => by
            simp only [List.mem_cons, List.not_mem_nil, or_false] at hv
            rcases hv with rfl | rfl
            · exact ⟨.inr rfl, rfl, HN.out.1, HN.out.2⟩
            · exact ⟨.inl rfl, rfl, by show (-9223372036854775808 : Int) ≤ 0; omega, by show (0 : Int) ≤ 9223372036854775807; omega⟩) (fun y hy => by simp at hy)⟩
        · skip
          have P10 := rec_put F9.out D9.out HDE.out (.int .i64 5) (j := 0) (l' := [.int .i64 5, .int .i64 x, .int .i64 tb, .slice none 0 0, .slice none 0 0, .slice none 0 0, .slice none 0 0, .string ⟨#[]⟩]) rfl
          go_upto_region 30 with fail
          have D10 := hid P10.1
          have F10 := hid P10.2.1
          clear P10 c0 z0
          generalize W9.setCell ⟨d, 0, none⟩ (.int .i64 5) = W10 at *
          go_wp2_with (fail)
          go_meet
          exact HG.out.keepR F10.out (r := ⟨⟨5, x, tb, [], [], [], []⟩, .slice none 0 0, .slice none 0 0, .slice none 0 0, .slice none 0 0⟩) D10.out ⟨Row.nil, Row.nil, Row.nil, rfl, good_of ⟨by omega, by omega⟩ ⟨by have := HXB.out; omega, by have := HXB.out; omega⟩ ⟨by have := HTB.out; omega, by have := HTB.out; omega⟩ (fun y hy => by simp at hy) (by simp) (by simp) (by simp) (by simp) (fun y hy => by simp at hy) (fun y hy => by simp at hy)⟩
        · skip
          have P10 := rec_put F9.out D9.out HDE.out (.int .i64 5) (j := 0) (l' := [.int .i64 5, .int .i64 x, .int .i64 tb, .slice none 0 0, .slice none 0 0, .slice none 0 0, .slice none 0 0, .string ⟨#[]⟩]) rfl
          go_upto_region 30 with fail
          have D10 := hid P10.1
          have F10 := hid P10.2.1
          clear P10 c0 z0
          generalize W9.setCell ⟨d, 0, none⟩ (.int .i64 5) = W10 at *
          go_wp2_with (fail)
          go_meet
          exact HG.out.keepR F10.out (r := ⟨⟨5, x, tb, [], [], [], []⟩, .slice none 0 0, .slice none 0 0, .slice none 0 0, .slice none 0 0⟩) D10.out ⟨Row.nil, Row.nil, Row.nil, rfl, good_of ⟨by omega, by omega⟩ ⟨by have := HXB.out; omega, by have := HXB.out; omega⟩ ⟨by have := HTB.out; omega, by have := HTB.out; omega⟩ (fun y hy => by simp at hy) (by simp) (by simp) (by simp) (by simp) (fun y hy => by simp at hy) (fun y hy => by simp at hy)⟩
        · skip
          have P10 := rec_put F9.out D9.out HDE.out (.int .i64 5) (j := 0) (l' := [.int .i64 5, .int .i64 x, .int .i64 tb, .slice none 0 0, .slice none 0 0, .slice none 0 0, .slice none 0 0, .string ⟨#[]⟩]) rfl
          go_upto_region 30 with fail
          have D10 := hid P10.1
          have F10 := hid P10.2.1
          clear P10 c0 z0
          generalize W9.setCell ⟨d, 0, none⟩ (.int .i64 5) = W10 at *
          obtain ⟨p, hp, hp2⟩ : ∃ p : Int, (x - 2).tmod 7 = p ∧ 0 ≤ p ∧ p < 7 := ⟨(x - 2) % 7, by rw [Int.tmod_eq_emod_of_nonneg (by have := HXB.out; omega)], by omega, by omega⟩
          have e1 : IntKind.i64.wrap (x - 2) = x - 2 := IntWalk.i64_in _ (by have := HXB.out; omega)
          obtain ⟨p3, hp3, hp4⟩ : ∃ q : Int, IntKind.i64.wrap (3 + p) = q ∧ 3 ≤ q ∧ q ≤ 9 := ⟨3 + p, IntWalk.i64_in _ (by omega), by omega, by omega⟩
          have HP4 := hid hp4
          clear hp2 hp4
          have q6 : (W10.alloc (.cells #[.int .i64 p3, .int .i64 x] 3)).cell? ⟨d, 6, none⟩ = some (.slice none 0 0) := (D10.out.alloc _).cell 6
          have y6 : (W10.alloc (.cells #[.int .i64 p3, .int .i64 x] 3)).frozen? ⟨d, 6, none⟩ = false := (D10.out.alloc _).frozen 6
          have P11 := rec_put (F10.out.alloc (.cells #[.int .i64 p3, .int .i64 x] 3)) (D10.out.alloc _) HDE.out (.slice (some ⟨W10.heap.size, 0, none⟩) 2 2) (j := 6) (l' := [.int .i64 5, .int .i64 x, .int .i64 tb, .slice none 0 0, .slice none 0 0, .slice none 0 0, .slice (some ⟨W10.heap.size, 0, none⟩) 2 2, .string ⟨#[]⟩]) rfl
          have R11 := hid (P11.2.2 (by decide) (Row.built (e := 3) (n := 2) (size := 1) (B := WR.heap.size) W10 (l := [.int .i64 p3, .int .i64 x]) rfl (by decide) F10.out.size))
          have D11 := hid P11.1
          have F11 := hid P11.2.1
          go_wp2_with (fail)
          go_meet
          exact HG.out.keepR F11.out (r := ⟨⟨5, x, tb, [], [], [p3, x], []⟩, .slice none 0 0, .slice none 0 0, .slice none 0 0, .slice (some ⟨W10.heap.size, 0, none⟩) 2 2⟩) D11.out ⟨Row.nil, Row.nil, R11.out, rfl, good_of ⟨by omega, by omega⟩ ⟨by have := HXB.out; omega, by have := HXB.out; omega⟩ ⟨by have := HTB.out; omega, by have := HTB.out; omega⟩ (fun y hy => by
            simp only [List.mem_cons, List.not_mem_nil, or_false] at hy
            rcases hy with rfl | rfl
            · have := HP4.out; omega
            · have := HXB.out; omega) (by simp) (by simp) (by simp) (by simp) (fun y hy => by simp at hy) (fun y hy => by simp at hy)⟩
        · skip
          have P10 := rec_put F9.out D9.out HDE.out (.int .i64 6) (j := 0) (l' := [.int .i64 6, .int .i64 x, .int .i64 tb, .slice none 0 0, .slice none 0 0, .slice none 0 0, .slice none 0 0, .string ⟨#[]⟩]) rfl
          go_upto_region 34 with fail
          have D10 := hid P10.1
          have F10 := hid P10.2.1
          clear P10 c0 z0
          generalize W9.setCell ⟨d, 0, none⟩ (.int .i64 6) = W10 at *
          obtain ⟨q2, hq2⟩ : ∃ q : Int, x2.tmod 2 = q := ⟨_, rfl⟩
          by_cases hq1 : q2 = 1
          · subst hq1
            obtain ⟨p, hp, hp2⟩ : ∃ p : Int, (x - 2).tmod 7 = p ∧ 0 ≤ p ∧ p < 7 := ⟨(x - 2) % 7, by rw [Int.tmod_eq_emod_of_nonneg (by have := HXB.out; omega)], by omega, by omega⟩
            have e1 : IntKind.i64.wrap (x - 2) = x - 2 := IntWalk.i64_in _ (by have := HXB.out; omega)
            obtain ⟨p3, hp3, hp4⟩ : ∃ q : Int, IntKind.i64.wrap (3 + p) = q ∧ 3 ≤ q ∧ q ≤ 9 := ⟨3 + p, IntWalk.i64_in _ (by omega), by omega, by omega⟩
            have HP4 := hid hp4
            clear hp2 hp4
            have q6 : (W10.alloc (.cells #[.int .i64 p3] 3)).cell? ⟨d, 6, none⟩ = some (.slice none 0 0) := (D10.out.alloc _).cell 6
            have y6 : (W10.alloc (.cells #[.int .i64 p3] 3)).frozen? ⟨d, 6, none⟩ = false := (D10.out.alloc _).frozen 6
            have P11 := rec_put (F10.out.alloc (.cells #[.int .i64 p3] 3)) (D10.out.alloc _) HDE.out (.slice (some ⟨W10.heap.size, 0, none⟩) 1 1) (j := 6) (l' := [.int .i64 6, .int .i64 x, .int .i64 tb, .slice none 0 0, .slice none 0 0, .slice none 0 0, .slice (some ⟨W10.heap.size, 0, none⟩) 1 1, .string ⟨#[]⟩]) rfl
            have R11 := hid (P11.2.2 (by decide) (Row.built (e := 3) (n := 1) (size := 1) (B := WR.heap.size) W10 (l := [.int .i64 p3]) rfl (by decide) F10.out.size))
            have D11 := hid P11.1
            have F11 := hid P11.2.1
            go_wp2_with (fail)
            go_meet
            exact HG.out.keepR F11.out (r := ⟨⟨6, x, tb, [], [], [p3], []⟩, .slice none 0 0, .slice none 0 0, .slice none 0 0, .slice (some ⟨W10.heap.size, 0, none⟩) 1 1⟩) D11.out ⟨Row.nil, Row.nil, R11.out, rfl, good_of ⟨by omega, by omega⟩ ⟨by have := HXB.out; omega, by have := HXB.out; omega⟩ ⟨by have := HTB.out; omega, by have := HTB.out; omega⟩ (fun y hy => by rw [List.mem_singleton.1 hy]; have := HP4.out; omega) (by simp) (by simp) (by simp) (by simp) (fun y hy => by simp at hy) (fun y hy => by simp at hy)⟩
          · have hq3 : (q2 == 1) = false := beq_eq_false_iff_ne.2 hq1
            clear hq1
            go_wp2_with (fail)
            go_meet
            exact HG.out.keepR F10.out (r := ⟨⟨6, x, tb, [], [], [], []⟩, .slice none 0 0, .slice none 0 0, .slice none 0 0, .slice none 0 0⟩) D10.out ⟨Row.nil, Row.nil, Row.nil, rfl, good_of ⟨by omega, by omega⟩ ⟨by have := HXB.out; omega, by have := HXB.out; omega⟩ ⟨by have := HTB.out; omega, by have := HTB.out; omega⟩ (fun y hy => by simp at hy) (by simp) (by simp) (by simp) (by simp) (fun y hy => by simp at hy) (fun y hy => by simp at hy)⟩
        · skip
          have P10 := rec_put F9.out D9.out HDE.out (.int .i64 7) (j := 0) (l' := [.int .i64 7, .int .i64 x, .int .i64 tb, .slice none 0 0, .slice none 0 0, .slice none 0 0, .slice none 0 0, .string ⟨#[]⟩]) rfl
          go_wp2_with (fail)
          go_meet
          exact HG.out.keepR P10.2.1 (r := ⟨⟨7, x, tb, [], [], [], []⟩, .slice none 0 0, .slice none 0 0, .slice none 0 0, .slice none 0 0⟩) P10.1 ⟨Row.nil, Row.nil, Row.nil, rfl, good_of ⟨by omega, by omega⟩ ⟨by have := HXB.out; omega, by have := HXB.out; omega⟩ ⟨by have := HTB.out; omega, by have := HTB.out; omega⟩ (fun y hy => by simp at hy) (by simp) (by simp) (by simp) (by simp) (fun y hy => by simp at hy) (fun y hy => by simp at hy)⟩
        · skip
          clear c0 z0
          have HMD := hid (fun (W : World) (f : Fr (fun _ => False) w W) => Made_go (HSD.out W f) (by rw [List.length_drop]; have := HLL.out; omega))
          have HF9 := hid (HG.out.o.fr.trans F9.out (fun _ h _ => h))
          go_upto_region 41 with (go_at_call 39; refine (HMD.out _ HF9.out).mono ?_; rintro e w3 ⟨s, vc, vn, root, rfl, hg, -, hcr, hnr, f⟩; obtain ⟨oc, cc2, rfl, -⟩ := hcr.slice; obtain ⟨on, cn, rfl, -⟩ := hnr.slice; have HK0 := hid (MK.made hcr hnr hg f); have F3 := hid (F9.out.trans f (fun _ h _ => h)); have D3 := hid (Blk.fr D9.out f (fun h => h)); clear hcr hnr hg f; dsimp only [mcells])
          generalize hw4 : w3.alloc _ = W4
          have HK := hid (show MK W9.heap.size W4 w3.heap.size s (.slice oc s.cols.length cc2) (.slice on s.names.length cn) root from by rw [← hw4]; exact HK0.out)
          have F4 := hid (show Fr (fun _ => False) WR W4 from by rw [← hw4]; exact F3.out.alloc _)
          have D4 := hid (show Blk W4 d [.int .i64 1, .int .i64 x, .int .i64 tb, .slice none 0 0, .slice none 0 0, .slice none 0 0, .slice none 0 0, .string ⟨#[]⟩] 35 from by rw [← hw4]; exact D3.out.alloc _)
          generalize w3.heap.size = d3 at *
          clear hw4 HK0 F3 D3 HMD HF9 HSD
          have HG4 := hid (HG.out.fre F4.out)
          have HDO := hid (HG4.out.o.madeDo HK.out)
          have k15 := HK.out.at15
          have HR := hid HK.out.rng
          unfold scells at HDO HR
          go_upto_region 42 with (first
            | (refine wpList_load_mid rfl 90 (.tmp 126) rfl d3 0 rfl _ _ HR.out Tryz.underlying90 rfl size_stmt ?_)
            | (go_at_call 40; refine HDO.out.mono ?_; rintro e w5 ⟨rfl, ho, f⟩; have HG5 := hid (HG4.out.did ho f); have D5 := hid (Blk.fr D4.out f (fun hs => by have := HG.out.o.lt hs; have := HDE.out; omega)); clear ho f))
          clear k15 HR HDO HK
          have HSD5 := hid (show ¬ Ext S W4 w5 d from fun he => he.elim (fun hs => by have := HG.out.o.lt hs; have := HDE.out; omega) (fun h => by have := D4.out.lt; omega))
          have HRR := hid (fun k (hk : (Value.slice b rs.length cb).ownBlock = some k) => show k ≠ d from fun e => by have := HG.out.r.lt hk; have := HDE.out; omega)
          have HWD := hid (show w.heap.size ≤ d from Nat.le_trans HG.out.o.fr.size HDE.out)
          generalize Ext S W4 w5 = S5 at *
          generalize (doM m s root).1 = m5 at *
          have HBY := hid (rBytes_go HG5.out.o.cr HG5.out.o.ok)
          have HBL := hid (bytes_le HG5.out.o.ok)
          generalize Cat.bytes m5 = by5 at *
          go_wp2_with (first
            | (go_at_call 41; refine HBY.out.mono ?_; rintro e w6 ⟨rfl, f⟩; have HG6 := hid (HG5.out.fre f); have D6 := hid (Blk.fr D5.out f (fun h => h)); have hth := D6.out.there 0 8 (by simp); clear f)
            | (refine wpList_store_mid rfl 35 (.tmp 9) (.tmp 133) rfl d 0 #[.int .i64 10, .int .i64 0, .int .i64 0, .slice none 0 0, .slice none 0 0, .slice none 0 0, .slice none 0 0, .string (bs by5)] rfl rfl hth size_rec (by simp [Value.oneCell']) ?_))
          go_meet
          exact ⟨S5, m5, ⟨⟨10, 0, 0, [], [], [], by5⟩, .slice none 0 0, .slice none 0 0, .slice none 0 0, .slice none 0 0⟩, D6.out.put 0 [.int .i64 10, .int .i64 0, .int .i64 0, .slice none 0 0, .slice none 0 0, .slice none 0 0, .slice none 0 0, .string (bs by5)] (by simp), ⟨Row.nil, Row.nil, Row.nil, rfl, good_of ⟨by omega, by omega⟩ ⟨by omega, by omega⟩ ⟨by omega, by omega⟩ (fun y hy => by simp at hy) (by simp) (by simp) (by simp) HBL.out (fun y hy => by simp at hy) (fun y hy => by simp at hy)⟩, fun k hk => hk.elim (fun h => (own_none h).elim) (fun h => h.elim (fun h => (own_none h).elim) (fun h => (own_none h).elim)), HG6.out.off D6.out ((Fr.refl (fun k => k = d) w6).put d 0 _ (fun _ => rfl)) HSD5.out HWD.out HRR.out⟩
        · skip
          clear c0 z0
          have HMD := hid (fun (W : World) (f : Fr (fun _ => False) w W) => Made_go (HSD.out W f) (by rw [List.length_drop]; have := HLL.out; omega))
          have HF9 := hid (HG.out.o.fr.trans F9.out (fun _ h _ => h))
          go_upto_region 41 with (go_at_call 39; refine (HMD.out _ HF9.out).mono ?_; rintro e w3 ⟨s, vc, vn, root, rfl, hg, -, hcr, hnr, f⟩; obtain ⟨oc, cc2, rfl, -⟩ := hcr.slice; obtain ⟨on, cn, rfl, -⟩ := hnr.slice; have HK0 := hid (MK.made hcr hnr hg f); have F3 := hid (F9.out.trans f (fun _ h _ => h)); have D3 := hid (Blk.fr D9.out f (fun h => h)); clear hcr hnr hg f; dsimp only [mcells])
          generalize hw4 : w3.alloc _ = W4
          have HK := hid (show MK W9.heap.size W4 w3.heap.size s (.slice oc s.cols.length cc2) (.slice on s.names.length cn) root from by rw [← hw4]; exact HK0.out)
          have F4 := hid (show Fr (fun _ => False) WR W4 from by rw [← hw4]; exact F3.out.alloc _)
          have D4 := hid (show Blk W4 d [.int .i64 1, .int .i64 x, .int .i64 tb, .slice none 0 0, .slice none 0 0, .slice none 0 0, .slice none 0 0, .string ⟨#[]⟩] 35 from by rw [← hw4]; exact D3.out.alloc _)
          generalize w3.heap.size = d3 at *
          clear hw4 HK0 F3 D3 HMD HF9 HSD
          have HG4 := hid (HG.out.fre F4.out)
          have HDO := hid (HG4.out.o.madeDo HK.out)
          have k15 := HK.out.at15
          have HR := hid HK.out.rng
          unfold scells at HDO HR
          go_upto_region 42 with (first
            | (refine wpList_load_mid rfl 90 (.tmp 126) rfl d3 0 rfl _ _ HR.out Tryz.underlying90 rfl size_stmt ?_)
            | (go_at_call 40; refine HDO.out.mono ?_; rintro e w5 ⟨rfl, ho, f⟩; have HG5 := hid (HG4.out.did ho f); have D5 := hid (Blk.fr D4.out f (fun hs => by have := HG.out.o.lt hs; have := HDE.out; omega)); clear ho f))
          clear k15 HR HDO HK
          have HSD5 := hid (show ¬ Ext S W4 w5 d from fun he => he.elim (fun hs => by have := HG.out.o.lt hs; have := HDE.out; omega) (fun h => by have := D4.out.lt; omega))
          have HRR := hid (fun k (hk : (Value.slice b rs.length cb).ownBlock = some k) => show k ≠ d from fun e => by have := HG.out.r.lt hk; have := HDE.out; omega)
          have HWD := hid (show w.heap.size ≤ d from Nat.le_trans HG.out.o.fr.size HDE.out)
          generalize Ext S W4 w5 = S5 at *
          generalize (doM m s root).1 = m5 at *
          have HBY := hid (rBytes_go HG5.out.o.cr HG5.out.o.ok)
          have HBL := hid (bytes_le HG5.out.o.ok)
          generalize Cat.bytes m5 = by5 at *
          go_wp2_with (first
            | (go_at_call 41; refine HBY.out.mono ?_; rintro e w6 ⟨rfl, f⟩; have HG6 := hid (HG5.out.fre f); have D6 := hid (Blk.fr D5.out f (fun h => h)); have hth := D6.out.there 0 8 (by simp); clear f)
            | (refine wpList_store_mid rfl 35 (.tmp 9) (.tmp 133) rfl d 0 #[.int .i64 10, .int .i64 0, .int .i64 0, .slice none 0 0, .slice none 0 0, .slice none 0 0, .slice none 0 0, .string (bs by5)] rfl rfl hth size_rec (by simp [Value.oneCell']) ?_))
          go_meet
          exact ⟨S5, m5, ⟨⟨10, 0, 0, [], [], [], by5⟩, .slice none 0 0, .slice none 0 0, .slice none 0 0, .slice none 0 0⟩, D6.out.put 0 [.int .i64 10, .int .i64 0, .int .i64 0, .slice none 0 0, .slice none 0 0, .slice none 0 0, .slice none 0 0, .string (bs by5)] (by simp), ⟨Row.nil, Row.nil, Row.nil, rfl, good_of ⟨by omega, by omega⟩ ⟨by omega, by omega⟩ ⟨by omega, by omega⟩ (fun y hy => by simp at hy) (by simp) (by simp) (by simp) HBL.out (fun y hy => by simp at hy) (fun y hy => by simp at hy)⟩, fun k hk => hk.elim (fun h => (own_none h).elim) (fun h => h.elim (fun h => (own_none h).elim) (fun h => (own_none h).elim)), HG6.out.off D6.out ((Fr.refl (fun k => k = d) w6).put d 0 _ (fun _ => rfl)) HSD5.out HWD.out HRR.out⟩
        · skip
          go_wp2_with (fail)
          go_meet
          exact HG.out.keepR F9.out (r := ⟨⟨1, x, tb, [], [], [], []⟩, .slice none 0 0, .slice none 0 0, .slice none 0 0, .slice none 0 0⟩) D9.out ⟨Row.nil, Row.nil, Row.nil, rfl, good_of ⟨by omega, by omega⟩ ⟨by have := HXB.out; omega, by have := HXB.out; omega⟩ ⟨by have := HTB.out; omega, by have := HTB.out; omega⟩ (fun y hy => by simp at hy) (by simp) (by simp) (by simp) (by simp) (fun y hy => by simp at hy) (fun y hy => by simp at hy)⟩
      case rest =>
        obtain ⟨S', m', r', hb, hr, hs, hg⟩ := hcut
        generalize wc = W12 at *
        obtain ⟨⟨kind, xid, table, old, new, xids, note⟩, vo, vn, ve, vx⟩ := r'
        obtain ⟨a1, c1', e1, -⟩ := hr.o.slice
        obtain ⟨a2, c2', e2, -⟩ := hr.n.slice
        obtain ⟨a3, c3', e3, -⟩ := hr.x.slice
        have e4 := hr.e
        dsimp only at e1 e2 e3 e4
        subst e1 e2 e3 e4
        have HR := hid hr
        have HS := hid hs
        have HG12 := hid hg
        have HRG := hid hb.all
        have HB12 := hid hb
        clear hb hr hs hg HSD HG D9 F9 HXB HTB HKB
        unfold RecV.cells at HRG
        dsimp only at HRG
        have HSZ := hid HG12.out.o.fr.size
        have hn100 : rs.length ≤ 100 := by have := HRT.out; have := HT.out; omega
        go_wp2_with (first
          | (refine wpList_load_mid rfl 35 (.tmp 9) rfl d 0 rfl _ _ HRG.out Tryz.underlying35 rfl size_rec ?_)
          | (at_builtin; refine wpList_app1 rfl (s := .tmp 134) (x := .tmp 136) (t := 24) rfl Tryz.underlying24 info_rec rfl rfl rfl HG12.out.r HSZ.out rfl (by simp [Value.oneCell']) (by omega) (by omega) ?_; intro ab ac wg APP; have HG13 := hid (HG12.out.snoc HR.out HS.out rfl APP); clear APP))
        go_roundw
        case rel => exact ⟨t + 1, S', m', ab, ac, _, by have := HI123.out; have := HIE.out; omega, by rw [List.length_append, HRT.out]; rfl, by rw [show ((3 * (t + 1) : Nat)) = i3 from by have := HI123.out; have := HIE.out; omega], by rw [List.length_append]; rfl, HG13.out⟩
        case measure => have := HI123.out; simp [intOf]; omega
    · have HZ := hid HG.out
      have hle : rs.length ≤ 100 := by have := HRT.out; have := HT.out; omega
      have HLE := hid hle
      by_cases hb2 : i2 < L.length
      · have b0 : ¬ (i : Int) < 300 := by omega
        have b3 : (i2 : Int) < (L.length : Int) := by omega
        go_wp2_with (fail)
        go_ret
        exact ⟨_, rfl, rs, HLE.out, HZ.out.r, HZ.out.c, HZ.out.o.fr⟩
      · have b3 : ¬ (i2 : Int) < (L.length : Int) := by omega
        go_wp2_with (fail)
        go_ret
        exact ⟨_, rfl, rs, HLE.out, HZ.out.r, HZ.out.c, HZ.out.o.fr⟩
end Go.Proofs.YtiimomgbklgicaaGreat
