import Derived.Test.YtfhkmiifndhacaaRecs
/- The law's few and rows: bounded copies. -/
set_option linter.unusedVariables false
namespace Go.VB.Rec
def V.cut (v : V) : V := ⟨v.k, v.n, v.s.take 60⟩
def E.cut (e : E) : E := ⟨e.page, e.slot, e.item.take 405⟩
def cutRow (l : List V) : List V := (l.take 8).map V.cut
def R.few (r : R) : R := ⟨r.kind, r.xid, r.table, cutRow r.old, cutRow r.new, (r.edits.take 70).map E.cut, r.xids.take 40, r.note.take 500⟩
end Go.VB.Rec
namespace Go.Proofs.Ytfhkmiifndhacaa
open Go.RowKit Go.VB Go.VB.Oct Go.VB.Rec
theorem cut_str (t : List UInt8) (c : Nat) : ∃ q : Nat, (∀ z : Int, z = c → min (t.length : Int) z = (q : Int) ∧ (if z < (t.length : Int) then z else (t.length : Int)) = (q : Int)) ∧ (bs t).extract 0 q = bs (t.take c) ∧ (q : Int) ≤ t.length := by
  refine ⟨min c t.length, fun z hz => by subst hz; exact ⟨by omega, by split <;> omega⟩, ?_, by omega⟩
  apply ByteArray.ext
  simp [bs]
theorem map_snoc {α β : Type} (f : α → β) (l : List α) {j : Nat} (h : j < l.length) : (l.take (j + 1)).map f = (l.take j).map f ++ [f l[j]] := by rw [List.take_succ_eq_append_getElem h, List.map_append]; rfl
theorem take_min {α : Type} (l : List α) (n : Nat) : l.take (min n l.length) = l.take n := by
  by_cases h : n ≤ l.length
  · rw [Nat.min_eq_left h]
  · rw [Nat.min_eq_right (by omega), List.take_length, List.take_of_length_le (by omega)]
set_option maxRecDepth 20000 in
set_option maxHeartbeats 4000000 in
theorem lrows_go {P : Nat → Prop} {w : World} {va : Value} {r : List V} (h : Sl P w va r.length (r.flatMap V.cells)) (hn : r.length ≤ 9223372036854775807) :
    Calls Try.prog 30 #[va] w fun e w' => ∃ (a : Option Addr) (c : Nat), e = .returned (.slice a (cutRow r).length c) ∧ Row 53 3 w.heap.size w' (.slice a (cutRow r).length c) (cutRow r).length ((cutRow r).flatMap V.cells) ∧ Fr (fun _ => False) w w' := by
  obtain ⟨a, c, rfl, hc, hx⟩ := h
  have HX := hid (show Sl P w (.slice a r.length c) r.length (r.flatMap V.cells) from ⟨a, c, rfl, hc, hx⟩)
  clear hx
  have F0 := hid ((Fr.refl (fun _ => False) w).alloc (.cells #[] 53))
  have R0 := hid (Row.built (e := 53) (n := 0) (size := 3) (B := w.heap.size) w (l := []) rfl (by decide) (Nat.le_refl _))
  go_enter Try.func30, Try.ntmps30
  go_wp2_with (fail)
  go_loopw [3, 4] (fun v3 i wr => ∃ (j : Nat) (l : List V), j ≤ 8 ∧ j ≤ r.length ∧ i = .int .i64 j ∧ l = (r.take j).map V.cut ∧ l.length = j ∧ Row 53 3 w.heap.size wr v3 l.length (l.flatMap V.cells) ∧ Fr (fun _ => False) w wr) (fun _ i _ => 8 - (intOf i).toNat)
  case atStart => exact ⟨0, [], by omega, by omega, rfl, rfl, rfl, R0.out, F0.out⟩
  case round =>
    obtain ⟨j, l, hj8, hjr, rfl, hl, hll, hrow, fr⟩ := hrel
    have HROW := hid hrow
    have FR := hid fr
    have HL := hid hl
    have HLL := hid hll
    obtain ⟨va, cc, rfl, _⟩ := hrow.slice
    clear hrow fr hl hll F0 R0
    have i1 : (0 : Int) ≤ (j : Int) := by omega
    by_cases hc : j < 8 ∧ j < r.length
    · obtain ⟨h8, hjl⟩ := hc
      have i2 : (j : Int) < r.length := by omega
      have i3 : (j : Int) < 8 := by omega
      obtain ⟨g, o, rfl, hg, q0, q1, q2⟩ := sl_three (f := V.cells) vcells_len (HX.out.fr FR.out (fun _ _ h => h)) hjl
      have HSN := hid (map_snoc V.cut r hjl)
      obtain ⟨x, hx⟩ : ∃ x, x = r[j] := ⟨_, rfl⟩
      rw [← hx] at q0 q1 q2 HSN
      clear hx
      obtain ⟨k, n, s⟩ := x
      simp only [V.cells, List.getElem?_cons_zero, List.getElem?_cons_succ] at q0 q1 q2
      obtain ⟨q, hm, e1, hq⟩ := cut_str s 60
      obtain ⟨hm1, hm2⟩ := hm 60 rfl
      have e2 := bs_size s
      have i4 : (0 : Int) ≤ (q : Int) := by omega
      clear hm
      have HROW2 := hid (HROW.out.fre ((Fr.refl (fun _ => False) wr).alloc (.cells #[.int .i64 k, .int .i64 n, .string (bs (s.take 60))] 53)))
      have FR2 := hid (FR.out.alloc (.cells #[.int .i64 k, .int .i64 n, .string (bs (s.take 60))] 53))
      have HCE := hid (show V.cells (V.cut ⟨k, n, s⟩) = [.int .i64 k, .int .i64 n, .string (bs (s.take 60))] from rfl)
      go_wp2_with (first | (at_builtin; refine wpList_app1 rfl (s := .tmp 29) (x := .tmp 31) (t := 23) rfl Try.underlying23 info_val val_cells rfl (by rw [World.size_alloc]; rfl) HROW2.out FR2.out.size rfl (by simp [Value.oneCell']) (by have := HLL.out; omega) (by have := HLL.out; omega) ?_; intro ab ac wg APP; have HG := hid (show Row 53 3 w.heap.size wg (.slice ab (l.length + 1) ac) (l ++ [V.cut ⟨k, n, s⟩]).length ((l ++ [V.cut ⟨k, n, s⟩]).flatMap V.cells) ∧ Fr (fun _ => False) w wg from ⟨APP.row.cast (by simp) (by simp [HCE.out]), APP.frB HROW2.out FR2.out (Nat.le_refl _)⟩); clear APP))
      go_roundw
      case rel => exact ⟨j + 1, l ++ [V.cut ⟨k, n, s⟩], by omega, by omega, by simp, by rw [HSN.out, HL.out], by have := HLL.out; simp; omega, HG.out.1, HG.out.2⟩
      case measure => simp [intOf]; omega
    · have hcut : l = cutRow r := by
        rw [HL.out]
        unfold cutRow
        congr 1
        have : j = min 8 r.length := by omega
        rw [this, take_min]
      have HCU := hid hcut
      clear hcut
      have hor : (8 : Int) ≤ (j : Int) ∨ (r.length : Int) ≤ (j : Int) := by omega
      rcases hor with h8 | h8
      all_goals
        go_wp2_with (fail)
        all_goals (go_ret; rw [← HCU.out]; exact ⟨_, _, rfl, HROW.out, FR.out⟩)
/-- a record that came as an argument -/
structure AV (P : Nat → Prop) (w : World) (r : R) (vo vn ve vx : Value) : Prop where
  o : Sl P w vo r.old.length (r.old.flatMap V.cells)
  n : Sl P w vn r.new.length (r.new.flatMap V.cells)
  e : Sl P w ve r.edits.length (r.edits.flatMap E.cells)
  x : Sl P w vx r.xids.length (r.xids.flatMap icell)
  lo : r.old.length ≤ 9223372036854775807
  ln : r.new.length ≤ 9223372036854775807
  le : r.edits.length ≤ 9223372036854775807
  lx : r.xids.length ≤ 9223372036854775807
theorem Sl.src {P : Program} {R : Nat → Prop} {w : World} {v : Value} {n size : Nat} {xs : List Value} (h : Sl R w v n xs) (hl : xs.length = n * size) (hs : 0 < size) (h1 : ∀ u ∈ xs, u.oneCell' = true) : Src P w size v n xs := by
  obtain ⟨a, c, rfl, hc, hx⟩ := h
  by_cases hn : xs = []
  · subst hn
    have hn0 : n = 0 := by
      have : n * size = 0 := hl.symm
      rcases Nat.mul_eq_zero.1 this with h | h <;> omega
    subst hn0
    cases a with
    | none => exact Src.nil size c
    | some a => exact ⟨by simp, by simp, fun w1 _ => ⟨by simp [Builtin.lenOf], by simpa using run_firstCells_some (P := P) w1 size 0 a 0 c [] (by simp) (fun j v hj => by simp at hj)⟩⟩
  · obtain ⟨g, o, rfl, -, hr⟩ := hx hn
    exact Src.slice hl h1 hr
theorem Sl.take {R : Nat → Prop} {w : World} {a : Option Addr} {n c k size : Nat} {xs : List Value} (h : Sl R w (.slice a n c) n xs) (hk : k ≤ n) (hl : xs.length = n * size) : Sl R w (.slice a k c) k (xs.take (k * size)) := by
  obtain ⟨a', c', he, hc, hx⟩ := h
  cases he
  refine ⟨a, c, rfl, by omega, fun hne => ?_⟩
  obtain ⟨g, o, h1, h2, h3⟩ := hx (fun e => by subst e; simp at hne)
  refine ⟨g, o, h1, h2, fun j u hj => h3 j u ?_⟩
  have := (List.getElem?_eq_some_iff.1 hj).1
  rw [List.length_take] at this
  rwa [List.getElem?_take_of_lt (by omega)] at hj
theorem icells_take : ∀ (l : List Int) (k : Nat), (l.flatMap icell).take k = (l.take k).flatMap icell
  | [], k => by simp
  | x :: l, 0 => by simp
  | x :: l, k + 1 => by
    rw [List.take_succ_cons, List.flatMap_cons, List.flatMap_cons, ← icells_take l k]
    rfl
theorem icells_one (l : List Int) : ∀ u ∈ l.flatMap icell, u.oneCell' = true := by
  intro u hu
  obtain ⟨x, -, hx⟩ := List.mem_flatMap.1 hu
  simp only [icell, List.mem_singleton] at hx
  subst hx
  rfl
/-- a bounded copy: four slices of the call's own -/
structure FewS (w0 W : World) (q : Q) (r : R) : Prop where
  is : q.r = r
  o : Row 53 3 w0.heap.size W q.o r.old.length (r.old.flatMap V.cells)
  n : Row 53 3 w0.heap.size W q.n r.new.length (r.new.flatMap V.cells)
  e : Row 55 3 w0.heap.size W q.e r.edits.length (r.edits.flatMap E.cells)
  x : Row 3 1 w0.heap.size W q.x r.xids.length (r.xids.flatMap icell)
  on : ∀ b, q.o.ownBlock = some b → ¬ q.n.ownBlock = some b
  fr : Fr (fun _ => False) w0 W
/-- the argument, the result to be, the copy under way -/
structure FwB (w0 W : World) (r : R) (vo vn ve vx : Value) (k : R) (uo un ue ux : Value) : Prop where
  arg : Blk W w0.heap.size (rv r vo vn ve vx) 27
  res : Blk W (w0.heap.size + 1) (rv R.zero nilM nilM nilM nilM) 27
  out : Blk W (w0.heap.size + 1 + 1) (rv k uo un ue ux) 27
  fr : Fr (fun _ => False) w0 W
namespace FwB
variable {w0 W W' : World} {r k k' : R} {vo vn ve vx uo un ue ux uo' un' ue' ux' : Value}
theorem fre (h : FwB w0 W r vo vn ve vx k uo un ue ux) (f : Fr (fun _ => False) W W') : FwB w0 W' r vo vn ve vx k uo un ue ux :=
  ⟨Blk.fr h.arg f (fun h => h), Blk.fr h.res f (fun h => h), Blk.fr h.out f (fun h => h), h.fr.trans f (fun _ h _ => h)⟩
theorem step (w0 W : World) (i : Nat) (u : Value) : Fr (fun b => b = w0.heap.size + 1 + 1) W (W.setCell ⟨w0.heap.size + 1 + 1, i, none⟩ u) := (Fr.refl (fun b => b = w0.heap.size + 1 + 1) W).setCell ⟨w0.heap.size + 1 + 1, i, none⟩ u (fun _ => rfl)
theorem put (h : FwB w0 W r vo vn ve vx k uo un ue ux) (i : Nat) (u : Value) (hs : (rv k uo un ue ux).set i u = rv k' uo' un' ue' ux') : FwB w0 (W.setCell ⟨w0.heap.size + 1 + 1, i, none⟩ u) r vo vn ve vx k' uo' un' ue' ux' := by
  have f := step w0 W i u
  have hq := h.out.set i u
  rw [hs] at hq
  exact ⟨h.arg.fr f (fun e => by omega), h.res.fr f (fun e => by omega), hq, h.fr.trans f (fun k hk hl => by omega)⟩
theorem size (h : FwB w0 W r vo vn ve vx k uo un ue ux) : w0.heap.size + 3 ≤ W.heap.size := by have := h.out.lt; omega
theorem start (w0 : World) (r : R) (vo vn ve vx : Value) : FwB w0 (((w0.alloc (.cells (rv r vo vn ve vx).toArray 27)).alloc (.cells (rv R.zero nilM nilM nilM nilM).toArray 27)).alloc (.cells (rv r vo vn ve vx).toArray 27)) r vo vn ve vx r vo vn ve vx := by
  have b0 := Blk.new w0 (rv r vo vn ve vx) 27
  have b1 := Blk.new (w0.alloc (.cells (rv r vo vn ve vx).toArray 27)) (rv R.zero nilM nilM nilM nilM) 27
  have b2 := Blk.new ((w0.alloc (.cells (rv r vo vn ve vx).toArray 27)).alloc (.cells (rv R.zero nilM nilM nilM nilM).toArray 27)) (rv r vo vn ve vx) 27
  simp only [World.size_alloc] at b1 b2
  exact ⟨(b0.alloc _).alloc _, b1.alloc _, b2, (((Fr.refl (fun _ => False) w0).alloc _).alloc _).alloc _⟩
end FwB
structure FwS (w0 W : World) (r : R) (vo vn ve vx : Value) (k : R) (uo un ue ux : Value) : Prop extends FwB w0 W r vo vn ve vx k uo un ue ux where
  o : Row 53 3 (w0.heap.size + 3) W uo k.old.length (k.old.flatMap V.cells)
  n : Row 53 3 (w0.heap.size + 3) W un k.new.length (k.new.flatMap V.cells)
  e : Row 55 3 (w0.heap.size + 3) W ue k.edits.length (k.edits.flatMap E.cells)
  on : ∀ b, uo.ownBlock = some b → ¬ un.ownBlock = some b
namespace FwS
variable {w0 W W' wg : World} {r k : R} {vo vn ve vx uo un ue ux v' : Value}
theorem fre (h : FwS w0 W r vo vn ve vx k uo un ue ux) (f : Fr (fun _ => False) W W') : FwS w0 W' r vo vn ve vx k uo un ue ux :=
  ⟨h.toFwB.fre f, h.o.fre f, h.n.fre f, h.e.fre f, h.on⟩
theorem atE (h : FwS w0 W r vo vn ve vx k uo un ue ux) {n : Nat} {xs news : List Value} (hg : App 55 3 (w0.heap.size + 3) W wg ue v' n xs news) : Blk wg (w0.heap.size + 1 + 1) (rv k uo un ue ux) 27 := h.out.fr hg.fr (fun hk => h.e.ne h.out (by decide) _ hk rfl)
theorem growE (h : FwS w0 W r vo vn ve vx k uo un ue ux) {x : E} (hg : App 55 3 (w0.heap.size + 3) W wg ue v' k.edits.length (k.edits.flatMap E.cells) x.cells) :
    FwS w0 (wg.setCell ⟨w0.heap.size + 1 + 1, 5, none⟩ v') r vo vn ve vx { k with edits := k.edits ++ [x] } uo un v' ux := by
  have hne : ∀ {d l t}, Blk W d l t → t ≠ 55 → ¬ (ue.ownBlock = some d) := fun b ht hk => h.e.ne b ht _ hk rfl
  have hb : FwB w0 wg r vo vn ve vx k uo un ue ux := ⟨h.arg.fr hg.fr (hne h.arg (by decide)), h.res.fr hg.fr (hne h.res (by decide)), h.out.fr hg.fr (hne h.out (by decide)), h.fr.trans hg.fr (fun b hk hl => by have := h.e.new b hk; omega)⟩
  have fs := FwB.step w0 wg 5 v'
  have o' := h.o.fr hg.fr (fun b hk => row_apart h.o h.e (by decide) b hk)
  have n' := h.n.fr hg.fr (fun b hk => row_apart h.n h.e (by decide) b hk)
  have e' : Row 55 3 (w0.heap.size + 3) wg v' (k.edits ++ [x]).length ((k.edits ++ [x]).flatMap E.cells) := hg.row.cast (by simp) (by simp)
  exact ⟨hb.put 5 v' rfl, o'.fr fs (fun b hk => o'.ne hb.out (by decide) b hk), n'.fr fs (fun b hk => n'.ne hb.out (by decide) b hk), e'.fr fs (fun b hk => e'.ne hb.out (by decide) b hk), h.on⟩
theorem put (h : FwS w0 W r vo vn ve vx k uo un ue ux) (i : Nat) (u : Value) (k' : R) (ux' : Value) (hs : (rv k uo un ue ux).set i u = rv k' uo un ue ux') (ho : k'.old = k.old) (hn : k'.new = k.new) (he : k'.edits = k.edits) :
    FwS w0 (W.setCell ⟨w0.heap.size + 1 + 1, i, none⟩ u) r vo vn ve vx k' uo un ue ux' := by
  have f := FwB.step w0 W i u
  exact ⟨h.toFwB.put i u hs, by rw [ho]; exact h.o.fr f (fun b hk => h.o.ne h.out (by decide) b hk), by rw [hn]; exact h.n.fr f (fun b hk => h.n.ne h.out (by decide) b hk), by rw [he]; exact h.e.fr f (fun b hk => h.e.ne h.out (by decide) b hk), h.on⟩
/-- the record's other fields set at the end -/
theorem fin (h : FwS w0 W r vo vn ve vx k uo un ue ux) (x : Row 3 1 (w0.heap.size + 3) W ux k.xids.length (k.xids.flatMap icell)) :
    Blk (W.setCells (w0.heap.size + 1) 0 (rv k uo un ue ux)) (w0.heap.size + 1) (rv k uo un ue ux) 27 ∧ FewS w0 (W.setCells (w0.heap.size + 1) 0 (rv k uo un ue ux)) ⟨k, uo, un, ue, ux⟩ k := by
  have f := (Fr.refl (fun b => b = w0.heap.size + 1) W).put (w0.heap.size + 1) 0 (rv k uo un ue ux) (fun _ => rfl)
  have b := h.res.put 0 (rv k uo un ue ux) (by simp [rv])
  exact ⟨b, rfl, (h.o.fr f (fun b hk e => by have := h.o.new b hk; omega)).low (by omega), (h.n.fr f (fun b hk e => by have := h.n.new b hk; omega)).low (by omega), (h.e.fr f (fun b hk e => by have := h.e.new b hk; omega)).low (by omega), (x.fr f (fun b hk e => by have := x.new b hk; omega)).low (by omega), h.on, h.fr.trans f (fun b hk hl => by omega)⟩
end FwS
set_option maxRecDepth 20000 in
set_option maxHeartbeats 8000000 in
theorem few_go {P : Nat → Prop} {w : World} {r : R} {vo vn ve vx : Value} (h : AV P w r vo vn ve vx) : Calls Try.prog 13 #[.agg (rv r vo vn ve vx).toArray] w fun e w' => ∃ q : Q, e = .returned (.agg q.cells.toArray) ∧ FewS w w' q r.few := by
  have HO := hid (fun w' (f : Fr (fun _ => False) w w') => lrows_go (h.o.fr f (fun _ _ h => h)) h.lo)
  have HN := hid (fun w' (f : Fr (fun _ => False) w w') => lrows_go (h.n.fr f (fun _ _ h => h)) h.ln)
  have HE := hid (fun w' (f : Fr (fun _ => False) w w') => h.e.fr f (fun _ _ h => h))
  have HX := hid (fun w' (f : Fr (fun _ => False) w w') => h.x.fr f (fun _ _ h => h))
  obtain ⟨a1, c1, hvo, -⟩ := h.o
  obtain ⟨a2, c2, hvn, -⟩ := h.n
  obtain ⟨a3, c3, hve, -⟩ := h.e
  obtain ⟨a4, c4, hvx, hcx, -⟩ := h.x
  clear h
  subst hvo hvn hve hvx
  obtain ⟨kind, xid, table, old, new, edits, xids, note⟩ := r
  have H0 : Hid (FwB w (((w.alloc (.cells #[.int .i64 kind, .int .i64 xid, .int .i64 table, .slice a1 old.length c1, .slice a2 new.length c2, .slice a3 edits.length c3, .slice a4 xids.length c4, .string (bs note)] 27)).alloc (.cells #[.int .i64 0, .int .i64 0, .int .i64 0, .slice none 0 0, .slice none 0 0, .slice none 0 0, .slice none 0 0, .string ⟨#[]⟩] 27)).alloc (.cells #[.int .i64 kind, .int .i64 xid, .int .i64 table, .slice a1 old.length c1, .slice a2 new.length c2, .slice a3 edits.length c3, .slice a4 xids.length c4, .string (bs note)] 27)) ⟨kind, xid, table, old, new, edits, xids, note⟩ (.slice a1 old.length c1) (.slice a2 new.length c2) (.slice a3 edits.length c3) (.slice a4 xids.length c4) ⟨kind, xid, table, old, new, edits, xids, note⟩ (.slice a1 old.length c1) (.slice a2 new.length c2) (.slice a3 edits.length c3) (.slice a4 xids.length c4)) := hid (FwB.start w ⟨kind, xid, table, old, new, edits, xids, note⟩ (.slice a1 old.length c1) (.slice a2 new.length c2) (.slice a3 edits.length c3) (.slice a4 xids.length c4))
  unfold rv
  dsimp only at *
  go_enter Try.func13, Try.ntmps13
  go_upto_region 2 with fail
  have HSZ := hid H0.out.size
  generalize ((w.alloc (.cells #[.int .i64 kind, .int .i64 xid, .int .i64 table, .slice a1 old.length c1, .slice a2 new.length c2, .slice a3 edits.length c3, .slice a4 xids.length c4, .string (bs note)] 27)).alloc _).alloc _ = W2 at *
  have q3 : W2.cell? ⟨w.heap.size, 3, none⟩ = some (.slice a1 old.length c1) := H0.out.arg.cell 3
  go_upto_region 3 with (go_at_call 30; refine (HO.out _ H0.out.fr).mono ?_; rintro e w3 ⟨ao, co, rfl, hrow, f⟩; have HR1 := hid hrow; have H1 := hid (H0.out.fre f); have q3 : w3.cell? ⟨w.heap.size + 1 + 1, 3, none⟩ = some (.slice a1 old.length c1) := H1.out.out.cell 3; have z3 := H1.out.out.frozen 3; clear hrow f)
  have H2 := hid (H1.out.put 3 (.slice ao (cutRow old).length co) (k' := ⟨kind, xid, table, cutRow old, new, edits, xids, note⟩) (uo' := .slice ao (cutRow old).length co) (un' := .slice a2 new.length c2) (ue' := .slice a3 edits.length c3) (ux' := .slice a4 xids.length c4) rfl)
  have HR2 := hid (HR1.out.fr (FwB.step w w3 3 (.slice ao (cutRow old).length co)) (fun b hk => HR1.out.ne H1.out.out (by decide) b hk))
  clear H0 H1 HR1
  generalize w3.setCell _ _ = W3 at *
  have q4 : W3.cell? ⟨w.heap.size, 4, none⟩ = some (.slice a2 new.length c2) := H2.out.arg.cell 4
  go_upto_region 4 with (go_at_call 30; refine (HN.out _ H2.out.fr).mono ?_; rintro e w4 ⟨an, cn, rfl, hrow, f⟩; have HR3 := hid hrow; have HR4 := hid (HR2.out.fre f); have H3 := hid (H2.out.fre f); have q4 : w4.cell? ⟨w.heap.size + 1 + 1, 4, none⟩ = some (.slice a2 new.length c2) := H3.out.out.cell 4; have z4 := H3.out.out.frozen 4; clear hrow f)
  have HON := hid (show ∀ b, (Value.slice ao (cutRow old).length co).ownBlock = some b → ¬ (Value.slice an (cutRow new).length cn).ownBlock = some b from fun b h1 h2 => by have := HR2.out.lt h1; have := HR3.out.new b h2; omega)
  have H4 := hid (H3.out.put 4 (.slice an (cutRow new).length cn) (k' := ⟨kind, xid, table, cutRow old, cutRow new, edits, xids, note⟩) (uo' := .slice ao (cutRow old).length co) (un' := .slice an (cutRow new).length cn) (ue' := .slice a3 edits.length c3) (ux' := .slice a4 xids.length c4) rfl)
  have HR5 := hid (HR4.out.fr (FwB.step w w4 4 (.slice an (cutRow new).length cn)) (fun b hk => HR4.out.ne H3.out.out (by decide) b hk))
  have HR6 := hid ((HR3.out.fr (FwB.step w w4 4 (.slice an (cutRow new).length cn)) (fun b hk => HR3.out.ne H3.out.out (by decide) b hk)).low (A := w.heap.size + 3) (by have := H2.out.size; omega))
  have HR7 := hid (HR5.out.low (A := w.heap.size + 3) HSZ.out)
  clear H2 H3 HR2 HR3 HR4 HR5 q3 z3
  generalize w4.setCell _ _ = W4 at *
  have q5 : W4.cell? ⟨w.heap.size + 1 + 1, 5, none⟩ = some (.slice a3 edits.length c3) := H4.out.out.cell 5
  have z5 := H4.out.out.frozen 5
  go_upto_region 5 with fail
  have f5 := FwB.step w W4 5 nilM
  have HS5 : Hid (FwS w (W4.setCell ⟨w.heap.size + 1 + 1, 5, none⟩ nilM) ⟨kind, xid, table, old, new, edits, xids, note⟩ (.slice a1 old.length c1) (.slice a2 new.length c2) (.slice a3 edits.length c3) (.slice a4 xids.length c4) ⟨kind, xid, table, cutRow old, cutRow new, [], xids, note⟩ (.slice ao (cutRow old).length co) (.slice an (cutRow new).length cn) nilM (.slice a4 xids.length c4)) :=
    hid ⟨H4.out.put 5 nilM rfl, HR7.out.fr f5 (fun b hk => HR7.out.ne H4.out.out (by decide) b hk), HR6.out.fr f5 (fun b hk => HR6.out.ne H4.out.out (by decide) b hk), Row.nil, HON.out⟩
  clear H4 HR6 HR7 f5 q4 z4 q5 z5 HON
  go_wp2_with (fail)
  generalize W4.setCell _ _ = W5 at *
  go_loopw [4] (fun i wr => ∃ (j : Nat) (l : List E) (ae : Option Addr) (ce : Nat), j ≤ 70 ∧ j ≤ edits.length ∧ i = .int .i64 j ∧ l = (edits.take j).map E.cut ∧ l.length = j ∧ FwS w wr ⟨kind, xid, table, old, new, edits, xids, note⟩ (.slice a1 old.length c1) (.slice a2 new.length c2) (.slice a3 edits.length c3) (.slice a4 xids.length c4) ⟨kind, xid, table, cutRow old, cutRow new, l, xids, note⟩ (.slice ao (cutRow old).length co) (.slice an (cutRow new).length cn) (.slice ae l.length ce) (.slice a4 xids.length c4)) (fun i _ => 70 - (intOf i).toNat)
  case atStart => exact ⟨0, [], none, 0, by omega, by omega, rfl, rfl, rfl, HS5.out⟩
  case round =>
    obtain ⟨j, l, ae, ce, hj7, hje, rfl, hl, hll, hS⟩ := hrel
    have HS := hid hS
    have HL := hid hl
    have HLL := hid hll
    clear hS hl hll HS5
    have i1 : (0 : Int) ≤ (j : Int) := by omega
    have q5 : wr.cell? ⟨w.heap.size, 5, none⟩ = some (.slice a3 edits.length c3) := HS.out.arg.cell 5
    by_cases hc : j < 70 ∧ j < edits.length
    · obtain ⟨h7, hjl⟩ := hc
      have i2 : (j : Int) < edits.length := by omega
      have i3 : (j : Int) < 70 := by omega
      obtain ⟨g, o, rfl, hg, q0, q1, q2⟩ := sl_three (f := E.cells) ecells_len (HE.out _ HS.out.fr) hjl
      have HSN := hid (map_snoc E.cut edits hjl)
      obtain ⟨x, hx⟩ : ∃ x, x = edits[j] := ⟨_, rfl⟩
      rw [← hx] at q0 q1 q2 HSN
      clear hx
      obtain ⟨page, slot, item⟩ := x
      simp only [E.cells, List.getElem?_cons_zero, List.getElem?_cons_succ] at q0 q1 q2
      obtain ⟨q, hm, e1, hq⟩ := cut_str item 405
      obtain ⟨hm1, hm2⟩ := hm 405 rfl
      have e2 := bs_size item
      have i4 : (0 : Int) ≤ (q : Int) := by omega
      clear hm
      have HS2 := hid (HS.out.fre ((Fr.refl (fun _ => False) wr).alloc (.cells #[.int .i64 page, .int .i64 slot, .string (bs (item.take 405))] 55)))
      have HCE := hid (show E.cells (E.cut ⟨page, slot, item⟩) = [.int .i64 page, .int .i64 slot, .string (bs (item.take 405))] from rfl)
      have q6 : (wr.alloc (.cells #[.int .i64 page, .int .i64 slot, .string (bs (item.take 405))] 55)).cell? ⟨w.heap.size + 1 + 1, 5, none⟩ = some (.slice ae l.length ce) := HS2.out.out.cell 5
      go_wp2_with (first | (at_builtin; refine wpList_app1 rfl (s := .tmp 41) (x := .tmp 43) (t := 24) rfl Try.underlying24 info_edit edit_zcells rfl (by rw [World.size_alloc]; rfl) HS2.out.e HS2.out.size rfl (by simp [Value.oneCell']) (by have := HLL.out; dsimp only; omega) (by have := HLL.out; dsimp only; omega) ?_; intro ab ac wg APP; have HG := hid (HS2.out.growE (x := E.cut ⟨page, slot, item⟩) (HCE.out ▸ APP)); have hre := HS2.out.atE APP; have c5 : wg.cell? ⟨w.heap.size + 1 + 1, 5, none⟩ = some (.slice ae l.length ce) := hre.cell 5; have y5 := hre.frozen 5; clear hre APP))
      go_roundw
      case rel => exact ⟨j + 1, l ++ [E.cut ⟨page, slot, item⟩], ab, ac, by omega, by omega, by simp, by rw [HSN.out, HL.out], by have := HLL.out; simp; omega, by simpa using HG.out⟩
      case measure => simp [intOf]; omega
    · have hcut : l = (edits.take 70).map E.cut := by
        rw [HL.out]
        congr 1
        have : j = min 70 edits.length := by omega
        rw [this, take_min]
      have HCU := hid hcut
      clear hcut
      obtain ⟨q4, hq4, hq5, hq6, hq7⟩ : ∃ q : Nat, min (xids.length : Int) 40 = q ∧ (xids.take 40).length = q ∧ q ≤ xids.length ∧ xids.take q = xids.take 40 := ⟨min 40 xids.length, by omega, by simp, by omega, take_min _ _⟩
      have hsl := Sl.take (k := q4) (size := 1) (HX.out _ (HS.out.fr.alloc (.cells #[] 3))) hq6 (by rw [icells_len]; simp)
      rw [Nat.mul_one, icells_take, hq7] at hsl
      have HSR := hid (Sl.src (P := Try.prog) (size := 1) hsl (by rw [icells_len, hq5]; simp) (by omega) (icells_one _))
      have HR0 := hid (Row.built (e := 3) (n := 0) (size := 1) (B := wr.heap.size) wr (l := []) rfl (by decide) (Nat.le_refl _))
      have HQ5 := hid hq5
      have hq8 : (0 : Int) ≤ (q4 : Int) := by omega
      have hq9 : (q4 : Int) ≤ (c4 : Int) := by omega
      have hq10 : (q4 : Int) ≤ 40 := by omega
      have c6 : (wr.alloc (.cells #[] 3)).cell? ⟨w.heap.size, 6, none⟩ = some (.slice a4 xids.length c4) := (HS.out.fre ((Fr.refl (fun _ => False) wr).alloc (.cells #[] 3))).arg.cell 6
      obtain ⟨qn, hmn, en, hqn⟩ := cut_str note 500
      obtain ⟨hmn1, hmn2⟩ := hmn 500 rfl
      have i4 : (0 : Int) ≤ (qn : Int) := by omega
      have e2 := bs_size note
      clear hmn hsl hq5 hq7
      have hor : ((70 : Int) ≤ (j : Int) ∧ (j : Int) < (edits.length : Int)) ∨ (edits.length : Int) ≤ (j : Int) := by omega
      clear hc
      rcases hor with ⟨h7, h8⟩ | h7
      all_goals
        go_upto_region 12 with (first | (at_builtin; refine wpList_appS rfl (s := .tmp 46) (x := .tmp 53) (t := 25) (tx := 25) rfl Try.underlying25 Try.underlying25 (.inr ⟨_, rfl⟩) info_int rfl rfl rfl HR0.out (by rw [World.size_alloc]; omega) HSR.out (by omega) (by omega) ?_; intro ab ac wg APP; simp only [Nat.zero_add] at APP ⊢; have hfg := APP.frB HR0.out ((Fr.refl (fun _ => False) wr).alloc (.cells #[] 3)) (Nat.le_refl _); have HS3 := hid (HS.out.fre hfg); have HXR := hid ((APP.row.low (A := w.heap.size + 3) HS.out.size).cast (by rw [HQ5.out]; omega) (by simp) : Row 3 1 (w.heap.size + 3) wg (.slice ab q4 ac) (xids.take 40).length ((xids.take 40).flatMap icell)); have d6 : wg.cell? ⟨w.heap.size + 1 + 1, 6, none⟩ = some (.slice a4 xids.length c4) := HS3.out.out.cell 6; have y6 := HS3.out.out.frozen 6; clear APP hfg))
        have HS4 := hid (HS3.out.put 6 (.slice ab q4 ac) ⟨kind, xid, table, cutRow old, cutRow new, l, xids.take 40, note⟩ (.slice ab q4 ac) rfl rfl rfl rfl)
        have HXR2 := hid (HXR.out.fr (FwB.step w wg 6 (.slice ab q4 ac)) (fun b hk => HXR.out.ne HS3.out.out (by decide) b hk))
        clear HS3 HXR d6 y6
        generalize wg.setCell _ _ = wh at *
        have c7 : wh.cell? ⟨w.heap.size, 7, none⟩ = some (.string (bs note)) := HS4.out.arg.cell 7
        have d7 : wh.cell? ⟨w.heap.size + 1 + 1, 7, none⟩ = some (.string (bs note)) := HS4.out.out.cell 7
        have z7 := HS4.out.out.frozen 7
        go_upto_region 13 with fail
        have HS5 := hid (HS4.out.put 7 (.string (bs (note.take 500))) ⟨kind, xid, table, cutRow old, cutRow new, l, xids.take 40, note.take 500⟩ (.slice ab q4 ac) rfl rfl rfl rfl)
        have HXR3 := hid (HXR2.out.fr (FwB.step w wh 7 (.string (bs (note.take 500)))) (fun b hk => HXR2.out.ne HS4.out.out (by decide) b hk))
        clear HS4 HXR2 c7 d7 z7
        generalize wh.setCell _ _ = wi at *
        obtain ⟨p0, p1, p2, p3, p4, p5, p6, p7⟩ := rec_cells HS5.out.out
        have hth := HS5.out.res.there 0 8 (by simp [rv])
        have HFI := hid (HS5.out.fin HXR3.out)
        go_wp2_with (refine wpList_store_mid rfl 27 (.tmp 2) (.tmp 64) rfl (w.heap.size + 1) 0 (rv ⟨kind, xid, table, cutRow old, cutRow new, l, xids.take 40, note.take 500⟩ (.slice ao (cutRow old).length co) (.slice an (cutRow new).length cn) (.slice ae l.length ce) (.slice ab q4 ac)).toArray rfl rfl hth size_Rec (by simp [Value.oneCell', rv]) ?_; rw [List.toList_toArray])
        refine bodyPost_ret (v := .agg (rv ⟨kind, xid, table, cutRow old, cutRow new, l, xids.take 40, note.take 500⟩ (.slice ao (cutRow old).length co) (.slice an (cutRow new).length cn) (.slice ae l.length ce) (.slice ab q4 ac)).toArray) (results_cell_mid (b := w.heap.size + 1) (o := 0) rfl _ _ rfl (cs := rv ⟨kind, xid, table, cutRow old, cutRow new, l, xids.take 40, note.take 500⟩ (.slice ao (cutRow old).length co) (.slice an (cutRow new).length cn) (.slice ae l.length ce) (.slice ab q4 ac)) (Blk.all _ HFI.out.1) Try.underlying27 rfl size_Rec) rfl ?_
        have hfi := HFI.out.2
        have hcu := HCU.out
        subst hcu
        exact ⟨_, rfl, hfi⟩
theorem few_lens (r : R) : (R.few r).old.length ≤ 8 ∧ (R.few r).new.length ≤ 8 ∧ (R.few r).edits.length ≤ 70 ∧ (R.few r).xids.length ≤ 40 ∧ (R.few r).note.length ≤ 500 := by
  unfold R.few cutRow
  dsimp only
  simp only [List.length_map, List.length_take]
  omega
theorem FewS.rv {w0 W : World} {q : Q} {r : R} (h : FewS w0 W q (R.few r)) : q.RV (fun k => w0.heap.size ≤ k ∧ k < W.heap.size) W := by
  obtain ⟨h1, h2, h3, h4, -⟩ := few_lens r
  have e := h.is
  refine ⟨?_, ?_, ?_, ?_, ?_, ?_, ?_, ?_, fun k hk => hk.2⟩
  · rw [e]; exact own_sl h.o.own (fun k hk => ⟨h.o.new k hk, h.o.lt hk⟩)
  · rw [e]; exact own_sl h.n.own (fun k hk => ⟨h.n.new k hk, h.n.lt hk⟩)
  · rw [e]; exact own_sl h.e.own (fun k hk => ⟨h.e.new k hk, h.e.lt hk⟩)
  · rw [e]; exact own_sl h.x.own (fun k hk => ⟨h.x.new k hk, h.x.lt hk⟩)
  all_goals (rw [e]; omega)
theorem RV.av {P : Nat → Prop} {w : World} {r : R} {vo vn ve vx : Value} (h : RV P w r vo vn ve vx) : AV P w r vo vn ve vx :=
  ⟨h.o, h.n, h.e, h.x, by have := h.lo; omega, by have := h.ln; omega, by have := h.le; omega, by have := h.lx; omega⟩
end Go.Proofs.Ytfhkmiifndhacaa
