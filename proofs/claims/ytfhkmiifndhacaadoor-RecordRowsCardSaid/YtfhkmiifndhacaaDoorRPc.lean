import Derived.Test.YtfhkmiifndhacaaDoorSan
import Derived.Test.YtfhkmiifndhacaaDoorMdC

/- from XRfA.lean.tpl -/
set_option linter.unusedVariables false
namespace Go.Proofs.YtfhkmiifndhacaaDoor
open Go.RowKit Go.VB Go.VB.Oct Go.VB.Rec
theorem row_no {r : List V} {j : Nat} (hj : j < r.length) (h : r[j].right = false) : row r = false := by
  cases hr : row r with
  | false => rfl
  | true =>
    unfold row at hr
    simp only [Bool.and_eq_true, List.all_eq_true] at hr
    rw [hr.2 _ (List.getElem_mem hj)] at h
    cases h
theorem row_all {r : List V} (h : ∀ i (hi : i < r.length), r[i].right = true) : row r = decide (r.length ≤ 6) := by
  unfold row
  have : r.all V.right = true := by
    rw [List.all_eq_true]
    intro x hx
    obtain ⟨i, hi, rfl⟩ := List.getElem_of_mem hx
    exact h i hi
  rw [this, Bool.and_true]
end Go.Proofs.YtfhkmiifndhacaaDoor

/- from XScN.lean.tpl -/
namespace Go.VB.Rec
open Go.VB.Oct Go.Proofs.YtfhkmiifndhacaaDoor
/-- valid, and read back as it is -/
structure GoodR (r : R) : Prop where
  right : r.right = true
  back : readR r.raw = (r, 0)
def frames (l : List R) : List UInt8 := l.flatMap frame
def ends (a : Nat) : List R → List Int
  | [] => []
  | r :: l => ((a + (frame r).length : Nat) : Int) :: ends (a + (frame r).length) l
theorem good_frame {r : R} (h : GoodR r) : frame r = be 4 r.raw.length ++ (be 4 (sum r.raw) ++ r.raw) := by unfold frame; rw [if_pos h.right, List.append_assoc]
theorem good_len {r : R} (h : GoodR r) : (frame r).length = r.raw.length + 8 := by rw [good_frame h]; simp [be_length]; omega
theorem has_at (p t : List UInt8) : (RM.mk (p ++ t) p.length false).Has t := ⟨rfl, by simp, by simp⟩
theorem scan1_frame {r : R} (h : GoodR r) (p t : List UInt8) : scan1 (p ++ (frame r ++ t)) p.length = some (r, p.length + (frame r).length) := by
  have hl := raw_le h.right
  have h0 := has_at p (frame r ++ t)
  have hlen := good_len h
  rw [good_frame h, List.append_assoc, List.append_assoc] at h0
  rw [good_frame h, List.append_assoc, List.append_assoc]
  obtain ⟨r1, g1, h1, s1, a1⟩ := h0.num 4 (by omega) (by omega)
  obtain ⟨r2, g2, h2, s2, a2⟩ := h1.num 4 (by omega) (by have := sum_lt r.raw; omega)
  obtain ⟨r3, g3, h3, s3, a3⟩ := h2.app rfl
  unfold scan1
  rw [g1]
  dsimp only
  rw [g2]
  dsimp only
  rw [g3]
  dsimp only
  rw [if_neg (by rw [h3.ok]; simp), h.back]
  dsimp only
  rw [if_neg (by simp), a3, a2, a1]
  congr 2
  simp only [List.length_append, be_length _ _ (show 4 ≤ 8 by omega)]
  omega
theorem scan1_short {r : R} (h : GoodR r) (p : List UInt8) (m : Nat) (hm : m < (frame r).length) : scan1 (p ++ (frame r).take m) p.length = none := by
  have hl := raw_le h.right
  have hlen := good_len h
  have h0 := has_at p ((frame r).take m)
  have fin : ∀ rm : RM, rm.failed = true → (rm.take 0).1.failed = true := fun rm h => by rw [RM.take_failed h]; exact h
  unfold scan1
  dsimp only
  rw [if_pos]
  rw [Bool.or_eq_true]
  left
  by_cases h4 : m < 4
  · have hn : (RM.mk (p ++ (frame r).take m) p.length false).num 4 = ({ (RM.mk (p ++ (frame r).take m) p.length false) with failed := true }, 0) := by
      unfold RM.num
      rw [h0.bad (by rw [List.length_take]; omega)]
      rfl
    rw [hn]
    dsimp only
    rw [RM.num_failed rfl]
    dsimp only
    rw [RM.take_failed rfl]
  · have e4 : (frame r).take m = be 4 r.raw.length ++ ((be 4 (sum r.raw) ++ r.raw).take (m - 4)) := by
      rw [good_frame h, List.take_append, be_length _ _ (show 4 ≤ 8 by omega), List.take_of_length_le (by rw [be_length _ _ (by omega)]; omega)]
    rw [e4] at h0 ⊢
    obtain ⟨r1, g1, h1, s1, a1⟩ := h0.num 4 (by omega) (by omega)
    rw [g1]
    dsimp only
    by_cases h8 : m < 8
    · have hn : r1.num 4 = ({ r1 with failed := true }, 0) := by
        unfold RM.num
        rw [h1.bad (by rw [List.length_take]; omega)]
        rfl
      rw [hn]
      dsimp only
      rw [RM.take_failed rfl]
    · have e8 : (be 4 (sum r.raw) ++ r.raw).take (m - 4) = be 4 (sum r.raw) ++ r.raw.take (m - 8) := by
        rw [List.take_append, be_length _ _ (show 4 ≤ 8 by omega), List.take_of_length_le (by rw [be_length _ _ (by omega)]; omega), Nat.sub_sub]
      rw [e8] at h1
      obtain ⟨r2, g2, h2, s2, a2⟩ := h1.num 4 (by omega) (by have := sum_lt r.raw; omega)
      rw [g2]
      dsimp only
      rw [h2.bad (by rw [List.length_take]; omega)]
theorem scanF_frames : ∀ (l : List R), (∀ r ∈ l, GoodR r) → ∀ (p u : List UInt8) (f : Nat), l.length < f → scan1 (p ++ (frames l ++ u)) (p ++ frames l).length = none → scanF f (p ++ (frames l ++ u)) p.length = (l, ends p.length l)
  | [], _, p, u, f + 1, _, hu => by
    have e : p ++ frames [] = p := by simp [frames]
    rw [e] at hu
    rw [scanF_none hu]
    rfl
  | r :: l, hg, p, u, f + 1, hf, hu => by
    have e1 : frames (r :: l) ++ u = frame r ++ (frames l ++ u) := by simp [frames]
    have e2 : p ++ (frames (r :: l) ++ u) = (p ++ frame r) ++ (frames l ++ u) := by rw [e1]; simp
    have e3 : p ++ frames (r :: l) = (p ++ frame r) ++ frames l := by simp [frames]
    have hs := scan1_frame (hg r (by simp)) p (frames l ++ u)
    rw [← e1] at hs
    rw [scanF_some hs]
    rw [e2, e3] at hu
    rw [e2]
    have ih := scanF_frames l (fun x hx => hg x (by simp [hx])) (p ++ frame r) u f (by simpa using hf) hu
    rw [List.length_append] at ih
    rw [ih]
    rfl
theorem frames_len (l : List R) (h : ∀ r ∈ l, GoodR r) : l.length ≤ (frames l).length := by
  induction l with
  | nil => simp
  | cons r l ih =>
    have := good_len (h r (by simp))
    have := ih (fun x hx => h x (by simp [hx]))
    simp [frames] at *
    omega
/-- a log and what stands behind it -/
theorem scan_frames {l : List R} (h : ∀ r ∈ l, GoodR r) (u : List UInt8) (hu : scan1 (frames l ++ u) (frames l).length = none) : scan (frames l ++ u) = (l, ends 0 l) := by
  have := scanF_frames l h [] u ((frames l ++ u).length + 1) (by have := frames_len l h; rw [List.length_append]; omega) (by simpa using hu)
  simpa [scan] using this
theorem ends_len : ∀ (a : Nat) (l : List R), (ends a l).length = l.length
  | _, [] => rfl
  | a, r :: l => by simp [ends, ends_len _ l]
theorem frames_le {l : List R} (h : ∀ r ∈ l, GoodR r) (hl : l.length ≤ 24) : (frames l).length ≤ 3000000 := by
  have := flat_le frame 100008 l (fun r hr => by rw [good_len (h r hr)]; have := raw_le (h r hr).right; omega)
  unfold frames
  have : 100008 * l.length ≤ 100008 * 24 := Nat.mul_le_mul_left _ hl
  omega
end Go.VB.Rec

/- from XLog.lean.tpl -/
namespace Go.Proofs.YtfhkmiifndhacaaDoor
open Go.RowKit Go.VB Go.VB.Oct Go.VB.Rec
/-- slices of integers as elements -/
abbrev Arg := Value × List Int
def acells (p : Arg) : List Value := [p.1]
structure LgS (w0 W : World) (vl : Value) (qs : List Q) : Prop where
  l : Row 28 8 w0.heap.size W vl qs.length (qs.flatMap Q.cells)
  q : ∀ q ∈ qs, q.RV (fun k => w0.heap.size ≤ k ∧ k < W.heap.size ∧ ¬ vl.ownBlock = some k) W
  g : ∀ q ∈ qs, GoodR q.r
  fr : Fr (fun _ => False) w0 W
namespace LgS
variable {w0 W W' wg : World} {vl v' : Value} {qs : List Q}
theorem fre (h : LgS w0 W vl qs) (f : Fr (fun _ => False) W W') : LgS w0 W' vl qs :=
  ⟨h.l.fre f, fun q hq => ((h.q q hq).fre f).mono (fun k hk => ⟨hk.1, Nat.lt_of_lt_of_le hk.2.1 f.size, hk.2.2⟩) (fun k hk => hk.2.1), h.g, h.fr.trans f (fun _ h _ => h)⟩
theorem grow (h : LgS w0 W vl qs) {x : Q} (hx : x.RV (fun k => w0.heap.size ≤ k ∧ k < W.heap.size ∧ ¬ vl.ownBlock = some k) W) (hgx : GoodR x.r) (hg : App 28 8 w0.heap.size W wg vl v' qs.length (qs.flatMap Q.cells) x.cells) : LgS w0 wg v' (qs ++ [x]) ∧ x.RV (fun k => w0.heap.size ≤ k ∧ k < wg.heap.size ∧ ¬ v'.ownBlock = some k) wg := by
  have hq : ∀ q : Q, q.RV (fun k => w0.heap.size ≤ k ∧ k < W.heap.size ∧ ¬ vl.ownBlock = some k) W → q.RV (fun k => w0.heap.size ≤ k ∧ k < wg.heap.size ∧ ¬ v'.ownBlock = some k) wg := fun q hq => (hq.fr hg.fr (fun k hk e => hk.2.2 e)).mono (fun k hk => ⟨hk.1, Nat.lt_of_lt_of_le hk.2.1 hg.fr.size, fun e => (hg.at_ k e).elim hk.2.2 (fun e => by have := hk.2.1; omega)⟩) (fun k hk => hk.2.1)
  exact ⟨⟨hg.row.cast (by simp) (by simp), fun q hm => (List.mem_append.1 hm).elim (fun hm => hq q (h.q q hm)) (fun hm => by obtain rfl := List.mem_singleton.1 hm; exact hq _ hx),
    fun q hm => (List.mem_append.1 hm).elim (h.g q) (fun hm => by obtain rfl := List.mem_singleton.1 hm; exact hgx), h.fr.trans hg.fr (fun k hk hl => by have := h.l.new k hk; omega)⟩, hq _ hx⟩
end LgS
theorem good_of {r : R} (h : r.right = true) (ho : Fine r.old) (hn : Fine r.new) : GoodR r := by
  refine ⟨h, ?_⟩
  rw [readR_raw h (fun v hv => (ho v hv).2.2) (fun v hv => (hn v hv).2.2)]
  have hp : ∀ l : List V, Fine l → l.map V.plain = l := fun l hl => by
    conv => rhs; rw [← List.map_id l]
    exact List.map_congr_left fun v hv => (hl v hv).2.1
  unfold R.plain
  rw [hp _ ho, hp _ hn]
theorem Made_is {P : Nat → Prop} {w : World} {va : Value} {L : List Int} (h : Sl P w va L.length (L.flatMap icell)) (hl : L.length ≤ 9223372036854775807) :
    Calls Tryd.prog 5 #[va] w fun e w' => ∃ (r : R) (a1 a2 a3 a4 : Option Addr) (c1 c2 c3 c4 : Nat), e = .returned (.agg #[.int .i64 r.kind, .int .i64 r.xid, .int .i64 r.table, .slice a1 r.old.length c1, .slice a2 r.new.length c2, .slice a3 r.edits.length c3, .slice a4 r.xids.length c4, .string (bs r.note)]) ∧
      Q.RV (fun k => w.heap.size ≤ k ∧ k < w'.heap.size) w' ⟨r, .slice a1 r.old.length c1, .slice a2 r.new.length c2, .slice a3 r.edits.length c3, .slice a4 r.xids.length c4⟩ ∧ GoodR r ∧ Fr (fun _ => False) w w' := by
  refine (Made_go h hl).mono ?_
  rintro e w' ⟨⟨r, vo, vn, ve, vx⟩, rfl, hv, h1, h2, h3, f⟩
  obtain ⟨a1, c1, a2, c2, a3, c3, a4, c4, h5, h6, h7, h8⟩ := hv.slices
  dsimp only at h5 h6 h7 h8
  subst h5 h6 h7 h8
  exact ⟨r, a1, a2, a3, a4, c1, c2, c3, c4, rfl, hv, good_of h1 h2 h3, f⟩
end Go.Proofs.YtfhkmiifndhacaaDoor

/- from XRfB.lean.tpl -/
namespace Go.VB.Oct
theorem ofNat_mod (n : Nat) : UInt8.ofNat (n % 256) = UInt8.ofNat n := by
  apply UInt8.toNat_inj.1
  simp
end Go.VB.Oct
namespace Go.Proofs.YtfhkmiifndhacaaDoor
open Go.RowKit Go.VB Go.VB.Oct Go.VB.Rec
theorem and_8 (n : Int) : bits .and .i64 n 255 = n % 256 := by
  rw [and_mask 8 255 n (by decide) (by omega)]
  rfl
theorem sums_take (l : List UInt8) {j : Nat} (h : j < l.length) : sums (l.take (j + 1)) = (((sums (l.take j)).1 + l[j].toNat) % 65521, ((sums (l.take j)).2 + ((sums (l.take j)).1 + l[j].toNat) % 65521) % 65521) := by
  rw [List.take_succ_eq_append_getElem h, sums_snoc]
theorem word_byte (n : Int) {j : Nat} (hj : j < 8) : ∃ z : Nat, (n / 256 ^ j) % 256 = (z : Int) ∧ z < 256 ∧ UInt8.ofNat (word n / 256 ^ j) = UInt8.ofNat z := by
  refine ⟨((n / 256 ^ j) % 256).toNat, by rw [Int.toNat_of_nonneg]; omega, by omega, ?_⟩
  apply UInt8.toNat_inj.1
  have h : (word n / 256 ^ j) % 256 = ((n / 256 ^ j) % 256).toNat := by
    unfold word
    have hj8 : j = 0 ∨ j = 1 ∨ j = 2 ∨ j = 3 ∨ j = 4 ∨ j = 5 ∨ j = 6 ∨ j = 7 := by omega
    rcases hj8 with rfl | rfl | rfl | rfl | rfl | rfl | rfl | rfl <;> omega
  simp [h]
  omega
/-- the sum of two strings under a name -/
theorem add_is (l m : List UInt8) (h : l.length + m.length ≤ 9223372036854775807) : ∃ k, Hid (k = l ++ m) ∧ k.length = l.length + m.length ∧ ∀ w, (Op.stringOp .add (bs l) (bs m)).run Tryd.prog w = .ok (.string (bs k)) w :=
  ⟨l ++ m, hid rfl, List.length_append, fun w => run_add_bs w l m h⟩
theorem row_right {r : List V} (h : row r = true) {j : Nat} (hj : j < r.length) : r[j].right = true := by
  unfold row at h
  simp only [Bool.and_eq_true, List.all_eq_true] at h
  exact h.2 _ (List.getElem_mem hj)
end Go.Proofs.YtfhkmiifndhacaaDoor
namespace Go.Proofs.YtfhkmiifndhacaaDoor
open Go.RowKit Go.VB Go.VB.Oct Go.VB.Rec
theorem byte_le2 (c : UInt8) : (decide ([c] = [0]) || decide ([c] = [1]) || decide ([c] = [2])) = decide (c.toNat ≤ 2) := by
  have : ∀ k : UInt8, ([c] = [k]) ↔ c.toNat = k.toNat := fun k => by rw [List.cons.injEq, ← UInt8.toNat_inj]; simp
  simp only [this]
  by_cases h0 : c.toNat = 0
  · simp [h0]
  · by_cases h1 : c.toNat = 1
    · simp [h1]
    · by_cases h2 : c.toNat = 2
      · simp [h2]
      · have h3 : ¬ c.toNat ≤ 2 := by omega
        have e0 : (0 : UInt8).toNat = 0 := rfl
        have e1 : (1 : UInt8).toNat = 1 := rfl
        have e2 : (2 : UInt8).toNat = 2 := rfl
        simp [e0, e1, e2, h0, h1, h2, h3]
end Go.Proofs.YtfhkmiifndhacaaDoor
namespace Go.Proofs.YtfhkmiifndhacaaDoor
open Go.RowKit Go.VB Go.VB.Oct Go.VB.Rec
theorem Six.six {w : World} {d : Nat} {a b c e f g x y : Value} (h : Blk w d [a, b, c, e, f, g, x, y] 28) : Six w d a b c e f g := ⟨h.cell 0, h.cell 1, h.cell 2, h.cell 3, h.cell 4, h.cell 5⟩
theorem add_is_run {k l m : List UInt8} (h : k = l ++ m) (hl : l.length + m.length ≤ 9223372036854775807) (w : World) : (Op.stringOp .add (bs l) (bs m)).run Tryd.prog w = .ok (.string (bs k)) w := by
  subst h
  exact run_add_bs w l m hl
/-- an edit's cells and the slice that holds it -/
structure EdS (w : World) (g o d : Nat) (p s : Int) (item : List UInt8) (v : Value) : Prop where
  c0 : w.cell? ⟨g, o, none⟩ = some (.int .i64 p)
  c1 : w.cell? ⟨g, o + 1, none⟩ = some (.int .i64 s)
  c2 : w.cell? ⟨g, o + 2, none⟩ = some (.string (bs item))
  v : w.cell? ⟨d, 5, none⟩ = some v
theorem EdS.fre {w w' : World} {g o d : Nat} {p s : Int} {item : List UInt8} {v : Value} (h : EdS w g o d p s item v) (k : Fr (fun _ => False) w w') : EdS w' g o d p s item v :=
  ⟨cell_fr h.c0 k (fun h => h), cell_fr h.c1 k (fun h => h), cell_fr h.c2 k (fun h => h), cell_fr h.v k (fun h => h)⟩
end Go.Proofs.YtfhkmiifndhacaaDoor

/- from XFew.lean.tpl -/
namespace Go.VB.Rec
def V.cut (v : V) : V := ⟨v.k, v.n, v.s.take 60⟩
def E.cut (e : E) : E := ⟨e.page, e.slot, e.item.take 405⟩
def cutRow (l : List V) : List V := (l.take 8).map V.cut
def R.few (r : R) : R := ⟨r.kind, r.xid, r.table, cutRow r.old, cutRow r.new, (r.edits.take 70).map E.cut, r.xids.take 40, r.note.take 500⟩
end Go.VB.Rec
namespace Go.Proofs.YtfhkmiifndhacaaDoor
open Go.RowKit Go.VB Go.VB.Oct Go.VB.Rec
theorem cut_str (t : List UInt8) (c : Nat) : ∃ q : Nat, (∀ z : Int, z = c → min (t.length : Int) z = (q : Int) ∧ (if z < (t.length : Int) then z else (t.length : Int)) = (q : Int)) ∧ (bs t).extract 0 q = bs (t.take c) ∧ (q : Int) ≤ t.length := by
  refine ⟨min c t.length, fun z hz => by subst hz; exact ⟨by omega, by split <;> omega⟩, ?_, by omega⟩
  apply ByteArray.ext
  simp [bs]
theorem map_snoc {α β : Type} (f : α → β) (l : List α) {j : Nat} (h : j < l.length) : (l.take (j + 1)).map f = (l.take j).map f ++ [f l[j]] := by rw [List.take_succ_eq_append_getElem h, List.map_append]; rfl
theorem take_min {α : Type} (l : List α) (n : Nat) : l.take (min n l.length) = l.take n := by
  by_cases h : n ≤ l.length
  · rw [Nat.min_eq_left h]
  · rw [Nat.min_eq_right (by omega), List.take_length, List.take_of_length_le (by omega)]
/-- a record that came as an argument -/
structure AV (P : Nat → Prop) (w : World) (r : R) (vo vn ve vx : Value) : Prop where
  o : Sl P w vo r.old.length (r.old.flatMap V.cells)
  n : Sl P w vn r.new.length (r.new.flatMap V.cells)
  e : Sl P w ve r.edits.length (r.edits.flatMap E.cells)
  x : Sl P w vx r.xids.length (r.xids.flatMap icell)
  lo : r.old.length ≤ 9223372036854775807
  ln : r.new.length ≤ 9223372036854775807
  le : r.edits.length ≤ 9223372036854775807
  lx : r.xids.length ≤ 9223372036854775807
theorem Sl.src {P : Program} {R : Nat → Prop} {w : World} {v : Value} {n size : Nat} {xs : List Value} (h : Sl R w v n xs) (hl : xs.length = n * size) (hs : 0 < size) (h1 : ∀ u ∈ xs, u.oneCell' = true) : Src P w size v n xs := by
  obtain ⟨a, c, rfl, hc, hx⟩ := h
  by_cases hn : xs = []
  · subst hn
    have hn0 : n = 0 := by
      have : n * size = 0 := hl.symm
      rcases Nat.mul_eq_zero.1 this with h | h <;> omega
    subst hn0
    cases a with
    | none => exact Src.nil size c
    | some a => exact ⟨by simp, by simp, fun w1 _ => ⟨by simp [Builtin.lenOf], by simpa using run_firstCells_some (P := P) w1 size 0 a 0 c [] (by simp) (fun j v hj => by simp at hj)⟩⟩
  · obtain ⟨g, o, rfl, -, hr⟩ := hx hn
    exact Src.slice hl h1 hr
theorem Sl.take {R : Nat → Prop} {w : World} {a : Option Addr} {n c k size : Nat} {xs : List Value} (h : Sl R w (.slice a n c) n xs) (hk : k ≤ n) (hl : xs.length = n * size) : Sl R w (.slice a k c) k (xs.take (k * size)) := by
  obtain ⟨a', c', he, hc, hx⟩ := h
  cases he
  refine ⟨a, c, rfl, by omega, fun hne => ?_⟩
  obtain ⟨g, o, h1, h2, h3⟩ := hx (fun e => by subst e; simp at hne)
  refine ⟨g, o, h1, h2, fun j u hj => h3 j u ?_⟩
  have := (List.getElem?_eq_some_iff.1 hj).1
  rw [List.length_take] at this
  rwa [List.getElem?_take_of_lt (by omega)] at hj
theorem icells_take : ∀ (l : List Int) (k : Nat), (l.flatMap icell).take k = (l.take k).flatMap icell
  | [], k => by simp
  | x :: l, 0 => by simp
  | x :: l, k + 1 => by
    rw [List.take_succ_cons, List.flatMap_cons, List.flatMap_cons, ← icells_take l k]
    rfl
theorem icells_one (l : List Int) : ∀ u ∈ l.flatMap icell, u.oneCell' = true := by
  intro u hu
  obtain ⟨x, -, hx⟩ := List.mem_flatMap.1 hu
  simp only [icell, List.mem_singleton] at hx
  subst hx
  rfl
/-- a bounded copy: four slices of the call's own -/
structure FewS (w0 W : World) (q : Q) (r : R) : Prop where
  is : q.r = r
  o : Row 50 3 w0.heap.size W q.o r.old.length (r.old.flatMap V.cells)
  n : Row 50 3 w0.heap.size W q.n r.new.length (r.new.flatMap V.cells)
  e : Row 48 3 w0.heap.size W q.e r.edits.length (r.edits.flatMap E.cells)
  x : Row 3 1 w0.heap.size W q.x r.xids.length (r.xids.flatMap icell)
  on : ∀ b, q.o.ownBlock = some b → ¬ q.n.ownBlock = some b
  fr : Fr (fun _ => False) w0 W
/-- the argument, the result to be, the copy under way -/
structure FwB (w0 W : World) (r : R) (vo vn ve vx : Value) (k : R) (uo un ue ux : Value) : Prop where
  arg : Blk W w0.heap.size (rv r vo vn ve vx) 28
  res : Blk W (w0.heap.size + 1) (rv R.zero nilM nilM nilM nilM) 28
  out : Blk W (w0.heap.size + 1 + 1) (rv k uo un ue ux) 28
  fr : Fr (fun _ => False) w0 W
namespace FwB
variable {w0 W W' : World} {r k k' : R} {vo vn ve vx uo un ue ux uo' un' ue' ux' : Value}
theorem fre (h : FwB w0 W r vo vn ve vx k uo un ue ux) (f : Fr (fun _ => False) W W') : FwB w0 W' r vo vn ve vx k uo un ue ux :=
  ⟨Blk.fr h.arg f (fun h => h), Blk.fr h.res f (fun h => h), Blk.fr h.out f (fun h => h), h.fr.trans f (fun _ h _ => h)⟩
theorem step (w0 W : World) (i : Nat) (u : Value) : Fr (fun b => b = w0.heap.size + 1 + 1) W (W.setCell ⟨w0.heap.size + 1 + 1, i, none⟩ u) := (Fr.refl (fun b => b = w0.heap.size + 1 + 1) W).setCell ⟨w0.heap.size + 1 + 1, i, none⟩ u (fun _ => rfl)
theorem put (h : FwB w0 W r vo vn ve vx k uo un ue ux) (i : Nat) (u : Value) (hs : (rv k uo un ue ux).set i u = rv k' uo' un' ue' ux') : FwB w0 (W.setCell ⟨w0.heap.size + 1 + 1, i, none⟩ u) r vo vn ve vx k' uo' un' ue' ux' := by
  have f := step w0 W i u
  have hq := h.out.set i u
  rw [hs] at hq
  exact ⟨h.arg.fr f (fun e => by omega), h.res.fr f (fun e => by omega), hq, h.fr.trans f (fun k hk hl => by omega)⟩
theorem size (h : FwB w0 W r vo vn ve vx k uo un ue ux) : w0.heap.size + 3 ≤ W.heap.size := by have := h.out.lt; omega
theorem start (w0 : World) (r : R) (vo vn ve vx : Value) : FwB w0 (((w0.alloc (.cells (rv r vo vn ve vx).toArray 28)).alloc (.cells (rv R.zero nilM nilM nilM nilM).toArray 28)).alloc (.cells (rv r vo vn ve vx).toArray 28)) r vo vn ve vx r vo vn ve vx := by
  have b0 := Blk.new w0 (rv r vo vn ve vx) 28
  have b1 := Blk.new (w0.alloc (.cells (rv r vo vn ve vx).toArray 28)) (rv R.zero nilM nilM nilM nilM) 28
  have b2 := Blk.new ((w0.alloc (.cells (rv r vo vn ve vx).toArray 28)).alloc (.cells (rv R.zero nilM nilM nilM nilM).toArray 28)) (rv r vo vn ve vx) 28
  simp only [World.size_alloc] at b1 b2
  exact ⟨(b0.alloc _).alloc _, b1.alloc _, b2, (((Fr.refl (fun _ => False) w0).alloc _).alloc _).alloc _⟩
end FwB
structure FwS (w0 W : World) (r : R) (vo vn ve vx : Value) (k : R) (uo un ue ux : Value) : Prop extends FwB w0 W r vo vn ve vx k uo un ue ux where
  o : Row 50 3 (w0.heap.size + 3) W uo k.old.length (k.old.flatMap V.cells)
  n : Row 50 3 (w0.heap.size + 3) W un k.new.length (k.new.flatMap V.cells)
  e : Row 48 3 (w0.heap.size + 3) W ue k.edits.length (k.edits.flatMap E.cells)
  on : ∀ b, uo.ownBlock = some b → ¬ un.ownBlock = some b
namespace FwS
variable {w0 W W' wg : World} {r k : R} {vo vn ve vx uo un ue ux v' : Value}
theorem fre (h : FwS w0 W r vo vn ve vx k uo un ue ux) (f : Fr (fun _ => False) W W') : FwS w0 W' r vo vn ve vx k uo un ue ux :=
  ⟨h.toFwB.fre f, h.o.fre f, h.n.fre f, h.e.fre f, h.on⟩
theorem atE (h : FwS w0 W r vo vn ve vx k uo un ue ux) {n : Nat} {xs news : List Value} (hg : App 48 3 (w0.heap.size + 3) W wg ue v' n xs news) : Blk wg (w0.heap.size + 1 + 1) (rv k uo un ue ux) 28 := h.out.fr hg.fr (fun hk => h.e.ne h.out (by decide) _ hk rfl)
theorem growE (h : FwS w0 W r vo vn ve vx k uo un ue ux) {x : E} (hg : App 48 3 (w0.heap.size + 3) W wg ue v' k.edits.length (k.edits.flatMap E.cells) x.cells) :
    FwS w0 (wg.setCell ⟨w0.heap.size + 1 + 1, 5, none⟩ v') r vo vn ve vx { k with edits := k.edits ++ [x] } uo un v' ux := by
  have hne : ∀ {d l t}, Blk W d l t → t ≠ 48 → ¬ (ue.ownBlock = some d) := fun b ht hk => h.e.ne b ht _ hk rfl
  have hb : FwB w0 wg r vo vn ve vx k uo un ue ux := ⟨h.arg.fr hg.fr (hne h.arg (by decide)), h.res.fr hg.fr (hne h.res (by decide)), h.out.fr hg.fr (hne h.out (by decide)), h.fr.trans hg.fr (fun b hk hl => by have := h.e.new b hk; omega)⟩
  have fs := FwB.step w0 wg 5 v'
  have o' := h.o.fr hg.fr (fun b hk => row_apart h.o h.e (by decide) b hk)
  have n' := h.n.fr hg.fr (fun b hk => row_apart h.n h.e (by decide) b hk)
  have e' : Row 48 3 (w0.heap.size + 3) wg v' (k.edits ++ [x]).length ((k.edits ++ [x]).flatMap E.cells) := hg.row.cast (by simp) (by simp)
  exact ⟨hb.put 5 v' rfl, o'.fr fs (fun b hk => o'.ne hb.out (by decide) b hk), n'.fr fs (fun b hk => n'.ne hb.out (by decide) b hk), e'.fr fs (fun b hk => e'.ne hb.out (by decide) b hk), h.on⟩
theorem put (h : FwS w0 W r vo vn ve vx k uo un ue ux) (i : Nat) (u : Value) (k' : R) (ux' : Value) (hs : (rv k uo un ue ux).set i u = rv k' uo un ue ux') (ho : k'.old = k.old) (hn : k'.new = k.new) (he : k'.edits = k.edits) :
    FwS w0 (W.setCell ⟨w0.heap.size + 1 + 1, i, none⟩ u) r vo vn ve vx k' uo un ue ux' := by
  have f := FwB.step w0 W i u
  exact ⟨h.toFwB.put i u hs, by rw [ho]; exact h.o.fr f (fun b hk => h.o.ne h.out (by decide) b hk), by rw [hn]; exact h.n.fr f (fun b hk => h.n.ne h.out (by decide) b hk), by rw [he]; exact h.e.fr f (fun b hk => h.e.ne h.out (by decide) b hk), h.on⟩
/-- the record's other fields set at the end -/
theorem fin (h : FwS w0 W r vo vn ve vx k uo un ue ux) (x : Row 3 1 (w0.heap.size + 3) W ux k.xids.length (k.xids.flatMap icell)) :
    Blk (W.setCells (w0.heap.size + 1) 0 (rv k uo un ue ux)) (w0.heap.size + 1) (rv k uo un ue ux) 28 ∧ FewS w0 (W.setCells (w0.heap.size + 1) 0 (rv k uo un ue ux)) ⟨k, uo, un, ue, ux⟩ k := by
  have f := (Fr.refl (fun b => b = w0.heap.size + 1) W).put (w0.heap.size + 1) 0 (rv k uo un ue ux) (fun _ => rfl)
  have b := h.res.put 0 (rv k uo un ue ux) (by simp [rv])
  exact ⟨b, rfl, (h.o.fr f (fun b hk e => by have := h.o.new b hk; omega)).low (by omega), (h.n.fr f (fun b hk e => by have := h.n.new b hk; omega)).low (by omega), (h.e.fr f (fun b hk e => by have := h.e.new b hk; omega)).low (by omega), (x.fr f (fun b hk e => by have := x.new b hk; omega)).low (by omega), h.on, h.fr.trans f (fun b hk hl => by omega)⟩
end FwS
theorem few_lens (r : R) : (R.few r).old.length ≤ 8 ∧ (R.few r).new.length ≤ 8 ∧ (R.few r).edits.length ≤ 70 ∧ (R.few r).xids.length ≤ 40 ∧ (R.few r).note.length ≤ 500 := by
  unfold R.few cutRow
  dsimp only
  simp only [List.length_map, List.length_take]
  omega
theorem FewS.rv {w0 W : World} {q : Q} {r : R} (h : FewS w0 W q (R.few r)) : q.RV (fun k => w0.heap.size ≤ k ∧ k < W.heap.size) W := by
  obtain ⟨h1, h2, h3, h4, -⟩ := few_lens r
  have e := h.is
  refine ⟨?_, ?_, ?_, ?_, ?_, ?_, ?_, ?_, fun k hk => hk.2⟩
  · rw [e]; exact own_sl h.o.own (fun k hk => ⟨h.o.new k hk, h.o.lt hk⟩)
  · rw [e]; exact own_sl h.n.own (fun k hk => ⟨h.n.new k hk, h.n.lt hk⟩)
  · rw [e]; exact own_sl h.e.own (fun k hk => ⟨h.e.new k hk, h.e.lt hk⟩)
  · rw [e]; exact own_sl h.x.own (fun k hk => ⟨h.x.new k hk, h.x.lt hk⟩)
  all_goals (rw [e]; omega)
theorem RV.av {P : Nat → Prop} {w : World} {r : R} {vo vn ve vx : Value} (h : RV P w r vo vn ve vx) : AV P w r vo vn ve vx :=
  ⟨h.o, h.n, h.e, h.x, by have := h.lo; omega, by have := h.ln; omega, by have := h.le; omega, by have := h.lx; omega⟩
end Go.Proofs.YtfhkmiifndhacaaDoor

/- from XPla.lean.tpl -/
namespace Go.Proofs.YtfhkmiifndhacaaDoor
open Go.RowKit Go.VB Go.VB.Oct Go.VB.Rec
end Go.Proofs.YtfhkmiifndhacaaDoor

/- from XRdC.lean.tpl -/
namespace Go.Proofs.YtfhkmiifndhacaaDoor
open Go.RowKit Go.VB Go.VB.Oct Go.VB.Rec
set_option maxRecDepth 20000 in
theorem rfSame_go {R R' : Nat → Prop} {w : World} {va vb : Value} {l m : List V} (h : Sl R w va l.length (l.flatMap V.cells)) (k : Sl R' w vb m.length (m.flatMap V.cells)) (hn : l.length ≤ 1099511627776) (hm : m.length ≤ 1099511627776) :
    Calls Tryd.prog 11 #[va, vb] w fun e w' => e = .returned (.bool (decide (l = m))) ∧ Fr (fun _ => False) w w' := by
  obtain ⟨a, c, rfl, hc, hx⟩ := h
  obtain ⟨b, d, rfl, hd, hy⟩ := k
  have HX := hid (show Sl R w (.slice a l.length c) l.length (l.flatMap V.cells) from ⟨a, c, rfl, hc, hx⟩)
  have HY := hid (show Sl R' w (.slice b m.length d) m.length (m.flatMap V.cells) from ⟨b, d, rfl, hd, hy⟩)
  have F0 := hid (Fr.refl (fun _ => False) w)
  clear hx hy
  by_cases hlm : l.length = m.length
  · go_enter Tryd.func11, Tryd.ntmps11
    have HLM := hid hlm
    have hbn : ((l.length : Int) != (m.length : Int)) = false := by simp [hlm]
    clear hlm
    go_wp2_with (fail)
    go_loopw [5] (fun i wr => ∃ j : Nat, j ≤ l.length ∧ i = .int .i64 j ∧ l.take j = m.take j ∧ Fr (fun _ => False) w wr) (fun i _ => l.length - (intOf i).toNat)
    case atStart => exact ⟨0, by omega, rfl, rfl, F0.out⟩
    case round =>
      obtain ⟨j, hj, rfl, hall, fr⟩ := hrel
      have FR := hid fr
      have HA := hid hall
      clear fr hall
      by_cases hjl : j < l.length
      · have hjm : j < m.length := by have := HLM.out; omega
        obtain ⟨g, o, rfl, hg, q0, q1, q2⟩ := sl_three (f := V.cells) vcells_len (HX.out.fr FR.out (fun _ _ h => h)) hjl
        obtain ⟨g', o', rfl, hg', r0, r1, r2⟩ := sl_three (f := V.cells) vcells_len (HY.out.fr FR.out (fun _ _ h => h)) hjm
        have i1 : (0 : Int) ≤ (j : Int) := by omega
        have i2 : (j : Int) < l.length := by omega
        have i3 : (j : Int) < m.length := by omega
        simp only [V.cells, List.getElem?_cons_zero, List.getElem?_cons_succ] at q0 q1 q2 r0 r1 r2
        obtain ⟨x, hx⟩ : ∃ x, x = l[j] := ⟨_, rfl⟩
        obtain ⟨y, hy⟩ : ∃ y, y = m[j] := ⟨_, rfl⟩
        rw [← hx] at q0 q1 q2
        rw [← hy] at r0 r1 r2
        have HXX := hid hx
        have HYY := hid hy
        clear hx hy
        have RX := hid (range3 q0 q1 q2)
        have RY := hid (range3 r0 r1 r2)
        clear q0 q1 q2 r0 r1 r2
        go_wp2_with (fail)
        refine wp_region_scr (.take 0 (.take 1 (.take 2 (.take 3 (.take 4 (.take 5 (.take 6 (.take 7 (.take 8 .done))))))))) (fun kz w => (kz ≤ 9 → w.rangeAt g (o + j * 3) (V.cells x) ∧ w.rangeAt g' (o' + j * 3) (V.cells y)) ∧ True) (by kernel_rfl) (by kernel_rfl) (by intro c a d v w h; cases d <;> exact h) ?_
        repeat
          first
          | (refine wpT_pure rfl rfl rfl ?_; apply Exists.intro; refine ⟨?_, ?_⟩; intro w; (first | (first | exact run_load_mid _ _ rfl g _ rfl _ _ qa.1 Tryd.underlying50 rfl size_Value | exact run_load_mid _ _ rfl g' _ rfl _ _ qa.2 Tryd.underlying50 rfl size_Value | exact step_neq_Value _ _ rfl rfl rfl) | (go_simp <;> rfl)); simp only [Act.put, List.setIfInBounds_toArray, List.set_cons_zero, List.set_cons_succ])
          | (refine wpT_take 9 rfl rfl (by decide +kernel) ⟨fun _ => ⟨RX.out, RY.out⟩, trivial⟩ ?_; apply Exists.intro; refine ⟨?_, ?_⟩; intro w hw; (have qa := hw.1 (Nat.le_refl _); have qb := hw.2); (first | (first | exact run_load_mid _ _ rfl g _ rfl _ _ qa.1 Tryd.underlying50 rfl size_Value | exact run_load_mid _ _ rfl g' _ rfl _ _ qa.2 Tryd.underlying50 rfl size_Value | exact step_neq_Value _ _ rfl rfl rfl) | (go_simp <;> rfl)); simp only [Act.put, List.setIfInBounds_toArray, List.set_cons_zero, List.set_cons_succ])
          | (refine wpT_skip rfl rfl ?_; simp only [Act.put, List.setIfInBounds_toArray, List.set_cons_zero, List.set_cons_succ])
        refine wpT_nil ?_
        by_cases hxy : x = y
        · have HE := hid (show l[j] = m[j] by rw [← HXX.out, ← HYY.out, hxy])
          subst hxy
          go_wp2_with (fail)
          go_roundw
          case rel => exact ⟨j + 1, by omega, by go_num, take_eq_step hjl hjm HA.out HE.out, FR.out.drew⟩
          case measure => simp [intOf]; omega
        · rw [show (!decide (x = y)) = true by simp [hxy]]
          have hne : decide (l = m) = false := by
            refine decide_eq_false fun e => hxy ?_
            rw [HXX.out, HYY.out]
            subst e
            rfl
          go_wp2_with (fail)
          go_ret
          exact ⟨by rw [hne]; rfl, FR.out.drew⟩
      · obtain rfl : j = l.length := by omega
        have he : decide (l = m) = true := by
          have h1 := HA.out
          rw [List.take_length, HLM.out, List.take_length] at h1
          exact decide_eq_true h1
        go_wp2_with (fail)
        go_ret
        exact ⟨by rw [he]; rfl, FR.out⟩
  · have hne : decide (l = m) = false := decide_eq_false fun e => hlm (by rw [e])
    have hbn : ((l.length : Int) != (m.length : Int)) = true := by simpa using fun h => hlm (by omega)
    go_enter Tryd.func11, Tryd.ntmps11
    go_wp2_with (fail)
    go_ret
    exact ⟨by rw [hne]; rfl, F0.out⟩
theorem bne_dec (a b : Int) : (a != b) = !decide (a = b) := by by_cases h : a = b <;> simp [h]
theorem take_all {α : Type} {l m : List α} (h : l.length = m.length) (ht : l.take l.length = m.take l.length) : l = m := by
  rw [List.take_length, h, List.take_length] at ht
  exact ht
end Go.Proofs.YtfhkmiifndhacaaDoor

namespace Go.VB.Rec
open Go.VB.Oct Go.Proofs.YtfhkmiifndhacaaDoor
theorem be8_int8 {l : List UInt8} (h : l.length = 8) : be8 (word (int8 l)) = l := by
  have e : be8 (word (int8 l)) = be 8 (word (int8 l)) := by simp [be]
  have hl := num_lt l
  rw [h] at hl
  have : word (int8 l) = num l := by
    unfold word int8
    rw [IntKind.wrap_i64]
    omega
  rw [e, this, be_num h (by omega)]
theorem readOne_back {s t : List UInt8} {v : V} (h : readOne s = .ok (v, t)) : s = v.bytes ++ t ∧ v.right = true ∧ v.plain = v := by
  unfold readOne at h
  cases s with
  | nil => cases h
  | cons k s =>
    dsimp only at h
    split at h
    · rename_i hk
      cases h
      subst hk
      exact ⟨rfl, rfl, rfl⟩
    · split at h
      · rename_i hk
        subst hk
        split at h
        · cases h
        · rename_i hl
          cases h
          refine ⟨?_, rfl, rfl⟩
          have e : V.bytes ⟨1, int8 (s.take 8), []⟩ = 1 :: be8 (word (int8 (s.take 8))) := rfl
          rw [e, be8_int8 (by rw [List.length_take]; omega), List.cons_append, List.take_append_drop]
      · split at h
        · rename_i hk
          subst hk
          cases s with
          | nil => cases h
          | cons m s =>
            dsimp only at h
            split at h
            · cases h
            · rename_i h40
              split at h
              · cases h
              · rename_i hl
                cases h
                have hlen : (s.take m.toNat).length = m.toNat := by rw [List.length_take]; omega
                have e : V.bytes ⟨2, 0, s.take m.toNat⟩ = 2 :: UInt8.ofNat (s.take m.toNat).length :: s.take m.toNat := rfl
                refine ⟨?_, ?_, rfl⟩
                · rw [e, hlen, UInt8.ofNat_toNat, List.cons_append, List.cons_append, List.take_append_drop]
                · unfold V.right
                  dsimp only
                  rw [hlen]
                  simp
                  omega
        · cases h
theorem readN_back : ∀ (n : Nat) (s t : List UInt8) (l : List V), readN n s = .ok (l, t) → s = l.flatMap V.bytes ++ t ∧ l.length = n ∧ ∀ v ∈ l, v.right = true ∧ v.plain = v
  | 0, s, t, l, h => by
    cases h
    exact ⟨rfl, rfl, by simp⟩
  | n + 1, s, t, l, h => by
    unfold readN at h
    split at h
    · cases h
    · rename_i v u h1
      split at h
      · cases h
      · rename_i l' u' h2
        cases h
        obtain ⟨e1, e2, e3⟩ := readOne_back h1
        obtain ⟨e4, e5, e6⟩ := readN_back n _ _ _ h2
        refine ⟨by rw [e1, e4, List.flatMap_cons, List.append_assoc], by rw [List.length_cons, e5], ?_⟩
        intro x hx
        rcases List.mem_cons.1 hx with rfl | hx
        · exact ⟨e2, e3⟩
        · exact e6 x hx
theorem readV_back {s : List UInt8} {l : List V} (h : readV s = (l, 0)) : rowBytes l = s ∧ row l = true ∧ ∀ v ∈ l, v.plain = v := by
  unfold readV at h
  cases s with
  | nil => cases h
  | cons n s =>
    dsimp only at h
    split at h
    · cases h
    · rename_i h6
      split at h
      · rename_i e he
        have : e = 0 := by simpa using congrArg Prod.snd h
        subst this
        exfalso
        -- an error is never 0
        have hno : ∀ (n : Nat) (s : List UInt8), readN n s ≠ .error 0 := by
          intro n
          induction n with
          | zero => intro s h; cases h
          | succ n ih =>
            intro s h
            unfold readN at h
            split at h
            · rename_i e h1
              have : e = 0 := by simpa using h
              subst this
              unfold readOne at h1
              cases s with
              | nil => cases h1
              | cons k s =>
                dsimp only at h1
                split at h1
                · cases h1
                · split at h1
                  · split at h1 <;> cases h1
                  · split at h1
                    · cases s with
                      | nil => cases h1
                      | cons m s =>
                        dsimp only at h1
                        split at h1
                        · cases h1
                        · split at h1 <;> cases h1
                    · cases h1
            · split at h
              · rename_i e h2
                have : e = 0 := by simpa using h
                subst this
                exact ih _ h2
              · cases h
        exact hno _ _ he
      · rename_i l' he
        have : l' = l := by simpa using congrArg Prod.fst h
        subst this
        obtain ⟨e1, e2, e3⟩ := readN_back _ _ _ _ he
        have hrow : row l' = true := by
          unfold row
          simp only [Bool.and_eq_true, decide_eq_true_eq, List.all_eq_true]
          exact ⟨by omega, fun v hv => (e3 v hv).1⟩
        refine ⟨?_, hrow, fun v hv => (e3 v hv).2⟩
        unfold rowBytes
        rw [if_pos hrow, e2, UInt8.ofNat_toNat, e1, List.append_nil]
      · cases h
theorem rowsM_fits {b : RM} {f : Bool} (h : (rowsM b f).2.1 = true) (hf : b.text.1.failed = false) : f = true ∧ (readV b.text.2).2 = 0 := by
  unfold rowsM at h
  rw [if_neg (by rw [hf]; simp)] at h
  simpa using h
theorem rowsM_reader (b : RM) (f : Bool) : (rowsM b f).1 = b.text.1 := by
  unfold rowsM
  split <;> rfl
theorem rowsM_back {b : RM} {t : List UInt8} {f : Bool} (h : b.Has t) (hf : (rowsM b f).1.failed = false) (hfit : (rowsM b f).2.1 = true) : f = true ∧ ∃ u, t = text (rowBytes (rowsM b f).2.2) ++ u ∧ (rowsM b f).1.Has u := by
  rw [rowsM_reader] at hf
  obtain ⟨h1, h2⟩ := rowsM_fits hfit hf
  obtain ⟨u, e1, e2, e3, e4⟩ := h.text_back hf
  refine ⟨h1, u, ?_, by rw [rowsM_reader]; exact e2⟩
  have : (rowsM b f).2.2 = (readV b.text.2).1 := by unfold rowsM; rw [if_neg (by rw [hf]; simp)]
  rw [this, (readV_back (Prod.ext rfl h2 : readV b.text.2 = ((readV b.text.2).1, 0))).1]
  exact e1
theorem editsAt_ok : ∀ (j : Nat) {b : RM}, (editsAt j b).1.failed = false → b.failed = false
  | 0, _, h => h
  | j + 1, _, h => editsAt_ok j (RM.failed_num (RM.failed_num (RM.failed_text h)))
theorem editsAt_back {b : RM} {t : List UInt8} (h : b.Has t) : ∀ j, (editsAt j b).1.failed = false → ∃ u, t = (editsAt j b).2.flatMap E.bytes ++ u ∧ (editsAt j b).1.Has u
  | 0, _ => ⟨t, rfl, h⟩
  | j + 1, hf => by
    have f3 : ((((editsAt j b).1.num 2).1.num 1).1.text).1.failed = false := hf
    have f2 := RM.failed_text f3
    have f1 := RM.failed_num f2
    have f0 := RM.failed_num f1
    obtain ⟨u0, e0, h0⟩ := editsAt_back h j f0
    obtain ⟨u1, e1, h1, _, _, l1⟩ := h0.num_back 2 (by omega) f1
    obtain ⟨u2, e2, h2, _, _, l2⟩ := h1.num_back 1 (by omega) f2
    obtain ⟨u3, e3, h3, _, l3⟩ := h2.text_back f3
    refine ⟨u3, ?_, h3⟩
    have hd : (editsAt (j + 1) b).2 = (editsAt j b).2 ++ [⟨((editsAt j b).1.num 2).2, (((editsAt j b).1.num 2).1.num 1).2 - 1, (((editsAt j b).1.num 2).1.num 1).1.text.2⟩] := rfl
    rw [hd, List.flatMap_append, e0, e1, e2, e3]
    simp only [List.flatMap_cons, List.flatMap_nil, List.append_nil]
    unfold E.bytes
    dsimp only
    have c1 : ((((((editsAt j b).1.num 2).1.num 1).2 : Nat) : Int) - 1 + 1).toNat = (((editsAt j b).1.num 2).1.num 1).2 := by omega
    rw [c1, Int.toNat_natCast]
    simp only [List.append_assoc]
theorem xidsAt_back {b : RM} {t : List UInt8} (h : b.Has t) : ∀ j, (xidsAt j b).1.failed = false → ∃ u, t = ((xidsAt j b).2.flatMap fun x => be 1 x.toNat) ++ u ∧ (xidsAt j b).1.Has u
  | 0, _ => ⟨t, rfl, h⟩
  | j + 1, hf => by
    have f1 : ((xidsAt j b).1.num 1).1.failed = false := hf
    have f0 := RM.failed_num f1
    obtain ⟨u0, e0, h0⟩ := xidsAt_back h j f0
    obtain ⟨u1, e1, h1, _, _, l1⟩ := h0.num_back 1 (by omega) f1
    refine ⟨u1, ?_, h1⟩
    have hd : (xidsAt (j + 1) b).2 = (xidsAt j b).2 ++ [(((xidsAt j b).1.num 1).2 : Int)] := rfl
    rw [hd, List.flatMap_append, e0, e1]
    simp only [List.flatMap_cons, List.flatMap_nil, List.append_nil, Int.toNat_natCast, List.append_assoc]
theorem xidsAt_ok : ∀ (j : Nat) {b : RM}, (xidsAt j b).1.failed = false → b.failed = false
  | 0, _, h => h
  | j + 1, _, h => xidsAt_ok j (RM.failed_num h)
theorem rowsM_ok {b : RM} {f : Bool} (h : (rowsM b f).1.failed = false) : b.failed = false := by
  rw [rowsM_reader] at h
  exact RM.failed_text h
/-- a record that was read, written again -/
theorem readR_back {s : List UInt8} {r : R} (h : readR s = (r, 0)) : r.bytes = s ∧ r.right = true := by
  unfold readR at h
  split at h
  · cases h
  · rename_i hf
    split at h
    · cases h
    · rename_i hc
      have hr : rdR s = r := by simpa using congrArg Prod.fst h
      have hf : (rdT s).1.failed = false := by simpa using hf
      simp only [Bool.or_eq_true, Bool.not_eq_true', decide_eq_true_eq, not_or, Bool.not_eq_false] at hc
      obtain ⟨⟨c1, c2⟩, c3⟩ := hc
      have fX : (rdX s).1.failed = false := RM.failed_text hf
      have fX0 := xidsAt_ok _ fX
      have fE := RM.failed_num fX0
      have fE0 := editsAt_ok _ fE
      have fN := RM.failed_num fE0
      have fO := rowsM_ok fN
      have f3 := rowsM_ok fO
      have f2 := RM.failed_num f3
      have f1 := RM.failed_num f2
      obtain ⟨u1, e1, h1, _, _, l1⟩ := (RM.Has.new s).num_back 1 (by omega) f1
      obtain ⟨u2, e2, h2, _, _, l2⟩ := h1.num_back 1 (by omega) f2
      obtain ⟨u3, e3, h3, _, _, l3⟩ := h2.num_back 2 (by omega) f3
      obtain ⟨u5, g5⟩ : ∃ u5, ∃ u4, u3 = text (rowBytes (rdO s).2.2) ++ u4 ∧ u4 = text (rowBytes (rdN s).2.2) ++ u5 ∧ (rdN s).1.Has u5 := by
        have hO : (rdO s).2.1 = true := by
          cases ht : (rdO s).2.1 with
          | true => rfl
          | false =>
            exfalso
            have : (rdN s).2.1 = false := by
              unfold rdN rowsM
              rw [ht]
              split <;> simp
            rw [this] at c1
            cases c1
        obtain ⟨-, u4, e4, h4⟩ := rowsM_back (f := true) h3 fO hO
        obtain ⟨-, u5, e5, h5⟩ := rowsM_back h4 fN c1
        exact ⟨u5, u4, e4, e5, h5⟩
      obtain ⟨u4, e4, e5, h5⟩ := g5
      obtain ⟨u6, e6, h6, _, _, l6⟩ := h5.num_back 1 (by omega) fE0
      obtain ⟨u7, e7, h7⟩ := editsAt_back h6 _ fE
      obtain ⟨u8, e8, h8, _, _, l8⟩ := h7.num_back 1 (by omega) fX0
      obtain ⟨u9, e9, h9⟩ := xidsAt_back h8 _ fX
      obtain ⟨u10, e10, h10, _, l10⟩ := h9.text_back hf
      have hu : u10 = [] := by
        have := h10.left
        have hz : (rdX s).1.text.1.left = 0 := by
          have : ¬ 0 < (rdT s).1.left := c2
          unfold rdT at this
          omega
        exact List.eq_nil_of_length_eq_zero (this.symm.trans hz)
      have hright : r.right = true := by rw [← hr]; exact c3
      refine ⟨?_, hright⟩
      unfold R.bytes
      rw [if_pos hright, ← hr]
      have lE : (rdE s).2.length = ((rdN s).1.num 1).2 := editsAt_len _ _
      have lX : (rdX s).2.length = ((rdE s).1.num 1).2 := xidsAt_len _ _
      have raw : R.raw (rdR s) = be 1 ((RM.new s).num 1).2 ++ (be 1 (((RM.new s).num 1).1.num 1).2 ++ (be 2 ((((RM.new s).num 1).1.num 1).1.num 2).2 ++ (text (rowBytes (rdO s).2.2) ++ (text (rowBytes (rdN s).2.2) ++ (be 1 (rdE s).2.length ++ ((rdE s).2.flatMap E.bytes ++ (be 1 (rdX s).2.length ++ (((rdX s).2.flatMap fun x => be 1 x.toNat) ++ text (rdT s).2)))))))) := by
        unfold R.raw rdR
        dsimp only
        simp only [Int.toNat_natCast, List.append_assoc]
      rw [raw, lE, lX]
      conv => rhs; rw [e1, e2, e3, e4, e5, e6, e7, e8, e9, e10, hu, List.append_nil]
      rfl
theorem raw_inj {a b : R} (ha : a.right = true) (hb : b.right = true) (pa : a.plain = a) (pb : b.plain = b) (ao : ∀ v ∈ a.old, v.In) (an : ∀ v ∈ a.new, v.In) (bo : ∀ v ∈ b.old, v.In) (bn : ∀ v ∈ b.new, v.In) (h : a.raw = b.raw) : a = b := by
  have h1 := readR_raw ha ao an
  have h2 := readR_raw hb bo bn
  rw [h, h2] at h1
  have := congrArg Prod.fst h1
  rw [← pa, ← pb]
  exact this.symm
end Go.VB.Rec

namespace Go.VB.Rec
open Go.VB.Oct Go.RowKit
def finV : Except Int (List V × List UInt8) → List V × Int
  | .error e => ([], e)
  | .ok (l, []) => (l, 0)
  | .ok (_, _ :: _) => ([], 11)
theorem readV_fin (c : UInt8) (s : List UInt8) (h : ¬ 6 < c.toNat) : readV (c :: s) = finV (more [] (readN c.toNat s)) := by
  rw [more_nil]
  unfold readV
  dsimp only
  rw [if_neg h]
  cases readN c.toNat s with
  | error e => rfl
  | ok p =>
    obtain ⟨l, t⟩ := p
    cases t <;> rfl
theorem u8_of {c : UInt8} {k : Nat} (hk : k < 256) (h : c.toNat = k) : c = UInt8.ofNat k := by
  apply UInt8.toNat_inj.1
  rw [h, UInt8.toNat_ofNat_of_lt' hk]
theorem ro0 {c : UInt8} {t : List UInt8} (h : c.toNat = 0) : readOne (c :: t) = .ok (⟨0, 0, []⟩, t) := by
  obtain rfl := u8_of (by omega) h
  rfl
theorem ro1 {c : UInt8} {t : List UInt8} (h : c.toNat = 1) (hl : 8 ≤ t.length) : readOne (c :: t) = .ok (⟨1, int8 (t.take 8), []⟩, t.drop 8) := by
  obtain rfl := u8_of (by omega) h
  unfold readOne
  dsimp only
  rw [if_neg (by decide), if_pos (by decide), if_neg (by omega)]
theorem ro1s {c : UInt8} {t : List UInt8} (h : c.toNat = 1) (hl : t.length < 8) : readOne (c :: t) = .error 10 := by
  obtain rfl := u8_of (by omega) h
  unfold readOne
  dsimp only
  rw [if_neg (by decide), if_pos (by decide), if_pos hl]
theorem ro2n {c : UInt8} (h : c.toNat = 2) : readOne [c] = .error 10 := by
  obtain rfl := u8_of (by omega) h
  rfl
theorem ro2m {c m : UInt8} {t : List UInt8} (h : c.toNat = 2) (hm : 40 < m.toNat) : readOne (c :: m :: t) = .error 2 := by
  obtain rfl := u8_of (by omega) h
  unfold readOne
  dsimp only
  rw [if_neg (by decide), if_neg (by decide), if_pos (by decide), if_pos hm]
theorem ro2s {c m : UInt8} {t : List UInt8} (h : c.toNat = 2) (hm : ¬ 40 < m.toNat) (hl : t.length < m.toNat) : readOne (c :: m :: t) = .error 10 := by
  obtain rfl := u8_of (by omega) h
  unfold readOne
  dsimp only
  rw [if_neg (by decide), if_neg (by decide), if_pos (by decide), if_neg hm, if_pos hl]
theorem ro2 {c m : UInt8} {t : List UInt8} (h : c.toNat = 2) (hm : ¬ 40 < m.toNat) (hl : ¬ t.length < m.toNat) : readOne (c :: m :: t) = .ok (⟨2, 0, t.take m.toNat⟩, t.drop m.toNat) := by
  obtain rfl := u8_of (by omega) h
  unfold readOne
  dsimp only
  rw [if_neg (by decide), if_neg (by decide), if_pos (by decide), if_neg hm, if_neg hl]
theorem rox {c : UInt8} {t : List UInt8} (h : 2 < c.toNat) : readOne (c :: t) = .error 11 := by
  have h0 : c ≠ 0 := fun e => by subst e; simp at h
  have h1 : c ≠ 1 := fun e => by subst e; simp at h
  have h2 : c ≠ 2 := fun e => by subst e; simp at h
  unfold readOne
  dsimp only
  rw [if_neg h0, if_neg h1, if_neg h2]
theorem wrap64_eq (n : Int) : wrap64 n = IntKind.i64.wrap n := by rw [IntKind.wrap_i64]; unfold wrap64; omega
theorem wrap_step (l : List UInt8) (c : UInt8) : wrap64 (wrap64 (IntKind.i64.wrap (num l) * 256) + (c.toNat : Int)) = IntKind.i64.wrap (num (l ++ [c])) := by
  have h1 : wrap64 (IntKind.i64.wrap (num l) * 256) = wrap64 ((num l : Int) * 256) := by
    rw [IntKind.wrap_i64]
    generalize (num l : Int) = n
    unfold wrap64
    omega
  have h2 : ∀ n k : Int, wrap64 (wrap64 n + k) = wrap64 (n + k) := by
    intro n k
    unfold wrap64
    omega
  rw [h1, h2, wrap64_eq, num_snoc]
  all_goals (congr 1; try omega)
end Go.VB.Rec
namespace Go.Proofs.YtfhkmiifndhacaaDoor
open Go.RowKit Go.VB Go.VB.Oct Go.VB.Rec
theorem bs_get (s : List UInt8) {j : Nat} (h : j < s.length) {k : Nat} (hk : s[j].toNat = k) : ((bs s)[j]'(by rw [bs_size]; exact h)).toNat = k := by
  have : (bs s)[j]'(by rw [bs_size]; exact h) = s[j] := by simp [bs]; rfl
  rw [this, hk]
end Go.Proofs.YtfhkmiifndhacaaDoor

namespace Go.Proofs.YtfhkmiifndhacaaDoor
open Go.RowKit Go.VB Go.VB.Oct Go.VB.Rec
/-- the reader's three cells -/
structure R4C (w : World) (p : Nat) (s : List UInt8) (a : Nat) (b : Bool) : Prop where
  c0 : w.cell? ⟨p, 0, none⟩ = some (.string (bs s))
  c1 : w.cell? ⟨p, 1, none⟩ = some (.int .i64 a)
  c2 : w.cell? ⟨p, 2, none⟩ = some (.bool b)
theorem num_bad {rm : RM} (hf : rm.failed = false) {k : Nat} (h : rm.left < k) : rm.num k = ({ rm with failed := true }, 0) := by
  unfold RM.num RM.take RM.bad
  rw [if_pos (by rw [hf]; simpa using h)]
  rfl
theorem num_good {rm : RM} (hf : rm.failed = false) {k : Nat} (h : ¬ rm.left < k) : rm.num k = ({ rm with at_ := rm.at_ + k }, num ((rm.s.drop rm.at_).take k)) := by
  unfold RM.num RM.take RM.bad
  rw [if_neg (by rw [hf]; simpa using h)]
theorem text_bad {rm : RM} (h : ((rm.num 2).1.take (rm.num 2).2).1.failed = true) : rm.text.1.failed = true ∧ rm.text.2 = [] ∧ rm.text.1.s = rm.s := by
  have e : rm.text = ({ ((rm.num 2).1.take (rm.num 2).2).1 with at_ := rm.at_ }, ((rm.num 2).1.take (rm.num 2).2).2) := by
    unfold RM.text
    dsimp only
    rw [if_pos h]
  rw [e]
  refine ⟨h, ?_, ?_⟩
  · have : ∀ (r : RM) (n : Nat), (r.take n).1.failed = true → (r.take n).2 = [] := by
      intro r n hh
      unfold RM.take at hh ⊢
      split
      · rfl
      · rename_i hb
        rw [if_neg hb] at hh
        have : r.failed = true := hh
        unfold RM.bad at hb
        rw [this] at hb
        simp at hb
    exact this _ _ h
  · show ((rm.num 2).1.take (rm.num 2).2).1.s = rm.s
    rw [RM.take_s]
    show (rm.take 2).1.s = rm.s
    rw [RM.take_s]
theorem text_good {rm : RM} {m : RM} {n : Nat} (hm : rm.num 2 = (m, n)) (hf : m.failed = false) (h : ¬ m.left < n) : rm.text = ({ m with at_ := m.at_ + n }, (m.s.drop m.at_).take n) := by
  have e : m.take n = ({ m with at_ := m.at_ + n }, (m.s.drop m.at_).take n) := by
    unfold RM.take RM.bad
    rw [if_neg (by rw [hf]; simpa using h)]
  unfold RM.text
  rw [hm]
  dsimp only
  rw [e]
  dsimp only
  rw [if_neg (by rw [hf]; simp)]
end Go.Proofs.YtfhkmiifndhacaaDoor

namespace Go.VB.Rec
open Go.VB.Oct Go.Proofs.YtfhkmiifndhacaaDoor
theorem rdO_reader (s : List UInt8) : (rdO s).1 = (rd3 s).text.1 := rowsM_reader _ _
theorem rdN_reader (s : List UInt8) : (rdN s).1 = (rd3 s).text.1.text.1 := by unfold rdN; rw [rowsM_reader, rdO_reader]
/-- the reference's loops stop at the first failure: what that says of the whole reading -/
theorem run_ends {s : List UInt8} {j1 j2 : Nat} {bE : RM × List E} {c : RM × Nat} {bX : RM × List Int} {t : RM × List UInt8}
    (hE : editsAt j1 ((rdN s).1.num 1).1 = bE) (e1 : j1 = ((rdN s).1.num 1).2 ∨ bE.1.failed = true) (l1 : j1 ≤ ((rdN s).1.num 1).2) (hc : bE.1.num 1 = c)
    (hX : xidsAt j2 c.1 = bX) (e2 : j2 = c.2 ∨ bX.1.failed = true) (l2 : j2 ≤ c.2) (ht : bX.1.text = t) :
    t.1.failed = (rdT s).1.failed ∧ (t.1.failed = false → bE = rdE s ∧ bX = rdX s ∧ t = rdT s) := by
  have sE : ∀ (i j : Nat) (b : RM), (editsAt j b).1.failed = true → (editsAt (j + i) b).1.failed = true := by
    intro i
    induction i with
    | zero => intro j b h; exact h
    | succ i ih =>
      intro j b h
      have := ih j b h
      cases hh : (editsAt (j + (i + 1)) b).1.failed with
      | true => rfl
      | false =>
        exfalso
        have f3 : ((((editsAt (j + i) b).1.num 2).1.num 1).1.text).1.failed = false := hh
        have f0 := RM.failed_num (RM.failed_num (RM.failed_text f3))
        rw [this] at f0
        cases f0
  have sX : ∀ (i j : Nat) (b : RM), (xidsAt j b).1.failed = true → (xidsAt (j + i) b).1.failed = true := by
    intro i
    induction i with
    | zero => intro j b h; exact h
    | succ i ih =>
      intro j b h
      have := ih j b h
      cases hh : (xidsAt (j + (i + 1)) b).1.failed with
      | true => rfl
      | false =>
        exfalso
        have f3 : (((xidsAt (j + i) b).1.num 1).1).failed = false := hh
        have f0 := RM.failed_num f3
        rw [this] at f0
        cases f0
  -- where nothing has failed, all is as in the whole reading
  have key1 : bE.1.failed = false → bE = rdE s := by
    intro h
    rcases e1 with e | e
    · rw [← hE, e]; rfl
    · rw [h] at e; cases e
  have key1' : (rdE s).1.failed = false → bE.1.failed = false := by
    intro h
    cases hb : bE.1.failed with
    | false => rfl
    | true =>
      exfalso
      rw [← hE] at hb
      have := sE (((rdN s).1.num 1).2 - j1) j1 _ hb
      rw [Nat.add_sub_cancel' l1] at this
      have e : (editsAt ((rdN s).1.num 1).2 ((rdN s).1.num 1).1).1.failed = (rdE s).1.failed := rfl
      rw [e, h] at this
      cases this
  have key2 : t.1.failed = false → bE = rdE s ∧ bX = rdX s ∧ t = rdT s := by
    intro h
    have hx : bX.1.failed = false := RM.failed_text (by rw [ht]; exact h)
    have hc1 : c.1.failed = false := xidsAt_ok j2 (by rw [hX]; exact hx)
    have hb : bE.1.failed = false := RM.failed_num (k := 1) (by rw [hc]; exact hc1)
    have k1 := key1 hb
    have k2 : bX = rdX s := by
      rcases e2 with e | e
      · rw [← hX, e, ← hc, k1]; rfl
      · rw [hx] at e; cases e
    exact ⟨k1, k2, by rw [← ht, k2]; rfl⟩
  refine ⟨?_, key2⟩
  cases hb : t.1.failed with
  | false => rw [← (key2 hb).2.2, hb]
  | true =>
    cases hr : (rdT s).1.failed with
    | true => rfl
    | false =>
      exfalso
      have fX : (rdX s).1.failed = false := RM.failed_text hr
      have fX0 : ((rdE s).1.num 1).1.failed = false := xidsAt_ok _ fX
      have fE : (rdE s).1.failed = false := RM.failed_num fX0
      have k1 := key1 (key1' fE)
      have hcc : c = (rdE s).1.num 1 := by rw [← hc, k1]
      have hx : bX.1.failed = false := by
        cases hq : bX.1.failed with
        | false => rfl
        | true =>
          exfalso
          rw [← hX] at hq
          have := sX (c.2 - j2) j2 _ hq
          rw [Nat.add_sub_cancel' l2, hcc] at this
          have e : (xidsAt ((rdE s).1.num 1).2 ((rdE s).1.num 1).1).1.failed = (rdX s).1.failed := rfl
          rw [e, fX] at this
          cases this
      have k2 : bX = rdX s := by
        rcases e2 with e | e
        · rw [← hX, e, hcc]; rfl
        · rw [hx] at e; cases e
      have : t = rdT s := by rw [← ht, k2]; rfl
      rw [this, hr] at hb
      cases hb
theorem num_s (b : RM) (k : Nat) : (b.num k).1.s = b.s := RM.take_s _ _
theorem text_s (b : RM) : b.text.1.s = b.s := by
  have : ((b.num 2).1.take (b.num 2).2).1.s = b.s := by rw [RM.take_s, num_s]
  unfold RM.text
  dsimp only
  split
  · exact this
  · exact this
theorem editsAt_s (b : RM) : ∀ j, (editsAt j b).1.s = b.s
  | 0 => rfl
  | j + 1 => by
    show (((editsAt j b).1.num 2).1.num 1).1.text.1.s = b.s
    rw [text_s, num_s, num_s, editsAt_s b j]
theorem xidsAt_s (b : RM) : ∀ j, (xidsAt j b).1.s = b.s
  | 0 => rfl
  | j + 1 => by
    show ((xidsAt j b).1.num 1).1.s = b.s
    rw [num_s, xidsAt_s b j]
theorem rdT_s (s : List UInt8) : (rdT s).1.s = s := by
  unfold rdT rdX rdE
  rw [text_s, xidsAt_s, num_s, editsAt_s, num_s, rdN_reader, text_s, text_s]
  unfold rd3
  rw [num_s, num_s, num_s]
  rfl
theorem readR_short {s : List UInt8} (h : (rdT s).1.failed = true) : readR s = (R.zero, 10) := by
  unfold readR
  rw [if_pos h]
theorem readR_run {s : List UInt8} (hf : (rdT s).1.failed = false) :
    readR s = if (!decide ((readV (rd3 s).text.2).2 = 0) || !decide ((readV (rd3 s).text.1.text.2).2 = 0) || decide (0 < (rdT s).1.left) || !(R.mk (((RM.new s).num 1).2 : Int) ((((RM.new s).num 1).1.num 1).2 : Int) (((((RM.new s).num 1).1.num 1).1.num 2).2 : Int) (readV (rd3 s).text.2).1 (readV (rd3 s).text.1.text.2).1 (rdE s).2 (rdX s).2 (rdT s).2).right) then (R.zero, 11)
      else (R.mk (((RM.new s).num 1).2 : Int) ((((RM.new s).num 1).1.num 1).2 : Int) (((((RM.new s).num 1).1.num 1).1.num 2).2 : Int) (readV (rd3 s).text.2).1 (readV (rd3 s).text.1.text.2).1 (rdE s).2 (rdX s).2 (rdT s).2, 0) := by
  have fX : (rdX s).1.failed = false := RM.failed_text hf
  have fE : (rdE s).1.failed = false := RM.failed_num (xidsAt_ok _ fX)
  have fN : (rdN s).1.failed = false := RM.failed_num (editsAt_ok _ fE)
  have fN' := fN
  rw [rdN_reader] at fN'
  have fO := RM.failed_text fN'
  have hO : rdO s = ((rd3 s).text.1, decide ((readV (rd3 s).text.2).2 = 0), (readV (rd3 s).text.2).1) := by
    unfold rdO rowsM
    rw [if_neg (by rw [fO]; simp)]
    simp
  have hN : rdN s = ((rd3 s).text.1.text.1, decide ((readV (rd3 s).text.2).2 = 0) && decide ((readV (rd3 s).text.1.text.2).2 = 0), (readV (rd3 s).text.1.text.2).1) := by
    unfold rdN rowsM
    rw [hO]
    dsimp only
    rw [if_neg (by rw [fN']; simp)]
  have hR : rdR s = R.mk (((RM.new s).num 1).2 : Int) ((((RM.new s).num 1).1.num 1).2 : Int) (((((RM.new s).num 1).1.num 1).1.num 2).2 : Int) (readV (rd3 s).text.2).1 (readV (rd3 s).text.1.text.2).1 (rdE s).2 (rdX s).2 (rdT s).2 := by
    unfold rdR
    rw [hO, hN]
  unfold readR
  rw [if_neg (by rw [hf]; simp), hR, hN]
  dsimp only
  rw [Bool.not_and]
end Go.VB.Rec
namespace Go.Proofs.YtfhkmiifndhacaaDoor
open Go.RowKit Go.VB Go.VB.Oct Go.VB.Rec
def got4 (r : R) (vo vn ve vx : Value) (e : Int) : List Value := rv r vo vn ve vx ++ [.int .i64 e]
namespace RdQ
variable {w0 W W' wg : World} {a : Nat} {rm : RM} {r : R} {ve vx v' : Value}
end RdQ
theorem HVF {w W W' W'' : World} {r : R} {vo vn ve vx : Value} (h : RV (fun k => w.heap.size + 3 ≤ k ∧ k < W.heap.size) W' r vo vn ve vx) (f : Fr (fun k => k = w.heap.size) W' W'') (hs : W.heap.size ≤ W'.heap.size) : RV (fun k => w.heap.size ≤ k ∧ k < W''.heap.size) W'' r vo vn ve vx := by
  have h2 := h.fr f (fun k hk e => by omega)
  have hsz := f.size
  have hm : ∀ k, (w.heap.size + 3 ≤ k ∧ k < W.heap.size) → (w.heap.size ≤ k ∧ k < W''.heap.size) := fun k hk => ⟨by omega, by omega⟩
  exact ⟨h2.o.mono hm, h2.n.mono hm, h2.e.mono hm, h2.x.mono hm, h2.lo, h2.ln, h2.le, h2.lx, fun k hk => hk.2⟩
end Go.Proofs.YtfhkmiifndhacaaDoor

/- from XArg.lean.tpl -/
namespace Go.VB.Rec
def in64 (n : Int) : Prop := -9223372036854775808 ≤ n ∧ n ≤ 9223372036854775807
def V.In2 (v : V) : Prop := in64 v.k ∧ in64 v.n
structure R.In (r : R) : Prop where
  kind : in64 r.kind
  xid : in64 r.xid
  table : in64 r.table
  old : ∀ v ∈ r.old, v.In2
  new : ∀ v ∈ r.new, v.In2
end Go.VB.Rec
namespace Go.Proofs.YtfhkmiifndhacaaDoor
open Go.RowKit Go.VB Go.VB.Oct Go.VB.Rec Go.WideShapes Go.ChangeShapes
theorem wf_in {x : Int} (h : (Lit.int .i64 x).wf = true) : in64 x := by
  simp [Lit.wf, IntKind.min, IntKind.max, IntKind.bits, IntKind.signed] at h
  unfold in64
  omega
section
variable {H : Type} {enc : TypeId × Value → H} {w : World} {base : Nat} {sp : Nat → Bool} {held : Bool}
theorem cells_int : Tryd.prog.cellsOf 3 = 1 := by kernel_rfl
theorem cells_i64 : Tryd.prog.cellsOf 2 = 1 := by kernel_rfl
theorem cells_str : Tryd.prog.cellsOf 9 = 1 := by kernel_rfl
theorem cells_row : Tryd.prog.cellsOf 23 = 1 := by kernel_rfl
theorem cells_eds : Tryd.prog.cellsOf 26 = 1 := by kernel_rfl
theorem cells_ints : Tryd.prog.cellsOf 24 = 1 := by kernel_rfl
theorem cells_val : Tryd.prog.cellsOf 50 = 3 := by kernel_rfl
theorem cells_edit : Tryd.prog.cellsOf 48 = 3 := by kernel_rfl
theorem cells_rec : Tryd.prog.cellsOf 28 = 8 := by kernel_rfl
set_option maxRecDepth 100000 in
theorem elem_val : ∀ fuel cs (r : DataW H × List MemPlace), cs.length = 3 → DataW.trod enc Tryd.prog w base sp held fuel 50 cs = some r → ∃ p : V, cs = p.cells ∧ V.In2 p := by
  intro fuel cs r hl h
  match cs, hl with
  | [a, b, c], _ =>
    cases fuel with
    | zero => simp [DataW.trod] at h
    | succ m =>
      unfold DataW.trod at h
      rw [Tryd.underlying50] at h
      dsimp only at h
      rw [if_pos (by rw [cells_val]; rfl)] at h
      simp only [Option.map_eq_some_iff, List.mapM_cons, List.mapM_nil, Option.bind_eq_bind, Option.bind_eq_some_iff, Option.pure_def, Option.some.injEq, cells_int, cells_i64, cells_str] at h
      obtain ⟨xs, ⟨y0, h0, x1, ⟨y1, h1, x2, ⟨y2, h2, -⟩, -⟩, -⟩, -⟩ := h
      obtain ⟨i0, e0, g0⟩ := elem_int Tryd.underlying3 _ _ _ h0
      obtain ⟨i1, e1, g1⟩ := elem_int Tryd.underlying2 _ _ _ h1
      obtain ⟨s2, e2, g2⟩ := elem_string Tryd.underlying9 _ _ _ h2
      obtain rfl : a = .int .i64 i0 := by simpa using e0
      obtain rfl : b = .int .i64 i1 := by simpa using e1
      obtain rfl : c = .string (bs s2) := by simpa using e2
      exact ⟨⟨i0, i1, s2⟩, rfl, wf_in g0, wf_in g1⟩
set_option maxRecDepth 100000 in
theorem elem_edit : ∀ fuel cs (r : DataW H × List MemPlace), cs.length = 3 → DataW.trod enc Tryd.prog w base sp held fuel 48 cs = some r → ∃ p : E, cs = p.cells ∧ True := by
  intro fuel cs r hl h
  match cs, hl with
  | [a, b, c], _ =>
    cases fuel with
    | zero => simp [DataW.trod] at h
    | succ m =>
      unfold DataW.trod at h
      rw [Tryd.underlying48] at h
      dsimp only at h
      rw [if_pos (by rw [cells_edit]; rfl)] at h
      simp only [Option.map_eq_some_iff, List.mapM_cons, List.mapM_nil, Option.bind_eq_bind, Option.bind_eq_some_iff, Option.pure_def, Option.some.injEq, cells_int, cells_str] at h
      obtain ⟨xs, ⟨y0, h0, x1, ⟨y1, h1, x2, ⟨y2, h2, -⟩, -⟩, -⟩, -⟩ := h
      obtain ⟨i0, e0, g0⟩ := elem_int Tryd.underlying3 _ _ _ h0
      obtain ⟨i1, e1, g1⟩ := elem_int Tryd.underlying3 _ _ _ h1
      obtain ⟨s2, e2, g2⟩ := elem_string Tryd.underlying9 _ _ _ h2
      obtain rfl : a = .int .i64 i0 := by simpa using e0
      obtain rfl : b = .int .i64 i1 := by simpa using e1
      obtain rfl : c = .string (bs s2) := by simpa using e2
      exact ⟨⟨i0, i1, s2⟩, rfl, trivial⟩
theorem elem_row : ∀ fuel cs (r : DataW H × List MemPlace), DataW.trod enc Tryd.prog w base sp held fuel 23 cs = some r → ∃ (v : Value) (L : List V), cs = [v] ∧ Sl (fun k => k < w.heap.size) w v L.length (L.flatMap V.cells) ∧ (∀ x ∈ L, V.In2 x) ∧ L.length ≤ maxLen :=
  fun _ _ _ h => open_cs (P := Tryd.prog) Tryd.underlying23 (k := 3) cells_val (by omega) h V.cells V.In2 (fun _ => rfl) (fun fuel cs r hc h => elem_val fuel cs r hc h)
theorem elem_edits : ∀ fuel cs (r : DataW H × List MemPlace), DataW.trod enc Tryd.prog w base sp held fuel 26 cs = some r → ∃ (v : Value) (L : List E), cs = [v] ∧ Sl (fun k => k < w.heap.size) w v L.length (L.flatMap E.cells) ∧ (∀ x ∈ L, True) ∧ L.length ≤ maxLen :=
  fun _ _ _ h => open_cs (P := Tryd.prog) Tryd.underlying26 (k := 3) cells_edit (by omega) h E.cells (fun _ => True) (fun _ => rfl) (fun fuel cs r hc h => elem_edit fuel cs r hc h)
theorem elem_ints : ∀ fuel cs (r : DataW H × List MemPlace), DataW.trod enc Tryd.prog w base sp held fuel 24 cs = some r → ∃ (v : Value) (L : List Int), cs = [v] ∧ Sl (fun k => k < w.heap.size) w v L.length (L.flatMap icell) ∧ (∀ x ∈ L, in64 x) ∧ L.length ≤ maxLen :=
  fun _ _ _ h => open_cs (P := Tryd.prog) Tryd.underlying24 (k := 1) cells_int (by omega) h icell in64 (fun _ => rfl) (fun fuel cs r hc h => by obtain ⟨x, h1, h2⟩ := elem_int Tryd.underlying3 fuel cs r h; exact ⟨x, h1, wf_in h2⟩)
set_option maxRecDepth 100000 in
theorem rec_agg {w0 : World} {r : Reach} {b0 : Nat} {v : Value} {d : DataW H} {ps : List MemPlace}
    (hval : Value.okWide Tryd.prog w0 r b0 28 v) (h : DataW.Trod enc Tryd.prog w base sp held 28 v d ps) : ∃ (r : R) (vo vn ve vx : Value), v = .agg (rv r vo vn ve vx).toArray ∧ AV (fun k => k < w.heap.size) w r vo vn ve vx ∧ r.In := by
  obtain ⟨fuel, h⟩ := h
  simp only [Value.okWide, Tryd.underlying28] at hval
  obtain ⟨cs, rfl, hs, -⟩ := hval
  rw [cells_rec] at hs
  have hs2 : (Value.agg cs).cells.toList.length = 8 := by simpa [Value.cells] using hs
  have hcs : (Value.agg cs).cells.toList = cs.toList := by simp [Value.cells]
  rw [hcs] at h hs2
  cases fuel with
  | zero => simp [DataW.trod] at h
  | succ m =>
    match hm : cs.toList, hs2 with
    | [a, b, c, d, e, f, g, i], _ =>
      rw [hm] at h
      unfold DataW.trod at h
      rw [Tryd.underlying28] at h
      dsimp only at h
      rw [if_pos (by rw [cells_rec]; rfl)] at h
      simp only [Option.map_eq_some_iff, List.mapM_cons, List.mapM_nil, Option.bind_eq_bind, Option.bind_eq_some_iff, Option.pure_def, Option.some.injEq, cells_int, cells_str, cells_row, cells_eds, cells_ints] at h
      obtain ⟨xs, ⟨y0, h0, x1, ⟨y1, h1, x2, ⟨y2, h2, x3, ⟨y3, h3, x4, ⟨y4, h4, x5, ⟨y5, h5, x6, ⟨y6, h6, x7, ⟨y7, h7, -⟩, -⟩, -⟩, -⟩, -⟩, -⟩, -⟩, -⟩, -⟩ := h
      obtain ⟨i0, e0, g0⟩ := elem_int Tryd.underlying3 _ _ _ h0
      obtain ⟨i1, e1, g1⟩ := elem_int Tryd.underlying3 _ _ _ h1
      obtain ⟨i2, e2, g2⟩ := elem_int Tryd.underlying3 _ _ _ h2
      obtain ⟨v3, l3, e3, s3, t3, u3⟩ := elem_row _ _ _ h3
      obtain ⟨v4, l4, e4, s4, t4, u4⟩ := elem_row _ _ _ h4
      obtain ⟨v5, l5, e5, s5, t5, u5⟩ := elem_edits _ _ _ h5
      obtain ⟨v6, l6, e6, s6, t6, u6⟩ := elem_ints _ _ _ h6
      obtain ⟨s7, e7, g7⟩ := elem_string Tryd.underlying9 _ _ _ h7
      obtain rfl : a = .int .i64 i0 := by simpa using e0
      obtain rfl : b = .int .i64 i1 := by simpa using e1
      obtain rfl : c = .int .i64 i2 := by simpa using e2
      obtain rfl : d = v3 := by simpa using e3
      obtain rfl : e = v4 := by simpa using e4
      obtain rfl : f = v5 := by simpa using e5
      obtain rfl : g = v6 := by simpa using e6
      obtain rfl : i = .string (bs s7) := by simpa using e7
      unfold maxLen at u3 u4 u5 u6
      refine ⟨⟨i0, i1, i2, l3, l4, l5, l6, s7⟩, d, e, f, g, ?_, ⟨s3, s4, s5, s6, by dsimp only; omega, by dsimp only; omega, by dsimp only; omega, by dsimp only; omega⟩, ⟨wf_in g0, wf_in g1, wf_in g2, t3, t4⟩⟩
      congr 1
      apply Array.ext'
      rw [hm]
      rfl
set_option maxRecDepth 100000 in
/-- a row as an argument -/
theorem open_row {w0 : World} {r : Reach} {b0 : Nat} {v : Value} {d : DataW H} {ps : List MemPlace} (hval : Value.okWide Tryd.prog w0 r b0 23 v) (h : DataW.Trod enc Tryd.prog w base sp held 23 v d ps) :
    ∃ L : List V, Sl (fun k => k < w.heap.size) w v L.length (L.flatMap V.cells) ∧ (∀ x ∈ L, V.In2 x) ∧ L.length ≤ maxLen :=
  open_sl Tryd.underlying23 (k := 3) cells_val (by omega) hval h V.cells V.In2 (fun _ => rfl) (fun fuel cs r hc h => elem_val fuel cs r hc h)
set_option maxRecDepth 100000 in
/-- integers as an argument -/
theorem open_ins {w0 : World} {r : Reach} {b0 : Nat} {v : Value} {d : DataW H} {ps : List MemPlace} (hval : Value.okWide Tryd.prog w0 r b0 24 v) (h : DataW.Trod enc Tryd.prog w base sp held 24 v d ps) :
    ∃ L : List Int, Sl (fun k => k < w.heap.size) w v L.length (L.flatMap icell) ∧ (∀ x ∈ L, in64 x) ∧ L.length ≤ maxLen :=
  open_sl Tryd.underlying24 (k := 1) cells_int (by omega) hval h icell in64 (fun _ => rfl) (fun fuel cs r hc h => by obtain ⟨x, h1, h2⟩ := elem_int Tryd.underlying3 fuel cs r h; exact ⟨x, h1, wf_in h2⟩)
end
theorem AV.slices {P : Nat → Prop} {w : World} {r : R} {vo vn ve vx : Value} (h : AV P w r vo vn ve vx) : ∃ a1 c1 a2 c2 a3 c3 a4 c4, vo = .slice a1 r.old.length c1 ∧ vn = .slice a2 r.new.length c2 ∧ ve = .slice a3 r.edits.length c3 ∧ vx = .slice a4 r.xids.length c4 := by
  obtain ⟨a1, c1, h1, -⟩ := h.o
  obtain ⟨a2, c2, h2, -⟩ := h.n
  obtain ⟨a3, c3, h3, -⟩ := h.e
  obtain ⟨a4, c4, h4, -⟩ := h.x
  exact ⟨a1, c1, a2, c2, a3, c3, a4, c4, h1, h2, h3, h4⟩
theorem AV.fre {P : Nat → Prop} {w w' : World} {r : R} {vo vn ve vx : Value} (h : AV P w r vo vn ve vx) (f : Fr (fun _ => False) w w') : AV P w' r vo vn ve vx :=
  ⟨h.o.fr f (fun _ _ h => h), h.n.fr f (fun _ _ h => h), h.e.fr f (fun _ _ h => h), h.x.fr f (fun _ _ h => h), h.lo, h.ln, h.le, h.lx⟩
end Go.Proofs.YtfhkmiifndhacaaDoor

/- from XRecs.lean.tpl -/
namespace Go.Proofs.YtfhkmiifndhacaaDoor
open Go.RowKit Go.VB Go.VB.Oct Go.VB.Rec
theorem raw_pos (r : R) : 1 ≤ r.raw.length := by
  unfold R.raw
  simp only [List.length_append, be_length _ _ (show 1 ≤ 8 by omega)]
  omega
theorem flat8 : ∀ (L : List Q) (j : Nat) (h : j < L.length) (i : Nat), i < 8 → (L.flatMap Q.cells)[j * 8 + i]? = (Q.cells L[j])[i]?
  | q :: L, 0, _, i, hi => by simp [List.getElem?_append, qcells_len, hi]
  | q :: L, j + 1, h, i, hi => by
    rw [List.flatMap_cons, List.getElem?_append_right (by rw [qcells_len]; omega), qcells_len, show (j + 1) * 8 + i - 8 = j * 8 + i by omega, flat8 L j (by simpa using h) i hi]
    rfl
/-- the eight cells of record j -/
theorem row_rec {B n : Nat} {W : World} {a : Option Addr} {c : Nat} {qs : List Q} (h : Row 28 8 B W (.slice a n c) qs.length (qs.flatMap Q.cells)) (hn : qs.length = n) (hq : qs ≠ []) :
    ∃ g, a = some ⟨g, 0, none⟩ ∧ ∀ j (hj : j < qs.length), W.rangeAt g (j * 8) (Q.cells qs[j]) := by
  subst hn
  obtain ⟨g, h1, h2, h3⟩ := row_cells h (fun e => by
    cases qs with
    | nil => exact hq rfl
    | cons q L => have := congrArg List.length e; simp [qcells_len] at this)
  refine ⟨g, h1, fun j hj i u hu => ?_⟩
  have hi : i < 8 := (List.getElem?_eq_some_iff.1 hu).1
  exact h3 _ u (by rw [flat8 qs j hj i hi, hu])
theorem q_cells {W : World} {g o : Nat} {q : Q} (h : W.rangeAt g o q.cells) : W.cell? ⟨g, o, none⟩ = some (.int .i64 q.r.kind) ∧ W.cell? ⟨g, o + 1, none⟩ = some (.int .i64 q.r.xid) ∧ W.cell? ⟨g, o + 2, none⟩ = some (.int .i64 q.r.table) ∧ W.cell? ⟨g, o + 3, none⟩ = some q.o ∧ W.cell? ⟨g, o + 4, none⟩ = some q.n ∧ W.cell? ⟨g, o + 5, none⟩ = some q.e ∧ W.cell? ⟨g, o + 6, none⟩ = some q.x ∧ W.cell? ⟨g, o + 7, none⟩ = some (.string (bs q.r.note)) :=
  ⟨h 0 _ rfl, h 1 _ rfl, h 2 _ rfl, h 3 _ rfl, h 4 _ rfl, h 5 _ rfl, h 6 _ rfl, h 7 _ rfl⟩
theorem modl (x n : Nat) (hn : 0 < n) : ∃ k : Nat, (x : Int).tmod (n : Int) = k ∧ (x : Int) % (n : Int) = k ∧ k < n := ⟨x % n, by rw [Int.tmod_eq_emod_of_nonneg (by omega), Int.natCast_emod], (Int.natCast_emod _ _).symm, Nat.mod_lt _ hn⟩
section
variable {H : Type} {enc : TypeId × Value → H}
end
end Go.Proofs.YtfhkmiifndhacaaDoor

