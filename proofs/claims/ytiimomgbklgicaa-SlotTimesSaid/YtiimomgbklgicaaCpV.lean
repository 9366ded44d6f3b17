import Derived.Test.YtiimomgbklgicaaCpO
import Derived.Test.YtiimomgbklgicaaShelf
import Derived.Lib.Bytealg
import Derived.Lib.ItoaNum
import Derived.Lib.LaidTab
import Derived.Lib.Replace
import Derived.Lib.Small
import Derived.Lib.SplitLaws
/- from XJoin.lean.tpl -/
set_option linter.unusedVariables false
namespace Go.Proofs.Ytiimomgbklgicaa
open Go.RowKit Go.VB
theorem fr_below {w0 w w' : World} (f : Fr (fun _ => False) w0 w) (h : Below w0.heap.size w w') : Fr (fun _ => False) w0 w' :=
  f.trans (S := fun _ => False) (T := fun k => w0.heap.size ≤ k) ⟨h.os, h.tape, h.output, h.size, fun k _ hn => h.block k (by omega)⟩ (fun k hk hl => by omega)
theorem String_go {B : Nat} {w : World} {b : Nat} {l : List UInt8} {v : Value} (h : Bld B w b l v) (hB : B ≤ w.heap.size) (hb : B ≤ b) : Calls Try.prog 41 #[.pointer (some ⟨b, 0, none⟩)] w fun e w' => e = .returned (.string (bs l)) ∧ Below B w w' := by
  have own : w.ownsRow B 5 1 v (Lib.byteCells l).length (Lib.byteCells l) := by
    have h1 := h.row.own
    rw [Lib.byteCells_length]
    refine ⟨h1.1, ?_⟩
    rcases h1.2 with h2 | ⟨g, cap, cur, h2, h3, h4⟩
    · exact .inl h2
    · exact .inr ⟨g, cap, cur, h2, h.row.new g (by rw [h2]; rfl), h4⟩
  have hne : v.ownBlock ≠ some b := fun e => h.ne b e rfl
  refine Try.Builder_String_any B b l w ?_ hB
  rcases h.blk with h1 | h1
  · exact .inl ⟨hb, v, h1, own, hne⟩
  · exact .inr ⟨hb, v, h1, own, hne⟩
theorem bs_list (xs : List (List UInt8)) : (xs.map bs).map (fun x => x.data.toList) = xs := by
  rw [List.map_map]
  exact (List.map_congr_left (fun x _ => rfl)).trans (List.map_id _)
end Go.Proofs.Ytiimomgbklgicaa

/- from XRecM.lean.tpl -/
namespace Go.VB.Rec
open Go.VB.Oct
structure V where
  k : Int
  n : Int
  s : List UInt8
deriving DecidableEq
structure E where
  page : Int
  slot : Int
  item : List UInt8
deriving DecidableEq
structure R where
  kind : Int
  xid : Int
  table : Int
  old : List V
  new : List V
  edits : List E
  xids : List Int
  note : List UInt8
deriving DecidableEq
def V.cells (v : V) : List Value := [.int .i64 v.k, .int .i64 v.n, .string (bs v.s)]
def E.cells (e : E) : List Value := [.int .i64 e.page, .int .i64 e.slot, .string (bs e.item)]
def icell (x : Int) : List Value := [.int .i64 x]
def V.right (v : V) : Bool := decide (0 ≤ v.k) && decide (v.k ≤ 2) && (decide (v.k ≠ 2) || decide (v.s.length ≤ 40))
def row (r : List V) : Bool := decide (r.length ≤ 6) && r.all V.right
def E.right (e : E) : Bool :=
  decide (0 ≤ e.page) && decide (e.page ≤ 399) && (if e.slot = -1 then e.item = [0] || e.item = [1] || e.item = [2] else decide (0 ≤ e.slot) && decide (e.slot ≤ 23) && decide (e.item.length ≤ 400))
def R.right (r : R) : Bool :=
  decide (1 ≤ r.kind) && decide (r.kind ≤ 10) && decide (0 ≤ r.xid) && decide (r.xid ≤ 127) && decide (0 ≤ r.table) && decide (r.table ≤ 65535) &&
  (decide (r.edits.length ≤ 64) && r.edits.all E.right) && (decide (r.xids.length ≤ 32) && r.xids.all fun x => decide (3 ≤ x) && decide (x ≤ 127)) && row r.old && row r.new && decide (r.note.length ≤ 60000)
/-- an int as a 64-bit word -/
def word (n : Int) : Nat := (n % 18446744073709551616).toNat
def V.bytes (v : V) : List UInt8 := UInt8.ofNat v.k.toNat :: (if v.k = 1 then be8 (word v.n) else if v.k = 2 then UInt8.ofNat v.s.length :: v.s else [])
def rowBytes (r : List V) : List UInt8 := if row r then UInt8.ofNat r.length :: r.flatMap V.bytes else []
def E.bytes (e : E) : List UInt8 := be 2 e.page.toNat ++ be 1 (e.slot + 1).toNat ++ text e.item
def R.raw (r : R) : List UInt8 :=
  be 1 r.kind.toNat ++ be 1 r.xid.toNat ++ be 2 r.table.toNat ++ text (rowBytes r.old) ++ text (rowBytes r.new) ++ be 1 r.edits.length ++ r.edits.flatMap E.bytes ++ be 1 r.xids.length ++ (r.xids.flatMap fun x => be 1 x.toNat) ++ text r.note
def R.bytes (r : R) : List UInt8 := if r.right then r.raw else []
def frame (r : R) : List UInt8 := if r.right then be 4 r.raw.length ++ be 4 (sum r.raw) ++ r.raw else []
end Go.VB.Rec

/- from XValA.lean.tpl -/
namespace Go.Proofs.Ytiimomgbklgicaa
open Go.RowKit Go.VB Go.VB.Oct Go.VB.Rec
def vagg (v : V) : Value := .agg v.cells.toArray
theorem vcells_len (v : V) : v.cells.length = 3 := rfl
theorem flat3 {α : Type} (f : α → List Value) (hf : ∀ x, (f x).length = 3) : ∀ (L : List α) (j : Nat) (h : j < L.length) (i : Nat), i < 3 → (L.flatMap f)[j * 3 + i]? = (f L[j])[i]?
  | x :: L, 0, _, i, hi => by simp [List.getElem?_append, hf, hi]
  | x :: L, j + 1, h, i, hi => by
    rw [List.flatMap_cons, List.getElem?_append_right (by rw [hf]; omega), hf, show (j + 1) * 3 + i - 3 = j * 3 + i by omega, flat3 f hf L j (by simpa using h) i hi]
    rfl
theorem sl_cell3 {α : Type} {R : Nat → Prop} {w : World} {a : Option Addr} {c : Nat} {f : α → List Value} (hf : ∀ x, (f x).length = 3) {L : List α} (h : Sl R w (.slice a L.length c) L.length (L.flatMap f)) (hL : L ≠ []) :
    ∃ g o, a = some ⟨g, o, none⟩ ∧ R g ∧ ∀ j (hj : j < L.length) i, i < 3 → w.cell? ⟨g, o + (j * 3 + i), none⟩ = (f L[j])[i]? := by
  obtain ⟨a', cap, he, hc, hx⟩ := h
  cases he
  obtain ⟨g, o, rfl, hR, hr⟩ := hx (by
    cases L with
    | nil => exact absurd rfl hL
    | cons x L => intro hh; have := congrArg List.length hh; simp [hf] at this)
  refine ⟨g, o, rfl, hR, fun j hj i hi => ?_⟩
  have hfl := flat3 f hf L j hj i hi
  cases hh : (f L[j])[i]? with
  | none => rw [List.getElem?_eq_none_iff, hf] at hh; omega
  | some u => rw [hh] at hfl; exact hr _ u hfl
theorem rep_set (n : Nat) (v z : Value) : (List.replicate (n + 1) z).set n v = List.replicate n z ++ [v] := by
  induction n with
  | zero => rfl
  | succ n ih => rw [List.replicate_succ, List.set_cons_succ, ih, List.replicate_succ]; rfl
theorem bv_back_set (l : List UInt8) (j : Nat) (hj : j < l.length) : (List.replicate (j + 1) (Value.int .u8 0) ++ bv (l.drop (j + 1))).set j (.int .u8 ((l[j]).toNat : Int)) = List.replicate j (Value.int .u8 0) ++ bv (l.drop j) := by
  rw [List.set_append_left _ _ (by simp), rep_set, List.append_assoc, List.drop_eq_getElem_cons hj]
  rfl
theorem vbytes_le (v : V) (h : v.right = true) : v.bytes.length ≤ 42 := by
  unfold V.right at h
  unfold V.bytes
  split
  · simp [be8_length]
  · split
    · simp_all
    · simp
theorem vsum_le (r : List V) (h : ∀ v ∈ r, v.right = true) (hn : r.length ≤ 6) : (r.flatMap V.bytes).length ≤ 252 := by
  have : ∀ l : List V, (∀ v ∈ l, v.right = true) → (l.flatMap V.bytes).length ≤ 42 * l.length := by
    intro l
    induction l with
    | nil => simp
    | cons x l ih =>
      intro h
      rw [List.flatMap_cons, List.length_append, List.length_cons]
      have h1 := vbytes_le x (h x (by simp))
      have h2 := ih (fun v hv => h v (by simp [hv]))
      omega
  have := this r h
  omega
theorem take_flat {α : Type} (r : List α) (f : α → List UInt8) (j : Nat) (hj : j < r.length) : (r.take (j + 1)).flatMap f = (r.take j).flatMap f ++ f r[j] := by
  rw [List.take_add_one, List.getElem?_eq_getElem hj, List.flatMap_append]
  simp
theorem word_wrap (n : Int) : IntKind.u64.wrap n = ((word n : Nat) : Int) := by
  rw [IntKind.wrap_u64]
  unfold word
  omega
theorem word_lt (n : Int) : word n < 18446744073709551616 := by unfold word; omega
end Go.Proofs.Ytiimomgbklgicaa

/- from XRecA.lean.tpl -/
namespace Go.Proofs.Ytiimomgbklgicaa
open Go.RowKit Go.VB Go.VB.Oct Go.VB.Rec
/-- the first place where p holds, or -1 -/
def firstAt {α : Type} (p : α → Bool) (l : List α) : Int := if l.any p then ((l.findIdx p : Nat) : Int) else -1
theorem firstAt_hit {α : Type} {p : α → Bool} {l : List α} {j : Nat} (hj : j < l.length) (h : ∀ i (hi : i < j), p (l[i]'(by omega)) = false) (hp : p l[j] = true) : firstAt p l = (j : Int) := by
  unfold firstAt
  rw [if_pos (List.any_eq_true.2 ⟨l[j], List.getElem_mem hj, hp⟩)]
  congr 1
  rw [List.findIdx_eq hj]
  exact ⟨hp, fun i hi => h i hi⟩
theorem firstAt_none {α : Type} {p : α → Bool} {l : List α} (h : ∀ i (hi : i < l.length), p l[i] = false) : firstAt p l = -1 := by
  unfold firstAt
  rw [if_neg]
  intro hh
  obtain ⟨x, hx, hp⟩ := List.any_eq_true.1 hh
  obtain ⟨i, hi, rfl⟩ := List.getElem_of_mem hx
  rw [h i hi] at hp
  cases hp
theorem firstAt_ge {α : Type} (p : α → Bool) (l : List α) : decide (0 ≤ firstAt p l) = l.any p := by
  unfold firstAt
  cases l.any p with
  | true => rw [if_pos rfl]; exact decide_eq_true (by omega)
  | false => rw [if_neg (by decide)]; rfl
def eagg (e : E) : Value := .agg e.cells.toArray
theorem ecells_len (e : E) : e.cells.length = 3 := rfl
theorem icell_len (x : Int) : (icell x).length = 1 := rfl
theorem flat1 {α : Type} (f : α → List Value) (hf : ∀ x, (f x).length = 1) : ∀ (L : List α) (j : Nat) (h : j < L.length), (L.flatMap f)[j]? = (f L[j])[0]?
  | x :: L, 0, _ => by simp [List.getElem?_append, hf]
  | x :: L, j + 1, h => by
    rw [List.flatMap_cons, List.getElem?_append_right (by rw [hf]; omega), hf, Nat.add_sub_cancel, flat1 f hf L j (by simpa using h)]
    rfl
theorem sl_cell1 {α : Type} {R : Nat → Prop} {w : World} {a : Option Addr} {c : Nat} {f : α → List Value} (hf : ∀ x, (f x).length = 1) {L : List α} (h : Sl R w (.slice a L.length c) L.length (L.flatMap f)) (hL : L ≠ []) :
    ∃ g o, a = some ⟨g, o, none⟩ ∧ R g ∧ ∀ j (hj : j < L.length), w.cell? ⟨g, o + j, none⟩ = (f L[j])[0]? := by
  obtain ⟨a', cap, he, hc, hx⟩ := h
  cases he
  obtain ⟨g, o, rfl, hR, hr⟩ := hx (by
    cases L with
    | nil => exact absurd rfl hL
    | cons x L => intro hh; have := congrArg List.length hh; simp [hf] at this)
  refine ⟨g, o, rfl, hR, fun j hj => ?_⟩
  have hfl := flat1 f hf L j hj
  cases hh : (f L[j])[0]? with
  | none => rw [List.getElem?_eq_none_iff, hf] at hh; omega
  | some u => rw [hh] at hfl; exact hr _ u hfl
/-- the three cells of element j -/
theorem sl_three {α : Type} {R : Nat → Prop} {w : World} {a : Option Addr} {c : Nat} {f : α → List Value} (hf : ∀ x, (f x).length = 3) {L : List α} (h : Sl R w (.slice a L.length c) L.length (L.flatMap f)) {j : Nat} (hj : j < L.length) :
    ∃ g o, a = some ⟨g, o, none⟩ ∧ R g ∧ w.cell? ⟨g, o + j * 3, none⟩ = (f L[j])[0]? ∧ w.cell? ⟨g, o + j * 3 + 1, none⟩ = (f L[j])[1]? ∧ w.cell? ⟨g, o + j * 3 + 2, none⟩ = (f L[j])[2]? := by
  obtain ⟨g, o, rfl, hg, hcell⟩ := sl_cell3 (f := f) hf h (fun h => by subst h; cases hj)
  exact ⟨g, o, rfl, hg, hcell j hj 0 (by omega), hcell j hj 1 (by omega), hcell j hj 2 (by omega)⟩
end Go.Proofs.Ytiimomgbklgicaa

/- from XVM.lean.tpl -/
namespace Go.VB.Rec
open Go.VB.Oct
def rank (k : Int) : Int := if 0 ≤ k ∧ k ≤ 2 then k else 3
/-- one value against another -/
def V.cmp (a b : V) : Int := if rank a.k ≠ rank b.k then Lib.compareInt (rank a.k) (rank b.k) else if a.k = 1 then Lib.compareInt a.n b.n else if a.k = 2 then Lib.compareBytes a.s b.s else 0
def rowsCmp : List V → List V → Int
  | a :: l, b :: m => if V.cmp a b ≠ 0 then V.cmp a b else rowsCmp l m
  | [], [] => 0
  | [], _ :: _ => -1
  | _ :: _, [] => 1
/-- every c of s turned into new -/
def esc (c : UInt8) (new : List UInt8) (s : List UInt8) : List UInt8 := s.flatMap fun x => if x = c then new else [x]
def V.key (v : V) : List UInt8 := UInt8.ofNat (v.k.toNat + 1) :: (if v.k = 1 then be8 ((word v.n + 9223372036854775808) % 18446744073709551616) else if v.k = 2 then esc 0 [0, 255] v.s ++ [0, 1] else [])
def rowKey (r : List V) : List UInt8 := if row r then r.flatMap V.key else []
def V.text (v : V) : List UInt8 := if v.k = 0 then [110, 117, 108, 108] else if v.k = 1 then Lib.itoa v.n else if v.k = 2 then 39 :: esc 39 [39, 39] v.s ++ [39] else []
/-- the six operators on the sign of a comparison -/
def opHolds (op c : Int) : Bool := if op = 1 then c == 0 else if op = 2 then c != 0 else if op = 3 then decide (c < 0) else if op = 4 then decide (c ≤ 0) else if op = 5 then decide (0 < c) else if op = 6 then decide (0 ≤ c) else false
def V.fits (a : V) (op : Int) (b : V) : Bool := if a.k = 0 ∨ b.k = 0 ∨ rank a.k = 3 ∨ rank b.k = 3 then false else if a.k ≠ b.k then decide (op = 2) else opHolds op (V.cmp a b)
theorem repl_nil (old new : List UInt8) (h : old ≠ []) : ∀ k, Lib.replaceK old new k [] = []
  | 0 => rfl
  | k + 1 => by
    unfold Lib.replaceK
    have : Lib.index [] old = -1 := by unfold Lib.index; cases old with | nil => exact absurd rfl h | cons a l => rfl
    rw [this]; rfl
theorem repl_skip (c : UInt8) (new : List UInt8) (b : UInt8) (l : List UInt8) (h : b ≠ c) (k : Nat) : Lib.replaceK [c] new k (b :: l) = b :: Lib.replaceK [c] new k l := by
  cases k with
  | zero => rfl
  | succ k =>
    have hp : ([c].isPrefixOf (b :: l)) = false := by simp [List.isPrefixOf, Ne.symm h]
    by_cases hi : Lib.index l [c] = -1
    · have h2 : Lib.index (b :: l) [c] = -1 := by unfold Lib.index; rw [hp, hi]; rfl
      unfold Lib.replaceK
      rw [h2, hi]; rfl
    · have hge := Lib.index_ge l [c]
      obtain ⟨i, hi2⟩ : ∃ i : Nat, Lib.index l [c] = i := ⟨(Lib.index l [c]).toNat, by omega⟩
      have h2 : Lib.index (b :: l) [c] = ((i + 1 : Nat) : Int) := by
        unfold Lib.index
        rw [hp, hi2]
        simp
      rw [Lib.replaceK_hit _ _ _ _ _ h2, Lib.replaceK_hit _ _ _ _ _ hi2]
      simp
theorem repl_hit (c : UInt8) (new : List UInt8) (l : List UInt8) (k : Nat) : Lib.replaceK [c] new (k + 1) (c :: l) = new ++ Lib.replaceK [c] new k l := by
  have h2 : Lib.index (c :: l) [c] = ((0 : Nat) : Int) := by unfold Lib.index; simp [List.isPrefixOf]
  rw [Lib.replaceK_hit _ _ _ _ _ h2]
  simp
theorem repl_esc (c : UInt8) (new : List UInt8) : ∀ s : List UInt8, Lib.replaceK [c] new (s.count c) s = esc c new s
  | [] => repl_nil _ _ (by simp) _
  | b :: l => by
    by_cases h : b = c
    · subst h
      rw [List.count_cons_self, repl_hit, repl_esc b new l]
      simp [esc]
    · rw [List.count_cons_of_ne h, repl_skip c new b l h, repl_esc c new l]
      simp [esc, h]
theorem replaceAll_esc (c : UInt8) (new : List UInt8) (hn : [c] ≠ new) (s : List UInt8) : Lib.replaceAll s [c] new = esc c new s := by
  unfold Lib.replaceAll Lib.replace
  have h1 : ([c] == new) = false := by simpa using hn
  have h2 : Lib.replaceNum s [c] (-1) = s.count c := by unfold Lib.replaceNum; rw [if_pos (.inl (by decide)), Lib.count_one]
  rw [h1, h2]
  exact repl_esc c new s
theorem esc_len (c : UInt8) (new : List UInt8) (hn : new.length ≤ 2) : ∀ s, (esc c new s).length ≤ 2 * s.length
  | [] => by simp [esc]
  | b :: l => by
    have := esc_len c new hn l
    unfold esc at this ⊢
    rw [List.flatMap_cons, List.length_append, List.length_cons]
    split <;> (first | omega | (simp only [List.length_singleton]; omega))
theorem esc_append (c : UInt8) (new s t : List UInt8) : esc c new (s ++ t) = esc c new s ++ esc c new t := by simp [esc]
end Go.VB.Rec

/- from XVG.lean.tpl -/
namespace Go.Proofs.Ytiimomgbklgicaa
open Go.RowKit Go.VB Go.VB.Oct Go.VB.Rec
theorem size_V : (Try.prog.info? 30).map (·.size) = some 3 := by kernel_rfl
end Go.Proofs.Ytiimomgbklgicaa

/- from XVO.lean.tpl -/
namespace Go.VB.Rec
structure Ord {α : Type} (c : α → α → Int) : Prop where
  rng : ∀ a b, c a b = -1 ∨ c a b = 0 ∨ c a b = 1
  anti : ∀ a b, c b a = - c a b
  tr : ∀ a b d, c a b ≤ 0 → c b d ≤ 0 → c a d ≤ 0
namespace Ord
variable {α : Type} {c : α → α → Int}
theorem refl (h : Ord c) (a : α) : c a a = 0 := by have := h.anti a a; omega
theorem lt1 (h : Ord c) {a b d : α} (h1 : c a b < 0) (h2 : c b d ≤ 0) : c a d < 0 := by
  have h3 := h.tr a b d (by omega) h2
  have := h.anti a d
  have := h.anti a b
  by_cases h4 : c a d = 0
  · have := h.tr b d a h2 (by omega); omega
  · omega
theorem lt2 (h : Ord c) {a b d : α} (h1 : c a b ≤ 0) (h2 : c b d < 0) : c a d < 0 := by
  have h3 := h.tr a b d h1 (by omega)
  have := h.anti a d
  have := h.anti b d
  by_cases h4 : c a d = 0
  · have := h.tr d a b (by omega) h1; omega
  · omega
theorem eq0 (h : Ord c) {a b d : α} (h1 : c a b = 0) (h2 : c b d = 0) : c a d = 0 := by
  have h3 := h.tr a b d (by omega) (by omega)
  have := h.anti a d
  have := h.anti a b
  have := h.anti b d
  have := h.tr d b a (by omega) (by omega)
  omega
theorem ge (h : Ord c) {a b d : α} (h1 : 0 ≤ c a b) (h2 : 0 ≤ c b d) : 0 ≤ c a d := by
  have := h.anti a d
  have := h.anti a b
  have := h.anti b d
  have := h.tr d b a (by omega) (by omega)
  omega
end Ord
def lexC {α : Type} (c : α → α → Int) : List α → List α → Int
  | a :: l, b :: m => if c a b ≠ 0 then c a b else lexC c l m
  | [], [] => 0
  | [], _ :: _ => -1
  | _ :: _, [] => 1
theorem Ord.lex {α : Type} {c : α → α → Int} (h : Ord c) : Ord (lexC c) where
  rng := by
    intro l
    induction l with
    | nil => intro m; cases m <;> simp [lexC]
    | cons a l ih =>
      intro m
      cases m with
      | nil => simp [lexC]
      | cons b m =>
        unfold lexC
        split
        · exact h.rng a b
        · exact ih m
  anti := by
    intro l
    induction l with
    | nil => intro m; cases m <;> simp [lexC]
    | cons a l ih =>
      intro m
      cases m with
      | nil => simp [lexC]
      | cons b m =>
        have := h.anti a b
        unfold lexC
        by_cases h0 : c a b = 0
        · rw [if_neg (by omega), if_neg (by omega)]; exact ih m
        · rw [if_pos (by omega), if_pos (by omega)]; omega
  tr := by
    intro l
    induction l with
    | nil =>
      intro m n h1 h2
      cases n with
      | nil => simp [lexC]
      | cons d n => simp [lexC]
    | cons a l ih =>
      intro m n h1 h2
      cases m with
      | nil => simp [lexC] at h1
      | cons b m =>
        cases n with
        | nil => simp [lexC] at h2
        | cons d n =>
          unfold lexC at h1 h2 ⊢
          by_cases x0 : c a b = 0
          · rw [if_neg (by omega)] at h1
            by_cases y0 : c b d = 0
            · rw [if_neg (by omega)] at h2
              rw [if_neg (by have := h.eq0 x0 y0; omega)]
              exact ih m n h1 h2
            · rw [if_pos y0] at h2
              have := h.lt2 (a := a) (b := b) (d := d) (by omega) (by omega)
              rw [if_pos (by omega)]; omega
          · rw [if_pos x0] at h1
            have hy : c b d ≤ 0 := by
              by_cases y0 : c b d = 0
              · omega
              · rw [if_pos y0] at h2; exact h2
            have := h.lt1 (a := a) (b := b) (d := d) (by omega) hy
            rw [if_pos (by omega)]; omega
theorem ord_int : Ord Lib.compareInt where
  rng := by intro a b; unfold Lib.compareInt; split <;> (try split) <;> omega
  anti := by intro a b; unfold Lib.compareInt; split <;> split <;> (try split) <;> (try split) <;> omega
  tr := by
    intro a b d
    unfold Lib.compareInt
    split <;> split <;> (try split) <;> (try split) <;> (try split) <;> (try split) <;> omega
theorem ord_by {α β : Type} {c : β → β → Int} (h : Ord c) (f : α → β) : Ord (fun a b => c (f a) (f b)) := ⟨fun a b => h.rng _ _, fun a b => h.anti _ _, fun a b d => h.tr _ _ _⟩
theorem bytes_lex : ∀ a b : List UInt8, Lib.compareBytes a b = lexC (fun x y : UInt8 => Lib.compareInt x.toNat y.toNat) a b
  | [], [] => rfl
  | [], _ :: _ => rfl
  | _ :: _, [] => rfl
  | x :: a, y :: b => by
    unfold Lib.compareBytes lexC
    rw [bytes_lex a b]
    generalize lexC (fun x y : UInt8 => Lib.compareInt x.toNat y.toNat) a b = z
    unfold Lib.compareInt
    by_cases h1 : x < y
    · have : x.toNat < y.toNat := UInt8.lt_iff_toNat_lt.1 h1
      rw [if_pos h1, if_pos (show (x.toNat : Int) < (y.toNat : Int) by omega)]; rfl
    · have g1 : ¬ x.toNat < y.toNat := fun h => h1 (UInt8.lt_iff_toNat_lt.2 h)
      rw [if_neg h1, if_neg (show ¬ (x.toNat : Int) < (y.toNat : Int) by omega)]
      by_cases h2 : y < x
      · have : y.toNat < x.toNat := UInt8.lt_iff_toNat_lt.1 h2
        rw [if_pos h2, if_pos (show (x.toNat : Int) > (y.toNat : Int) by omega)]; rfl
      · have g2 : ¬ y.toNat < x.toNat := fun h => h2 (UInt8.lt_iff_toNat_lt.2 h)
        rw [if_neg h2, if_neg (show ¬ (x.toNat : Int) > (y.toNat : Int) by omega)]; simp
theorem ord_bytes : Ord Lib.compareBytes := by
  have e : Lib.compareBytes = lexC (fun x y : UInt8 => Lib.compareInt x.toNat y.toNat) := by funext a b; exact bytes_lex a b
  rw [e]
  exact (ord_by ord_int (fun x : UInt8 => (x.toNat : Int))).lex
/-- values of one rank -/
def subC (r : Int) (a b : V) : Int := if r = 1 then Lib.compareInt a.n b.n else if r = 2 then Lib.compareBytes a.s b.s else 0
theorem ord_sub (r : Int) : Ord (subC r) := by
  unfold subC
  by_cases h1 : r = 1
  · simp only [h1, if_true]; exact ord_by ord_int V.n
  · by_cases h2 : r = 2
    · subst h2; exact ord_by ord_bytes V.s
    · simp only [h1, h2, if_false]; exact ⟨fun _ _ => .inr (.inl rfl), fun _ _ => rfl, fun _ _ _ _ _ => Int.le_refl _⟩
theorem cmp_rank (a b : V) : V.cmp a b = if Lib.compareInt (rank a.k) (rank b.k) ≠ 0 then Lib.compareInt (rank a.k) (rank b.k) else subC (rank a.k) a b := by
  have h0 : Lib.compareInt (rank a.k) (rank b.k) = 0 ↔ rank a.k = rank b.k := by unfold Lib.compareInt; split <;> (try split) <;> omega
  unfold V.cmp
  by_cases h : rank a.k = rank b.k
  · rw [if_neg (show ¬ (rank a.k ≠ rank b.k) from fun g => g h), if_neg (show ¬ (Lib.compareInt (rank a.k) (rank b.k) ≠ 0) from fun g => g (h0.2 h))]
    unfold subC
    have h1 : a.k = 1 ↔ rank a.k = 1 := by unfold rank; split <;> omega
    have h2 : a.k = 2 ↔ rank a.k = 2 := by unfold rank; split <;> omega
    by_cases g1 : a.k = 1
    · rw [if_pos g1, if_pos (h1.1 g1)]
    · rw [if_neg g1, if_neg (fun h => g1 (h1.2 h))]
      by_cases g2 : a.k = 2
      · rw [if_pos g2, if_pos (h2.1 g2)]
      · rw [if_neg g2, if_neg (fun h => g2 (h2.2 h))]
  · rw [if_pos h, if_pos (fun e => h (h0.1 e))]
theorem ord_cmp : Ord V.cmp where
  rng := by
    intro a b
    rw [cmp_rank]
    split
    · exact ord_int.rng _ _
    · exact (ord_sub _).rng _ _
  anti := by
    intro a b
    have h := ord_int.anti (rank a.k) (rank b.k)
    rw [cmp_rank, cmp_rank]
    by_cases h0 : Lib.compareInt (rank a.k) (rank b.k) = 0
    · have e : rank a.k = rank b.k := by unfold Lib.compareInt at h0; split at h0 <;> (try split at h0) <;> omega
      rw [if_neg (by omega), if_neg (by omega), ← e]
      exact (ord_sub _).anti a b
    · rw [if_pos (by omega), if_pos (by omega)]; exact h
  tr := by
    intro a b d
    have key : ∀ x y : V, Lib.compareInt (rank x.k) (rank y.k) = 0 → rank x.k = rank y.k := fun x y h0 => by unfold Lib.compareInt at h0; split at h0 <;> (try split at h0) <;> omega
    rw [cmp_rank, cmp_rank, cmp_rank]
    intro h1 h2
    by_cases x0 : Lib.compareInt (rank a.k) (rank b.k) = 0
    · rw [if_neg (by omega)] at h1
      have ea := key _ _ x0
      rw [ea] at h1 ⊢
      by_cases y0 : Lib.compareInt (rank b.k) (rank d.k) = 0
      · rw [if_neg (by omega)] at h2
        rw [if_neg (by omega)]
        exact (ord_sub _).tr a b d h1 h2
      · rw [if_pos y0] at h2
        rw [if_pos y0]; exact h2
    · rw [if_pos x0] at h1
      have hy : Lib.compareInt (rank b.k) (rank d.k) ≤ 0 := by
        by_cases y0 : Lib.compareInt (rank b.k) (rank d.k) = 0
        · omega
        · rw [if_pos y0] at h2; exact h2
      have := ord_int.lt1 (a := rank a.k) (b := rank b.k) (d := rank d.k) (by omega) hy
      rw [if_pos (by omega)]; omega
theorem rows_lex : ∀ l m : List V, rowsCmp l m = lexC V.cmp l m
  | [], [] => rfl
  | [], _ :: _ => rfl
  | _ :: _, [] => rfl
  | x :: a, y :: b => by unfold rowsCmp lexC; rw [rows_lex a b]
theorem ord_rows : Ord rowsCmp := by
  have e : rowsCmp = lexC V.cmp := by funext a b; exact rows_lex a b
  rw [e]
  exact ord_cmp.lex
end Go.VB.Rec

