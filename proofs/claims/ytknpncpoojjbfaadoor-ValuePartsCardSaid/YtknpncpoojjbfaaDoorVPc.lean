import Derived.Test.YtknpncpoojjbfaaDoorVPa
import Derived.Test.YtknpncpoojjbfaaDoorVPb
import Derived.Deep.CutBlock
import Derived.Laws.BitsLemmas
import Derived.Lib.OthersKept
import Derived.WalkSmall
/- from XRecA.lean.tpl -/
set_option linter.unusedVariables false
namespace Go.Proofs.YtknpncpoojjbfaaDoor
open Go.RowKit Go.VB Go.VB.Oct Go.VB.Rec
/-- the first place where p holds, or -1 -/
def firstAt {α : Type} (p : α → Bool) (l : List α) : Int := if l.any p then ((l.findIdx p : Nat) : Int) else -1
theorem firstAt_hit {α : Type} {p : α → Bool} {l : List α} {j : Nat} (hj : j < l.length) (h : ∀ i (hi : i < j), p (l[i]'(by omega)) = false) (hp : p l[j] = true) : firstAt p l = (j : Int) := by
  unfold firstAt
  rw [if_pos (List.any_eq_true.2 ⟨l[j], List.getElem_mem hj, hp⟩)]
  congr 1
  rw [List.findIdx_eq hj]
  exact ⟨hp, fun i hi => h i hi⟩
theorem firstAt_none {α : Type} {p : α → Bool} {l : List α} (h : ∀ i (hi : i < l.length), p l[i] = false) : firstAt p l = -1 := by
  unfold firstAt
  rw [if_neg]
  intro hh
  obtain ⟨x, hx, hp⟩ := List.any_eq_true.1 hh
  obtain ⟨i, hi, rfl⟩ := List.getElem_of_mem hx
  rw [h i hi] at hp
  cases hp
theorem firstAt_ge {α : Type} (p : α → Bool) (l : List α) : decide (0 ≤ firstAt p l) = l.any p := by
  unfold firstAt
  cases l.any p with
  | true => rw [if_pos rfl]; exact decide_eq_true (by omega)
  | false => rw [if_neg (by decide)]; rfl
def eagg (e : E) : Value := .agg e.cells.toArray
theorem ecells_len (e : E) : e.cells.length = 3 := rfl
theorem icell_len (x : Int) : (icell x).length = 1 := rfl
theorem flat1 {α : Type} (f : α → List Value) (hf : ∀ x, (f x).length = 1) : ∀ (L : List α) (j : Nat) (h : j < L.length), (L.flatMap f)[j]? = (f L[j])[0]?
  | x :: L, 0, _ => by simp [List.getElem?_append, hf]
  | x :: L, j + 1, h => by
    rw [List.flatMap_cons, List.getElem?_append_right (by rw [hf]; omega), hf, Nat.add_sub_cancel, flat1 f hf L j (by simpa using h)]
    rfl
theorem sl_cell1 {α : Type} {R : Nat → Prop} {w : World} {a : Option Addr} {c : Nat} {f : α → List Value} (hf : ∀ x, (f x).length = 1) {L : List α} (h : Sl R w (.slice a L.length c) L.length (L.flatMap f)) (hL : L ≠ []) :
    ∃ g o, a = some ⟨g, o, none⟩ ∧ R g ∧ ∀ j (hj : j < L.length), w.cell? ⟨g, o + j, none⟩ = (f L[j])[0]? := by
  obtain ⟨a', cap, he, hc, hx⟩ := h
  cases he
  obtain ⟨g, o, rfl, hR, hr⟩ := hx (by
    cases L with
    | nil => exact absurd rfl hL
    | cons x L => intro hh; have := congrArg List.length hh; simp [hf] at this)
  refine ⟨g, o, rfl, hR, fun j hj => ?_⟩
  have hfl := flat1 f hf L j hj
  cases hh : (f L[j])[0]? with
  | none => rw [List.getElem?_eq_none_iff, hf] at hh; omega
  | some u => rw [hh] at hfl; exact hr _ u hfl
/-- the three cells of element j -/
theorem sl_three {α : Type} {R : Nat → Prop} {w : World} {a : Option Addr} {c : Nat} {f : α → List Value} (hf : ∀ x, (f x).length = 3) {L : List α} (h : Sl R w (.slice a L.length c) L.length (L.flatMap f)) {j : Nat} (hj : j < L.length) :
    ∃ g o, a = some ⟨g, o, none⟩ ∧ R g ∧ w.cell? ⟨g, o + j * 3, none⟩ = (f L[j])[0]? ∧ w.cell? ⟨g, o + j * 3 + 1, none⟩ = (f L[j])[1]? ∧ w.cell? ⟨g, o + j * 3 + 2, none⟩ = (f L[j])[2]? := by
  obtain ⟨g, o, rfl, hg, hcell⟩ := sl_cell3 (f := f) hf h (fun h => by subst h; cases hj)
  exact ⟨g, o, rfl, hg, hcell j hj 0 (by omega), hcell j hj 1 (by omega), hcell j hj 2 (by omega)⟩
end Go.Proofs.YtknpncpoojjbfaaDoor

/- from XRecB.lean.tpl -/
namespace Go.Proofs.YtknpncpoojjbfaaDoor
open Go.RowKit Go.VB Go.VB.Oct Go.VB.Rec
theorem beq_dec (a b : List UInt8) : ((bs a).toList == (bs b).toList) = decide (a = b) := by
  rw [Lib.toList_data, Lib.toList_data]
  by_cases h : a = b
  · simp [h]
  · simp [h, bs]
theorem run_rune0 (w : World) : (convert 21 9 (.int .i32 0)).run Tryd.prog w = .ok (.string (bs [0])) w := by kernel_rfl
theorem run_rune1 (w : World) : (convert 21 9 (.int .i32 1)).run Tryd.prog w = .ok (.string (bs [1])) w := by kernel_rfl
theorem run_rune2 (w : World) : (convert 21 9 (.int .i32 2)).run Tryd.prog w = .ok (.string (bs [2])) w := by kernel_rfl
end Go.Proofs.YtknpncpoojjbfaaDoor

/- from XMk.lean.tpl -/
namespace Go.VB
open Go.RowKit
theorem madeCells_flat (z : List Value) (n : Nat) : (madeCells z.toArray (n * z.length)).toList = (List.replicate n z).flatten := by
  have h : ∀ n, (List.range (n * z.length)).map (fun i => z.toArray[i % z.toArray.size]!) = (List.replicate n z).flatten := by
    intro n
    induction n with
    | zero => simp
    | succ n ih =>
      rw [Nat.succ_mul, List.range_add, List.map_append, ih, List.replicate_succ', List.flatten_append]
      congr 1
      simp only [List.map_map, List.flatten_singleton]
      apply List.ext_getElem
      · simp
      · intro i h1 h2
        simp at h1
        simp [Nat.mod_eq_of_lt h1, Nat.add_mod, h1]
  simpa [madeCells] using h n
theorem run_make_rows {P : Program} (w : World) {t e : TypeId} {zv : Value} {z : List Value} {size bytes : Nat} (ht : P.underlying t = some (.slice e)) (hi : (P.info? e).map (fun i => (i.zero, i.size, i.bytes)) = some (some zv, size, bytes)) (hz : zv.cells = z.toArray) (hs : z.length = size)
    (n : Nat) (hc : n * size ≤ 16777216) (hb : bytes * n ≤ 281474976710656) (h63 : n ≤ 1099511627776) :
    (Instr.makeSlice t (.int .i64 n) (.int .i64 n)).run P w = .ok (.slice (some ⟨w.heap.size, 0, none⟩) n n) (w.alloc (.cells (List.replicate n z).flatten.toArray e)) := by
  obtain ⟨i, h0, h1, h2, h3⟩ := info_parts hi
  subst h2; subst h3
  have := run_makeSlice w t e i _ ht h0 h1 .i64 .i64 n n (by omega) (by omega) (by rw [Int.toNat_natCast]; exact hc) (by rw [← Int.natCast_mul]; omega) (by omega)
  rw [this]
  have e2 : madeCells zv.cells (n * i.size) = (List.replicate n z).flatten.toArray := by
    apply Array.toList_inj.1
    rw [List.toList_toArray, ← madeCells_flat, ← hs, hz]
  simp only [Int.toNat_natCast, e2]
theorem wpList_makeSlice {P : Program} {ops : Array Oper} {rest : List Oper} {op : Oper} {a : Act} {w : World} {Q : Exit → Act → World → Prop} (hgd : op.guard = none) {t : TypeId} {lo co : Operand} (ho : op.op = .makeSlice t lo co)
    {v : Value} {w' : World} (hr : (Instr.makeSlice t (a.eval lo) (a.eval co)).run P w = .ok v w') (h : wpList P ops Q rest (a.put op.dst v) w') : wpList P ops Q (op :: rest) a w :=
  wpList_plain hgd fun _ hK => by
    unfold Oper.wp execOp
    simp only [ho, hr, Sem.run_bind, Sem.run_pure, Result.andThen_ok]
    exact hK _ _ h
theorem flat_rep1 (v : Value) (n : Nat) : (List.replicate n [v]).flatten = List.replicate n v := by
  induction n with
  | zero => rfl
  | succ n ih => rw [List.replicate_succ, List.flatten_cons, ih, List.replicate_succ]; rfl
theorem and_mask (m : Nat) (k n : Int) (hk : (BitVec.ofInt 64 k).toNat = 2 ^ m - 1) (hm : m ≤ 32) : bits .and .i64 n k = n % (2 ^ m : Nat) := by
  have key : (BitVec.ofInt 64 n &&& BitVec.ofInt 64 k).toNat = (n % ((2 ^ 64 : Nat) : Int)).toNat % 2 ^ m := by
    rw [BitVec.toNat_and, BitVec.toNat_ofInt, hk, Nat.and_two_pow_sub_one_eq_mod]
  show IntKind.i64.wrap ((BitVec.ofInt 64 n &&& BitVec.ofInt 64 k).toNat : Nat) = n % (2 ^ m : Nat)
  rw [key, IntKind.wrap_i64]
  have hp : 2 ^ m ≤ 2 ^ 32 := Nat.pow_le_pow_right (by omega) hm
  have h0 : 0 < 2 ^ m := Nat.pow_pos (by omega)
  have hd : 2 ^ m ∣ 2 ^ 64 := Nat.pow_dvd_pow 2 (by omega)
  have h1 : 0 ≤ n % ((2 ^ 64 : Nat) : Int) := Int.emod_nonneg _ (by decide)
  have h2 : (n % ((2 ^ 64 : Nat) : Int)).toNat % 2 ^ m < 2 ^ m := Nat.mod_lt _ h0
  have h3 : (((n % ((2 ^ 64 : Nat) : Int)).toNat % 2 ^ m : Nat) : Int) = n % ((2 ^ m : Nat) : Int) := by
    rw [Int.natCast_emod, Int.toNat_of_nonneg h1]
    exact Int.emod_emod_of_dvd n (Int.natCast_dvd_natCast.2 hd)
  rw [← h3]
  generalize (n % ((2 ^ 64 : Nat) : Int)).toNat % 2 ^ m = x at *
  generalize 2 ^ m = y at *
  omega
theorem and_16 (n : Int) : ∃ a : Nat, bits .and .i64 n 65535 = (a : Int) ∧ a < 65536 ∧ (a : Int) = n % 65536 := by
  refine ⟨(n % 65536).toNat, ?_, by omega, by omega⟩
  rw [and_mask 16 65535 n (by decide) (by omega)]
  have : ((2 ^ 16 : Nat) : Int) = 65536 := by decide
  rw [this]
  omega
theorem and_24 (n : Int) : ∃ a : Nat, bits .and .i64 n 16777215 = (a : Int) ∧ a < 16777216 := by
  refine ⟨(n % 16777216).toNat, ?_, by omega⟩
  rw [and_mask 24 16777215 n (by decide) (by omega)]
  have : ((2 ^ 24 : Nat) : Int) = 16777216 := by decide
  rw [this]
  omega
end Go.VB

/- from XOctN.lean.tpl -/
namespace Go.VB.Oct
theorem num_foldl : ∀ (l : List UInt8) (a : Nat), l.foldl (fun n c => n * 256 + c.toNat) a = a * 256 ^ l.length + num l
  | [], a => by simp [num]
  | c :: l, a => by
    have h1 := num_foldl l (a * 256 + c.toNat)
    have h2 := num_foldl l c.toNat
    have h3 : num (c :: l) = l.foldl (fun n c => n * 256 + c.toNat) c.toNat := by simp [num]
    rw [List.foldl_cons, h1, h3, h2, List.length_cons, Nat.pow_succ]
    generalize 256 ^ l.length = k
    grind
theorem num_cons (c : UInt8) (l : List UInt8) : num (c :: l) = c.toNat * 256 ^ l.length + num l := by
  have h3 : num (c :: l) = l.foldl (fun n c => n * 256 + c.toNat) c.toNat := by simp [num]
  rw [h3, num_foldl]
theorem be_succ (n : Nat) {k : Nat} (h : k < 8) : be (k + 1) n = UInt8.ofNat (n / 256 ^ k) :: be k n := by
  unfold be
  rw [List.drop_eq_getElem_cons (by rw [be8_length]; omega)]
  have h8 : (be8 n)[8 - (k + 1)]'(by rw [be8_length]; omega) = byteAt n (8 - (k + 1)) := by
    have := be8_at n (8 - (k + 1)) (by omega)
    rw [List.getElem?_eq_getElem (by rw [be8_length]; omega)] at this
    exact Option.some.inj this
  rw [h8]
  have e1 : 7 - (8 - (k + 1)) = k := by omega
  have e2 : 8 - (k + 1) + 1 = 8 - k := by omega
  rw [e2]
  unfold byteAt
  rw [e1]
theorem be_zero (n : Nat) : be 0 n = [] := by simp [be, be8_length]
theorem num_be (n : Nat) : ∀ k, k ≤ 8 → num (be k n) = n % 256 ^ k
  | 0, _ => by rw [be_zero]; simp [num, Nat.mod_one]
  | k + 1, h => by
    rw [be_succ n (by omega), num_cons, be_length _ _ (by omega), num_be n k (by omega), Nat.pow_succ, Nat.mod_mul]
    have : (UInt8.ofNat (n / 256 ^ k)).toNat = n / 256 ^ k % 256 := by simp
    rw [this, Nat.mul_comm]
    omega
theorem num_be_lt {n k : Nat} (hk : k ≤ 8) (h : n < 256 ^ k) : num (be k n) = n := by rw [num_be n k hk, Nat.mod_eq_of_lt h]
theorem num_inj : ∀ {l m : List UInt8}, l.length = m.length → num l = num m → l = m
  | [], [], _, _ => rfl
  | [], _ :: _, h, _ => by simp at h
  | _ :: _, [], h, _ => by simp at h
  | c :: l, d :: m, h, e => by
    have hl : l.length = m.length := by simpa using h
    rw [num_cons, num_cons, hl] at e
    have h1 := num_lt l
    have h2 := num_lt m
    rw [hl] at h1
    have hp : 0 < 256 ^ m.length := Nat.pow_pos (by omega)
    have hc : c.toNat = d.toNat := by
      have e1 : (c.toNat * 256 ^ m.length + num l) / 256 ^ m.length = c.toNat := by rw [Nat.mul_comm, Nat.mul_add_div hp, Nat.div_eq_of_lt h1]; omega
      have e2 : (d.toNat * 256 ^ m.length + num m) / 256 ^ m.length = d.toNat := by rw [Nat.mul_comm, Nat.mul_add_div hp, Nat.div_eq_of_lt h2]; omega
      rw [← e1, e, e2]
    have hlm : num l = num m := by rw [hc] at e; omega
    rw [num_inj hl hlm]
    congr 1
    exact UInt8.toNat_inj.1 hc
theorem be_num {l : List UInt8} {k : Nat} (h : l.length = k) (hk : k ≤ 8) : be k (num l) = l := by
  refine num_inj (by rw [be_length _ _ hk, h]) ?_
  rw [num_be _ _ hk, Nat.mod_eq_of_lt]
  rw [← h]
  exact num_lt l
/-- nothing has failed, and t is still to come -/
structure RM.Has (r : RM) (t : List UInt8) : Prop where
  ok : r.failed = false
  rest : r.s.drop r.at_ = t
  le : r.at_ ≤ r.s.length
namespace RM
variable {r : RM} {t x : List UInt8}
theorem Has.new (s : List UInt8) : (RM.new s).Has s := ⟨rfl, rfl, Nat.zero_le _⟩
theorem Has.left (h : r.Has t) : r.left = t.length := by rw [← h.rest, List.length_drop]; rfl
theorem Has.take (h : r.Has t) {n : Nat} (hn : n ≤ t.length) : r.take n = ({ r with at_ := r.at_ + n }, t.take n) ∧ ({ r with at_ := r.at_ + n } : RM).Has (t.drop n) := by
  have hl := h.left
  constructor
  · unfold RM.take RM.bad
    rw [if_neg (by rw [h.ok, hl]; simp; omega), h.rest]
  · refine ⟨h.ok, ?_, ?_⟩
    · show r.s.drop (r.at_ + n) = _
      rw [← h.rest, List.drop_drop]
    · show r.at_ + n ≤ r.s.length
      have := h.le
      unfold RM.left at hl
      omega
theorem Has.bad (h : r.Has t) {n : Nat} (hn : t.length < n) : r.take n = ({ r with failed := true }, []) := by
  unfold RM.take RM.bad
  rw [if_pos (by rw [h.ok, h.left]; simpa using hn)]
theorem take_failed (h : r.failed = true) (n : Nat) : r.take n = (r, []) := by
  unfold RM.take RM.bad
  rw [if_pos (by rw [h]; rfl)]
  cases r
  cases h
  rfl
theorem num_failed (h : r.failed = true) (n : Nat) : r.num n = (r, 0) := by
  unfold RM.num
  rw [take_failed h]
  rfl
theorem text_failed (h : r.failed = true) : r.text = (r, []) := by
  unfold RM.text
  rw [num_failed h]
  dsimp only
  rw [take_failed h]
  dsimp only
  rw [if_pos h]
/-- a prefix is taken -/
theorem Has.app (h : r.Has (x ++ t)) {n : Nat} (hn : x.length = n) : ∃ r', r.take n = (r', x) ∧ r'.Has t ∧ r'.s = r.s ∧ r'.at_ = r.at_ + n := by
  subst hn
  have hh := h.take (n := x.length) (by simp)
  rw [List.take_left, List.drop_left] at hh
  exact ⟨_, hh.1, hh.2, rfl, rfl⟩
theorem Has.num (k : Nat) {n : Nat} (h : r.Has (be k n ++ t)) (hk : k ≤ 8) (hn : n < 256 ^ k) : ∃ r', r.num k = (r', n) ∧ r'.Has t ∧ r'.s = r.s ∧ r'.at_ = r.at_ + k := by
  obtain ⟨r', h1, h2, h3, h4⟩ := h.app (be_length k n hk)
  exact ⟨r', by unfold RM.num; rw [h1]; dsimp only; rw [num_be_lt hk hn], h2, h3, h4⟩
theorem Has.text (h : r.Has (Oct.text x ++ t)) (hx : x.length ≤ 65535) : ∃ r', r.text = (r', x) ∧ r'.Has t ∧ r'.s = r.s := by
  unfold Oct.text at h
  rw [List.append_assoc] at h
  obtain ⟨r1, h1, h2, h3, h4⟩ := h.num 2 (by omega) (by omega)
  obtain ⟨r2, g1, g2, g3, g4⟩ := h2.app rfl
  refine ⟨r2, ?_, g2, by rw [g3, h3]⟩
  unfold RM.text
  rw [h1]
  dsimp only
  rw [g1]
  dsimp only
  rw [if_neg (by rw [g2.ok]; simp)]
/-- what a number that was read says of the text -/
theorem Has.num_back (h : r.Has t) (k : Nat) (hk : k ≤ 8) (hf : (r.num k).1.failed = false) : ∃ u, t = be k (r.num k).2 ++ u ∧ (r.num k).1.Has u ∧ (r.num k).1.s = r.s ∧ (r.num k).1.at_ = r.at_ + k ∧ (r.num k).2 < 256 ^ k := by
  by_cases hn : k ≤ t.length
  · have hh := h.take hn
    have e : r.num k = ({ r with at_ := r.at_ + k }, Go.VB.Oct.num (t.take k)) := by unfold RM.num; rw [hh.1]
    have hlen : (t.take k).length = k := by rw [List.length_take]; omega
    rw [e]
    refine ⟨t.drop k, ?_, hh.2, rfl, rfl, ?_⟩
    · rw [be_num hlen hk, List.take_append_drop]
    · have := Go.VB.Oct.num_lt (t.take k)
      rwa [hlen] at this
  · have : (r.num k).1.failed = true := by unfold RM.num; rw [h.bad (by omega)]
    rw [this] at hf
    cases hf
theorem Has.take_back (h : r.Has t) (k : Nat) (hf : (r.take k).1.failed = false) : t = (r.take k).2 ++ t.drop k ∧ (r.take k).1.Has (t.drop k) ∧ k ≤ t.length ∧ (r.take k).2.length = k := by
  by_cases hn : k ≤ t.length
  · have hh := h.take hn
    rw [hh.1]
    exact ⟨(List.take_append_drop k t).symm, hh.2, hn, by rw [List.length_take]; omega⟩
  · rw [h.bad (by omega)] at hf
    cases hf
theorem failed_num {k : Nat} (h : (r.num k).1.failed = false) : r.failed = false := by
  cases hr : r.failed with
  | false => rfl
  | true => rw [num_failed hr] at h; exact absurd (hr.symm.trans h) (by decide)
theorem failed_text (h : r.text.1.failed = false) : r.failed = false := by
  cases hr : r.failed with
  | false => rfl
  | true => rw [text_failed hr] at h; exact absurd (hr.symm.trans h) (by decide)
theorem Has.text_back (h : r.Has t) (hf : r.text.1.failed = false) : ∃ u, t = Oct.text r.text.2 ++ u ∧ r.text.1.Has u ∧ r.text.1.s = r.s ∧ r.text.2.length ≤ 65535 := by
  have e : r.text = (((r.num 2).1.take (r.num 2).2).1, ((r.num 2).1.take (r.num 2).2).2) ∧ ((r.num 2).1.take (r.num 2).2).1.failed = false := by
    cases hb : ((r.num 2).1.take (r.num 2).2).1.failed with
    | false => exact ⟨by unfold RM.text; dsimp only; rw [if_neg (by rw [hb]; simp)], rfl⟩
    | true =>
      exfalso
      have : r.text.1.failed = true := by unfold RM.text; dsimp only; rw [if_pos hb]; exact hb
      rw [this] at hf
      cases hf
  obtain ⟨e1, e2⟩ := e
  have e3 : (r.num 2).1.failed = false := by
    cases hb : (r.num 2).1.failed with
    | false => rfl
    | true => rw [take_failed hb] at e2; exact absurd (hb.symm.trans e2) (by decide)
  obtain ⟨u, h1, h2, h3, h4, h5⟩ := h.num_back 2 (by omega) e3
  obtain ⟨g1, g2, g3, g4⟩ := h2.take_back _ e2
  rw [e1]
  refine ⟨u.drop (r.num 2).2, ?_, g2, by rw [RM.take_s]; exact h3, by dsimp only; omega⟩
  dsimp only
  unfold Oct.text
  rw [g4, List.append_assoc, ← g1]
  exact h1
end RM
end Go.VB.Oct

/- from XRecC.lean.tpl -/
namespace Go.Proofs.YtknpncpoojjbfaaDoor
open Go.RowKit Go.VB Go.VB.Oct Go.VB.Rec
theorem any_not {α : Type} (p : α → Bool) (l : List α) : (l.any fun x => !p x) = !l.all p := by
  induction l with
  | nil => rfl
  | cons x l ih => rw [List.any_cons, List.all_cons, ih, Bool.not_and]
/-- a record as a value: four slices that lie where P holds -/
def rv (r : R) (vo vn ve vx : Value) : List Value := [.int .i64 r.kind, .int .i64 r.xid, .int .i64 r.table, vo, vn, ve, vx, .string (bs r.note)]
structure RV (P : Nat → Prop) (w : World) (r : R) (vo vn ve vx : Value) : Prop where
  o : Sl P w vo r.old.length (r.old.flatMap V.cells)
  n : Sl P w vn r.new.length (r.new.flatMap V.cells)
  e : Sl P w ve r.edits.length (r.edits.flatMap E.cells)
  x : Sl P w vx r.xids.length (r.xids.flatMap icell)
  lo : r.old.length ≤ 1099511627776
  ln : r.new.length ≤ 1099511627776
  le : r.edits.length ≤ 1099511627776
  lx : r.xids.length ≤ 1099511627776
  lt : ∀ k, P k → k < w.heap.size
namespace RV
variable {P : Nat → Prop} {w w' : World} {r : R} {vo vn ve vx : Value}
theorem fr {S : Nat → Prop} (h : RV P w r vo vn ve vx) (f : Fr S w w') (hS : ∀ k, P k → ¬ S k) : RV P w' r vo vn ve vx :=
  ⟨h.o.fr f hS, h.n.fr f hS, h.e.fr f hS, h.x.fr f hS, h.lo, h.ln, h.le, h.lx, fun k hk => Nat.lt_of_lt_of_le (h.lt k hk) f.size⟩
theorem fre (h : RV P w r vo vn ve vx) (f : Fr (fun _ => False) w w') : RV P w' r vo vn ve vx := h.fr f (fun _ _ h => h)
theorem slices (h : RV P w r vo vn ve vx) : ∃ a1 c1 a2 c2 a3 c3 a4 c4, vo = .slice a1 r.old.length c1 ∧ vn = .slice a2 r.new.length c2 ∧ ve = .slice a3 r.edits.length c3 ∧ vx = .slice a4 r.xids.length c4 := by
  obtain ⟨a1, c1, h1, -⟩ := h.o
  obtain ⟨a2, c2, h2, -⟩ := h.n
  obtain ⟨a3, c3, h3, -⟩ := h.e
  obtain ⟨a4, c4, h4, -⟩ := h.x
  exact ⟨a1, c1, a2, c2, a3, c3, a4, c4, h1, h2, h3, h4⟩
end RV
def win (n a b : Int) : Bool := decide (a ≤ n) && decide (n ≤ b)
theorem right_win (r : R) : r.right = (win r.kind 1 10 && win r.xid 0 127 && win r.table 0 65535 && (decide (r.edits.length ≤ 64) && r.edits.all E.right) && (decide (r.xids.length ≤ 32) && r.xids.all fun x => win x 3 127) && row r.old && row r.new && decide (r.note.length ≤ 60000)) := by
  unfold R.right win
  simp only [Bool.and_assoc]
end Go.Proofs.YtknpncpoojjbfaaDoor

/- from XRecD.lean.tpl -/
namespace Go.Proofs.YtknpncpoojjbfaaDoor
open Go.RowKit Go.VB Go.VB.Oct Go.VB.Rec
/-- the first cells of a record -/
structure Six (w : World) (d : Nat) (a b c e f g : Value) : Prop where
  c0 : w.cell? ⟨d, 0, none⟩ = some a
  c1 : w.cell? ⟨d, 1, none⟩ = some b
  c2 : w.cell? ⟨d, 2, none⟩ = some c
  c3 : w.cell? ⟨d, 3, none⟩ = some e
  c4 : w.cell? ⟨d, 4, none⟩ = some f
  c5 : w.cell? ⟨d, 5, none⟩ = some g
theorem Six.fre {w w' : World} {d : Nat} {a b c e f g : Value} (h : Six w d a b c e f g) (k : Fr (fun _ => False) w w') : Six w' d a b c e f g :=
  ⟨cell_fr h.c0 k (fun h => h), cell_fr h.c1 k (fun h => h), cell_fr h.c2 k (fun h => h), cell_fr h.c3 k (fun h => h), cell_fr h.c4 k (fun h => h), cell_fr h.c5 k (fun h => h)⟩
structure Three (w : World) (d : Nat) (a b c : Value) : Prop where
  c0 : w.cell? ⟨d, 0, none⟩ = some a
  c1 : w.cell? ⟨d, 1, none⟩ = some b
  c2 : w.cell? ⟨d, 2, none⟩ = some c
theorem Three.fre {w w' : World} {d : Nat} {a b c : Value} (h : Three w d a b c) (k : Fr (fun _ => False) w w') : Three w' d a b c :=
  ⟨cell_fr h.c0 k (fun h => h), cell_fr h.c1 k (fun h => h), cell_fr h.c2 k (fun h => h)⟩
def R.head (r : R) : List UInt8 := be 1 r.kind.toNat ++ be 1 r.xid.toNat ++ be 2 r.table.toNat ++ text (rowBytes r.old) ++ text (rowBytes r.new) ++ be 1 r.edits.length
theorem rowBytes_le (r : List V) : (rowBytes r).length ≤ 253 := by
  unfold rowBytes
  split
  · rename_i h
    unfold row at h
    simp only [Bool.and_eq_true, decide_eq_true_eq, List.all_eq_true] at h
    rw [List.length_cons]
    have := vsum_le r h.2 h.1
    omega
  · simp
theorem text_len (s : List UInt8) : (text s).length = s.length + 2 := by
  unfold text
  rw [List.length_append, be_length _ _ (by omega)]
  omega
theorem head_le (r : R) : (R.head r).length ≤ 600 := by
  unfold R.head
  simp only [List.length_append, text_len, be_length _ _ (show 1 ≤ 8 by omega), be_length _ _ (show 2 ≤ 8 by omega)]
  have := rowBytes_le r.old
  have := rowBytes_le r.new
  omega
theorem ebytes_le (e : E) (h : e.right = true) : e.bytes.length ≤ 405 := by
  unfold E.bytes
  simp only [List.length_append, text_len, be_length _ _ (show 1 ≤ 8 by omega), be_length _ _ (show 2 ≤ 8 by omega)]
  have : e.item.length ≤ 400 := by
    unfold E.right at h
    split at h
    · simp only [Bool.and_eq_true, Bool.or_eq_true, decide_eq_true_eq] at h
      rcases h.2 with (h | h) | h <;> rw [h] <;> simp
    · simp only [Bool.and_eq_true, decide_eq_true_eq] at h
      omega
  omega
theorem flat_le {α : Type} (f : α → List UInt8) (k : Nat) : ∀ (l : List α), (∀ x ∈ l, (f x).length ≤ k) → (l.flatMap f).length ≤ k * l.length
  | [], _ => by simp
  | x :: l, h => by
    rw [List.flatMap_cons, List.length_append, List.length_cons]
    have h1 := h x (by simp)
    have h2 := flat_le f k l (fun v hv => h v (by simp [hv]))
    rw [Nat.mul_succ]
    omega
theorem right_parts {r : R} (h : r.right = true) : ∃ k x t : Nat, r.kind = k ∧ r.xid = x ∧ r.table = t ∧ k ≤ 10 ∧ x ≤ 127 ∧ t ≤ 65535 ∧ r.edits.length ≤ 64 ∧ (∀ e ∈ r.edits, e.right = true) ∧ r.xids.length ≤ 32 ∧ (∀ x ∈ r.xids, 3 ≤ x ∧ x ≤ 127) ∧ r.note.length ≤ 60000 := by
  unfold R.right at h
  simp only [Bool.and_eq_true, decide_eq_true_eq, List.all_eq_true] at h
  obtain ⟨⟨⟨⟨⟨⟨⟨⟨⟨⟨h1, h2⟩, h3⟩, h4⟩, h5⟩, h6⟩, h7, h8⟩, h9, h10⟩, h11⟩, h12⟩, h13⟩ := h
  exact ⟨r.kind.toNat, r.xid.toNat, r.table.toNat, by omega, by omega, by omega, by omega, by omega, by omega, h7, h8, h9, h10, h13⟩
theorem head_flat (k x t : Nat) (old new : List V) (edits : List E) (xids : List Int) (note : List UInt8) : [be 1 k, be 1 x, be 2 t, text (rowBytes old), text (rowBytes new), be 1 edits.length].flatten = R.head ⟨k, x, t, old, new, edits, xids, note⟩ := by
  simp [R.head, List.append_assoc]
theorem edit_parts {e : E} (h : e.right = true) : ∃ p s : Nat, e.page = p ∧ e.slot = (s : Int) - 1 ∧ p ≤ 399 ∧ s ≤ 24 ∧ e.item.length ≤ 400 := by
  have h1 := ebytes_le e h
  unfold E.right at h
  simp only [Bool.and_eq_true, decide_eq_true_eq] at h
  refine ⟨e.page.toNat, (e.slot + 1).toNat, by omega, ?_, by omega, ?_, ?_⟩
  · have := h.2
    split at this
    · omega
    · simp only [Bool.and_eq_true, decide_eq_true_eq] at this; omega
  · have := h.2
    split at this
    · omega
    · simp only [Bool.and_eq_true, decide_eq_true_eq] at this; omega
  · unfold E.bytes at h1
    simp only [List.length_append, text_len, be_length _ _ (show 1 ≤ 8 by omega), be_length _ _ (show 2 ≤ 8 by omega)] at h1
    omega
end Go.Proofs.YtknpncpoojjbfaaDoor

/- from XRecE.lean.tpl -/
namespace Go.Proofs.YtknpncpoojjbfaaDoor
open Go.RowKit Go.VB Go.VB.Oct Go.VB.Rec
theorem raw_le {r : R} (h : r.right = true) : (R.raw r).length ≤ 100000 := by
  obtain ⟨kn, xn, tn, hk, hx, ht, hk1, hx1, ht1, hle, hall, hxl, hxa, hnl⟩ := right_parts h
  have h1 := head_le r
  have h2 := flat_le E.bytes 405 r.edits (fun x hx => ebytes_le x (hall x hx))
  have h3 := flat_le (fun x : Int => be 1 x.toNat) 1 r.xids (fun x _ => Nat.le_of_eq (be_length _ _ (by omega)))
  rw [show R.raw r = R.head r ++ r.edits.flatMap E.bytes ++ be 1 r.xids.length ++ (r.xids.flatMap fun x => be 1 x.toNat) ++ text r.note from rfl]
  simp only [List.length_append, text_len, be_length _ _ (show 1 ≤ 8 by omega)]
  omega
end Go.Proofs.YtknpncpoojjbfaaDoor

/- from XRecF.lean.tpl -/
namespace Go.Proofs.YtknpncpoojjbfaaDoor
open Go.RowKit Go.VB Go.VB.Oct Go.VB.Rec
set_option maxRecDepth 20000
theorem take_eq_step {α : Type} {l m : List α} {j : Nat} (h1 : j < l.length) (h2 : j < m.length) (h : l.take j = m.take j) (he : l[j] = m[j]) : l.take (j + 1) = m.take (j + 1) := by
  rw [List.take_add_one, List.take_add_one, h, List.getElem?_eq_getElem h1, List.getElem?_eq_getElem h2, he]
theorem size_Value : (Tryd.prog.info? 28).map (·.size) = some 3 := by kernel_rfl
theorem bs_list_eq (a b : List UInt8) : ((bs a).toList = (bs b).toList) = (a = b) := by
  have := beq_dec a b
  by_cases h : a = b
  · simp [h]
  · rw [decide_eq_false h] at this
    simp only [h, eq_iff_iff, iff_false]
    exact fun e => by rw [e] at this; simp at this
theorem step_neq_Value {op : Oper} {a : Act} {w : World} (xo yo : Operand) (ho : op.op = .binOp .neq 28 xo yo 28) {x y : V} (hx : a.eval xo = .agg x.cells.toArray) (hy : a.eval yo = .agg y.cells.toArray) : (execOp a.eval op).run Tryd.prog w = .ok (.value (.bool (!decide (x = y)))) w := by
  unfold execOp
  simp only [ho, hx, hy]
  obtain ⟨k, n, s⟩ := x
  obtain ⟨k', n', s'⟩ := y
  unfold V.cells
  go_simp
  simp only [bs_list_eq]
  by_cases h1 : k = k' <;> by_cases h2 : n = n' <;> by_cases h3 : s = s' <;> simp [h1, h2, h3]
end Go.Proofs.YtknpncpoojjbfaaDoor

/- from XRdM.lean.tpl -/
namespace Go.VB.Rec
open Go.VB.Oct
/-- a row out of a text: reader, whether all fitted, the row -/
def rowsM (b : RM) (fits : Bool) : RM × Bool × List V := if b.text.1.failed then (b.text.1, fits, []) else (b.text.1, fits && decide ((readV b.text.2).2 = 0), (readV b.text.2).1)
def editsAt : Nat → RM → RM × List E
  | 0, b => (b, [])
  | j + 1, b => ((((editsAt j b).1.num 2).1.num 1).1.text.1, (editsAt j b).2 ++ [⟨((editsAt j b).1.num 2).2, (((editsAt j b).1.num 2).1.num 1).2 - 1, (((editsAt j b).1.num 2).1.num 1).1.text.2⟩])
def xidsAt : Nat → RM → RM × List Int
  | 0, b => (b, [])
  | j + 1, b => (((xidsAt j b).1.num 1).1, (xidsAt j b).2 ++ [(((xidsAt j b).1.num 1).2 : Int)])
def R.zero : R := ⟨0, 0, 0, [], [], [], [], []⟩
def rd3 (s : List UInt8) : RM := (((RM.new s).num 1).1.num 1).1.num 2 |>.1
def rdO (s : List UInt8) := rowsM (rd3 s) true
def rdN (s : List UInt8) := rowsM (rdO s).1 (rdO s).2.1
def rdE (s : List UInt8) := editsAt ((rdN s).1.num 1).2 ((rdN s).1.num 1).1
def rdX (s : List UInt8) := xidsAt ((rdE s).1.num 1).2 ((rdE s).1.num 1).1
def rdT (s : List UInt8) := (rdX s).1.text
def rdR (s : List UInt8) : R := ⟨((RM.new s).num 1).2, (((RM.new s).num 1).1.num 1).2, ((((RM.new s).num 1).1.num 1).1.num 2).2, (rdO s).2.2, (rdN s).2.2, (rdE s).2, (rdX s).2, (rdT s).2⟩
def readR (s : List UInt8) : R × Int := if (rdT s).1.failed then (R.zero, 10) else if !(rdN s).2.1 || decide (0 < (rdT s).1.left) || !(rdR s).right then (R.zero, 11) else (rdR s, 0)
theorem ok_rowsM {b : RM} (h : b.Ok) (fits : Bool) : (rowsM b fits).1.Ok := by
  unfold rowsM
  split <;> exact h.text
theorem ok_editsAt {b : RM} (h : b.Ok) : ∀ j, (editsAt j b).1.Ok
  | 0 => h
  | j + 1 => (((ok_editsAt h j).num 2).num 1).text
theorem ok_xidsAt {b : RM} (h : b.Ok) : ∀ j, (xidsAt j b).1.Ok
  | 0 => h
  | j + 1 => (ok_xidsAt h j).num 1
theorem editsAt_len (b : RM) : ∀ j, (editsAt j b).2.length = j
  | 0 => rfl
  | j + 1 => by simp [editsAt, editsAt_len b j]
theorem xidsAt_len (b : RM) : ∀ j, (xidsAt j b).2.length = j
  | 0 => rfl
  | j + 1 => by simp [xidsAt, xidsAt_len b j]
theorem readV_len (s : List UInt8) : (readV s).1.length ≤ 6 := by
  have hN : ∀ n s l u, readN n s = .ok (l, u) → l.length = n := by
    intro n
    induction n with
    | zero => intro s l u h; cases h; rfl
    | succ n ih =>
      intro s l u h
      unfold readN at h
      split at h
      · cases h
      · split at h
        · cases h
        · rename_i hh
          cases h
          rw [List.length_cons, ih _ _ _ hh]
  unfold readV
  cases s with
  | nil => simp
  | cons n s =>
    dsimp only
    split
    · simp
    · split
      · simp
      · rename_i hh; rw [hN _ _ _ _ hh]; omega
      · simp
theorem rowsM_len (b : RM) (fits : Bool) : (rowsM b fits).2.2.length ≤ 6 := by
  unfold rowsM
  split
  · simp
  · exact readV_len _
theorem readR_eq (s : List UInt8) {m1 m2 m3 mc md : RM × Nat} {mo mn : RM × Bool × List V} {me : RM × List E} {mx : RM × List Int} {mt : RM × List UInt8} (h1 : (RM.new s).num 1 = m1) (h2 : m1.1.num 1 = m2) (h3 : m2.1.num 2 = m3) (ho : rowsM m3.1 true = mo) (hn : rowsM mo.1 mo.2.1 = mn) (hc : mn.1.num 1 = mc) (he : editsAt mc.2 mc.1 = me) (hd : me.1.num 1 = md) (hx : xidsAt md.2 md.1 = mx) (ht : mx.1.text = mt) :
    readR s = if mt.1.failed then (R.zero, 10) else if !mn.2.1 || decide (0 < mt.1.left) || !(R.mk m1.2 m2.2 m3.2 mo.2.2 mn.2.2 me.2 mx.2 mt.2).right then (R.zero, 11) else (R.mk m1.2 m2.2 m3.2 mo.2.2 mn.2.2 me.2 mx.2 mt.2, 0) := by
  subst h1 h2 h3 ho hn hc he hd hx ht
  rfl
end Go.VB.Rec

/- from XRdN.lean.tpl -/
namespace Go.VB.Rec
open Go.VB.Oct Go.Proofs.YtknpncpoojjbfaaDoor
/-- a value with the fields that its kind ignores set to zero -/
def V.plain (v : V) : V := ⟨v.k, if v.k = 1 then v.n else 0, if v.k = 2 then v.s else []⟩
def V.In (v : V) : Prop := -9223372036854775808 ≤ v.n ∧ v.n ≤ 9223372036854775807
def R.plain (r : R) : R := { r with old := r.old.map V.plain, new := r.new.map V.plain }
theorem Has_to {r : RM} {t u : List UInt8} (h : r.Has t) (e : t = u) : r.Has u := e ▸ h
theorem int8_word {n : Int} (h : -9223372036854775808 ≤ n ∧ n ≤ 9223372036854775807) : int8 (be8 (word n)) = n := by
  have e : be8 (word n) = be 8 (word n) := by simp [be]
  unfold int8
  rw [e, num_be_lt (by omega) (word_lt n), IntKind.wrap_i64]
  unfold word
  omega
theorem right_kind {v : V} (h : v.right = true) : v.k = 0 ∨ v.k = 1 ∨ (v.k = 2 ∧ v.s.length ≤ 40) := by
  unfold V.right at h
  simp only [Bool.and_eq_true, Bool.or_eq_true, decide_eq_true_eq] at h
  omega
theorem readOne_bytes {v : V} (h : v.right = true) (hi : v.In) (t : List UInt8) : readOne (v.bytes ++ t) = .ok (v.plain, t) := by
  obtain ⟨k, n, s⟩ := v
  rcases right_kind h with hk | hk | ⟨hk, hs⟩
  · dsimp only at hk
    subst hk
    rfl
  · dsimp only at hk
    subst hk
    have hl : (be8 (word n)).length = 8 := be8_length _
    simp [V.bytes, V.plain, readOne, List.take_left' hl, List.drop_left' hl, int8_word hi, hl]
  · dsimp only at hk hs
    subst hk
    have hlen : (UInt8.ofNat s.length).toNat = s.length := by simp; omega
    have e1 : V.bytes ⟨2, n, s⟩ ++ t = 2 :: UInt8.ofNat s.length :: (s ++ t) := rfl
    have e2 : V.plain ⟨2, n, s⟩ = ⟨2, 0, s⟩ := rfl
    rw [e1, e2]
    unfold readOne
    dsimp only
    rw [if_neg (by decide), if_neg (by decide), if_pos rfl, hlen, if_neg (by omega), if_neg (by simp), List.take_left, List.drop_left]
theorem readN_bytes : ∀ (l : List V), (∀ v ∈ l, v.right = true) → (∀ v ∈ l, v.In) → ∀ t, readN l.length (l.flatMap V.bytes ++ t) = .ok (l.map V.plain, t)
  | [], _, _, t => rfl
  | v :: l, h, hi, t => by
    rw [List.flatMap_cons, List.append_assoc, List.length_cons]
    unfold readN
    rw [readOne_bytes (h v (by simp)) (hi v (by simp))]
    dsimp only
    rw [readN_bytes l (fun x hx => h x (by simp [hx])) (fun x hx => hi x (by simp [hx]))]
    rfl
theorem row_parts {l : List V} (h : row l = true) : l.length ≤ 6 ∧ ∀ v ∈ l, v.right = true := by
  unfold row at h
  simp only [Bool.and_eq_true, decide_eq_true_eq, List.all_eq_true] at h
  exact h
theorem readV_bytes {l : List V} (h : row l = true) (hi : ∀ v ∈ l, v.In) : readV (rowBytes l) = (l.map V.plain, 0) := by
  obtain ⟨h1, h2⟩ := row_parts h
  have hlen : (UInt8.ofNat l.length).toNat = l.length := by simp; omega
  unfold rowBytes
  rw [if_pos h]
  unfold readV
  dsimp only
  rw [hlen, if_neg (by omega)]
  have := readN_bytes l h2 hi []
  rw [List.append_nil] at this
  rw [this]
theorem rowsM_bytes {b : RM} {l : List V} {t : List UInt8} (hb : b.Has (text (rowBytes l) ++ t)) (h : row l = true) (hi : ∀ v ∈ l, v.In) (fits : Bool) : ∃ b', rowsM b fits = (b', fits, l.map V.plain) ∧ b'.Has t := by
  obtain ⟨b', h1, h2, h3⟩ := hb.text (by have := rowBytes_le l; omega)
  refine ⟨b', ?_, h2⟩
  unfold rowsM
  rw [h1]
  dsimp only
  rw [if_neg (by rw [h2.ok]; simp), readV_bytes h hi]
  simp
theorem editsAt_bytes {b : RM} {l : List E} {t : List UInt8} (hb : b.Has (l.flatMap E.bytes ++ t)) (h : ∀ e ∈ l, e.right = true) : ∀ j, j ≤ l.length → ∃ b', editsAt j b = (b', l.take j) ∧ b'.Has ((l.drop j).flatMap E.bytes ++ t)
  | 0, _ => ⟨b, by simp [editsAt], by simpa using hb⟩
  | j + 1, hj => by
    obtain ⟨b1, h1, h2⟩ := editsAt_bytes hb h j (by omega)
    have hd : l.drop j = l[j] :: l.drop (j + 1) := List.drop_eq_getElem_cons (by omega)
    obtain ⟨p, s, e1, e2, e3, e4, e5⟩ := edit_parts (h l[j] (List.getElem_mem _))
    have e6 : (((s : Int) - 1 + 1)).toNat = s := by omega
    have e7 : ((p : Int)).toNat = p := by omega
    have e8 : l[j].bytes = be 2 p ++ (be 1 s ++ text l[j].item) := by unfold E.bytes; rw [e1, e2, e6, e7, List.append_assoc]
    rw [hd, List.flatMap_cons, e8] at h2
    simp only [List.append_assoc] at h2
    obtain ⟨b2, g1, g2, _⟩ := h2.num 2 (by omega) (by omega)
    obtain ⟨b3, g3, g4, _⟩ := g2.num 1 (by omega) (by omega)
    obtain ⟨b4, g5, g6, _⟩ := g4.text (by omega)
    refine ⟨b4, ?_, g6⟩
    unfold editsAt
    rw [h1]
    dsimp only
    rw [g1]
    dsimp only
    rw [g3]
    dsimp only
    rw [g5]
    dsimp only
    congr 1
    rw [List.take_succ_eq_append_getElem (by omega)]
    congr 1
    rw [← e1, ← e2]
theorem xidsAt_bytes {b : RM} {l : List Int} {t : List UInt8} (hb : b.Has ((l.flatMap fun x => be 1 x.toNat) ++ t)) (h : ∀ x ∈ l, 3 ≤ x ∧ x ≤ 127) : ∀ j, j ≤ l.length → ∃ b', xidsAt j b = (b', l.take j) ∧ b'.Has (((l.drop j).flatMap fun x => be 1 x.toNat) ++ t)
  | 0, _ => ⟨b, by simp [xidsAt], by simpa using hb⟩
  | j + 1, hj => by
    obtain ⟨b1, h1, h2⟩ := xidsAt_bytes hb h j (by omega)
    have hd : l.drop j = l[j] :: l.drop (j + 1) := List.drop_eq_getElem_cons (by omega)
    have hx := h l[j] (List.getElem_mem _)
    rw [hd, List.flatMap_cons, List.append_assoc] at h2
    obtain ⟨b2, g1, g2, _⟩ := h2.num 1 (by omega) (by omega)
    refine ⟨b2, ?_, g2⟩
    unfold xidsAt
    rw [h1]
    dsimp only
    rw [g1]
    dsimp only
    congr 1
    rw [List.take_succ_eq_append_getElem (by omega)]
    congr 2
    omega
theorem readR_raw {r : R} (h : r.right = true) (ho : ∀ v ∈ r.old, v.In) (hn : ∀ v ∈ r.new, v.In) : readR r.raw = (r.plain, 0) := by
  obtain ⟨k, x, t, e1, e2, e3, e4, e5, e6, e7, e8, e9, e10, e11⟩ := right_parts h
  have hrow : row r.old = true ∧ row r.new = true := by
    unfold R.right at h
    simp only [Bool.and_eq_true] at h
    exact ⟨h.1.1.2, h.1.2⟩
  have hraw : r.raw = be 1 k ++ (be 1 x ++ (be 2 t ++ (text (rowBytes r.old) ++ (text (rowBytes r.new) ++ (be 1 r.edits.length ++ (r.edits.flatMap E.bytes ++ (be 1 r.xids.length ++ ((r.xids.flatMap fun x => be 1 x.toNat) ++ (text r.note ++ []))))))))) := by
    unfold R.raw
    rw [e1, e2, e3]
    simp [List.append_assoc]
  have h0 := Has_to (RM.Has.new r.raw) hraw
  obtain ⟨b1, g1, h1, _⟩ := h0.num 1 (by omega) (by omega)
  obtain ⟨b2, g2, h2, _⟩ := h1.num 1 (by omega) (by omega)
  obtain ⟨b3, g3, h3, _⟩ := h2.num 2 (by omega) (by omega)
  obtain ⟨b4, g4, h4⟩ := rowsM_bytes h3 hrow.1 ho true
  obtain ⟨b5, g5, h5⟩ := rowsM_bytes h4 hrow.2 hn true
  obtain ⟨b6, g6, h6, _⟩ := h5.num 1 (by omega) (by omega)
  obtain ⟨b7, g7, h7⟩ := editsAt_bytes h6 e8 _ (Nat.le_refl _)
  rw [List.take_length] at g7
  rw [List.drop_length, List.flatMap_nil, List.nil_append] at h7
  obtain ⟨b8, g8, h8, _⟩ := h7.num 1 (by omega) (by omega)
  obtain ⟨b9, g9, h9⟩ := xidsAt_bytes h8 e10 _ (Nat.le_refl _)
  rw [List.take_length] at g9
  rw [List.drop_length, List.flatMap_nil, List.nil_append] at h9
  obtain ⟨b10, g10, h10, _⟩ := h9.text (by omega)
  have hp : R.mk k x t (r.old.map V.plain) (r.new.map V.plain) r.edits r.xids r.note = r.plain := by
    unfold R.plain
    rw [← e1, ← e2, ← e3]
  have hpr : r.plain.right = true := by
    have hv : ∀ l : List V, row l = true → row (l.map V.plain) = true := by
      intro l hl
      obtain ⟨a1, a2⟩ := row_parts hl
      unfold row
      simp only [Bool.and_eq_true, decide_eq_true_eq, List.all_eq_true, List.length_map, List.mem_map]
      refine ⟨a1, ?_⟩
      rintro v ⟨u, hu, rfl⟩
      have := a2 u hu
      unfold V.right at this ⊢
      unfold V.plain
      simp only [Bool.and_eq_true, Bool.or_eq_true, decide_eq_true_eq] at this ⊢
      refine ⟨this.1, ?_⟩
      rcases this.2 with h | h
      · exact .inl h
      · by_cases hk : u.k = 2
        · rw [if_pos hk]; exact .inr h
        · exact .inl hk
    unfold R.right at h ⊢
    unfold R.plain
    simp only [Bool.and_eq_true] at h ⊢
    exact ⟨⟨⟨h.1.1.1, hv _ h.1.1.2⟩, hv _ h.1.2⟩, h.2⟩
  rw [readR_eq r.raw g1 g2 g3 g4 g5 g6 g7 g8 g9 g10]
  rw [if_neg (by rw [h10.ok]; simp), hp, hpr, h10.left]
  rfl
end Go.VB.Rec

/- from XRfA.lean.tpl -/
namespace Go.Proofs.YtknpncpoojjbfaaDoor
open Go.RowKit Go.VB Go.VB.Oct Go.VB.Rec
theorem rfRight_go (v : V) (w : World) : Calls Tryd.prog 16 #[vagg v] w fun e w' => e = .returned (.bool v.right) ∧ Fr (fun _ => False) w w' := by
  obtain ⟨k, n, s⟩ := v
  have e1 := bs_size s
  unfold vagg V.cells V.right
  dsimp only
  rcases (by omega : k = 0 ∨ k = 1 ∨ k = 2 ∨ (k < 0 ∨ 2 < k)) with rfl | rfl | rfl | hk
  focus
    go_enter Tryd.func16, Tryd.ntmps16
    go_wp2
    all_goals (go_ret; exact ⟨ret_bool (by simp_all <;> omega), (Fr.refl _ w).alloc _⟩)
  focus
    go_enter Tryd.func16, Tryd.ntmps16
    go_wp2
    all_goals (go_ret; exact ⟨ret_bool (by simp_all <;> omega), (Fr.refl _ w).alloc _⟩)
  focus
    go_enter Tryd.func16, Tryd.ntmps16
    go_wp2
    all_goals (go_ret; exact ⟨ret_bool (by simp_all <;> omega), (Fr.refl _ w).alloc _⟩)
  have h0 : (k == 0) = false := by simp; omega
  have h1 : (k == 1) = false := by simp; omega
  have h2 : (k == 2) = false := by simp; omega
  have hd : (decide (0 ≤ k) && decide (k ≤ 2) && (decide (k ≠ 2) || decide (s.length ≤ 40))) = false := by
    rcases hk with hk | hk
    · rw [decide_eq_false (by omega : ¬ 0 ≤ k)]; rfl
    · rw [decide_eq_false (by omega : ¬ k ≤ 2), Bool.and_false]; rfl
  rw [hd]
  clear hd hk
  go_enter Tryd.func16, Tryd.ntmps16
  go_wp2
  all_goals (go_ret; exact ⟨rfl, (Fr.refl _ w).alloc _⟩)
theorem row_no {r : List V} {j : Nat} (hj : j < r.length) (h : r[j].right = false) : row r = false := by
  cases hr : row r with
  | false => rfl
  | true =>
    unfold row at hr
    simp only [Bool.and_eq_true, List.all_eq_true] at hr
    rw [hr.2 _ (List.getElem_mem hj)] at h
    cases h
theorem row_all {r : List V} (h : ∀ i (hi : i < r.length), r[i].right = true) : row r = decide (r.length ≤ 6) := by
  unfold row
  have : r.all V.right = true := by
    rw [List.all_eq_true]
    intro x hx
    obtain ⟨i, hi, rfl⟩ := List.getElem_of_mem hx
    exact h i hi
  rw [this, Bool.and_true]
set_option maxRecDepth 20000 in
theorem RightRow_go {R : Nat → Prop} {w : World} {va : Value} {r : List V} (h : Sl R w va r.length (r.flatMap V.cells)) (hn : r.length ≤ 1099511627776) : Calls Tryd.prog 42 #[va] w fun e w' => e = .returned (.bool (row r)) ∧ Fr (fun _ => False) w w' := by
  obtain ⟨a, c, rfl, hc, hx⟩ := h
  have HX := hid (show Sl R w (.slice a r.length c) r.length (r.flatMap V.cells) from ⟨a, c, rfl, hc, hx⟩)
  clear hx
  have F0 := hid (Fr.refl (fun _ => False) w)
  have HROW := hid (rfl : row r = row r)
  generalize hrr : row r = rr at *
  have HRR := hid hrr
  clear hrr HROW
  go_enter Tryd.func42, Tryd.ntmps42
  go_wp2_with (fail)
  go_loopw [3] (fun i wr => ∃ j : Nat, j ≤ r.length ∧ i = .int .i64 j ∧ (∀ i (hi : i < j) (hr : i < r.length), r[i].right = true) ∧ Fr (fun _ => False) w wr) (fun i _ => r.length - (intOf i).toNat)
  case atStart => exact ⟨0, by omega, rfl, fun i hi => by omega, F0.out⟩
  case round =>
    obtain ⟨j, hj, rfl, hall, fr⟩ := hrel
    by_cases hjl : j < r.length
    · obtain ⟨g, o, rfl, hg, q0, q1, q2⟩ := sl_three (f := V.cells) vcells_len (HX.out.fr fr (fun _ _ h => h)) hjl
      have HM := hid (fun w => rfRight_go r[j] w)
      have FR := hid fr
      have HA := hid hall
      have i1 : (0 : Int) ≤ (j : Int) := by omega
      have i2 : (j : Int) < r.length := by omega
      simp only [V.cells, List.getElem?_cons_zero, List.getElem?_cons_succ] at q0 q1 q2
      have HP : ∀ b, r[j].right = b → Hid (r[j].right = b) := fun b h => hid h
      clear fr hall HX
      cases hr : r[j].right with
      | false =>
        have HR := HP _ hr
        rw [hr] at HM
        have hno := hid (row_no hjl hr)
        clear hr HP HR
        go_wp2_with (go_at_call 16; refine (HM.out _).mono ?_; rintro e w1 ⟨rfl, f1⟩; have F1 := hid (FR.out.trans f1 (fun _ h _ => h)); clear f1)
        go_ret
        exact ⟨by rw [← HRR.out, hno.out]; exact ret_bool rfl, F1.out⟩
      | true =>
        have HR := HP _ hr
        clear hr HP
        go_wp2_with (go_at_call 16; refine (HM.out _).mono ?_; rw [HR.out]; rintro e w1 ⟨rfl, f1⟩; have F1 := hid (FR.out.trans f1 (fun _ h _ => h)); clear f1)
        go_roundw
        case rel => exact ⟨j + 1, by omega, by go_num, fun i hi hr => by
          by_cases hij : i = j
          · subst hij; exact HR.out
          · exact HA.out i (by omega) hr, F1.out⟩
        case measure => simp [intOf]; omega
    · obtain rfl : j = r.length := by omega
      have FR := hid fr
      have hall2 := hid (row_all (fun i hi => hall i hi hi))
      clear HX fr hall
      go_wp2_with (fail)
      go_ret
      exact ⟨by rw [← HRR.out, hall2.out]; exact ret_bool (by simp; try omega), FR.out⟩
end Go.Proofs.YtknpncpoojjbfaaDoor

/- from XMdA.lean.tpl -/
namespace Go.Proofs.YtknpncpoojjbfaaDoor
open Go.RowKit Go.VB Go.VB.Oct Go.VB.Rec
theorem rone_go (n : Nat) (hn : n < 256) (w : World) : Calls Tryd.prog 43 #[.int .i64 n] w fun e w' => e = .returned (.string (bs [UInt8.ofNat n])) ∧ Fr (fun _ => False) w w' := by
  have hcell : bv [UInt8.ofNat n] = [.int .u8 (n : Int)] := by simp [bv]; omega
  have hcv := run_bytes_string (P := Tryd.prog) (w := w.alloc (.cells #[.int .u8 (n : Int)] 5)) (l := [UInt8.ofNat n]) (by rw [hcell]; exact Blk.all _ (Blk.new w [.int .u8 (n : Int)] 5)) (src := 42) (dst := 9) Tryd.underlying42 Tryd.underlying5 Tryd.underlying9 1 1 rfl
  have i1 : (0 : Int) ≤ n := by omega
  have i2 : (n : Int) ≤ 255 := by omega
  clear hcell
  go_enter Tryd.func43, Tryd.ntmps43
  go_wp2_with (fail)
  go_ret
  exact ⟨rfl, (Fr.refl _ w).alloc _⟩
def firstOf : Value → Nat
  | .bool true => 1
  | _ => 0
set_option maxRecDepth 20000 in
theorem Digits_go (n : Nat) (hn : n ≤ 20000) (w : World) : Calls Tryd.prog 57 #[.int .i64 n] w fun e w' => ∃ s : List UInt8, e = .returned (.string (bs s)) ∧ s.length ≤ 5 ∧ Fr (fun _ => False) w w' := by
  have F0 := hid (Fr.refl (fun _ => False) w)
  go_enter Tryd.func57, Tryd.ntmps57
  go_wp2_with (fail)
  go_loopw [3, 4, 5] (fun s3 m4 f5 wr => ∃ (s : List UInt8) (m : Nat) (b : Bool), s3 = .string (bs s) ∧ m4 = .int .i64 m ∧ f5 = .bool b ∧ (b = true → s.length = 0) ∧ m * 10 ^ s.length ≤ 20000 ∧ s.length ≤ 5 ∧ Fr (fun _ => False) w wr) (fun _ m4 f5 _ => (intOf m4).toNat + firstOf f5)
  case atStart => exact ⟨[], n, true, rfl, rfl, rfl, fun _ => rfl, by simpa using hn, by simp, F0.out⟩
  case round =>
    obtain ⟨s, m, b, rfl, rfl, rfl, hb, hm, hs, fr⟩ := hrel
    have FR := hid fr
    have HB := hid hb
    have HM := hid hm
    have HS := hid hs
    clear fr hb hm hs F0
    have i0 : (0 : Int) ≤ (m : Int) := by omega
    have i1 : (0 : Int) ≤ (n : Int) := by omega
    have hm2 : m ≤ 20000 := by
      have := HM.out
      have h1 : 1 ≤ 10 ^ s.length := Nat.pow_pos (by omega)
      exact Nat.le_trans (Nat.le_mul_of_pos_right m h1) this
    by_cases hc : b = false ∧ m = 0
    · obtain ⟨rfl, rfl⟩ := hc
      go_wp2_with (fail)
      go_ret
      exact ⟨s, rfl, HS.out, FR.out⟩
    · have hlen : s.length ≤ 4 := by
        cases b with
        | true => have := HB.out rfl; omega
        | false =>
          have hm0 : 1 ≤ m := by
            have : m ≠ 0 := fun h => hc ⟨rfl, h⟩
            omega
          have h5 := HM.out
          have : s.length ≤ 5 := HS.out
          rcases Nat.lt_or_ge s.length 5 with h | h
          · omega
          · have : s.length = 5 := by omega
            rw [this] at h5
            omega
      have hcast : (48 + (m : Int) % 10) = ((48 + m % 10 : Nat) : Int) := by omega
      have HON : Hid (∀ w, Calls Tryd.prog 43 #[.int .i64 (48 + (m : Int) % 10)] w fun e w' => e = .returned (.string (bs [UInt8.ofNat (48 + m % 10)])) ∧ Fr (fun _ => False) w w') := hid (fun w => by rw [hcast]; exact rone_go _ (by omega) w)
      clear hcast
      generalize UInt8.ofNat (48 + m % 10) = c at *
      have hadd := fun w => run_add_bs (P := Tryd.prog) w [c] s (by simp; omega)
      have hstep : m / 10 * 10 ^ ([c] ++ s).length ≤ 20000 := by
        have := HM.out
        rw [List.length_append, List.length_singleton, Nat.add_comm, Nat.pow_succ, Nat.mul_comm (10 ^ s.length), ← Nat.mul_assoc]
        exact Nat.le_trans (Nat.mul_le_mul_right _ (Nat.div_mul_le_self m 10)) this
      have HST := hid hstep
      clear hstep
      cases b with
      | true =>
        go_wp2_with (go_at_call 43; refine (HON.out _).mono ?_; rintro e w1 ⟨rfl, f⟩; have F1 := hid (FR.out.trans f (fun _ h _ => h)); clear f)
        go_roundw
        case rel => exact ⟨[c] ++ s, m / 10, false, rfl, by congr 1, rfl, fun h => by simp at h, HST.out, by simp; omega, F1.out⟩
        case measure => simp [intOf, firstOf]; omega
      | false =>
        have hm0 : m ≠ 0 := fun h => hc ⟨rfl, h⟩
        have hm1 : ((m : Int) != 0) = true := by simp; omega
        clear hc
        go_wp2_with (go_at_call 43; refine (HON.out _).mono ?_; rintro e w1 ⟨rfl, f⟩; have F1 := hid (FR.out.trans f (fun _ h _ => h)); clear f)
        go_roundw
        case rel => exact ⟨[c] ++ s, m / 10, false, rfl, by congr 1, rfl, fun h => by simp at h, HST.out, by simp; omega, F1.out⟩
        case measure => simp [intOf, firstOf]; omega
end Go.Proofs.YtknpncpoojjbfaaDoor

/- from XRfB.lean.tpl -/
namespace Go.VB.Oct
theorem ofNat_mod (n : Nat) : UInt8.ofNat (n % 256) = UInt8.ofNat n := by
  apply UInt8.toNat_inj.1
  simp
end Go.VB.Oct
namespace Go.Proofs.YtknpncpoojjbfaaDoor
open Go.RowKit Go.VB Go.VB.Oct Go.VB.Rec
theorem and_8 (n : Int) : bits .and .i64 n 255 = n % 256 := by
  rw [and_mask 8 255 n (by decide) (by omega)]
  rfl
theorem sums_take (l : List UInt8) {j : Nat} (h : j < l.length) : sums (l.take (j + 1)) = (((sums (l.take j)).1 + l[j].toNat) % 65521, ((sums (l.take j)).2 + ((sums (l.take j)).1 + l[j].toNat) % 65521) % 65521) := by
  rw [List.take_succ_eq_append_getElem h, sums_snoc]
theorem word_byte (n : Int) {j : Nat} (hj : j < 8) : ∃ z : Nat, (n / 256 ^ j) % 256 = (z : Int) ∧ z < 256 ∧ UInt8.ofNat (word n / 256 ^ j) = UInt8.ofNat z := by
  refine ⟨((n / 256 ^ j) % 256).toNat, by rw [Int.toNat_of_nonneg]; omega, by omega, ?_⟩
  apply UInt8.toNat_inj.1
  have h : (word n / 256 ^ j) % 256 = ((n / 256 ^ j) % 256).toNat := by
    unfold word
    have hj8 : j = 0 ∨ j = 1 ∨ j = 2 ∨ j = 3 ∨ j = 4 ∨ j = 5 ∨ j = 6 ∨ j = 7 := by omega
    rcases hj8 with rfl | rfl | rfl | rfl | rfl | rfl | rfl | rfl <;> omega
  simp [h]
  omega
set_option maxRecDepth 20000 in
theorem rwhole_go (n : Int) (w : World) : Calls Tryd.prog 44 #[.int .i64 n] w fun e w' => e = .returned (.string (bs (be8 (word n)))) ∧ Fr (fun _ => False) w w' := by
  have F0 := hid (Fr.refl (fun _ => False) w)
  go_enter Tryd.func44, Tryd.ntmps44
  go_wp2_with (fail)
  go_loopw [0, 3, 4] (fun n0 s3 i wr => ∃ j : Nat, j ≤ 8 ∧ n0 = .int .i64 (n / 256 ^ j) ∧ s3 = .string (bs (be j (word n))) ∧ i = .int .i64 j ∧ Fr (fun _ => False) w wr) (fun _ _ i _ => 8 - (intOf i).toNat)
  case atStart => exact ⟨0, by omega, by simp, by rfl, rfl, F0.out⟩
  case round =>
    obtain ⟨j, hj, rfl, rfl, rfl, fr⟩ := hrel
    have FR := hid fr
    clear fr F0
    by_cases hjk : j < 8
    · obtain ⟨z, hz, hz2, hz3⟩ := word_byte n hjk
      have HBS := hid (be_succ (word n) (k := j) hjk)
      rw [hz3] at HBS
      have hdd : n / 256 ^ (j + 1) = n / 256 ^ j / 256 := by rw [Int.pow_succ, Int.ediv_ediv_of_nonneg (by have := Int.natCast_nonneg (256 ^ j); rw [Int.natCast_pow] at this; exact this)]
      obtain ⟨x, hx⟩ : ∃ x, x = n / 256 ^ j := ⟨_, rfl⟩
      rw [← hx] at hz hdd ⊢
      have hand : bits .and .i64 x 255 = (z : Int) := by rw [and_8]; exact hz
      have HON := hid (fun w => rone_go z hz2 w)
      have hadd := fun w => run_add_bs (P := Tryd.prog) w [UInt8.ofNat z] (be j (word n)) (by rw [be_length _ _ (by omega)]; simp; omega)
      have HDD := hid hdd
      clear hdd hx hz hz3
      have i1 : (j : Int) < 8 := by omega
      go_wp2_with (go_at_call 43; refine (HON.out _).mono ?_; rintro e w1 ⟨rfl, f⟩; have F1 := hid (FR.out.trans f (fun _ h _ => h)); clear f)
      go_roundw
      case rel => exact ⟨j + 1, by omega, by rw [HDD.out], by rw [HBS.out], by simp, F1.out⟩
      case measure => simp [intOf]; omega
    · obtain rfl : j = 8 := by omega
      go_wp2_with (fail)
      go_ret
      exact ⟨rfl, FR.out⟩
/-- the sum of two strings under a name -/
theorem add_is (l m : List UInt8) (h : l.length + m.length ≤ 9223372036854775807) : ∃ k, Hid (k = l ++ m) ∧ k.length = l.length + m.length ∧ ∀ w, (Op.stringOp .add (bs l) (bs m)).run Tryd.prog w = .ok (.string (bs k)) w :=
  ⟨l ++ m, hid rfl, List.length_append, fun w => run_add_bs w l m h⟩
theorem row_right {r : List V} (h : row r = true) {j : Nat} (hj : j < r.length) : r[j].right = true := by
  unfold row at h
  simp only [Bool.and_eq_true, List.all_eq_true] at h
  exact h.2 _ (List.getElem_mem hj)
set_option maxRecDepth 20000 in
set_option maxHeartbeats 4000000 in
theorem r2Bytes_go {R : Nat → Prop} {w : World} {va : Value} {r : List V} (h : Sl R w va r.length (r.flatMap V.cells)) (hn : r.length ≤ 1099511627776) : Calls Tryd.prog 23 #[va] w fun e w' => e = .returned (.string (bs (rowBytes r))) ∧ Fr (fun _ => False) w w' := by
  have HRR := hid (RightRow_go h hn)
  obtain ⟨a, c, rfl, hc, hx⟩ := h
  have HX := hid (show Sl R w (.slice a r.length c) r.length (r.flatMap V.cells) from ⟨a, c, rfl, hc, hx⟩)
  clear hx
  unfold rowBytes
  cases hr : row r with
  | false =>
    rw [hr] at HRR
    clear hr
    go_enter Tryd.func23, Tryd.ntmps23
    go_wp2_with (go_at_call 42; refine HRR.out.mono ?_; rintro e w1 ⟨rfl, f⟩)
    go_ret
    exact ⟨rfl, f⟩
  | true =>
    rw [hr] at HRR
    have HR := hid hr
    clear hr
    rw [if_pos rfl]
    have hl6 := (row_parts HR.out).1
    have HON := hid (fun w => rone_go r.length (by omega) w)
    go_enter Tryd.func23, Tryd.ntmps23
    go_wp2_with (first
      | (go_at_call 42; refine HRR.out.mono ?_; rintro e w1 ⟨rfl, f⟩; have F1 := hid f; clear f)
      | (go_at_call 43; refine (HON.out _).mono ?_; rintro e w2 ⟨rfl, f⟩; have F2 := hid (F1.out.trans f (fun _ h _ => h)); clear f))
    clear HRR HON
    go_loopw [3, 4] (fun s3 i wr => ∃ j : Nat, j ≤ r.length ∧ s3 = .string (bs (UInt8.ofNat r.length :: (r.take j).flatMap V.bytes)) ∧ i = .int .i64 j ∧ Fr (fun _ => False) w wr) (fun _ i _ => r.length - (intOf i).toNat)
    case atStart => exact ⟨0, by omega, by rfl, rfl, F2.out⟩
    case round =>
      obtain ⟨j, hj, rfl, rfl, fr⟩ := hrel
      have FR := hid fr
      clear fr
      have HLA := hid (show ((r.take j).flatMap V.bytes).length ≤ 42 * r.length from Nat.le_trans (flat_le V.bytes 42 _ (fun x hx => by
        obtain ⟨i, hi, rfl⟩ := List.getElem_of_mem (List.mem_of_mem_take hx)
        exact vbytes_le _ (row_right HR.out hi))) (Nat.mul_le_mul_left _ (by rw [List.length_take]; omega)))
      by_cases hjl : j < r.length
      · obtain ⟨g, o, rfl, hg, q0, q1, q2⟩ := sl_three (f := V.cells) vcells_len (HX.out.fr FR.out (fun _ _ h => h)) hjl
        have HT := hid (take_flat r V.bytes j hjl)
        have hright := row_right HR.out hjl
        obtain ⟨v, hv⟩ : ∃ v, v = r[j] := ⟨_, rfl⟩
        rw [← hv] at q0 q1 q2 HT hright
        clear hv
        obtain ⟨k, n, s⟩ := v
        have hlj := HLA.out
        generalize (r.take j).flatMap V.bytes = lj at *
        simp only [V.cells, List.getElem?_cons_zero, List.getElem?_cons_succ] at q0 q1 q2
        have i1 : (0 : Int) ≤ (j : Int) := by omega
        have i2 : (j : Int) < r.length := by omega
        obtain ⟨L, hL⟩ : ∃ L, L = UInt8.ofNat r.length :: lj := ⟨_, rfl⟩
        have hll : L.length ≤ 300 := by rw [hL]; simp; omega
        rw [← hL]
        have HL := hid hL
        clear hL hlj
        rcases right_kind hright with hk | hk | ⟨hk, hs⟩
        · dsimp only at hk
          subst hk
          have HB := hid (show V.bytes ⟨0, n, s⟩ = [0] from rfl)
          have HO0 : Hid (∀ w, Calls Tryd.prog 43 #[.int .i64 0] w fun e w' => e = .returned (.string (bs [0])) ∧ Fr (fun _ => False) w w') := hid (fun w => rone_go 0 (by omega) w)
          obtain ⟨m1, hm1, hl1, hadd1⟩ := add_is L [0] (by simp; omega)
          clear hl1 hll hright hc
          go_wp2_with (go_at_call 43; refine (HO0.out _).mono ?_; rintro e w3 ⟨rfl, f⟩; have F3 := hid (FR.out.trans f (fun _ h _ => h)); have q0 := cell_fr q0 f (fun h => h); clear f)
          go_roundw
          case rel => exact ⟨j + 1, by omega, by rw [HT.out, HB.out, hm1.out, HL.out]; simp, by simp, F3.out⟩
          case measure => simp [intOf]; omega
        · dsimp only at hk
          subst hk
          have HB := hid (show V.bytes ⟨1, n, s⟩ = [1] ++ be8 (word n) from rfl)
          have HO0 : Hid (∀ w, Calls Tryd.prog 43 #[.int .i64 1] w fun e w' => e = .returned (.string (bs [1])) ∧ Fr (fun _ => False) w w') := hid (fun w => rone_go 1 (by omega) w)
          have HW := hid (fun w => rwhole_go n w)
          have h8 := be8_length (word n)
          generalize be8 (word n) = l8 at *
          obtain ⟨m1, hm1, hl1, hadd1⟩ := add_is L [1] (by simp; omega)
          obtain ⟨m2, hm2, hl2, hadd2⟩ := add_is m1 l8 (by rw [hl1]; simp; omega)
          clear hl1 hl2 hll hright hc h8
          go_wp2_with (first
            | (go_at_call 43; refine (HO0.out _).mono ?_; rintro e w3 ⟨rfl, f⟩; have F3 := hid (FR.out.trans f (fun _ h _ => h)); have q0 := cell_fr q0 f (fun h => h); have q1 := cell_fr q1 f (fun h => h); clear f)
            | (go_at_call 44; refine (HW.out _).mono ?_; rintro e w4 ⟨rfl, f⟩; have F4 := hid (F3.out.trans f (fun _ h _ => h)); have q0 := cell_fr q0 f (fun h => h); clear f))
          go_roundw
          case rel => exact ⟨j + 1, by omega, by rw [HT.out, HB.out, hm2.out, hm1.out, HL.out]; simp, by simp, F4.out⟩
          case measure => simp [intOf]; omega
        · dsimp only at hk hs
          subst hk
          have HB := hid (show V.bytes ⟨2, n, s⟩ = [2] ++ [UInt8.ofNat s.length] ++ s from rfl)
          have HO0 : Hid (∀ w, Calls Tryd.prog 43 #[.int .i64 2] w fun e w' => e = .returned (.string (bs [2])) ∧ Fr (fun _ => False) w w') := hid (fun w => rone_go 2 (by omega) w)
          have HO1 := hid (fun w => rone_go s.length (by omega) w)
          have e1 := bs_size s
          obtain ⟨m1, hm1, hl1, hadd1⟩ := add_is L [2] (by simp; omega)
          obtain ⟨m2, hm2, hl2, hadd2⟩ := add_is m1 [UInt8.ofNat s.length] (by rw [hl1]; simp; omega)
          obtain ⟨m3, hm3, hl3, hadd3⟩ := add_is m2 s (by rw [hl2, hl1]; simp; omega)
          clear hl1 hl2 hl3 hll hright hc
          go_upto_region 11 with (go_at_call 43; refine (HO0.out _).mono ?_; rintro e w3 ⟨rfl, f⟩; have F3 := hid (FR.out.trans f (fun _ h _ => h)); have q0 := cell_fr q0 f (fun h => h); have q2 := cell_fr q2 f (fun h => h); clear f)
          have Q2 := hid (cell_fr q2 ((Fr.refl (fun _ => False) w3).drew) (fun h => h))
          have F4 := hid F3.out.drew
          clear q0 q2
          refine wp_region_scr (.take 0 (.take 1 (.take 2 (.take 3 (.take 4 (.take 5 (.take 6 (.take 9 (.take 10 (.take 11 (.take 12 (.take 13 (.op 7 (.take 8 (.take 14 (.take 15 .done)))))))))))))))) (fun kz w => (kz ≤ 15 → w.cell? ⟨g, o + j * 3 + 2, none⟩ = some (.string (bs s))) ∧ True) (by kernel_rfl) (by kernel_rfl) (by intro c a d v w h; cases d <;> exact h) ?_
          repeat
            first
            | (refine wpT_pure rfl rfl rfl ?_; apply Exists.intro; refine ⟨?_, ?_⟩; intro w; ((go_simp <;> rfl)); simp only [Act.put, List.setIfInBounds_toArray, List.set_cons_zero, List.set_cons_succ])
            | (refine wpT_take 15 rfl rfl (by decide +kernel) ⟨fun _ => Q2.out, trivial⟩ ?_; apply Exists.intro; refine ⟨?_, ?_⟩; intro w hw; (have qa := hw.1 (Nat.le_refl _); have qb := hw.2); ((go_simp <;> rfl)); simp only [Act.put, List.setIfInBounds_toArray, List.set_cons_zero, List.set_cons_succ])
            | (refine wpT_skip rfl rfl ?_; simp only [Act.put, List.setIfInBounds_toArray, List.set_cons_zero, List.set_cons_succ])
          refine wpT_op rfl ?_
          go_wp2_with ((go_at_call 43; refine (HO1.out _).mono ?_; rintro e w4 ⟨rfl, f⟩; have F5 := hid (F4.out.trans f (fun _ h _ => h)); have Q3 := hid (cell_fr Q2.out f (fun h => h)); clear f))
          (refine ⟨?_, ?_⟩; focus (intro kz hk hk2 hh; first | (exfalso; simp at hk2; omega) | exact hh | exact (fun h => absurd h (by omega)) | obtain ⟨qa, qb⟩ := hh; first | exact ⟨qa, qb⟩ | (refine ⟨fun h => absurd h (by omega), ?_⟩; first | exact qb | (exact Q3.out)) | (refine ⟨fun h => ?_, ?_⟩; (have qa := qa h); all_goals (first | exact qa | exact qb | (exact Q3.out)))))
          repeat
            first
            | (refine wpT_pure rfl rfl rfl ?_; apply Exists.intro; refine ⟨?_, ?_⟩; intro w; ((go_simp <;> rfl)); simp only [Act.put, List.setIfInBounds_toArray, List.set_cons_zero, List.set_cons_succ])
            | (refine wpT_take 15 rfl rfl (by decide +kernel) ⟨fun _ => Q3.out, trivial⟩ ?_; apply Exists.intro; refine ⟨?_, ?_⟩; intro w hw; (have qa := hw.1 (Nat.le_refl _); have qb := hw.2); ((go_simp <;> rfl)); simp only [Act.put, List.setIfInBounds_toArray, List.set_cons_zero, List.set_cons_succ])
            | (refine wpT_skip rfl rfl ?_; simp only [Act.put, List.setIfInBounds_toArray, List.set_cons_zero, List.set_cons_succ])
          refine wpT_nil ?_
          go_wp2_with (fail)
          go_roundw
          case rel => exact ⟨j + 1, by omega, by rw [HT.out, HB.out, hm3.out, hm2.out, hm1.out, HL.out]; simp, by simp, F5.out⟩
          case measure => simp [intOf]; omega
      · obtain rfl : j = r.length := by omega
        rw [List.take_length]
        go_wp2_with (fail)
        go_ret
        exact ⟨rfl, FR.out⟩
end Go.Proofs.YtknpncpoojjbfaaDoor
namespace Go.Proofs.YtknpncpoojjbfaaDoor
open Go.RowKit Go.VB Go.VB.Oct Go.VB.Rec
theorem byte_le2 (c : UInt8) : (decide ([c] = [0]) || decide ([c] = [1]) || decide ([c] = [2])) = decide (c.toNat ≤ 2) := by
  have : ∀ k : UInt8, ([c] = [k]) ↔ c.toNat = k.toNat := fun k => by rw [List.cons.injEq, ← UInt8.toNat_inj]; simp
  simp only [this]
  by_cases h0 : c.toNat = 0
  · simp [h0]
  · by_cases h1 : c.toNat = 1
    · simp [h1]
    · by_cases h2 : c.toNat = 2
      · simp [h2]
      · have h3 : ¬ c.toNat ≤ 2 := by omega
        have e0 : (0 : UInt8).toNat = 0 := rfl
        have e1 : (1 : UInt8).toNat = 1 := rfl
        have e2 : (2 : UInt8).toNat = 2 := rfl
        simp [e0, e1, e2, h0, h1, h2, h3]
end Go.Proofs.YtknpncpoojjbfaaDoor
namespace Go.Proofs.YtknpncpoojjbfaaDoor
open Go.RowKit Go.VB Go.VB.Oct Go.VB.Rec
theorem add_is_run {k l m : List UInt8} (h : k = l ++ m) (hl : l.length + m.length ≤ 9223372036854775807) (w : World) : (Op.stringOp .add (bs l) (bs m)).run Tryd.prog w = .ok (.string (bs k)) w := by
  subst h
  exact run_add_bs w l m hl
/-- an edit's cells and the slice that holds it -/
structure EdS (w : World) (g o d : Nat) (p s : Int) (item : List UInt8) (v : Value) : Prop where
  c0 : w.cell? ⟨g, o, none⟩ = some (.int .i64 p)
  c1 : w.cell? ⟨g, o + 1, none⟩ = some (.int .i64 s)
  c2 : w.cell? ⟨g, o + 2, none⟩ = some (.string (bs item))
  v : w.cell? ⟨d, 5, none⟩ = some v
theorem EdS.fre {w w' : World} {g o d : Nat} {p s : Int} {item : List UInt8} {v : Value} (h : EdS w g o d p s item v) (k : Fr (fun _ => False) w w') : EdS w' g o d p s item v :=
  ⟨cell_fr h.c0 k (fun h => h), cell_fr h.c1 k (fun h => h), cell_fr h.c2 k (fun h => h), cell_fr h.v k (fun h => h)⟩
end Go.Proofs.YtknpncpoojjbfaaDoor

/- from XFew.lean.tpl -/
namespace Go.VB.Rec
def V.cut (v : V) : V := ⟨v.k, v.n, v.s.take 60⟩
def E.cut (e : E) : E := ⟨e.page, e.slot, e.item.take 405⟩
def cutRow (l : List V) : List V := (l.take 8).map V.cut
def R.few (r : R) : R := ⟨r.kind, r.xid, r.table, cutRow r.old, cutRow r.new, (r.edits.take 70).map E.cut, r.xids.take 40, r.note.take 500⟩
end Go.VB.Rec
namespace Go.Proofs.YtknpncpoojjbfaaDoor
open Go.RowKit Go.VB Go.VB.Oct Go.VB.Rec
theorem cut_str (t : List UInt8) (c : Nat) : ∃ q : Nat, (∀ z : Int, z = c → min (t.length : Int) z = (q : Int) ∧ (if z < (t.length : Int) then z else (t.length : Int)) = (q : Int)) ∧ (bs t).extract 0 q = bs (t.take c) ∧ (q : Int) ≤ t.length := by
  refine ⟨min c t.length, fun z hz => by subst hz; exact ⟨by omega, by split <;> omega⟩, ?_, by omega⟩
  apply ByteArray.ext
  simp [bs]
theorem map_snoc {α β : Type} (f : α → β) (l : List α) {j : Nat} (h : j < l.length) : (l.take (j + 1)).map f = (l.take j).map f ++ [f l[j]] := by rw [List.take_succ_eq_append_getElem h, List.map_append]; rfl
theorem take_min {α : Type} (l : List α) (n : Nat) : l.take (min n l.length) = l.take n := by
  by_cases h : n ≤ l.length
  · rw [Nat.min_eq_left h]
  · rw [Nat.min_eq_right (by omega), List.take_length, List.take_of_length_le (by omega)]
/-- a record that came as an argument -/
structure AV (P : Nat → Prop) (w : World) (r : R) (vo vn ve vx : Value) : Prop where
  o : Sl P w vo r.old.length (r.old.flatMap V.cells)
  n : Sl P w vn r.new.length (r.new.flatMap V.cells)
  e : Sl P w ve r.edits.length (r.edits.flatMap E.cells)
  x : Sl P w vx r.xids.length (r.xids.flatMap icell)
  lo : r.old.length ≤ 9223372036854775807
  ln : r.new.length ≤ 9223372036854775807
  le : r.edits.length ≤ 9223372036854775807
  lx : r.xids.length ≤ 9223372036854775807
theorem Sl.src {P : Program} {R : Nat → Prop} {w : World} {v : Value} {n size : Nat} {xs : List Value} (h : Sl R w v n xs) (hl : xs.length = n * size) (hs : 0 < size) (h1 : ∀ u ∈ xs, u.oneCell' = true) : Src P w size v n xs := by
  obtain ⟨a, c, rfl, hc, hx⟩ := h
  by_cases hn : xs = []
  · subst hn
    have hn0 : n = 0 := by
      have : n * size = 0 := hl.symm
      rcases Nat.mul_eq_zero.1 this with h | h <;> omega
    subst hn0
    cases a with
    | none => exact Src.nil size c
    | some a => exact ⟨by simp, by simp, fun w1 _ => ⟨by simp [Builtin.lenOf], by simpa using run_firstCells_some (P := P) w1 size 0 a 0 c [] (by simp) (fun j v hj => by simp at hj)⟩⟩
  · obtain ⟨g, o, rfl, -, hr⟩ := hx hn
    exact Src.slice hl h1 hr
theorem Sl.take {R : Nat → Prop} {w : World} {a : Option Addr} {n c k size : Nat} {xs : List Value} (h : Sl R w (.slice a n c) n xs) (hk : k ≤ n) (hl : xs.length = n * size) : Sl R w (.slice a k c) k (xs.take (k * size)) := by
  obtain ⟨a', c', he, hc, hx⟩ := h
  cases he
  refine ⟨a, c, rfl, by omega, fun hne => ?_⟩
  obtain ⟨g, o, h1, h2, h3⟩ := hx (fun e => by subst e; simp at hne)
  refine ⟨g, o, h1, h2, fun j u hj => h3 j u ?_⟩
  have := (List.getElem?_eq_some_iff.1 hj).1
  rw [List.length_take] at this
  rwa [List.getElem?_take_of_lt (by omega)] at hj
theorem icells_take : ∀ (l : List Int) (k : Nat), (l.flatMap icell).take k = (l.take k).flatMap icell
  | [], k => by simp
  | x :: l, 0 => by simp
  | x :: l, k + 1 => by
    rw [List.take_succ_cons, List.flatMap_cons, List.flatMap_cons, ← icells_take l k]
    rfl
theorem icells_one (l : List Int) : ∀ u ∈ l.flatMap icell, u.oneCell' = true := by
  intro u hu
  obtain ⟨x, -, hx⟩ := List.mem_flatMap.1 hu
  simp only [icell, List.mem_singleton] at hx
  subst hx
  rfl
namespace FwB
variable {w0 W W' : World} {r k k' : R} {vo vn ve vx uo un ue ux uo' un' ue' ux' : Value}
theorem step (w0 W : World) (i : Nat) (u : Value) : Fr (fun b => b = w0.heap.size + 1 + 1) W (W.setCell ⟨w0.heap.size + 1 + 1, i, none⟩ u) := (Fr.refl (fun b => b = w0.heap.size + 1 + 1) W).setCell ⟨w0.heap.size + 1 + 1, i, none⟩ u (fun _ => rfl)
end FwB
namespace FwS
variable {w0 W W' wg : World} {r k : R} {vo vn ve vx uo un ue ux v' : Value}
end FwS
theorem few_lens (r : R) : (R.few r).old.length ≤ 8 ∧ (R.few r).new.length ≤ 8 ∧ (R.few r).edits.length ≤ 70 ∧ (R.few r).xids.length ≤ 40 ∧ (R.few r).note.length ≤ 500 := by
  unfold R.few cutRow
  dsimp only
  simp only [List.length_map, List.length_take]
  omega
theorem RV.av {P : Nat → Prop} {w : World} {r : R} {vo vn ve vx : Value} (h : RV P w r vo vn ve vx) : AV P w r vo vn ve vx :=
  ⟨h.o, h.n, h.e, h.x, by have := h.lo; omega, by have := h.ln; omega, by have := h.le; omega, by have := h.lx; omega⟩
end Go.Proofs.YtknpncpoojjbfaaDoor

/- from XPla.lean.tpl -/
namespace Go.Proofs.YtknpncpoojjbfaaDoor
open Go.RowKit Go.VB Go.VB.Oct Go.VB.Rec
set_option maxRecDepth 20000 in
set_option maxHeartbeats 4000000 in
theorem rPlain_go {P : Nat → Prop} {w : World} {va : Value} {r : List V} (h : Sl P w va r.length (r.flatMap V.cells)) (hn : r.length ≤ 1099511627776) :
    Calls Tryd.prog 55 #[va] w fun e w' => ∃ (a : Option Addr) (c : Nat), e = .returned (.slice a (r.map V.plain).length c) ∧ Row 28 3 w.heap.size w' (.slice a (r.map V.plain).length c) (r.map V.plain).length ((r.map V.plain).flatMap V.cells) ∧ Fr (fun _ => False) w w' := by
  obtain ⟨a, c, rfl, hc, hx⟩ := h
  have HX := hid (show Sl P w (.slice a r.length c) r.length (r.flatMap V.cells) from ⟨a, c, rfl, hc, hx⟩)
  clear hx
  have F0 := hid ((Fr.refl (fun _ => False) w).alloc (.cells #[] 28))
  have R0 := hid (Row.built (e := 28) (n := 0) (size := 3) (B := w.heap.size) w (l := []) rfl (by decide) (Nat.le_refl _))
  go_enter Tryd.func55, Tryd.ntmps55
  go_wp2_with (fail)
  go_loopw [3, 4] (fun v3 i wr => ∃ (j : Nat) (l : List V), j ≤ r.length ∧ i = .int .i64 j ∧ l = (r.take j).map V.plain ∧ l.length = j ∧ Row 28 3 w.heap.size wr v3 l.length (l.flatMap V.cells) ∧ Fr (fun _ => False) w wr) (fun _ i _ => r.length - (intOf i).toNat)
  case atStart => exact ⟨0, [], by omega, rfl, rfl, rfl, R0.out, F0.out⟩
  case round =>
    obtain ⟨j, l, hjr, rfl, hl, hll, hrow, fr⟩ := hrel
    have HROW := hid hrow
    have FR := hid fr
    have HL := hid hl
    have HLL := hid hll
    obtain ⟨va, cc, rfl, _⟩ := hrow.slice
    clear hrow fr hl hll F0 R0
    have i1 : (0 : Int) ≤ (j : Int) := by omega
    by_cases hjl : j < r.length
    · have i2 : (j : Int) < r.length := by omega
      obtain ⟨g, o, rfl, hg, q0, q1, q2⟩ := sl_three (f := V.cells) vcells_len (HX.out.fr FR.out (fun _ _ h => h)) hjl
      have HSN := hid (map_snoc V.plain r hjl)
      obtain ⟨x, hx⟩ : ∃ x, x = r[j] := ⟨_, rfl⟩
      rw [← hx] at q0 q1 q2 HSN
      clear hx
      obtain ⟨k, n, s⟩ := x
      simp only [V.cells, List.getElem?_cons_zero, List.getElem?_cons_succ] at q0 q1 q2
      obtain ⟨pv, hpv⟩ : ∃ pv, pv = V.plain ⟨k, n, s⟩ := ⟨_, rfl⟩
      rw [← hpv] at HSN
      have hcs : (k = 1 ∧ V.cells pv = [.int .i64 1, .int .i64 n, .string ⟨#[]⟩]) ∨ (k = 2 ∧ V.cells pv = [.int .i64 2, .int .i64 0, .string (bs s)]) ∨ ((k ≠ 1 ∧ k ≠ 2) ∧ V.cells pv = [.int .i64 k, .int .i64 0, .string ⟨#[]⟩]) := by
        rw [hpv]
        by_cases h1 : k = 1
        · left; subst h1; exact ⟨rfl, rfl⟩
        · by_cases h2 : k = 2
          · right; left; subst h2; exact ⟨rfl, rfl⟩
          · right; right; refine ⟨⟨h1, h2⟩, ?_⟩; simp [V.cells, V.plain, h1, h2, bs]
      clear hpv
      rcases hcs with ⟨rfl, hce⟩ | ⟨rfl, hce⟩ | ⟨⟨h1, h2⟩, hce⟩
      focus
        have kq1 := cell_fr q1 ((Fr.refl (fun _ => False) wr).alloc (.cells #[.int .i64 1, .int .i64 0, .string ⟨#[]⟩] 28)) (fun h => h)
        have HROW2 := hid (HROW.out.fre ((Fr.refl (fun _ => False) wr).alloc (.cells #[.int .i64 1, .int .i64 n, (.string ⟨#[]⟩)] 28)))
        have FR2 := hid (FR.out.alloc (.cells #[.int .i64 1, .int .i64 n, (.string ⟨#[]⟩)] 28))
        have HCE := hid hce
        clear hce
        go_wp2_with (first | (at_builtin; refine wpList_app1 rfl (s := .tmp 37) (x := .tmp 39) (t := 23) rfl Tryd.underlying23 info_val val_cells rfl (by rw [World.size_alloc]; rfl) HROW2.out FR2.out.size rfl (by simp [Value.oneCell']) (by have := HLL.out; omega) (by have := HLL.out; omega) ?_; intro ab ac wg APP; have HG := hid (show Row 28 3 w.heap.size wg (.slice ab (l.length + 1) ac) (l ++ [pv]).length ((l ++ [pv]).flatMap V.cells) ∧ Fr (fun _ => False) w wg from ⟨APP.row.cast (by simp) (by simp [HCE.out]), APP.frB HROW2.out FR2.out (Nat.le_refl _)⟩); clear APP))
        go_roundw
        case rel => exact ⟨j + 1, l ++ [pv], by omega, by simp, by rw [HSN.out, HL.out], by have := HLL.out; simp; omega, HG.out.1, HG.out.2⟩
        case measure => simp [intOf]; omega
      focus
        have kq2 := cell_fr q2 ((Fr.refl (fun _ => False) wr).alloc (.cells #[.int .i64 2, .int .i64 0, .string ⟨#[]⟩] 28)) (fun h => h)
        have HROW2 := hid (HROW.out.fre ((Fr.refl (fun _ => False) wr).alloc (.cells #[.int .i64 2, .int .i64 0, (.string (bs s))] 28)))
        have FR2 := hid (FR.out.alloc (.cells #[.int .i64 2, .int .i64 0, (.string (bs s))] 28))
        have HCE := hid hce
        clear hce
        go_wp2_with (first | (at_builtin; refine wpList_app1 rfl (s := .tmp 37) (x := .tmp 39) (t := 23) rfl Tryd.underlying23 info_val val_cells rfl (by rw [World.size_alloc]; rfl) HROW2.out FR2.out.size rfl (by simp [Value.oneCell']) (by have := HLL.out; omega) (by have := HLL.out; omega) ?_; intro ab ac wg APP; have HG := hid (show Row 28 3 w.heap.size wg (.slice ab (l.length + 1) ac) (l ++ [pv]).length ((l ++ [pv]).flatMap V.cells) ∧ Fr (fun _ => False) w wg from ⟨APP.row.cast (by simp) (by simp [HCE.out]), APP.frB HROW2.out FR2.out (Nat.le_refl _)⟩); clear APP))
        go_roundw
        case rel => exact ⟨j + 1, l ++ [pv], by omega, by simp, by rw [HSN.out, HL.out], by have := HLL.out; simp; omega, HG.out.1, HG.out.2⟩
        case measure => simp [intOf]; omega
      focus
        (have kb1 : (k == 1) = false := by rw [beq_eq_false_iff_ne]; exact h1); (have kb2 : (k == 2) = false := by rw [beq_eq_false_iff_ne]; exact h2)
        have HROW2 := hid (HROW.out.fre ((Fr.refl (fun _ => False) wr).alloc (.cells #[.int .i64 k, .int .i64 0, (.string ⟨#[]⟩)] 28)))
        have FR2 := hid (FR.out.alloc (.cells #[.int .i64 k, .int .i64 0, (.string ⟨#[]⟩)] 28))
        have HCE := hid hce
        clear hce
        go_wp2_with (first | (at_builtin; refine wpList_app1 rfl (s := .tmp 37) (x := .tmp 39) (t := 23) rfl Tryd.underlying23 info_val val_cells rfl (by rw [World.size_alloc]; rfl) HROW2.out FR2.out.size rfl (by simp [Value.oneCell']) (by have := HLL.out; omega) (by have := HLL.out; omega) ?_; intro ab ac wg APP; have HG := hid (show Row 28 3 w.heap.size wg (.slice ab (l.length + 1) ac) (l ++ [pv]).length ((l ++ [pv]).flatMap V.cells) ∧ Fr (fun _ => False) w wg from ⟨APP.row.cast (by simp) (by simp [HCE.out]), APP.frB HROW2.out FR2.out (Nat.le_refl _)⟩); clear APP))
        go_roundw
        case rel => exact ⟨j + 1, l ++ [pv], by omega, by simp, by rw [HSN.out, HL.out], by have := HLL.out; simp; omega, HG.out.1, HG.out.2⟩
        case measure => simp [intOf]; omega
    · obtain rfl : j = r.length := by omega
      have hcu : l = r.map V.plain := by rw [HL.out, List.take_length]
      have HCU := hid hcu
      clear hcu
      go_wp2_with (fail)
      go_ret
      rw [← HCU.out]
      exact ⟨_, _, rfl, HROW.out, FR.out⟩
end Go.Proofs.YtknpncpoojjbfaaDoor

/- from XRdC.lean.tpl -/
namespace Go.Proofs.YtknpncpoojjbfaaDoor
open Go.RowKit Go.VB Go.VB.Oct Go.VB.Rec
set_option maxRecDepth 20000 in
theorem rfSame_go {R R' : Nat → Prop} {w : World} {va vb : Value} {l m : List V} (h : Sl R w va l.length (l.flatMap V.cells)) (k : Sl R' w vb m.length (m.flatMap V.cells)) (hn : l.length ≤ 1099511627776) (hm : m.length ≤ 1099511627776) :
    Calls Tryd.prog 30 #[va, vb] w fun e w' => e = .returned (.bool (decide (l = m))) ∧ Fr (fun _ => False) w w' := by
  obtain ⟨a, c, rfl, hc, hx⟩ := h
  obtain ⟨b, d, rfl, hd, hy⟩ := k
  have HX := hid (show Sl R w (.slice a l.length c) l.length (l.flatMap V.cells) from ⟨a, c, rfl, hc, hx⟩)
  have HY := hid (show Sl R' w (.slice b m.length d) m.length (m.flatMap V.cells) from ⟨b, d, rfl, hd, hy⟩)
  have F0 := hid (Fr.refl (fun _ => False) w)
  clear hx hy
  by_cases hlm : l.length = m.length
  · go_enter Tryd.func30, Tryd.ntmps30
    have HLM := hid hlm
    have hbn : ((l.length : Int) != (m.length : Int)) = false := by simp [hlm]
    clear hlm
    go_wp2_with (fail)
    go_loopw [5] (fun i wr => ∃ j : Nat, j ≤ l.length ∧ i = .int .i64 j ∧ l.take j = m.take j ∧ Fr (fun _ => False) w wr) (fun i _ => l.length - (intOf i).toNat)
    case atStart => exact ⟨0, by omega, rfl, rfl, F0.out⟩
    case round =>
      obtain ⟨j, hj, rfl, hall, fr⟩ := hrel
      have FR := hid fr
      have HA := hid hall
      clear fr hall
      by_cases hjl : j < l.length
      · have hjm : j < m.length := by have := HLM.out; omega
        obtain ⟨g, o, rfl, hg, q0, q1, q2⟩ := sl_three (f := V.cells) vcells_len (HX.out.fr FR.out (fun _ _ h => h)) hjl
        obtain ⟨g', o', rfl, hg', r0, r1, r2⟩ := sl_three (f := V.cells) vcells_len (HY.out.fr FR.out (fun _ _ h => h)) hjm
        have i1 : (0 : Int) ≤ (j : Int) := by omega
        have i2 : (j : Int) < l.length := by omega
        have i3 : (j : Int) < m.length := by omega
        simp only [V.cells, List.getElem?_cons_zero, List.getElem?_cons_succ] at q0 q1 q2 r0 r1 r2
        obtain ⟨x, hx⟩ : ∃ x, x = l[j] := ⟨_, rfl⟩
        obtain ⟨y, hy⟩ : ∃ y, y = m[j] := ⟨_, rfl⟩
        rw [← hx] at q0 q1 q2
        rw [← hy] at r0 r1 r2
        have HXX := hid hx
        have HYY := hid hy
        clear hx hy
        have RX := hid (range3 q0 q1 q2)
        have RY := hid (range3 r0 r1 r2)
        clear q0 q1 q2 r0 r1 r2
        go_wp2_with (fail)
        refine wp_region_scr (.take 0 (.take 1 (.take 2 (.take 3 (.take 4 (.take 5 (.take 6 (.take 7 (.take 8 .done))))))))) (fun kz w => (kz ≤ 9 → w.rangeAt g (o + j * 3) (V.cells x) ∧ w.rangeAt g' (o' + j * 3) (V.cells y)) ∧ True) (by kernel_rfl) (by kernel_rfl) (by intro c a d v w h; cases d <;> exact h) ?_
        repeat
          first
          | (refine wpT_pure rfl rfl rfl ?_; apply Exists.intro; refine ⟨?_, ?_⟩; intro w; (first | (first | exact run_load_mid _ _ rfl g _ rfl _ _ qa.1 Tryd.underlying28 rfl size_Value | exact run_load_mid _ _ rfl g' _ rfl _ _ qa.2 Tryd.underlying28 rfl size_Value | exact step_neq_Value _ _ rfl rfl rfl) | (go_simp <;> rfl)); simp only [Act.put, List.setIfInBounds_toArray, List.set_cons_zero, List.set_cons_succ])
          | (refine wpT_take 9 rfl rfl (by decide +kernel) ⟨fun _ => ⟨RX.out, RY.out⟩, trivial⟩ ?_; apply Exists.intro; refine ⟨?_, ?_⟩; intro w hw; (have qa := hw.1 (Nat.le_refl _); have qb := hw.2); (first | (first | exact run_load_mid _ _ rfl g _ rfl _ _ qa.1 Tryd.underlying28 rfl size_Value | exact run_load_mid _ _ rfl g' _ rfl _ _ qa.2 Tryd.underlying28 rfl size_Value | exact step_neq_Value _ _ rfl rfl rfl) | (go_simp <;> rfl)); simp only [Act.put, List.setIfInBounds_toArray, List.set_cons_zero, List.set_cons_succ])
          | (refine wpT_skip rfl rfl ?_; simp only [Act.put, List.setIfInBounds_toArray, List.set_cons_zero, List.set_cons_succ])
        refine wpT_nil ?_
        by_cases hxy : x = y
        · have HE := hid (show l[j] = m[j] by rw [← HXX.out, ← HYY.out, hxy])
          subst hxy
          go_wp2_with (fail)
          go_roundw
          case rel => exact ⟨j + 1, by omega, by go_num, take_eq_step hjl hjm HA.out HE.out, FR.out.drew⟩
          case measure => simp [intOf]; omega
        · rw [show (!decide (x = y)) = true by simp [hxy]]
          have hne : decide (l = m) = false := by
            refine decide_eq_false fun e => hxy ?_
            rw [HXX.out, HYY.out]
            subst e
            rfl
          go_wp2_with (fail)
          go_ret
          exact ⟨by rw [hne]; rfl, FR.out.drew⟩
      · obtain rfl : j = l.length := by omega
        have he : decide (l = m) = true := by
          have h1 := HA.out
          rw [List.take_length, HLM.out, List.take_length] at h1
          exact decide_eq_true h1
        go_wp2_with (fail)
        go_ret
        exact ⟨by rw [he]; rfl, FR.out⟩
  · have hne : decide (l = m) = false := decide_eq_false fun e => hlm (by rw [e])
    have hbn : ((l.length : Int) != (m.length : Int)) = true := by simpa using fun h => hlm (by omega)
    go_enter Tryd.func30, Tryd.ntmps30
    go_wp2_with (fail)
    go_ret
    exact ⟨by rw [hne]; rfl, F0.out⟩
theorem bne_dec (a b : Int) : (a != b) = !decide (a = b) := by by_cases h : a = b <;> simp [h]
theorem take_all {α : Type} {l m : List α} (h : l.length = m.length) (ht : l.take l.length = m.take l.length) : l = m := by
  rw [List.take_length, h, List.take_length] at ht
  exact ht
end Go.Proofs.YtknpncpoojjbfaaDoor

namespace Go.VB.Rec
open Go.VB.Oct Go.Proofs.YtknpncpoojjbfaaDoor
theorem be8_int8 {l : List UInt8} (h : l.length = 8) : be8 (word (int8 l)) = l := by
  have e : be8 (word (int8 l)) = be 8 (word (int8 l)) := by simp [be]
  have hl := num_lt l
  rw [h] at hl
  have : word (int8 l) = num l := by
    unfold word int8
    rw [IntKind.wrap_i64]
    omega
  rw [e, this, be_num h (by omega)]
theorem readOne_back {s t : List UInt8} {v : V} (h : readOne s = .ok (v, t)) : s = v.bytes ++ t ∧ v.right = true ∧ v.plain = v := by
  unfold readOne at h
  cases s with
  | nil => cases h
  | cons k s =>
    dsimp only at h
    split at h
    · rename_i hk
      cases h
      subst hk
      exact ⟨rfl, rfl, rfl⟩
    · split at h
      · rename_i hk
        subst hk
        split at h
        · cases h
        · rename_i hl
          cases h
          refine ⟨?_, rfl, rfl⟩
          have e : V.bytes ⟨1, int8 (s.take 8), []⟩ = 1 :: be8 (word (int8 (s.take 8))) := rfl
          rw [e, be8_int8 (by rw [List.length_take]; omega), List.cons_append, List.take_append_drop]
      · split at h
        · rename_i hk
          subst hk
          cases s with
          | nil => cases h
          | cons m s =>
            dsimp only at h
            split at h
            · cases h
            · rename_i h40
              split at h
              · cases h
              · rename_i hl
                cases h
                have hlen : (s.take m.toNat).length = m.toNat := by rw [List.length_take]; omega
                have e : V.bytes ⟨2, 0, s.take m.toNat⟩ = 2 :: UInt8.ofNat (s.take m.toNat).length :: s.take m.toNat := rfl
                refine ⟨?_, ?_, rfl⟩
                · rw [e, hlen, UInt8.ofNat_toNat, List.cons_append, List.cons_append, List.take_append_drop]
                · unfold V.right
                  dsimp only
                  rw [hlen]
                  simp
                  omega
        · cases h
theorem readN_back : ∀ (n : Nat) (s t : List UInt8) (l : List V), readN n s = .ok (l, t) → s = l.flatMap V.bytes ++ t ∧ l.length = n ∧ ∀ v ∈ l, v.right = true ∧ v.plain = v
  | 0, s, t, l, h => by
    cases h
    exact ⟨rfl, rfl, by simp⟩
  | n + 1, s, t, l, h => by
    unfold readN at h
    split at h
    · cases h
    · rename_i v u h1
      split at h
      · cases h
      · rename_i l' u' h2
        cases h
        obtain ⟨e1, e2, e3⟩ := readOne_back h1
        obtain ⟨e4, e5, e6⟩ := readN_back n _ _ _ h2
        refine ⟨by rw [e1, e4, List.flatMap_cons, List.append_assoc], by rw [List.length_cons, e5], ?_⟩
        intro x hx
        rcases List.mem_cons.1 hx with rfl | hx
        · exact ⟨e2, e3⟩
        · exact e6 x hx
theorem readV_back {s : List UInt8} {l : List V} (h : readV s = (l, 0)) : rowBytes l = s ∧ row l = true ∧ ∀ v ∈ l, v.plain = v := by
  unfold readV at h
  cases s with
  | nil => cases h
  | cons n s =>
    dsimp only at h
    split at h
    · cases h
    · rename_i h6
      split at h
      · rename_i e he
        have : e = 0 := by simpa using congrArg Prod.snd h
        subst this
        exfalso
        -- an error is never 0
        have hno : ∀ (n : Nat) (s : List UInt8), readN n s ≠ .error 0 := by
          intro n
          induction n with
          | zero => intro s h; cases h
          | succ n ih =>
            intro s h
            unfold readN at h
            split at h
            · rename_i e h1
              have : e = 0 := by simpa using h
              subst this
              unfold readOne at h1
              cases s with
              | nil => cases h1
              | cons k s =>
                dsimp only at h1
                split at h1
                · cases h1
                · split at h1
                  · split at h1 <;> cases h1
                  · split at h1
                    · cases s with
                      | nil => cases h1
                      | cons m s =>
                        dsimp only at h1
                        split at h1
                        · cases h1
                        · split at h1 <;> cases h1
                    · cases h1
            · split at h
              · rename_i e h2
                have : e = 0 := by simpa using h
                subst this
                exact ih _ h2
              · cases h
        exact hno _ _ he
      · rename_i l' he
        have : l' = l := by simpa using congrArg Prod.fst h
        subst this
        obtain ⟨e1, e2, e3⟩ := readN_back _ _ _ _ he
        have hrow : row l' = true := by
          unfold row
          simp only [Bool.and_eq_true, decide_eq_true_eq, List.all_eq_true]
          exact ⟨by omega, fun v hv => (e3 v hv).1⟩
        refine ⟨?_, hrow, fun v hv => (e3 v hv).2⟩
        unfold rowBytes
        rw [if_pos hrow, e2, UInt8.ofNat_toNat, e1, List.append_nil]
      · cases h
theorem rowsM_fits {b : RM} {f : Bool} (h : (rowsM b f).2.1 = true) (hf : b.text.1.failed = false) : f = true ∧ (readV b.text.2).2 = 0 := by
  unfold rowsM at h
  rw [if_neg (by rw [hf]; simp)] at h
  simpa using h
theorem rowsM_reader (b : RM) (f : Bool) : (rowsM b f).1 = b.text.1 := by
  unfold rowsM
  split <;> rfl
theorem rowsM_back {b : RM} {t : List UInt8} {f : Bool} (h : b.Has t) (hf : (rowsM b f).1.failed = false) (hfit : (rowsM b f).2.1 = true) : f = true ∧ ∃ u, t = text (rowBytes (rowsM b f).2.2) ++ u ∧ (rowsM b f).1.Has u := by
  rw [rowsM_reader] at hf
  obtain ⟨h1, h2⟩ := rowsM_fits hfit hf
  obtain ⟨u, e1, e2, e3, e4⟩ := h.text_back hf
  refine ⟨h1, u, ?_, by rw [rowsM_reader]; exact e2⟩
  have : (rowsM b f).2.2 = (readV b.text.2).1 := by unfold rowsM; rw [if_neg (by rw [hf]; simp)]
  rw [this, (readV_back (Prod.ext rfl h2 : readV b.text.2 = ((readV b.text.2).1, 0))).1]
  exact e1
theorem editsAt_ok : ∀ (j : Nat) {b : RM}, (editsAt j b).1.failed = false → b.failed = false
  | 0, _, h => h
  | j + 1, _, h => editsAt_ok j (RM.failed_num (RM.failed_num (RM.failed_text h)))
theorem editsAt_back {b : RM} {t : List UInt8} (h : b.Has t) : ∀ j, (editsAt j b).1.failed = false → ∃ u, t = (editsAt j b).2.flatMap E.bytes ++ u ∧ (editsAt j b).1.Has u
  | 0, _ => ⟨t, rfl, h⟩
  | j + 1, hf => by
    have f3 : ((((editsAt j b).1.num 2).1.num 1).1.text).1.failed = false := hf
    have f2 := RM.failed_text f3
    have f1 := RM.failed_num f2
    have f0 := RM.failed_num f1
    obtain ⟨u0, e0, h0⟩ := editsAt_back h j f0
    obtain ⟨u1, e1, h1, _, _, l1⟩ := h0.num_back 2 (by omega) f1
    obtain ⟨u2, e2, h2, _, _, l2⟩ := h1.num_back 1 (by omega) f2
    obtain ⟨u3, e3, h3, _, l3⟩ := h2.text_back f3
    refine ⟨u3, ?_, h3⟩
    have hd : (editsAt (j + 1) b).2 = (editsAt j b).2 ++ [⟨((editsAt j b).1.num 2).2, (((editsAt j b).1.num 2).1.num 1).2 - 1, (((editsAt j b).1.num 2).1.num 1).1.text.2⟩] := rfl
    rw [hd, List.flatMap_append, e0, e1, e2, e3]
    simp only [List.flatMap_cons, List.flatMap_nil, List.append_nil]
    unfold E.bytes
    dsimp only
    have c1 : ((((((editsAt j b).1.num 2).1.num 1).2 : Nat) : Int) - 1 + 1).toNat = (((editsAt j b).1.num 2).1.num 1).2 := by omega
    rw [c1, Int.toNat_natCast]
    simp only [List.append_assoc]
theorem xidsAt_back {b : RM} {t : List UInt8} (h : b.Has t) : ∀ j, (xidsAt j b).1.failed = false → ∃ u, t = ((xidsAt j b).2.flatMap fun x => be 1 x.toNat) ++ u ∧ (xidsAt j b).1.Has u
  | 0, _ => ⟨t, rfl, h⟩
  | j + 1, hf => by
    have f1 : ((xidsAt j b).1.num 1).1.failed = false := hf
    have f0 := RM.failed_num f1
    obtain ⟨u0, e0, h0⟩ := xidsAt_back h j f0
    obtain ⟨u1, e1, h1, _, _, l1⟩ := h0.num_back 1 (by omega) f1
    refine ⟨u1, ?_, h1⟩
    have hd : (xidsAt (j + 1) b).2 = (xidsAt j b).2 ++ [(((xidsAt j b).1.num 1).2 : Int)] := rfl
    rw [hd, List.flatMap_append, e0, e1]
    simp only [List.flatMap_cons, List.flatMap_nil, List.append_nil, Int.toNat_natCast, List.append_assoc]
theorem xidsAt_ok : ∀ (j : Nat) {b : RM}, (xidsAt j b).1.failed = false → b.failed = false
  | 0, _, h => h
  | j + 1, _, h => xidsAt_ok j (RM.failed_num h)
theorem rowsM_ok {b : RM} {f : Bool} (h : (rowsM b f).1.failed = false) : b.failed = false := by
  rw [rowsM_reader] at h
  exact RM.failed_text h
/-- a record that was read, written again -/
theorem readR_back {s : List UInt8} {r : R} (h : readR s = (r, 0)) : r.bytes = s ∧ r.right = true := by
  unfold readR at h
  split at h
  · cases h
  · rename_i hf
    split at h
    · cases h
    · rename_i hc
      have hr : rdR s = r := by simpa using congrArg Prod.fst h
      have hf : (rdT s).1.failed = false := by simpa using hf
      simp only [Bool.or_eq_true, Bool.not_eq_true', decide_eq_true_eq, not_or, Bool.not_eq_false] at hc
      obtain ⟨⟨c1, c2⟩, c3⟩ := hc
      have fX : (rdX s).1.failed = false := RM.failed_text hf
      have fX0 := xidsAt_ok _ fX
      have fE := RM.failed_num fX0
      have fE0 := editsAt_ok _ fE
      have fN := RM.failed_num fE0
      have fO := rowsM_ok fN
      have f3 := rowsM_ok fO
      have f2 := RM.failed_num f3
      have f1 := RM.failed_num f2
      obtain ⟨u1, e1, h1, _, _, l1⟩ := (RM.Has.new s).num_back 1 (by omega) f1
      obtain ⟨u2, e2, h2, _, _, l2⟩ := h1.num_back 1 (by omega) f2
      obtain ⟨u3, e3, h3, _, _, l3⟩ := h2.num_back 2 (by omega) f3
      obtain ⟨u5, g5⟩ : ∃ u5, ∃ u4, u3 = text (rowBytes (rdO s).2.2) ++ u4 ∧ u4 = text (rowBytes (rdN s).2.2) ++ u5 ∧ (rdN s).1.Has u5 := by
        have hO : (rdO s).2.1 = true := by
          cases ht : (rdO s).2.1 with
          | true => rfl
          | false =>
            exfalso
            have : (rdN s).2.1 = false := by
              unfold rdN rowsM
              rw [ht]
              split <;> simp
            rw [this] at c1
            cases c1
        obtain ⟨-, u4, e4, h4⟩ := rowsM_back (f := true) h3 fO hO
        obtain ⟨-, u5, e5, h5⟩ := rowsM_back h4 fN c1
        exact ⟨u5, u4, e4, e5, h5⟩
      obtain ⟨u4, e4, e5, h5⟩ := g5
      obtain ⟨u6, e6, h6, _, _, l6⟩ := h5.num_back 1 (by omega) fE0
      obtain ⟨u7, e7, h7⟩ := editsAt_back h6 _ fE
      obtain ⟨u8, e8, h8, _, _, l8⟩ := h7.num_back 1 (by omega) fX0
      obtain ⟨u9, e9, h9⟩ := xidsAt_back h8 _ fX
      obtain ⟨u10, e10, h10, _, l10⟩ := h9.text_back hf
      have hu : u10 = [] := by
        have := h10.left
        have hz : (rdX s).1.text.1.left = 0 := by
          have : ¬ 0 < (rdT s).1.left := c2
          unfold rdT at this
          omega
        exact List.eq_nil_of_length_eq_zero (this.symm.trans hz)
      have hright : r.right = true := by rw [← hr]; exact c3
      refine ⟨?_, hright⟩
      unfold R.bytes
      rw [if_pos hright, ← hr]
      have lE : (rdE s).2.length = ((rdN s).1.num 1).2 := editsAt_len _ _
      have lX : (rdX s).2.length = ((rdE s).1.num 1).2 := xidsAt_len _ _
      have raw : R.raw (rdR s) = be 1 ((RM.new s).num 1).2 ++ (be 1 (((RM.new s).num 1).1.num 1).2 ++ (be 2 ((((RM.new s).num 1).1.num 1).1.num 2).2 ++ (text (rowBytes (rdO s).2.2) ++ (text (rowBytes (rdN s).2.2) ++ (be 1 (rdE s).2.length ++ ((rdE s).2.flatMap E.bytes ++ (be 1 (rdX s).2.length ++ (((rdX s).2.flatMap fun x => be 1 x.toNat) ++ text (rdT s).2)))))))) := by
        unfold R.raw rdR
        dsimp only
        simp only [Int.toNat_natCast, List.append_assoc]
      rw [raw, lE, lX]
      conv => rhs; rw [e1, e2, e3, e4, e5, e6, e7, e8, e9, e10, hu, List.append_nil]
      rfl
theorem raw_inj {a b : R} (ha : a.right = true) (hb : b.right = true) (pa : a.plain = a) (pb : b.plain = b) (ao : ∀ v ∈ a.old, v.In) (an : ∀ v ∈ a.new, v.In) (bo : ∀ v ∈ b.old, v.In) (bn : ∀ v ∈ b.new, v.In) (h : a.raw = b.raw) : a = b := by
  have h1 := readR_raw ha ao an
  have h2 := readR_raw hb bo bn
  rw [h, h2] at h1
  have := congrArg Prod.fst h1
  rw [← pa, ← pb]
  exact this.symm
end Go.VB.Rec

namespace Go.VB.Rec
open Go.VB.Oct Go.RowKit
def finV : Except Int (List V × List UInt8) → List V × Int
  | .error e => ([], e)
  | .ok (l, []) => (l, 0)
  | .ok (_, _ :: _) => ([], 11)
theorem readV_fin (c : UInt8) (s : List UInt8) (h : ¬ 6 < c.toNat) : readV (c :: s) = finV (more [] (readN c.toNat s)) := by
  rw [more_nil]
  unfold readV
  dsimp only
  rw [if_neg h]
  cases readN c.toNat s with
  | error e => rfl
  | ok p =>
    obtain ⟨l, t⟩ := p
    cases t <;> rfl
theorem u8_of {c : UInt8} {k : Nat} (hk : k < 256) (h : c.toNat = k) : c = UInt8.ofNat k := by
  apply UInt8.toNat_inj.1
  rw [h, UInt8.toNat_ofNat_of_lt' hk]
theorem ro0 {c : UInt8} {t : List UInt8} (h : c.toNat = 0) : readOne (c :: t) = .ok (⟨0, 0, []⟩, t) := by
  obtain rfl := u8_of (by omega) h
  rfl
theorem ro1 {c : UInt8} {t : List UInt8} (h : c.toNat = 1) (hl : 8 ≤ t.length) : readOne (c :: t) = .ok (⟨1, int8 (t.take 8), []⟩, t.drop 8) := by
  obtain rfl := u8_of (by omega) h
  unfold readOne
  dsimp only
  rw [if_neg (by decide), if_pos (by decide), if_neg (by omega)]
theorem ro1s {c : UInt8} {t : List UInt8} (h : c.toNat = 1) (hl : t.length < 8) : readOne (c :: t) = .error 10 := by
  obtain rfl := u8_of (by omega) h
  unfold readOne
  dsimp only
  rw [if_neg (by decide), if_pos (by decide), if_pos hl]
theorem ro2n {c : UInt8} (h : c.toNat = 2) : readOne [c] = .error 10 := by
  obtain rfl := u8_of (by omega) h
  rfl
theorem ro2m {c m : UInt8} {t : List UInt8} (h : c.toNat = 2) (hm : 40 < m.toNat) : readOne (c :: m :: t) = .error 2 := by
  obtain rfl := u8_of (by omega) h
  unfold readOne
  dsimp only
  rw [if_neg (by decide), if_neg (by decide), if_pos (by decide), if_pos hm]
theorem ro2s {c m : UInt8} {t : List UInt8} (h : c.toNat = 2) (hm : ¬ 40 < m.toNat) (hl : t.length < m.toNat) : readOne (c :: m :: t) = .error 10 := by
  obtain rfl := u8_of (by omega) h
  unfold readOne
  dsimp only
  rw [if_neg (by decide), if_neg (by decide), if_pos (by decide), if_neg hm, if_pos hl]
theorem ro2 {c m : UInt8} {t : List UInt8} (h : c.toNat = 2) (hm : ¬ 40 < m.toNat) (hl : ¬ t.length < m.toNat) : readOne (c :: m :: t) = .ok (⟨2, 0, t.take m.toNat⟩, t.drop m.toNat) := by
  obtain rfl := u8_of (by omega) h
  unfold readOne
  dsimp only
  rw [if_neg (by decide), if_neg (by decide), if_pos (by decide), if_neg hm, if_neg hl]
theorem rox {c : UInt8} {t : List UInt8} (h : 2 < c.toNat) : readOne (c :: t) = .error 11 := by
  have h0 : c ≠ 0 := fun e => by subst e; simp at h
  have h1 : c ≠ 1 := fun e => by subst e; simp at h
  have h2 : c ≠ 2 := fun e => by subst e; simp at h
  unfold readOne
  dsimp only
  rw [if_neg h0, if_neg h1, if_neg h2]
theorem wrap64_eq (n : Int) : wrap64 n = IntKind.i64.wrap n := by rw [IntKind.wrap_i64]; unfold wrap64; omega
theorem wrap_step (l : List UInt8) (c : UInt8) : wrap64 (wrap64 (IntKind.i64.wrap (num l) * 256) + (c.toNat : Int)) = IntKind.i64.wrap (num (l ++ [c])) := by
  have h1 : wrap64 (IntKind.i64.wrap (num l) * 256) = wrap64 ((num l : Int) * 256) := by
    rw [IntKind.wrap_i64]
    generalize (num l : Int) = n
    unfold wrap64
    omega
  have h2 : ∀ n k : Int, wrap64 (wrap64 n + k) = wrap64 (n + k) := by
    intro n k
    unfold wrap64
    omega
  rw [h1, h2, wrap64_eq, num_snoc]
  all_goals (congr 1; try omega)
end Go.VB.Rec
namespace Go.Proofs.YtknpncpoojjbfaaDoor
open Go.RowKit Go.VB Go.VB.Oct Go.VB.Rec
theorem size_Got2 : (Tryd.prog.info? 40).map (·.size) = some 2 := by kernel_rfl
theorem bs_get (s : List UInt8) {j : Nat} (h : j < s.length) {k : Nat} (hk : s[j].toNat = k) : ((bs s)[j]'(by rw [bs_size]; exact h)).toNat = k := by
  have : (bs s)[j]'(by rw [bs_size]; exact h) = s[j] := by simp [bs]; rfl
  rw [this, hk]
/-- what the reading of a row has made so far -/
structure G2 (w W : World) (l : List V) (v5 : Value) : Prop where
  res : Blk W w.heap.size [.slice none 0 0, .int .i64 0] 40
  row : Row 28 3 (w.heap.size + 1) W v5 l.length (l.flatMap V.cells)
  fr : Fr (fun _ => False) w W
theorem G2.fre {w W W' : World} {l : List V} {v5 : Value} (h : G2 w W l v5) (f : Fr (fun _ => False) W W') : G2 w W' l v5 :=
  ⟨Blk.fr h.res f (fun h => h), h.row.fre f, h.fr.trans f (fun _ h _ => h)⟩
theorem G2.end_ {w W : World} {l : List V} {v5 : Value} (h : G2 w W l v5) (u : Value) (e : Int) :
    Blk (W.setCells w.heap.size 0 [u, .int .i64 e]) w.heap.size [u, .int .i64 e] 40 ∧ Fr (fun _ => False) w (W.setCells w.heap.size 0 [u, .int .i64 e]) ∧ Row 28 3 w.heap.size (W.setCells w.heap.size 0 [u, .int .i64 e]) v5 l.length (l.flatMap V.cells) := by
  have f := (Fr.refl (fun k => k = w.heap.size) W).put w.heap.size 0 [u, .int .i64 e] (fun _ => rfl)
  exact ⟨h.res.put 0 [u, .int .i64 e] (by simp), h.fr.trans f (fun k hk hl => by omega), (h.row.fr f (fun k hk e => by have := h.row.new k hk; omega)).low (by omega)⟩
theorem G2.grow {w wb wg : World} {l : List V} {v5 v' : Value} (h : G2 w wb l v5) {v : V} (hg : App 28 3 (w.heap.size + 1) wb wg v5 v' l.length (l.flatMap V.cells) v.cells) : G2 w wg (l ++ [v]) v' :=
  ⟨h.res.fr hg.fr (fun hk => h.row.ne h.res (by decide) _ hk rfl), hg.row.cast (by simp) (by simp), h.fr.trans hg.fr (fun k hk hl => by have := h.row.new k hk; omega)⟩
theorem G2.size {w W : World} {l : List V} {v5 : Value} (h : G2 w W l v5) : w.heap.size + 1 ≤ W.heap.size := by have := h.res.lt; omega
set_option maxRecDepth 20000 in
set_option maxHeartbeats 20000000 in
theorem r2Read_go (s : List UInt8) (hs : s.length ≤ 1099511627776) (w : World) : Calls Tryd.prog 28 #[.string (bs s)] w fun e w' => ∃ (a : Option Addr) (c : Nat), e = .returned (.agg #[.slice a (readV s).1.length c, .int .i64 (readV s).2]) ∧ Row 28 3 w.heap.size w' (.slice a (readV s).1.length c) (readV s).1.length ((readV s).1.flatMap V.cells) ∧ Fr (fun _ => False) w w' := by
  have e1 := bs_size s
  have B0 := hid (Blk.new w [.slice none 0 0, .int .i64 0] 40)
  have F0 := hid ((Fr.refl (fun _ => False) w).alloc (.cells #[.slice none 0 0, .int .i64 0] 40))
  have H0 : Hid (G2 w (w.alloc (.cells #[.slice none 0 0, .int .i64 0] 40)) [] (.slice none 0 0)) := hid ⟨B0.out, Row.nil, F0.out⟩
  clear B0 F0
  obtain ⟨res, hres⟩ : ∃ res, res = readV s := ⟨_, rfl⟩
  rw [← hres]
  by_cases hn0 : s.length = 0
  · have hz : s = [] := List.eq_nil_of_length_eq_zero hn0
    have HRS := hid (show res = ([], (10 : Int)) from by rw [hres, hz]; rfl)
    clear hres hz
    have hlt : ((s.length : Int) < 1) := by omega
    go_enter Tryd.func28, Tryd.ntmps28
    have th := (H0.out).res.there 0 2 (by simp)
    have HE := hid ((H0.out).end_ (.slice none 0 0) 10)
    have HRR := hid (show res = ([], (10 : Int)) from HRS.out)
    go_wp2_with (refine wpList_store_mid rfl 40 (.tmp 2) (.tmp 13) rfl w.heap.size 0 #[.slice none 0 0, .int .i64 10] rfl rfl th size_Got2 (by simp [Value.oneCell']) ?_)
    refine bodyPost_ret (v := .agg [.slice none 0 0, .int .i64 10].toArray) (results_cell_mid (b := w.heap.size) (o := 0) rfl _ _ rfl (cs := [.slice none 0 0, .int .i64 10]) (Blk.all _ HE.out.1) Tryd.underlying40 rfl size_Got2) rfl ?_
    rw [HRR.out]
    exact ⟨none, 0, rfl, Row.nil, HE.out.2.1⟩
  · have hs1 : 0 < s.length := by omega
    have hge : ¬ ((s.length : Int) < 1) := by omega
    have hsd : s = s[0] :: s.drop 1 := by
      have := List.drop_eq_getElem_cons hs1
      rwa [List.drop_zero] at this
    have hc0 := bs_get s hs1 rfl
    have hc256 := s[0].toNat_lt
    obtain ⟨n, hn⟩ : ∃ n, n = s[0].toNat := ⟨_, rfl⟩
    rw [← hn] at hc0 hc256
    by_cases h6 : 6 < n
    · have HRS := hid (show res = ([], (2 : Int)) from by
        rw [hres, hsd]
        unfold readV
        dsimp only
        rw [if_pos (by rw [← hn]; exact h6)])
      clear hres hsd hn
      have h6i : ((6 : Int) < (n : Int)) := by omega
      go_enter Tryd.func28, Tryd.ntmps28
      have th := (H0.out).res.there 0 2 (by simp)
      have HE := hid ((H0.out).end_ (.slice none 0 0) 2)
      have HRR := hid (show res = ([], (2 : Int)) from HRS.out)
      go_wp2_with (refine wpList_store_mid rfl 40 (.tmp 2) (.tmp 19) rfl w.heap.size 0 #[.slice none 0 0, .int .i64 2] rfl rfl th size_Got2 (by simp [Value.oneCell']) ?_)
      refine bodyPost_ret (v := .agg [.slice none 0 0, .int .i64 2].toArray) (results_cell_mid (b := w.heap.size) (o := 0) rfl _ _ rfl (cs := [.slice none 0 0, .int .i64 2]) (Blk.all _ HE.out.1) Tryd.underlying40 rfl size_Got2) rfl ?_
      rw [HRR.out]
      exact ⟨none, 0, rfl, Row.nil, HE.out.2.1⟩
    · have HRS := hid (show res = finV (more [] (readN n (s.drop 1))) from by
        rw [hres]
        conv => lhs; rw [hsd]
        rw [readV_fin _ _ (by rw [← hn]; exact h6), ← hn])
      have h6i : ¬ ((6 : Int) < (n : Int)) := by omega
      clear hres hsd hn
      go_enter Tryd.func28, Tryd.ntmps28
      go_wp2_with (fail)
      have H1 := hid (show G2 w ((w.alloc (.cells #[.slice none 0 0, .int .i64 0] 40)).alloc (.cells #[] 28)) [] (.slice (some ⟨w.heap.size + 1, 0, none⟩) 0 0) from
        ⟨Blk.fr H0.out.res ((Fr.refl (fun _ => False) _).alloc _) (fun h => h), by
          have := Row.built (e := 28) (n := 0) (size := 3) (B := w.heap.size + 1) (w.alloc (.cells #[.slice none 0 0, .int .i64 0] 40)) (l := []) rfl (by decide) (by rw [World.size_alloc]; omega)
          rwa [World.size_alloc] at this, H0.out.fr.alloc _⟩)
      clear H0
      generalize (w.alloc _).alloc _ = W1 at *
      go_loopw [4, 5, 6] (fun a4 v5 i wr => ∃ (j at_ : Nat) (l : List V), j ≤ n ∧ at_ ≤ s.length ∧ a4 = .int .i64 at_ ∧ i = .int .i64 j ∧ l.length = j ∧ G2 w wr l v5 ∧ res = finV (more l (readN (n - j) (s.drop at_)))) (fun _ _ i _ => n - (intOf i).toNat)
      case atStart => exact ⟨0, 1, [], by omega, by omega, rfl, rfl, rfl, H1.out, HRS.out⟩
      case round =>
        obtain ⟨j, at_, l, hj, hat, rfl, rfl, hlj, hG, hrs⟩ := hrel
        have HG := hid hG
        have HRJ := hid hrs
        have HLJ := hid hlj
        obtain ⟨a5, c5, rfl, _⟩ := hG.row.slice
        clear hG hrs hlj H1 HRS hc0 hge
        have i0 : (0 : Int) ≤ (at_ : Int) := by omega
        by_cases hjn : j < n
        · have hnj : n - j = (n - (j + 1)) + 1 := by omega
          have i1 : (j : Int) < (n : Int) := by omega
          by_cases hend : at_ = s.length
          · subst hend
            have HX := hid (show res = ([], (10 : Int)) from by
              rw [HRJ.out, hnj, more_err (e := 10) (by rw [List.drop_length]; rfl)]
              rfl)
            clear hnj
            have th := (HG.out).res.there 0 2 (by simp)
            have HE := hid ((HG.out).end_ (.slice none 0 0) 10)
            have HRR := hid (show res = ([], (10 : Int)) from HX.out)
            go_wp2_with (refine wpList_store_mid rfl 40 (.tmp 2) (.tmp 30) rfl w.heap.size 0 #[.slice none 0 0, .int .i64 10] rfl rfl th size_Got2 (by simp [Value.oneCell']) ?_)
            refine bodyPost_ret (v := .agg [.slice none 0 0, .int .i64 10].toArray) (results_cell_mid (b := w.heap.size) (o := 0) rfl _ _ rfl (cs := [.slice none 0 0, .int .i64 10]) (Blk.all _ HE.out.1) Tryd.underlying40 rfl size_Got2) rfl ?_
            rw [HRR.out]
            exact ⟨none, 0, rfl, Row.nil, HE.out.2.1⟩
          · have hlt : at_ < s.length := by omega
            have i2 : (at_ : Int) < (s.length : Int) := by omega
            have hdr : s.drop at_ = s[at_] :: s.drop (at_ + 1) := List.drop_eq_getElem_cons hlt
            have HDR := hid hdr
            have hdl : (s.drop (at_ + 1)).length = s.length - (at_ + 1) := List.length_drop
            have hk256 := s[at_].toNat_lt
            have HNJ := hid hnj
            clear hdr hnj
            have hcase : s[at_].toNat = 0 ∨ s[at_].toNat = 1 ∨ s[at_].toNat = 2 ∨ 2 < s[at_].toNat := by omega
            rcases hcase with hk | hk | hk | hk
            · -- null
              have hkk := bs_get s hlt hk
              have HS := hid (show res = finV (more (l ++ [⟨0, 0, []⟩]) (readN (n - (j + 1)) (s.drop (at_ + 1)))) from by rw [HRJ.out, HNJ.out, HDR.out, more_step (ro0 hk)])
              have HG2 := hid (HG.out.fre ((Fr.refl (fun _ => False) wr).alloc (.cells #[.int .i64 0, .int .i64 0, .string ⟨#[]⟩] 28)))
              clear hk hk256 hdl
              go_wp2_with (first | (at_builtin; refine wpList_app1 rfl (s := .tmp 103) (x := .tmp 105) (t := 23) rfl Tryd.underlying23 info_val val_cells rfl (by rw [World.size_alloc]; rfl) HG2.out.row HG2.out.size rfl (by simp [Value.oneCell']) (by have := HLJ.out; omega) (by have := HLJ.out; omega) ?_; intro ab ac wg APP; have HZ := hid (HG2.out.grow (v := ⟨0, 0, []⟩) APP); clear APP))
              go_roundw
              case rel => exact ⟨j + 1, at_ + 1, l ++ [⟨0, 0, []⟩], by omega, by omega, by simp, by simp, by have := HLJ.out; simp; omega, HZ.out, HS.out⟩
              case measure => simp [intOf]; omega
            · -- an integer
              have hkk := bs_get s hlt hk
              have HG2 := hid (HG.out.fre ((Fr.refl (fun _ => False) wr).alloc (.cells #[.int .i64 1, .int .i64 0, .string ⟨#[]⟩] 28)))
              by_cases h8 : s.length < at_ + 1 + 8
              · have HX := hid (show res = ([], (10 : Int)) from by
                  rw [HRJ.out, HNJ.out, HDR.out, more_err (ro1s hk (by omega))]
                  rfl)
                have i3 : (s.length : Int) < (at_ : Int) + 1 + 8 := by omega
                clear hk hk256 hdl
                have th := (HG2.out).res.there 0 2 (by simp)
                have HE := hid ((HG2.out).end_ (.slice none 0 0) 10)
                have HRR := hid (show res = ([], (10 : Int)) from HX.out)
                go_wp2_with (refine wpList_store_mid rfl 40 (.tmp 2) (.tmp 50) rfl w.heap.size 0 #[.slice none 0 0, .int .i64 10] rfl rfl th size_Got2 (by simp [Value.oneCell']) ?_)
                refine bodyPost_ret (v := .agg [.slice none 0 0, .int .i64 10].toArray) (results_cell_mid (b := w.heap.size) (o := 0) rfl _ _ rfl (cs := [.slice none 0 0, .int .i64 10]) (Blk.all _ HE.out.1) Tryd.underlying40 rfl size_Got2) rfl ?_
                rw [HRR.out]
                exact ⟨none, 0, rfl, Row.nil, HE.out.2.1⟩
              · have HS := hid (show res = finV (more (l ++ [⟨1, int8 ((s.drop (at_ + 1)).take 8), []⟩]) (readN (n - (j + 1)) (s.drop (at_ + 1 + 8)))) from by rw [HRJ.out, HNJ.out, HDR.out, more_step (ro1 hk (by omega)), List.drop_drop])
                have i3 : ¬ (s.length : Int) < (at_ : Int) + 1 + 8 := by omega
                have BV := hid (Blk.new wr [.int .i64 1, .int .i64 0, .string ⟨#[]⟩] 28)
                have FV := hid ((Fr.refl (fun _ => False) wr).alloc (.cells #[.int .i64 1, .int .i64 0, .string ⟨#[]⟩] 28))
                have H81 := hid h8
                clear hk hk256 hdl h8 HG2
                go_wp2_with (fail)
                generalize hdv : wr.heap.size = dv at *
                have HDV := hid hdv
                clear hdv
                generalize hw2 : wr.alloc _ = W2 at *
                clear hw2
                go_loopw [8] (fun i8 wt => ∃ (i : Nat), i ≤ 8 ∧ i8 = .int .i64 i ∧ Blk wt dv [.int .i64 1, .int .i64 (IntKind.i64.wrap (num ((s.drop (at_ + 1)).take i))), .string ⟨#[]⟩] 28 ∧ Fr (fun _ => False) wr wt) (fun i8 _ => 8 - (intOf i8).toNat)
                case atStart => exact ⟨0, by omega, rfl, BV.out, FV.out⟩
                case round =>
                  obtain ⟨i, hi, rfl, hb, hf⟩ := hrel
                  have HB := hid hb
                  have HF := hid hf
                  clear hb hf BV FV
                  by_cases hi8 : i < 8
                  · obtain ⟨y, hy⟩ : ∃ y, y = at_ + 1 + i := ⟨_, rfl⟩
                    have hai : y < s.length := by have := H81.out; omega
                    have hti : ((s.drop (at_ + 1)).take (i + 1)) = (s.drop (at_ + 1)).take i ++ [s[y]] := by
                      rw [List.take_succ_eq_append_getElem (by rw [List.length_drop]; omega)]
                      congr 2
                      rw [List.getElem_drop]
                      simp only [hy]
                    have HWS := hid (wrap_step ((s.drop (at_ + 1)).take i) s[y])
                    rw [← hti] at HWS
                    have hkb := bs_get s hai rfl
                    have hkb256 := s[y].toNat_lt
                    obtain ⟨x', hx'⟩ : ∃ x', x' = IntKind.i64.wrap (num ((s.drop (at_ + 1)).take (i + 1))) := ⟨_, rfl⟩
                    rw [← hx'] at HWS
                    have HXX := hid hx'
                    generalize IntKind.i64.wrap (num ((s.drop (at_ + 1)).take i)) = x at *
                    generalize s[y].toNat = kb at *
                    obtain ⟨y1, hy1⟩ : ∃ y, y = wrap64 (x * 256) := ⟨_, rfl⟩
                    rw [← hy1] at HWS
                    have HY1 := hid hy1.symm
                    have HYI := hid (show ((at_ : Int) + 1 + (i : Int)) = (y : Int) from by omega)
                    have HWA := hid (show IntKind.i64.wrap ((at_ : Int) + 1 + (i : Int)) = (y : Int) from by rw [IntKind.wrap_i64]; omega)
                    have HWB := hid (show wrap64 ((at_ : Int) + 1 + (i : Int)) = (y : Int) from by rw [wrap64_eq]; exact HWA.out)
                    clear hti hx' hy1 hy
                    have i4 : (i : Int) < 8 := by omega
                    have i5 : (0 : Int) ≤ (y : Int) := by omega
                    have i6 : (y : Int) < (s.length : Int) := by omega
                    go_upto_region 24 with fail
                    have HB1 := hid HB.out.drew
                    have HZ := hid (HB.out.set 1 (.int .i64 x')).drew
                    have HFZ := hid (HF.out.setCell ⟨dv, 1, none⟩ (.int .i64 x') (fun h => by have := HDV.out; dsimp only at h; omega)).drew
                    refine wp_region_scr (.take 0 (.take 1 (.take 2 (.take 3 (.take 4 (.take 5 (.take 6 (.take 7 (.take 8 (.take 9 (.take 10 (.op 11 .done)))))))))))) (fun kz w => (kz ≤ 11 → w.cell? ⟨dv, 1, none⟩ = some (.int .i64 x)) ∧ True) (by kernel_rfl) (by kernel_rfl) (by intro c a d v w h; cases d <;> exact h) ?_
                    repeat
                      first
                      | (refine wpT_pure rfl rfl rfl ?_; apply Exists.intro; refine ⟨?_, ?_⟩; intro w; (first | (first | (refine Eq.trans (b := Result.ok (Next.value (.int .i64 (y : Int))) w) ?_ rfl; go_simp; first | exact HWA.out | rw [HWA.out]) | (refine Eq.trans (b := Result.ok (Next.value (.int .i64 y1)) w) ?_ rfl; go_simp; first | exact HY1.out | rw [HY1.out]) | (refine Eq.trans (b := Result.ok (Next.value (.int .i64 x')) w) ?_ rfl; go_simp; first | exact HWS.out | rw [HWS.out])) | (go_simp <;> rfl)); simp only [Act.put, List.setIfInBounds_toArray, List.set_cons_zero, List.set_cons_succ])
                      | (refine wpT_take 11 rfl rfl (by decide +kernel) ⟨fun _ => HB1.out.cell 1, trivial⟩ ?_; apply Exists.intro; refine ⟨?_, ?_⟩; intro w hw; (have qa := hw.1 (Nat.le_refl _); have qb := hw.2); (first | (first | (refine Eq.trans (b := Result.ok (Next.value (.int .i64 (y : Int))) w) ?_ rfl; go_simp; first | exact HWA.out | rw [HWA.out]) | (refine Eq.trans (b := Result.ok (Next.value (.int .i64 y1)) w) ?_ rfl; go_simp; first | exact HY1.out | rw [HY1.out]) | (refine Eq.trans (b := Result.ok (Next.value (.int .i64 x')) w) ?_ rfl; go_simp; first | exact HWS.out | rw [HWS.out])) | (go_simp <;> rfl)); simp only [Act.put, List.setIfInBounds_toArray, List.set_cons_zero, List.set_cons_succ])
                      | (refine wpT_skip rfl rfl ?_; simp only [Act.put, List.setIfInBounds_toArray, List.set_cons_zero, List.set_cons_succ])
                    have kb1 : wr.drew.cell? ⟨dv, 1, none⟩ = some (.int .i64 x) := HB1.out.cell 1
                    have kz1 := HB1.out.frozen 1
                    refine wpT_op rfl ?_
                    go_wp2_with (fail)
                    rw [HY1.out, HWS.out]
                    refine ⟨fun kz hk hk2 hh => (by first | exact ⟨fun h => absurd h (by omega), trivial⟩ | exact fun h => absurd h (by omega)), ?_⟩
                    refine wpT_nil ?_
                    clear kb1 kz1
                    go_wp2_with (fail)
                    go_roundw
                    case rel => exact ⟨i + 1, by omega, by simp, by rw [← HXX.out]; exact HZ.out, HFZ.out⟩
                    case measure => simp [intOf]; omega
                  · obtain rfl : i = 8 := by omega
                    obtain ⟨z, hz⟩ : ∃ z, z = int8 ((s.drop (at_ + 1)).take 8) := ⟨_, rfl⟩
                    have HB8 : Hid (Blk wr dv [.int .i64 1, .int .i64 z, .string ⟨#[]⟩] 28) := hid (by rw [hz]; exact HB.out)
                    rw [← hz] at HS
                    clear HB hz
                    have HG3 := hid (HG.out.fre HF.out)
                    have q0 : wr.cell? ⟨dv, 0, none⟩ = some (.int .i64 1) := HB8.out.cell 0
                    have q1 : wr.cell? ⟨dv, 1, none⟩ = some (.int .i64 z) := HB8.out.cell 1
                    have q2 : wr.cell? ⟨dv, 2, none⟩ = some (.string ⟨#[]⟩) := HB8.out.cell 2
                    go_wp2_with (first | (at_builtin; refine wpList_app1 rfl (s := .tmp 103) (x := .tmp 105) (t := 23) rfl Tryd.underlying23 info_val val_cells rfl rfl HG3.out.row HG3.out.size rfl (by simp [Value.oneCell']) (by have := HLJ.out; omega) (by have := HLJ.out; omega) ?_; intro ab ac wg APP; have HZ := hid (HG3.out.grow (v := ⟨1, z, []⟩) APP); clear APP))
                    go_roundw
                    case rel => exact ⟨j + 1, at_ + 1 + 8, l ++ [⟨1, z, []⟩], by omega, by have := H81.out; omega, by simp, by simp, by have := HLJ.out; simp; omega, HZ.out, HS.out⟩
                    case measure => simp [intOf]; omega
            · -- a text
              have hkk := bs_get s hlt hk
              have HG2 := hid (HG.out.fre ((Fr.refl (fun _ => False) wr).alloc (.cells #[.int .i64 2, .int .i64 0, .string ⟨#[]⟩] 28)))
              by_cases hend2 : at_ + 1 = s.length
              · have HX := hid (show res = ([], (10 : Int)) from by
                  rw [HRJ.out, HNJ.out, HDR.out, hend2, List.drop_length, more_err (ro2n hk)]
                  rfl)
                have i3 : (s.length : Int) ≤ (at_ : Int) + 1 := by omega
                clear hk hk256 hdl
                have th := (HG2.out).res.there 0 2 (by simp)
                have HE := hid ((HG2.out).end_ (.slice none 0 0) 10)
                have HRR := hid (show res = ([], (10 : Int)) from HX.out)
                go_wp2_with (refine wpList_store_mid rfl 40 (.tmp 2) (.tmp 74) rfl w.heap.size 0 #[.slice none 0 0, .int .i64 10] rfl rfl th size_Got2 (by simp [Value.oneCell']) ?_)
                refine bodyPost_ret (v := .agg [.slice none 0 0, .int .i64 10].toArray) (results_cell_mid (b := w.heap.size) (o := 0) rfl _ _ rfl (cs := [.slice none 0 0, .int .i64 10]) (Blk.all _ HE.out.1) Tryd.underlying40 rfl size_Got2) rfl ?_
                rw [HRR.out]
                exact ⟨none, 0, rfl, Row.nil, HE.out.2.1⟩
              · have hlt2 : at_ + 1 < s.length := by omega
                have hdr2 : s.drop (at_ + 1) = s[at_ + 1] :: s.drop (at_ + 1 + 1) := List.drop_eq_getElem_cons hlt2
                have hdl2 : (s.drop (at_ + 1 + 1)).length = s.length - (at_ + 1 + 1) := List.length_drop
                have hmm := bs_get s hlt2 rfl
                have hm256 := s[at_ + 1].toNat_lt
                have i3 : ¬ (s.length : Int) ≤ (at_ : Int) + 1 := by omega
                have i3b : ((at_ : Int) + 1) < (s.length : Int) := by omega
                obtain ⟨m, hm⟩ : ∃ m, m = s[at_ + 1].toNat := ⟨_, rfl⟩
                by_cases h40 : 40 < m
                · have HX := hid (show res = ([], (2 : Int)) from by
                    rw [HRJ.out, HNJ.out, HDR.out, hdr2, more_err (ro2m hk (by rw [← hm]; exact h40))]
                    rfl)
                  rw [← hm] at hmm hm256
                  have i4 : (40 : Int) < (m : Int) := by omega
                  clear hk hk256 hdl hm hdr2 hdl2
                  have th := (HG2.out).res.there 0 2 (by simp)
                  have HE := hid ((HG2.out).end_ (.slice none 0 0) 2)
                  have HRR := hid (show res = ([], (2 : Int)) from HX.out)
                  go_wp2_with (refine wpList_store_mid rfl 40 (.tmp 2) (.tmp 81) rfl w.heap.size 0 #[.slice none 0 0, .int .i64 2] rfl rfl th size_Got2 (by simp [Value.oneCell']) ?_)
                  refine bodyPost_ret (v := .agg [.slice none 0 0, .int .i64 2].toArray) (results_cell_mid (b := w.heap.size) (o := 0) rfl _ _ rfl (cs := [.slice none 0 0, .int .i64 2]) (Blk.all _ HE.out.1) Tryd.underlying40 rfl size_Got2) rfl ?_
                  rw [HRR.out]
                  exact ⟨none, 0, rfl, Row.nil, HE.out.2.1⟩
                · by_cases hshort : s.length - (at_ + 1 + 1) < m
                  · have HX := hid (show res = ([], (10 : Int)) from by
                      rw [HRJ.out, HNJ.out, HDR.out, hdr2, more_err (ro2s hk (by rw [← hm]; exact h40) (by rw [hdl2, ← hm]; exact hshort))]
                      rfl)
                    rw [← hm] at hmm hm256
                    have i4 : ¬ (40 : Int) < (m : Int) := by omega
                    have i5 : (s.length : Int) < (at_ : Int) + 1 + 1 + (m : Int) := by omega
                    clear hk hk256 hdl hm hdr2 hdl2
                    have th := (HG2.out).res.there 0 2 (by simp)
                    have HE := hid ((HG2.out).end_ (.slice none 0 0) 10)
                    have HRR := hid (show res = ([], (10 : Int)) from HX.out)
                    go_wp2_with (refine wpList_store_mid rfl 40 (.tmp 2) (.tmp 89) rfl w.heap.size 0 #[.slice none 0 0, .int .i64 10] rfl rfl th size_Got2 (by simp [Value.oneCell']) ?_)
                    refine bodyPost_ret (v := .agg [.slice none 0 0, .int .i64 10].toArray) (results_cell_mid (b := w.heap.size) (o := 0) rfl _ _ rfl (cs := [.slice none 0 0, .int .i64 10]) (Blk.all _ HE.out.1) Tryd.underlying40 rfl size_Got2) rfl ?_
                    rw [HRR.out]
                    exact ⟨none, 0, rfl, Row.nil, HE.out.2.1⟩
                  · have HS := hid (show res = finV (more (l ++ [⟨2, 0, (s.drop (at_ + 1 + 1)).take m⟩]) (readN (n - (j + 1)) (s.drop (at_ + 1 + 1 + m)))) from by
                      rw [HRJ.out, HNJ.out, HDR.out, hdr2, more_step (ro2 hk (by rw [← hm]; exact h40) (by rw [hdl2, ← hm]; exact hshort)), ← hm, List.drop_drop])
                    rw [← hm] at hmm hm256
                    have i4 : ¬ (40 : Int) < (m : Int) := by omega
                    have i5 : ¬ (s.length : Int) < (at_ : Int) + 1 + 1 + (m : Int) := by omega
                    have i6 : (at_ : Int) + 1 + 1 + (m : Int) ≤ (s.length : Int) := by omega
                    have hex := ex_take s (at_ + 1 + 1) m
                    have H2 := hid (show at_ + 1 + 1 + m ≤ s.length by omega)
                    clear hk hk256 hdl hm hdr2 hdl2 hshort
                    generalize (s.drop (at_ + 1 + 1)).take m = tx at *
                    have HG5 := hid (HG.out.fre ((Fr.refl (fun _ => False) wr).alloc (.cells #[.int .i64 2, .int .i64 0, .string (bs tx)] 28)))
                    clear HG2
                    go_wp2_with (first | (at_builtin; refine wpList_app1 rfl (s := .tmp 103) (x := .tmp 105) (t := 23) rfl Tryd.underlying23 info_val val_cells rfl (by rw [World.size_alloc]; rfl) HG5.out.row HG5.out.size rfl (by simp [Value.oneCell']) (by have := HLJ.out; omega) (by have := HLJ.out; omega) ?_; intro ab ac wg APP; have HZ := hid (HG5.out.grow (v := ⟨2, 0, tx⟩) APP); clear APP))
                    go_roundw
                    case rel => exact ⟨j + 1, at_ + 1 + 1 + m, l ++ [⟨2, 0, tx⟩], by omega, by have := H2.out; omega, by simp, by simp, by have := HLJ.out; simp; omega, HZ.out, HS.out⟩
                    case measure => simp [intOf]; omega
            · -- any other kind
              have hkk := bs_get s hlt rfl
              obtain ⟨kk, hkv⟩ : ∃ kk, kk = s[at_].toNat := ⟨_, rfl⟩
              have HX := hid (show res = ([], (11 : Int)) from by
                rw [HRJ.out, HNJ.out, HDR.out, more_err (rox hk)]
                rfl)
              rw [← hkv] at hkk hk hk256
              have HG2 := hid (HG.out.fre ((Fr.refl (fun _ => False) wr).alloc (.cells #[.int .i64 kk, .int .i64 0, .string ⟨#[]⟩] 28)))
              have kb0 : ((kk : Int) == 0) = false := by rw [beq_eq_false_iff_ne]; omega
              have kb1 : ((kk : Int) == 1) = false := by rw [beq_eq_false_iff_ne]; omega
              have kb2 : ((kk : Int) == 2) = false := by rw [beq_eq_false_iff_ne]; omega
              clear hdl hkv hk
              have th := (HG2.out).res.there 0 2 (by simp)
              have HE := hid ((HG2.out).end_ (.slice none 0 0) 11)
              have HRR := hid (show res = ([], (11 : Int)) from HX.out)
              go_wp2_with (refine wpList_store_mid rfl 40 (.tmp 2) (.tmp 40) rfl w.heap.size 0 #[.slice none 0 0, .int .i64 11] rfl rfl th size_Got2 (by simp [Value.oneCell']) ?_)
              refine bodyPost_ret (v := .agg [.slice none 0 0, .int .i64 11].toArray) (results_cell_mid (b := w.heap.size) (o := 0) rfl _ _ rfl (cs := [.slice none 0 0, .int .i64 11]) (Blk.all _ HE.out.1) Tryd.underlying40 rfl size_Got2) rfl ?_
              rw [HRR.out]
              exact ⟨none, 0, rfl, Row.nil, HE.out.2.1⟩
        · obtain rfl : j = n := by omega
          have HS := hid (show res = finV (.ok (l, s.drop at_)) from by
            rw [HRJ.out, Nat.sub_self]
            simp [readN, more])
          by_cases hend : at_ = s.length
          · have hb : ((at_ : Int) != (s.length : Int)) = false := by rw [bne_eq_false_iff_eq]; omega
            have HRR := hid (show res = (l, (0 : Int)) from by rw [HS.out, hend, List.drop_length]; rfl)
            clear hend
            have th := (HG.out).res.there 0 2 (by simp)
            have HE := hid ((HG.out).end_ (.slice a5 l.length c5) 0)
            go_wp2_with (refine wpList_store_mid rfl 40 (.tmp 2) (.tmp 113) rfl w.heap.size 0 #[.slice a5 l.length c5, .int .i64 0] rfl rfl th size_Got2 (by simp [Value.oneCell']) ?_)
            refine bodyPost_ret (v := .agg [.slice a5 l.length c5, .int .i64 0].toArray) (results_cell_mid (b := w.heap.size) (o := 0) rfl _ _ rfl (cs := [.slice a5 l.length c5, .int .i64 0]) (Blk.all _ HE.out.1) Tryd.underlying40 rfl size_Got2) rfl ?_
            rw [HRR.out]
            exact ⟨a5, c5, rfl, HE.out.2.2, HE.out.2.1⟩
          · have hb : ((at_ : Int) != (s.length : Int)) = true := by rw [bne_iff_ne]; omega
            have HX := hid (show res = ([], (11 : Int)) from by
              rw [HS.out, List.drop_eq_getElem_cons (show at_ < s.length by omega)]
              rfl)
            clear hend
            have th := (HG.out).res.there 0 2 (by simp)
            have HE := hid ((HG.out).end_ (.slice none 0 0) 11)
            have HRR := hid (show res = ([], (11 : Int)) from HX.out)
            go_wp2_with (refine wpList_store_mid rfl 40 (.tmp 2) (.tmp 111) rfl w.heap.size 0 #[.slice none 0 0, .int .i64 11] rfl rfl th size_Got2 (by simp [Value.oneCell']) ?_)
            refine bodyPost_ret (v := .agg [.slice none 0 0, .int .i64 11].toArray) (results_cell_mid (b := w.heap.size) (o := 0) rfl _ _ rfl (cs := [.slice none 0 0, .int .i64 11]) (Blk.all _ HE.out.1) Tryd.underlying40 rfl size_Got2) rfl ?_
            rw [HRR.out]
            exact ⟨none, 0, rfl, Row.nil, HE.out.2.1⟩
end Go.Proofs.YtknpncpoojjbfaaDoor

namespace Go.Proofs.YtknpncpoojjbfaaDoor
open Go.RowKit Go.VB Go.VB.Oct Go.VB.Rec
/-- the reader's three cells -/
structure R4C (w : World) (p : Nat) (s : List UInt8) (a : Nat) (b : Bool) : Prop where
  c0 : w.cell? ⟨p, 0, none⟩ = some (.string (bs s))
  c1 : w.cell? ⟨p, 1, none⟩ = some (.int .i64 a)
  c2 : w.cell? ⟨p, 2, none⟩ = some (.bool b)
theorem num_bad {rm : RM} (hf : rm.failed = false) {k : Nat} (h : rm.left < k) : rm.num k = ({ rm with failed := true }, 0) := by
  unfold RM.num RM.take RM.bad
  rw [if_pos (by rw [hf]; simpa using h)]
  rfl
theorem num_good {rm : RM} (hf : rm.failed = false) {k : Nat} (h : ¬ rm.left < k) : rm.num k = ({ rm with at_ := rm.at_ + k }, num ((rm.s.drop rm.at_).take k)) := by
  unfold RM.num RM.take RM.bad
  rw [if_neg (by rw [hf]; simpa using h)]
theorem text_bad {rm : RM} (h : ((rm.num 2).1.take (rm.num 2).2).1.failed = true) : rm.text.1.failed = true ∧ rm.text.2 = [] ∧ rm.text.1.s = rm.s := by
  have e : rm.text = ({ ((rm.num 2).1.take (rm.num 2).2).1 with at_ := rm.at_ }, ((rm.num 2).1.take (rm.num 2).2).2) := by
    unfold RM.text
    dsimp only
    rw [if_pos h]
  rw [e]
  refine ⟨h, ?_, ?_⟩
  · have : ∀ (r : RM) (n : Nat), (r.take n).1.failed = true → (r.take n).2 = [] := by
      intro r n hh
      unfold RM.take at hh ⊢
      split
      · rfl
      · rename_i hb
        rw [if_neg hb] at hh
        have : r.failed = true := hh
        unfold RM.bad at hb
        rw [this] at hb
        simp at hb
    exact this _ _ h
  · show ((rm.num 2).1.take (rm.num 2).2).1.s = rm.s
    rw [RM.take_s]
    show (rm.take 2).1.s = rm.s
    rw [RM.take_s]
theorem text_good {rm : RM} {m : RM} {n : Nat} (hm : rm.num 2 = (m, n)) (hf : m.failed = false) (h : ¬ m.left < n) : rm.text = ({ m with at_ := m.at_ + n }, (m.s.drop m.at_).take n) := by
  have e : m.take n = ({ m with at_ := m.at_ + n }, (m.s.drop m.at_).take n) := by
    unfold RM.take RM.bad
    rw [if_neg (by rw [hf]; simpa using h)]
  unfold RM.text
  rw [hm]
  dsimp only
  rw [e]
  dsimp only
  rw [if_neg (by rw [hf]; simp)]
end Go.Proofs.YtknpncpoojjbfaaDoor

namespace Go.VB.Rec
open Go.VB.Oct Go.Proofs.YtknpncpoojjbfaaDoor
theorem rdO_reader (s : List UInt8) : (rdO s).1 = (rd3 s).text.1 := rowsM_reader _ _
theorem rdN_reader (s : List UInt8) : (rdN s).1 = (rd3 s).text.1.text.1 := by unfold rdN; rw [rowsM_reader, rdO_reader]
/-- the reference's loops stop at the first failure: what that says of the whole reading -/
theorem run_ends {s : List UInt8} {j1 j2 : Nat} {bE : RM × List E} {c : RM × Nat} {bX : RM × List Int} {t : RM × List UInt8}
    (hE : editsAt j1 ((rdN s).1.num 1).1 = bE) (e1 : j1 = ((rdN s).1.num 1).2 ∨ bE.1.failed = true) (l1 : j1 ≤ ((rdN s).1.num 1).2) (hc : bE.1.num 1 = c)
    (hX : xidsAt j2 c.1 = bX) (e2 : j2 = c.2 ∨ bX.1.failed = true) (l2 : j2 ≤ c.2) (ht : bX.1.text = t) :
    t.1.failed = (rdT s).1.failed ∧ (t.1.failed = false → bE = rdE s ∧ bX = rdX s ∧ t = rdT s) := by
  have sE : ∀ (i j : Nat) (b : RM), (editsAt j b).1.failed = true → (editsAt (j + i) b).1.failed = true := by
    intro i
    induction i with
    | zero => intro j b h; exact h
    | succ i ih =>
      intro j b h
      have := ih j b h
      cases hh : (editsAt (j + (i + 1)) b).1.failed with
      | true => rfl
      | false =>
        exfalso
        have f3 : ((((editsAt (j + i) b).1.num 2).1.num 1).1.text).1.failed = false := hh
        have f0 := RM.failed_num (RM.failed_num (RM.failed_text f3))
        rw [this] at f0
        cases f0
  have sX : ∀ (i j : Nat) (b : RM), (xidsAt j b).1.failed = true → (xidsAt (j + i) b).1.failed = true := by
    intro i
    induction i with
    | zero => intro j b h; exact h
    | succ i ih =>
      intro j b h
      have := ih j b h
      cases hh : (xidsAt (j + (i + 1)) b).1.failed with
      | true => rfl
      | false =>
        exfalso
        have f3 : (((xidsAt (j + i) b).1.num 1).1).failed = false := hh
        have f0 := RM.failed_num f3
        rw [this] at f0
        cases f0
  -- where nothing has failed, all is as in the whole reading
  have key1 : bE.1.failed = false → bE = rdE s := by
    intro h
    rcases e1 with e | e
    · rw [← hE, e]; rfl
    · rw [h] at e; cases e
  have key1' : (rdE s).1.failed = false → bE.1.failed = false := by
    intro h
    cases hb : bE.1.failed with
    | false => rfl
    | true =>
      exfalso
      rw [← hE] at hb
      have := sE (((rdN s).1.num 1).2 - j1) j1 _ hb
      rw [Nat.add_sub_cancel' l1] at this
      have e : (editsAt ((rdN s).1.num 1).2 ((rdN s).1.num 1).1).1.failed = (rdE s).1.failed := rfl
      rw [e, h] at this
      cases this
  have key2 : t.1.failed = false → bE = rdE s ∧ bX = rdX s ∧ t = rdT s := by
    intro h
    have hx : bX.1.failed = false := RM.failed_text (by rw [ht]; exact h)
    have hc1 : c.1.failed = false := xidsAt_ok j2 (by rw [hX]; exact hx)
    have hb : bE.1.failed = false := RM.failed_num (k := 1) (by rw [hc]; exact hc1)
    have k1 := key1 hb
    have k2 : bX = rdX s := by
      rcases e2 with e | e
      · rw [← hX, e, ← hc, k1]; rfl
      · rw [hx] at e; cases e
    exact ⟨k1, k2, by rw [← ht, k2]; rfl⟩
  refine ⟨?_, key2⟩
  cases hb : t.1.failed with
  | false => rw [← (key2 hb).2.2, hb]
  | true =>
    cases hr : (rdT s).1.failed with
    | true => rfl
    | false =>
      exfalso
      have fX : (rdX s).1.failed = false := RM.failed_text hr
      have fX0 : ((rdE s).1.num 1).1.failed = false := xidsAt_ok _ fX
      have fE : (rdE s).1.failed = false := RM.failed_num fX0
      have k1 := key1 (key1' fE)
      have hcc : c = (rdE s).1.num 1 := by rw [← hc, k1]
      have hx : bX.1.failed = false := by
        cases hq : bX.1.failed with
        | false => rfl
        | true =>
          exfalso
          rw [← hX] at hq
          have := sX (c.2 - j2) j2 _ hq
          rw [Nat.add_sub_cancel' l2, hcc] at this
          have e : (xidsAt ((rdE s).1.num 1).2 ((rdE s).1.num 1).1).1.failed = (rdX s).1.failed := rfl
          rw [e, fX] at this
          cases this
      have k2 : bX = rdX s := by
        rcases e2 with e | e
        · rw [← hX, e, hcc]; rfl
        · rw [hx] at e; cases e
      have : t = rdT s := by rw [← ht, k2]; rfl
      rw [this, hr] at hb
      cases hb
theorem num_s (b : RM) (k : Nat) : (b.num k).1.s = b.s := RM.take_s _ _
theorem text_s (b : RM) : b.text.1.s = b.s := by
  have : ((b.num 2).1.take (b.num 2).2).1.s = b.s := by rw [RM.take_s, num_s]
  unfold RM.text
  dsimp only
  split
  · exact this
  · exact this
theorem editsAt_s (b : RM) : ∀ j, (editsAt j b).1.s = b.s
  | 0 => rfl
  | j + 1 => by
    show (((editsAt j b).1.num 2).1.num 1).1.text.1.s = b.s
    rw [text_s, num_s, num_s, editsAt_s b j]
theorem xidsAt_s (b : RM) : ∀ j, (xidsAt j b).1.s = b.s
  | 0 => rfl
  | j + 1 => by
    show ((xidsAt j b).1.num 1).1.s = b.s
    rw [num_s, xidsAt_s b j]
theorem rdT_s (s : List UInt8) : (rdT s).1.s = s := by
  unfold rdT rdX rdE
  rw [text_s, xidsAt_s, num_s, editsAt_s, num_s, rdN_reader, text_s, text_s]
  unfold rd3
  rw [num_s, num_s, num_s]
  rfl
theorem readR_short {s : List UInt8} (h : (rdT s).1.failed = true) : readR s = (R.zero, 10) := by
  unfold readR
  rw [if_pos h]
theorem readR_run {s : List UInt8} (hf : (rdT s).1.failed = false) :
    readR s = if (!decide ((readV (rd3 s).text.2).2 = 0) || !decide ((readV (rd3 s).text.1.text.2).2 = 0) || decide (0 < (rdT s).1.left) || !(R.mk (((RM.new s).num 1).2 : Int) ((((RM.new s).num 1).1.num 1).2 : Int) (((((RM.new s).num 1).1.num 1).1.num 2).2 : Int) (readV (rd3 s).text.2).1 (readV (rd3 s).text.1.text.2).1 (rdE s).2 (rdX s).2 (rdT s).2).right) then (R.zero, 11)
      else (R.mk (((RM.new s).num 1).2 : Int) ((((RM.new s).num 1).1.num 1).2 : Int) (((((RM.new s).num 1).1.num 1).1.num 2).2 : Int) (readV (rd3 s).text.2).1 (readV (rd3 s).text.1.text.2).1 (rdE s).2 (rdX s).2 (rdT s).2, 0) := by
  have fX : (rdX s).1.failed = false := RM.failed_text hf
  have fE : (rdE s).1.failed = false := RM.failed_num (xidsAt_ok _ fX)
  have fN : (rdN s).1.failed = false := RM.failed_num (editsAt_ok _ fE)
  have fN' := fN
  rw [rdN_reader] at fN'
  have fO := RM.failed_text fN'
  have hO : rdO s = ((rd3 s).text.1, decide ((readV (rd3 s).text.2).2 = 0), (readV (rd3 s).text.2).1) := by
    unfold rdO rowsM
    rw [if_neg (by rw [fO]; simp)]
    simp
  have hN : rdN s = ((rd3 s).text.1.text.1, decide ((readV (rd3 s).text.2).2 = 0) && decide ((readV (rd3 s).text.1.text.2).2 = 0), (readV (rd3 s).text.1.text.2).1) := by
    unfold rdN rowsM
    rw [hO]
    dsimp only
    rw [if_neg (by rw [fN']; simp)]
  have hR : rdR s = R.mk (((RM.new s).num 1).2 : Int) ((((RM.new s).num 1).1.num 1).2 : Int) (((((RM.new s).num 1).1.num 1).1.num 2).2 : Int) (readV (rd3 s).text.2).1 (readV (rd3 s).text.1.text.2).1 (rdE s).2 (rdX s).2 (rdT s).2 := by
    unfold rdR
    rw [hO, hN]
  unfold readR
  rw [if_neg (by rw [hf]; simp), hR, hN]
  dsimp only
  rw [Bool.not_and]
end Go.VB.Rec
namespace Go.Proofs.YtknpncpoojjbfaaDoor
open Go.RowKit Go.VB Go.VB.Oct Go.VB.Rec
def got4 (r : R) (vo vn ve vx : Value) (e : Int) : List Value := rv r vo vn ve vx ++ [.int .i64 e]
namespace RdQ
variable {w0 W W' wg : World} {a : Nat} {rm : RM} {r : R} {ve vx v' : Value}
end RdQ
theorem HVF {w W W' W'' : World} {r : R} {vo vn ve vx : Value} (h : RV (fun k => w.heap.size + 3 ≤ k ∧ k < W.heap.size) W' r vo vn ve vx) (f : Fr (fun k => k = w.heap.size) W' W'') (hs : W.heap.size ≤ W'.heap.size) : RV (fun k => w.heap.size ≤ k ∧ k < W''.heap.size) W'' r vo vn ve vx := by
  have h2 := h.fr f (fun k hk e => by omega)
  have hsz := f.size
  have hm : ∀ k, (w.heap.size + 3 ≤ k ∧ k < W.heap.size) → (w.heap.size ≤ k ∧ k < W''.heap.size) := fun k hk => ⟨by omega, by omega⟩
  exact ⟨h2.o.mono hm, h2.n.mono hm, h2.e.mono hm, h2.x.mono hm, h2.lo, h2.ln, h2.le, h2.lx, fun k hk => hk.2⟩
end Go.Proofs.YtknpncpoojjbfaaDoor

/- from XArg.lean.tpl -/
namespace Go.VB.Rec
def in64 (n : Int) : Prop := -9223372036854775808 ≤ n ∧ n ≤ 9223372036854775807
def V.In2 (v : V) : Prop := in64 v.k ∧ in64 v.n
structure R.In (r : R) : Prop where
  kind : in64 r.kind
  xid : in64 r.xid
  table : in64 r.table
  old : ∀ v ∈ r.old, v.In2
  new : ∀ v ∈ r.new, v.In2
end Go.VB.Rec
namespace Go.Proofs.YtknpncpoojjbfaaDoor
open Go.RowKit Go.VB Go.VB.Oct Go.VB.Rec Go.WideShapes Go.ChangeShapes
theorem wf_in {x : Int} (h : (Lit.int .i64 x).wf = true) : in64 x := by
  simp [Lit.wf, IntKind.min, IntKind.max, IntKind.bits, IntKind.signed] at h
  unfold in64
  omega
section
variable {H : Type} {enc : TypeId × Value → H} {w : World} {base : Nat} {sp : Nat → Bool} {held : Bool}
theorem cells_int : Tryd.prog.cellsOf 3 = 1 := by kernel_rfl
theorem cells_i64 : Tryd.prog.cellsOf 2 = 1 := by kernel_rfl
theorem cells_str : Tryd.prog.cellsOf 9 = 1 := by kernel_rfl
theorem cells_row : Tryd.prog.cellsOf 23 = 1 := by kernel_rfl
theorem cells_val : Tryd.prog.cellsOf 28 = 3 := by kernel_rfl
set_option maxRecDepth 100000 in
theorem elem_val : ∀ fuel cs (r : DataW H × List MemPlace), cs.length = 3 → DataW.trod enc Tryd.prog w base sp held fuel 28 cs = some r → ∃ p : V, cs = p.cells ∧ V.In2 p := by
  intro fuel cs r hl h
  match cs, hl with
  | [a, b, c], _ =>
    cases fuel with
    | zero => simp [DataW.trod] at h
    | succ m =>
      unfold DataW.trod at h
      rw [Tryd.underlying28] at h
      dsimp only at h
      rw [if_pos (by rw [cells_val]; rfl)] at h
      simp only [Option.map_eq_some_iff, List.mapM_cons, List.mapM_nil, Option.bind_eq_bind, Option.bind_eq_some_iff, Option.pure_def, Option.some.injEq, cells_int, cells_i64, cells_str] at h
      obtain ⟨xs, ⟨y0, h0, x1, ⟨y1, h1, x2, ⟨y2, h2, -⟩, -⟩, -⟩, -⟩ := h
      obtain ⟨i0, e0, g0⟩ := elem_int Tryd.underlying3 _ _ _ h0
      obtain ⟨i1, e1, g1⟩ := elem_int Tryd.underlying2 _ _ _ h1
      obtain ⟨s2, e2, g2⟩ := elem_string Tryd.underlying9 _ _ _ h2
      obtain rfl : a = .int .i64 i0 := by simpa using e0
      obtain rfl : b = .int .i64 i1 := by simpa using e1
      obtain rfl : c = .string (bs s2) := by simpa using e2
      exact ⟨⟨i0, i1, s2⟩, rfl, wf_in g0, wf_in g1⟩
theorem elem_row : ∀ fuel cs (r : DataW H × List MemPlace), DataW.trod enc Tryd.prog w base sp held fuel 23 cs = some r → ∃ (v : Value) (L : List V), cs = [v] ∧ Sl (fun k => k < w.heap.size) w v L.length (L.flatMap V.cells) ∧ (∀ x ∈ L, V.In2 x) ∧ L.length ≤ maxLen :=
  fun _ _ _ h => open_cs (P := Tryd.prog) Tryd.underlying23 (k := 3) cells_val (by omega) h V.cells V.In2 (fun _ => rfl) (fun fuel cs r hc h => elem_val fuel cs r hc h)
set_option maxRecDepth 100000 in
/-- a row as an argument -/
theorem open_row {w0 : World} {r : Reach} {b0 : Nat} {v : Value} {d : DataW H} {ps : List MemPlace} (hval : Value.okWide Tryd.prog w0 r b0 23 v) (h : DataW.Trod enc Tryd.prog w base sp held 23 v d ps) :
    ∃ L : List V, Sl (fun k => k < w.heap.size) w v L.length (L.flatMap V.cells) ∧ (∀ x ∈ L, V.In2 x) ∧ L.length ≤ maxLen :=
  open_sl Tryd.underlying23 (k := 3) cells_val (by omega) hval h V.cells V.In2 (fun _ => rfl) (fun fuel cs r hc h => elem_val fuel cs r hc h)
end
theorem AV.slices {P : Nat → Prop} {w : World} {r : R} {vo vn ve vx : Value} (h : AV P w r vo vn ve vx) : ∃ a1 c1 a2 c2 a3 c3 a4 c4, vo = .slice a1 r.old.length c1 ∧ vn = .slice a2 r.new.length c2 ∧ ve = .slice a3 r.edits.length c3 ∧ vx = .slice a4 r.xids.length c4 := by
  obtain ⟨a1, c1, h1, -⟩ := h.o
  obtain ⟨a2, c2, h2, -⟩ := h.n
  obtain ⟨a3, c3, h3, -⟩ := h.e
  obtain ⟨a4, c4, h4, -⟩ := h.x
  exact ⟨a1, c1, a2, c2, a3, c3, a4, c4, h1, h2, h3, h4⟩
theorem AV.fre {P : Nat → Prop} {w w' : World} {r : R} {vo vn ve vx : Value} (h : AV P w r vo vn ve vx) (f : Fr (fun _ => False) w w') : AV P w' r vo vn ve vx :=
  ⟨h.o.fr f (fun _ _ h => h), h.n.fr f (fun _ _ h => h), h.e.fr f (fun _ _ h => h), h.x.fr f (fun _ _ h => h), h.lo, h.ln, h.le, h.lx⟩
end Go.Proofs.YtknpncpoojjbfaaDoor

