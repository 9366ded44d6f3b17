import Derived.Test.YtknpncpoojjbfaaDoorVKeq
import Derived.Test.YtknpncpoojjbfaaDoorVPc
/- Keys of rows order as the rows (no program in sight). -/
set_option linter.unusedVariables false
namespace Go.VB.Rec
open Go.VB.Oct
theorem word_shift {n : Int} (h : in64 n) : ((((word n + 9223372036854775808) % 18446744073709551616 : Nat)) : Int) = n + 9223372036854775808 := by
  unfold in64 at h
  unfold word
  omega
theorem cmpInt_shift (a b k : Int) : Lib.compareInt (a + k) (b + k) = Lib.compareInt a b := by
  unfold Lib.compareInt
  repeat' split
  all_goals omega
theorem cb_self (a s t : List UInt8) : Lib.compareBytes (a ++ s) (a ++ t) = Lib.compareBytes s t := by
  induction a with
  | nil => rfl
  | cons x a ih =>
    rw [List.cons_append, List.cons_append, cb_cons, ih, if_neg]
    exact fun h => h (cmpInt0.2 rfl)
theorem kinds3 {v : V} (h : v.right = true) : v.k = 0 ∨ v.k = 1 ∨ v.k = 2 := by
  unfold V.right at h
  simp only [Bool.and_eq_true, decide_eq_true_eq] at h
  omega
theorem key_cmp {x y : V} (hx : x.right = true) (hy : y.right = true) (ix : in64 x.n) (iy : in64 y.n) (s t : List UInt8) : Lib.compareBytes (x.key ++ s) (y.key ++ t) = thn (V.cmp x y) (Lib.compareBytes s t) := by
  have kx := kinds3 hx
  have ky := kinds3 hy
  have rx : rank x.k = x.k := by unfold rank; rw [if_pos (by omega)]
  have ry : rank y.k = y.k := by unfold rank; rw [if_pos (by omega)]
  by_cases h : x.k = y.k
  · have hc : V.cmp x y = if x.k = 1 then Lib.compareInt x.n y.n else if x.k = 2 then Lib.compareBytes x.s y.s else 0 := by
      unfold V.cmp; rw [rx, ry, if_neg (fun g => g h)]
    rw [hc]
    unfold V.key
    rw [← h]
    rcases kx with k | k | k <;> rw [k]
    · simp only [show ¬ ((0 : Int) = 1) by decide, show ¬ ((0 : Int) = 2) by decide, if_false, List.cons_append, List.nil_append]
      rw [cb_cons, if_neg (fun h => h (cmpInt0.2 rfl))]
      rfl
    · have e := be8_cmp ((word x.n + 9223372036854775808) % 18446744073709551616) ((word y.n + 9223372036854775808) % 18446744073709551616) (Nat.mod_lt _ (by decide)) (Nat.mod_lt _ (by decide)) s t
      rw [word_shift ix, word_shift iy, cmpInt_shift] at e
      simp only [List.cons_append]
      rw [cb_cons, if_neg (fun h => h (cmpInt0.2 rfl))]
      exact e
    · simp only [show ¬ ((2 : Int) = 1) by decide, if_false, if_true, List.cons_append]
      rw [cb_cons, if_neg (fun h => h (cmpInt0.2 rfl))]
      exact esc_cmp x.s y.s s t
  · have hc : V.cmp x y = Lib.compareInt x.k y.k := by
      unfold V.cmp; rw [rx, ry, if_pos h]
    rw [hc]
    unfold V.key
    rw [List.cons_append, List.cons_append, cb_cons]
    have e : Lib.compareInt ((UInt8.ofNat (x.k.toNat + 1)).toNat : Int) ((UInt8.ofNat (y.k.toNat + 1)).toNat : Int) = Lib.compareInt x.k y.k := by
      rcases kx with k | k | k <;> rcases ky with l | l | l <;> rw [k, l] <;> rfl
    rw [e]
    have hn : Lib.compareInt x.k y.k ≠ 0 := fun g => h (cmpInt0.1 g)
    rw [if_pos hn]
    unfold thn
    rw [if_pos hn]
theorem keys_rows : ∀ (a b : List V), a.length = b.length → (∀ v ∈ a, v.right = true ∧ in64 v.n) → (∀ v ∈ b, v.right = true ∧ in64 v.n) → ∀ s t, Lib.compareBytes (a.flatMap V.key ++ s) (b.flatMap V.key ++ t) = thn (rowsCmp a b) (Lib.compareBytes s t)
  | [], [], _, _, _, s, t => rfl
  | x :: a, y :: b, h, ha, hb, s, t => by
    obtain ⟨hx, ix⟩ := ha x (List.mem_cons_self ..)
    obtain ⟨hy, iy⟩ := hb y (List.mem_cons_self ..)
    rw [List.flatMap_cons, List.flatMap_cons, List.append_assoc, List.append_assoc, key_cmp hx hy ix iy,
      keys_rows a b (by simpa using h) (fun v hv => ha v (List.mem_cons_of_mem _ hv)) (fun v hv => hb v (List.mem_cons_of_mem _ hv)) s t, ← thn_assoc]
    rfl
theorem val_eq {x y : V} (hx : x.right = true) (hy : y.right = true) (px : x.plain = x) (py : y.plain = y) (h : V.cmp x y = 0) : x = y := by
  have kx := kinds3 hx
  have ky := kinds3 hy
  have rx : rank x.k = x.k := by unfold rank; rw [if_pos (by omega)]
  have ry : rank y.k = y.k := by unfold rank; rw [if_pos (by omega)]
  unfold V.cmp at h
  rw [rx, ry] at h
  by_cases g : x.k = y.k
  · rw [if_neg (fun e => e g)] at h
    rw [← px, ← py]
    unfold V.plain
    rw [← g]
    rcases kx with k | k | k <;> rw [k] at h ⊢
    · rfl
    · simp only [if_true] at h ⊢
      rw [cmpInt0.1 h]; rfl
    · simp only [show ¬ ((2 : Int) = 1) by decide, if_false, if_true] at h ⊢
      rw [cmpBytes0 _ _ h]
  · rw [if_pos g] at h
    exact absurd (cmpInt0.1 h) g
theorem rows_eq : ∀ (a b : List V), a.length = b.length → (∀ v ∈ a, v.right = true ∧ v.plain = v) → (∀ v ∈ b, v.right = true ∧ v.plain = v) → rowsCmp a b = 0 → a = b
  | [], [], _, _, _, _ => rfl
  | x :: a, y :: b, h, ha, hb, e => by
    obtain ⟨hx, px⟩ := ha x (List.mem_cons_self ..)
    obtain ⟨hy, py⟩ := hb y (List.mem_cons_self ..)
    unfold rowsCmp at e
    by_cases g : V.cmp x y = 0
    · rw [if_neg (fun h => h g)] at e
      rw [val_eq hx hy px py g, rows_eq a b (by simpa using h) (fun v hv => ha v (List.mem_cons_of_mem _ hv)) (fun v hv => hb v (List.mem_cons_of_mem _ hv)) e]
    · rw [if_pos g] at e; exact absurd e g
/-- a row that was made valid -/
structure VRow (a : List V) : Prop where
  row : row a = true
  in_ : ∀ v ∈ a, v.In
  plain : ∀ v ∈ a, v.plain = v
theorem row_all {a : List V} (h : row a = true) : ∀ v ∈ a, v.right = true := by
  unfold row at h
  simp only [Bool.and_eq_true, decide_eq_true_eq, List.all_eq_true] at h
  exact h.2
theorem rowKey_eq {a : List V} (h : row a = true) : rowKey a = a.flatMap V.key := by unfold rowKey; rw [if_pos h]
theorem cut_cmp (a b : List UInt8) : Lib.compareBytes (a.take 16) (b.take 16) = Lib.compareBytes a b ∨ Lib.compareBytes (a.take 16) (b.take 16) = 0 := by
  rw [bytes_lex, bytes_lex]; exact lexC_take _ 16 a b
theorem keys_law {a b : List V} (A : VRow a) (B : VRow b) (h : a.length = b.length) :
    Lib.compareBytes (rowKey a) (rowKey b) = rowsCmp a b ∧
    ((rowKey a).length ≤ (rowKey b).length ∧ (rowKey b).take (rowKey a).length = rowKey a ↔ rowsCmp a b = 0) ∧
    (rowKey a = rowKey b ↔ rowsCmp a b = 0) ∧ (rowBytes a = rowBytes b ↔ rowsCmp a b = 0) := by
  have hk := keys_rows a b h (fun v hv => ⟨row_all A.row v hv, A.in_ v hv⟩) (fun v hv => ⟨row_all B.row v hv, B.in_ v hv⟩)
  rw [← rowKey_eq A.row, ← rowKey_eq B.row] at hk
  have h1 : Lib.compareBytes (rowKey a) (rowKey b) = rowsCmp a b := by
    have := hk [] []
    rw [List.append_nil, List.append_nil] at this
    rw [this]
    unfold thn
    split
    · rfl
    · rename_i g; exact (Decidable.not_not.1 g).symm
  have h2 : rowKey a = rowKey b ↔ rowsCmp a b = 0 := by
    rw [← h1]
    exact ⟨fun e => by rw [e]; exact ord_bytes.refl _, cmpBytes0 _ _⟩
  have h3 : rowsCmp a b = 0 → a = b := rows_eq a b h (fun v hv => ⟨row_all A.row v hv, A.plain v hv⟩) (fun v hv => ⟨row_all B.row v hv, B.plain v hv⟩)
  refine ⟨h1, ⟨?_, ?_⟩, h2, ?_, ?_⟩
  · rintro ⟨hl, ht⟩
    have e : rowKey b = rowKey a ++ (rowKey b).drop (rowKey a).length := by
      conv => lhs; rw [← List.take_append_drop (rowKey a).length (rowKey b), ht]
    have := hk ((rowKey b).drop (rowKey a).length) []
    rw [← e, List.append_nil, ord_bytes.refl] at this
    unfold thn at this
    split at this
    · exact this.symm
    · rename_i g; exact Decidable.not_not.1 g
  · intro e
    rw [h2.2 e]
    exact ⟨Nat.le_refl _, List.take_length⟩
  · intro e
    have r1 := readV_bytes A.row A.in_
    have r2 := readV_bytes B.row B.in_
    rw [e, r2] at r1
    have e2 : b.map V.plain = a.map V.plain := congrArg Prod.fst r1
    have ea : ∀ l : List V, (∀ v ∈ l, v.plain = v) → l.map V.plain = l := fun l hl => by
      conv => rhs; rw [← List.map_id l]
      exact List.map_congr_left hl
    rw [ea a A.plain, ea b B.plain] at e2
    rw [e2]; exact ord_rows.refl _
  · intro e; rw [h3 e]
end Go.VB.Rec
