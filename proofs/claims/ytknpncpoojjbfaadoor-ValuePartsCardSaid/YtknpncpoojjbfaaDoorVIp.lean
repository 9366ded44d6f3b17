import Derived.Test.YtknpncpoojjbfaaDoorVKp
/- Integers as rows; a row and its parts (no program in sight). -/
set_option linter.unusedVariables false
namespace Go.VB.Rec
open Go.VB.Oct
def vi (n : Int) : V := ⟨1, n, []⟩
theorem vi_row (n : Int) : row [vi n] = true := rfl
theorem vi_cmp (x y : Int) : V.cmp (vi x) (vi y) = Lib.compareInt x y := rfl
theorem vi_key_len (n : Int) : (rowKey [vi n]).length = 9 := by
  rw [rowKey_eq (vi_row n)]
  simp [V.key, vi, be8_eq]
theorem vi_bytes_len (n : Int) : (rowBytes [vi n]).length = 10 := by
  unfold rowBytes
  rw [if_pos (vi_row n)]
  simp [V.bytes, vi, be8_eq]
theorem vi_vrow {n : Int} (h : in64 n) : VRow [vi n] :=
  ⟨vi_row n, fun v hv => by rw [List.mem_singleton.1 hv]; exact h, fun v hv => by rw [List.mem_singleton.1 hv]; rfl⟩
theorem vi_keys {x y : Int} (hx : in64 x) (hy : in64 y) : Lib.compareBytes (rowKey [vi x]) (rowKey [vi y]) = Lib.compareInt x y := by
  rw [(keys_law (vi_vrow hx) (vi_vrow hy) rfl).1]
  show (if V.cmp (vi x) (vi y) ≠ 0 then V.cmp (vi x) (vi y) else rowsCmp [] []) = _
  rw [vi_cmp]
  split
  · rfl
  · rename_i g; exact (Decidable.not_not.1 g).symm
theorem vi_fits (x y : Int) : (vi x).fits 3 (vi y) = decide (Lib.compareInt x y < 0) := rfl
theorem vi_text (x y : Int) : ((vi x).text == (vi y).text) = (Lib.compareInt x y == 0) := text_eq (a := vi x) (b := vi y) rfl rfl
theorem rows_more : ∀ a b : List V, rowsCmp (a ++ b) a = if b.length = 0 then 0 else 1
  | [], [] => rfl
  | [], _ :: _ => rfl
  | x :: a, b => by
    rw [List.cons_append]
    unfold rowsCmp
    rw [if_neg (fun h => h (ord_cmp.refl x))]
    exact rows_more a b
theorem key_pos (v : V) : v.key ≠ [] := by unfold V.key; simp
theorem keys_more {a b : List V} (h : row (a ++ b) = true) (ha : row a = true) : Lib.compareBytes (rowKey (a ++ b)) (rowKey a) = if b.length = 0 then 0 else 1 := by
  rw [rowKey_eq h, rowKey_eq ha, List.flatMap_append]
  have e := cb_self (a.flatMap V.key) (b.flatMap V.key) []
  rw [List.append_nil] at e
  rw [e]
  cases b with
  | nil => rfl
  | cons x b =>
    rw [List.flatMap_cons]
    cases hk : x.key with
    | nil => exact absurd hk (key_pos x)
    | cons c l => rfl
theorem row_app {a b : List V} (ha : row a = true) (hb : row b = true) (hl : a.length + b.length ≤ 6) : row (a ++ b) = true := by
  unfold row at *
  simp only [Bool.and_eq_true, decide_eq_true_eq, List.length_append, List.all_append] at *
  exact ⟨hl, ha.2, hb.2⟩
theorem row_one {a : List V} (h : row a = true) {v : V} (hv : v ∈ a) : row [v] = true := by
  have := row_all h v hv
  unfold row
  simp [this]
theorem row_take {a : List V} (h : row a = true) (n : Nat) : row (a.take n) = true := by
  unfold row at *
  simp only [Bool.and_eq_true, decide_eq_true_eq, List.length_take, List.all_eq_true] at *
  exact ⟨by omega, fun v hv => h.2 v (List.mem_of_mem_take hv)⟩
theorem one_key {v : V} (h : row [v] = true) : rowKey [v] = v.key := by rw [rowKey_eq h]; simp
theorem one_bytes {v : V} (h : row [v] = true) : rowBytes [v] = 1 :: v.bytes := by
  unfold rowBytes
  rw [if_pos h]; simp
theorem bytes_pos (v : V) : 1 ≤ v.bytes.length := by unfold V.bytes; simp
theorem parts_key {a b : List V} (ha : row a = true) (hb : row b = true) (hl : a.length + b.length ≤ 6) : rowKey a ++ rowKey b = rowKey (a ++ b) := by
  rw [rowKey_eq ha, rowKey_eq hb, rowKey_eq (row_app ha hb hl), List.flatMap_append]
end Go.VB.Rec
