import Derived.Test.YtfhkmiifndhacaaDoorRPc
import Derived.Test.YtfhkmiifndhacaaDoorRV
/- Valid rows made of any rows; plain values compare and encode as the values do (no program in sight). -/
set_option linter.unusedVariables false
namespace Go.VB.Rec
open Go.VB.Oct
def V.may (v : V) : V := ⟨(v.k % 65536) % 3, v.n, v.s.take 40⟩
def mayRow (l : List V) : List V := (l.take 6).map V.may
theorem may_right (v : V) : v.may.right = true := by
  unfold V.may V.right
  dsimp only
  have h := Int.emod_nonneg (v.k % 65536) (show (3 : Int) ≠ 0 by decide)
  have h2 := Int.emod_lt_of_pos (v.k % 65536) (show (0 : Int) < 3 by decide)
  simp only [Bool.and_eq_true, Bool.or_eq_true, decide_eq_true_eq]
  exact ⟨⟨h, by omega⟩, .inr (by rw [List.length_take]; omega)⟩
theorem mayRow_row (l : List V) : row (mayRow l) = true := by
  unfold row mayRow
  simp only [Bool.and_eq_true, decide_eq_true_eq, List.all_eq_true]
  refine ⟨by rw [List.length_map, List.length_take]; omega, ?_⟩
  intro v hv
  obtain ⟨y, _, rfl⟩ := List.mem_map.1 hv
  exact may_right y
theorem mayRow_len (l : List V) : (mayRow l).length ≤ 6 := by
  unfold mayRow
  rw [List.length_map, List.length_take]; omega
theorem mayRow_in {l : List V} (h : ∀ x ∈ l, V.In2 x) : ∀ v ∈ mayRow l, v.In := by
  intro v hv
  unfold mayRow at hv
  obtain ⟨y, hy, rfl⟩ := List.mem_map.1 hv
  have := (h y (List.mem_of_mem_take hy)).2
  unfold V.may V.In
  unfold in64 at this
  exact this
theorem plain_cmp (a b : V) : V.cmp a.plain b.plain = V.cmp a b := by
  have e : ∀ v : V, v.plain.k = v.k := fun v => rfl
  unfold V.cmp
  rw [e, e]
  by_cases h : rank a.k = rank b.k
  · have hn : ¬ (rank a.k ≠ rank b.k) := fun g => g h
    rw [if_neg hn, if_neg hn]
    have hk : ∀ z : Int, 0 ≤ z → z ≤ 2 → a.k = z → b.k = z := fun z h0 h2 hz => by
      unfold rank at h
      rw [if_pos (by omega)] at h
      split at h <;> omega
    by_cases h1 : a.k = 1
    · have h1' := hk 1 (by decide) (by decide) h1
      rw [if_pos h1, if_pos h1]
      unfold V.plain
      dsimp only
      rw [if_pos h1, if_pos h1']
    · rw [if_neg h1, if_neg h1]
      by_cases h2 : a.k = 2
      · have h2' := hk 2 (by decide) (by decide) h2
        rw [if_pos h2, if_pos h2]
        unfold V.plain
        dsimp only
        rw [if_pos h2, if_pos h2']
      · rw [if_neg h2, if_neg h2]
  · rw [if_pos h, if_pos h]
theorem plain_rows : ∀ l m : List V, rowsCmp (l.map V.plain) (m.map V.plain) = rowsCmp l m
  | [], [] => rfl
  | [], _ :: _ => rfl
  | _ :: _, [] => rfl
  | a :: l, b :: m => by
    rw [List.map_cons, List.map_cons]
    unfold rowsCmp
    rw [plain_cmp, plain_rows l m]
theorem plain_key1 (v : V) : v.plain.key = v.key := by
  unfold V.key V.plain
  dsimp only
  by_cases h1 : v.k = 1
  · simp [h1]
  · by_cases h2 : v.k = 2
    · simp [h2]
    · simp [h1, h2]
theorem plain_right (v : V) : v.plain.right = v.right := by
  unfold V.right V.plain
  dsimp only
  by_cases h2 : v.k = 2
  · rw [if_pos h2]
  · rw [if_neg h2, decide_eq_true h2]; simp
theorem plain_row (l : List V) : row (l.map V.plain) = row l := by
  unfold row
  rw [List.length_map, List.all_map]
  congr 1
  congr 1
  funext v
  exact plain_right v
theorem plain_key (l : List V) : rowKey (l.map V.plain) = rowKey l := by
  have h : (l.map V.plain).flatMap V.key = l.flatMap V.key := by
    induction l with
    | nil => rfl
    | cons a l ih => rw [List.map_cons, List.flatMap_cons, List.flatMap_cons, plain_key1, ih]
  unfold rowKey
  rw [plain_row, h]
def R.rows (r : R) (a b : List V) : R := ⟨r.kind, r.xid, r.table, a, b, r.edits, r.xids, r.note⟩
theorem rows_right {r : R} (h : r.right = true) {a b : List V} (ha : row a = true) (hb : row b = true) : (r.rows a b).right = true := by
  unfold R.right at h ⊢
  simp only [Bool.and_eq_true] at h ⊢
  exact ⟨⟨⟨h.1.1.1, ha⟩, hb⟩, h.2⟩
theorem rows_read {r : R} (h : r.right = true) {a b : List V} (ha : row a = true) (hb : row b = true) (ia : ∀ v ∈ a, v.In) (ib : ∀ v ∈ b, v.In) : readR (r.rows a b).bytes = ((r.rows (a.map V.plain) (b.map V.plain)), 0) := by
  have hr := rows_right h ha hb
  unfold R.bytes
  rw [if_pos hr, readR_raw hr ia ib]
  rfl
theorem rows_len {r : R} (h : r.right = true) {a b : List V} (ha : row a = true) (hb : row b = true) : (r.rows a b).bytes.length ≤ 1099511627776 := by
  have hr := rows_right h ha hb
  unfold R.bytes
  rw [if_pos hr]
  have := Go.Proofs.YtfhkmiifndhacaaDoor.raw_le hr
  omega
end Go.VB.Rec
