import Derived.Test.YtiimomgbklgicaaCtO
/- Reading a catalog back: a parser, and that it accepts exactly what a valid catalog's bytes are (no program in sight). -/
set_option linter.unusedVariables false
namespace Go.VB.Cat
open Go.VB.Oct
def pNum (k : Nat) (s : Bs) : Option (Nat × Bs) := if k ≤ s.length then some (num (s.take k), s.drop k) else none
def pText (s : Bs) : Option (Bs × Bs) :=
  match pNum 2 s with
  | none => none
  | some (n, t) => if n ≤ t.length then some (t.take n, t.drop n) else none
def pCol (s : Bs) : Option (Col × Bs) :=
  match pText s with
  | none => none
  | some (n, t) => match pNum 1 t with
    | none => none
    | some (k, u) => some (⟨n, k⟩, u)
def pCols (s : Bs) : Nat → Option (List Col × Bs)
  | 0 => some ([], s)
  | j + 1 => match pCols s j with
    | none => none
    | some (l, t) => match pCol t with
      | none => none
      | some (c, u) => some (l ++ [c], u)
def pName (cols : List Col) (s : Bs) : Option (Bs × Bs) :=
  match pNum 1 s with
  | none => none
  | some (k, t) => match cols[k]? with
    | none => none
    | some c => some (c.name, t)
def pNames (cols : List Col) (s : Bs) : Nat → Option (List Bs × Bs)
  | 0 => some ([], s)
  | j + 1 => match pNames cols s j with
    | none => none
    | some (l, t) => match pName cols t with
      | none => none
      | some (c, u) => some (l ++ [c], u)
def stT (n : Bs) (l : List Col) : St := ⟨1, n, [], l, [], []⟩
def stI (tn n : Bs) (l : List Bs) : St := ⟨2, tn, n, [], l, []⟩
def did (p : List Tab × Int) : Option (List Tab) := if p.2 = 0 then some p.1 else none
def pIx (tn : Bs) (cols : List Col) (m : List Tab) (s : Bs) : Option (List Tab × Bs) :=
  match pText s with
  | none => none
  | some (n, t) => match pNum 1 t with
    | none => none
    | some (k, u) => match pNames cols u k with
      | none => none
      | some (l, v) => match pNum 2 v with
        | none => none
        | some (root, x) => match did (doM m (stI tn n l) root) with
          | none => none
          | some m' => some (m', x)
def pIxs (tn : Bs) (cols : List Col) (m : List Tab) (s : Bs) : Nat → Option (List Tab × Bs)
  | 0 => some (m, s)
  | j + 1 => match pIxs tn cols m s j with
    | none => none
    | some (m', t) => pIx tn cols m' t
def pTab (m : List Tab) (s : Bs) : Option (List Tab × Bs) :=
  match pText s with
  | none => none
  | some (n, t) => match pNum 1 t with
    | none => none
    | some (k, u) => match pCols u k with
      | none => none
      | some (l, v) => match did (doM m (stT n l) 0) with
        | none => none
        | some m' => match pNum 1 v with
          | none => none
          | some (q, x) => pIxs n l m' x q
def pTabs (s : Bs) : Nat → Option (List Tab × Bs)
  | 0 => some ([], s)
  | j + 1 => match pTabs s j with
    | none => none
    | some (m, t) => pTab m t
def parse (s : Bs) : Option (List Tab) :=
  match pNum 1 s with
  | none => none
  | some (n, t) => match pTabs t n with
    | none => none
    | some (m, u) => if u = [] then some m else none
/- the one way -/
theorem pNum_be (k n : Nat) (t : Bs) (hk : k ≤ 8) (h : n < 256 ^ k) : pNum k (be k n ++ t) = some (n, t) := by
  have hl := be_length k n hk
  unfold pNum
  rw [if_pos (by rw [List.length_append]; omega), List.take_left' hl, List.drop_left' hl, num_be_lt hk h]
theorem pText_text (x t : Bs) (h : x.length ≤ 65535) : pText (text x ++ t) = some (x, t) := by
  unfold pText text
  rw [List.append_assoc, pNum_be 2 x.length (x ++ t) (by omega) (by omega)]
  dsimp only
  rw [if_pos (by rw [List.length_append]; omega), List.take_left' rfl, List.drop_left' rfl]
theorem named_le {n : Bs} (h : named n = true) : 1 ≤ n.length ∧ n.length ≤ 12 := by
  unfold named at h
  simpa using h
theorem pCol_bytes {c : Col} (h : named c.name = true ∧ (c.kind = 1 ∨ c.kind = 2)) (t : Bs) : pCol (c.bytes ++ t) = some (c, t) := by
  have hn := named_le h.1
  unfold pCol Col.bytes
  rw [List.append_assoc, pText_text _ _ (by omega)]
  dsimp only
  rw [pNum_be 1 c.kind.toNat t (by omega) (by rcases h.2 with e | e <;> rw [e] <;> decide)]
  dsimp only
  have : ((c.kind.toNat : Nat) : Int) = c.kind := by rcases h.2 with e | e <;> rw [e] <;> rfl
  rw [this]
theorem pCols_bytes {l : List Col} (h : ∀ c ∈ l, named c.name = true ∧ (c.kind = 1 ∨ c.kind = 2)) (t : Bs) : ∀ j, j ≤ l.length → pCols (l.flatMap Col.bytes ++ t) j = some (l.take j, (l.drop j).flatMap Col.bytes ++ t)
  | 0, _ => by simp [pCols]
  | j + 1, hj => by
    unfold pCols
    rw [pCols_bytes h t j (by omega)]
    dsimp only
    rw [List.drop_eq_getElem_cons (show j < l.length by omega), List.flatMap_cons, List.append_assoc, pCol_bytes (h _ (List.getElem_mem _))]
    dsimp only
    rw [List.take_succ_eq_append_getElem]
theorem pNames_bytes {cols : List Col} {l : List Int} (h : ∀ k ∈ l, 0 ≤ k ∧ k < cols.length) (hc : cols.length ≤ 6) (t : Bs) : ∀ j, j ≤ l.length → pNames cols ((l.flatMap fun n => be 1 n.toNat) ++ t) j = some ((l.take j).map (fun k => (cols[k.toNat]?.map Col.name).getD []), ((l.drop j).flatMap fun n => be 1 n.toNat) ++ t)
  | 0, _ => by simp [pNames]
  | j + 1, hj => by
    have hm := h _ (List.getElem_mem (show j < l.length by omega))
    unfold pNames
    rw [pNames_bytes h hc t j (by omega)]
    dsimp only
    rw [List.drop_eq_getElem_cons (show j < l.length by omega), List.flatMap_cons, List.append_assoc]
    unfold pName
    rw [pNum_be 1 _ _ (by omega) (by omega)]
    dsimp only
    rw [List.getElem?_eq_getElem (show (l[j]).toNat < cols.length by omega)]
    dsimp only
    rw [List.take_succ_eq_append_getElem (show j < l.length by omega), List.map_append, List.map_singleton, List.getElem?_eq_getElem (show (l[j]).toNat < cols.length by omega)]
    rfl
theorem col_of_at {l : List Col} (h : (l.map Col.name).Nodup) {k : Nat} (hk : k < l.length) : colOf l l[k].name = (k : Int) := by
  refine pos_at hk (by simp) fun j hj => ?_
  rw [beq_eq_false_iff_ne]
  intro e
  unfold List.Nodup at h
  rw [List.pairwise_iff_getElem] at h
  exact h j k (by simp; omega) (by simpa using hk) hj (by simpa using e)
theorem find_of_at {m : List Tab} (h : (m.map Tab.name).Nodup) {k : Nat} (hk : k < m.length) : find m m[k].name = (k : Int) := by
  refine pos_at hk (by simp) fun j hj => ?_
  rw [beq_eq_false_iff_ne]
  intro e
  unfold List.Nodup at h
  rw [List.pairwise_iff_getElem] at h
  exact h j k (by simp; omega) (by simpa using hk) hj (by simpa using e)
end Go.VB.Cat
