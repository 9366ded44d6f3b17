import Derived.Test.YtfhkmiifndhacaaDoorRecD
import Derived.Test.YtfhkmiifndhacaaDoorRdM
import Derived.Test.YtfhkmiifndhacaaDoorOctN
/- A record's bytes read back, and back again (plain Lean). -/
set_option linter.unusedVariables false
namespace Go.VB.Rec
open Go.VB.Oct Go.Proofs.YtfhkmiifndhacaaDoor
/-- a value with the fields that its kind ignores set to zero -/
def V.plain (v : V) : V := ⟨v.k, if v.k = 1 then v.n else 0, if v.k = 2 then v.s else []⟩
def V.In (v : V) : Prop := -9223372036854775808 ≤ v.n ∧ v.n ≤ 9223372036854775807
def R.plain (r : R) : R := { r with old := r.old.map V.plain, new := r.new.map V.plain }
theorem Has_to {r : RM} {t u : List UInt8} (h : r.Has t) (e : t = u) : r.Has u := e ▸ h
theorem int8_word {n : Int} (h : -9223372036854775808 ≤ n ∧ n ≤ 9223372036854775807) : int8 (be8 (word n)) = n := by
  have e : be8 (word n) = be 8 (word n) := by simp [be]
  unfold int8
  rw [e, num_be_lt (by omega) (word_lt n), IntKind.wrap_i64]
  unfold word
  omega
theorem right_kind {v : V} (h : v.right = true) : v.k = 0 ∨ v.k = 1 ∨ (v.k = 2 ∧ v.s.length ≤ 40) := by
  unfold V.right at h
  simp only [Bool.and_eq_true, Bool.or_eq_true, decide_eq_true_eq] at h
  omega
theorem readOne_bytes {v : V} (h : v.right = true) (hi : v.In) (t : List UInt8) : readOne (v.bytes ++ t) = .ok (v.plain, t) := by
  obtain ⟨k, n, s⟩ := v
  rcases right_kind h with hk | hk | ⟨hk, hs⟩
  · dsimp only at hk
    subst hk
    rfl
  · dsimp only at hk
    subst hk
    have hl : (be8 (word n)).length = 8 := be8_length _
    simp [V.bytes, V.plain, readOne, List.take_left' hl, List.drop_left' hl, int8_word hi, hl]
  · dsimp only at hk hs
    subst hk
    have hlen : (UInt8.ofNat s.length).toNat = s.length := by simp; omega
    have e1 : V.bytes ⟨2, n, s⟩ ++ t = 2 :: UInt8.ofNat s.length :: (s ++ t) := rfl
    have e2 : V.plain ⟨2, n, s⟩ = ⟨2, 0, s⟩ := rfl
    rw [e1, e2]
    unfold readOne
    dsimp only
    rw [if_neg (by decide), if_neg (by decide), if_pos rfl, hlen, if_neg (by omega), if_neg (by simp), List.take_left, List.drop_left]
theorem readN_bytes : ∀ (l : List V), (∀ v ∈ l, v.right = true) → (∀ v ∈ l, v.In) → ∀ t, readN l.length (l.flatMap V.bytes ++ t) = .ok (l.map V.plain, t)
  | [], _, _, t => rfl
  | v :: l, h, hi, t => by
    rw [List.flatMap_cons, List.append_assoc, List.length_cons]
    unfold readN
    rw [readOne_bytes (h v (by simp)) (hi v (by simp))]
    dsimp only
    rw [readN_bytes l (fun x hx => h x (by simp [hx])) (fun x hx => hi x (by simp [hx]))]
    rfl
theorem row_parts {l : List V} (h : row l = true) : l.length ≤ 6 ∧ ∀ v ∈ l, v.right = true := by
  unfold row at h
  simp only [Bool.and_eq_true, decide_eq_true_eq, List.all_eq_true] at h
  exact h
theorem readV_bytes {l : List V} (h : row l = true) (hi : ∀ v ∈ l, v.In) : readV (rowBytes l) = (l.map V.plain, 0) := by
  obtain ⟨h1, h2⟩ := row_parts h
  have hlen : (UInt8.ofNat l.length).toNat = l.length := by simp; omega
  unfold rowBytes
  rw [if_pos h]
  unfold readV
  dsimp only
  rw [hlen, if_neg (by omega)]
  have := readN_bytes l h2 hi []
  rw [List.append_nil] at this
  rw [this]
theorem rowsM_bytes {b : RM} {l : List V} {t : List UInt8} (hb : b.Has (text (rowBytes l) ++ t)) (h : row l = true) (hi : ∀ v ∈ l, v.In) (fits : Bool) : ∃ b', rowsM b fits = (b', fits, l.map V.plain) ∧ b'.Has t := by
  obtain ⟨b', h1, h2, h3⟩ := hb.text (by have := rowBytes_le l; omega)
  refine ⟨b', ?_, h2⟩
  unfold rowsM
  rw [h1]
  dsimp only
  rw [if_neg (by rw [h2.ok]; simp), readV_bytes h hi]
  simp
theorem editsAt_bytes {b : RM} {l : List E} {t : List UInt8} (hb : b.Has (l.flatMap E.bytes ++ t)) (h : ∀ e ∈ l, e.right = true) : ∀ j, j ≤ l.length → ∃ b', editsAt j b = (b', l.take j) ∧ b'.Has ((l.drop j).flatMap E.bytes ++ t)
  | 0, _ => ⟨b, by simp [editsAt], by simpa using hb⟩
  | j + 1, hj => by
    obtain ⟨b1, h1, h2⟩ := editsAt_bytes hb h j (by omega)
    have hd : l.drop j = l[j] :: l.drop (j + 1) := List.drop_eq_getElem_cons (by omega)
    obtain ⟨p, s, e1, e2, e3, e4, e5⟩ := edit_parts (h l[j] (List.getElem_mem _))
    have e6 : (((s : Int) - 1 + 1)).toNat = s := by omega
    have e7 : ((p : Int)).toNat = p := by omega
    have e8 : l[j].bytes = be 2 p ++ (be 1 s ++ text l[j].item) := by unfold E.bytes; rw [e1, e2, e6, e7, List.append_assoc]
    rw [hd, List.flatMap_cons, e8] at h2
    simp only [List.append_assoc] at h2
    obtain ⟨b2, g1, g2, _⟩ := h2.num 2 (by omega) (by omega)
    obtain ⟨b3, g3, g4, _⟩ := g2.num 1 (by omega) (by omega)
    obtain ⟨b4, g5, g6, _⟩ := g4.text (by omega)
    refine ⟨b4, ?_, g6⟩
    unfold editsAt
    rw [h1]
    dsimp only
    rw [g1]
    dsimp only
    rw [g3]
    dsimp only
    rw [g5]
    dsimp only
    congr 1
    rw [List.take_succ_eq_append_getElem (by omega)]
    congr 1
    rw [← e1, ← e2]
theorem xidsAt_bytes {b : RM} {l : List Int} {t : List UInt8} (hb : b.Has ((l.flatMap fun x => be 1 x.toNat) ++ t)) (h : ∀ x ∈ l, 3 ≤ x ∧ x ≤ 127) : ∀ j, j ≤ l.length → ∃ b', xidsAt j b = (b', l.take j) ∧ b'.Has (((l.drop j).flatMap fun x => be 1 x.toNat) ++ t)
  | 0, _ => ⟨b, by simp [xidsAt], by simpa using hb⟩
  | j + 1, hj => by
    obtain ⟨b1, h1, h2⟩ := xidsAt_bytes hb h j (by omega)
    have hd : l.drop j = l[j] :: l.drop (j + 1) := List.drop_eq_getElem_cons (by omega)
    have hx := h l[j] (List.getElem_mem _)
    rw [hd, List.flatMap_cons, List.append_assoc] at h2
    obtain ⟨b2, g1, g2, _⟩ := h2.num 1 (by omega) (by omega)
    refine ⟨b2, ?_, g2⟩
    unfold xidsAt
    rw [h1]
    dsimp only
    rw [g1]
    dsimp only
    congr 1
    rw [List.take_succ_eq_append_getElem (by omega)]
    congr 2
    omega
theorem readR_raw {r : R} (h : r.right = true) (ho : ∀ v ∈ r.old, v.In) (hn : ∀ v ∈ r.new, v.In) : readR r.raw = (r.plain, 0) := by
  obtain ⟨k, x, t, e1, e2, e3, e4, e5, e6, e7, e8, e9, e10, e11⟩ := right_parts h
  have hrow : row r.old = true ∧ row r.new = true := by
    unfold R.right at h
    simp only [Bool.and_eq_true] at h
    exact ⟨h.1.1.2, h.1.2⟩
  have hraw : r.raw = be 1 k ++ (be 1 x ++ (be 2 t ++ (text (rowBytes r.old) ++ (text (rowBytes r.new) ++ (be 1 r.edits.length ++ (r.edits.flatMap E.bytes ++ (be 1 r.xids.length ++ ((r.xids.flatMap fun x => be 1 x.toNat) ++ (text r.note ++ []))))))))) := by
    unfold R.raw
    rw [e1, e2, e3]
    simp [List.append_assoc]
  have h0 := Has_to (RM.Has.new r.raw) hraw
  obtain ⟨b1, g1, h1, _⟩ := h0.num 1 (by omega) (by omega)
  obtain ⟨b2, g2, h2, _⟩ := h1.num 1 (by omega) (by omega)
  obtain ⟨b3, g3, h3, _⟩ := h2.num 2 (by omega) (by omega)
  obtain ⟨b4, g4, h4⟩ := rowsM_bytes h3 hrow.1 ho true
  obtain ⟨b5, g5, h5⟩ := rowsM_bytes h4 hrow.2 hn true
  obtain ⟨b6, g6, h6, _⟩ := h5.num 1 (by omega) (by omega)
  obtain ⟨b7, g7, h7⟩ := editsAt_bytes h6 e8 _ (Nat.le_refl _)
  rw [List.take_length] at g7
  rw [List.drop_length, List.flatMap_nil, List.nil_append] at h7
  obtain ⟨b8, g8, h8, _⟩ := h7.num 1 (by omega) (by omega)
  obtain ⟨b9, g9, h9⟩ := xidsAt_bytes h8 e10 _ (Nat.le_refl _)
  rw [List.take_length] at g9
  rw [List.drop_length, List.flatMap_nil, List.nil_append] at h9
  obtain ⟨b10, g10, h10, _⟩ := h9.text (by omega)
  have hp : R.mk k x t (r.old.map V.plain) (r.new.map V.plain) r.edits r.xids r.note = r.plain := by
    unfold R.plain
    rw [← e1, ← e2, ← e3]
  have hpr : r.plain.right = true := by
    have hv : ∀ l : List V, row l = true → row (l.map V.plain) = true := by
      intro l hl
      obtain ⟨a1, a2⟩ := row_parts hl
      unfold row
      simp only [Bool.and_eq_true, decide_eq_true_eq, List.all_eq_true, List.length_map, List.mem_map]
      refine ⟨a1, ?_⟩
      rintro v ⟨u, hu, rfl⟩
      have := a2 u hu
      unfold V.right at this ⊢
      unfold V.plain
      simp only [Bool.and_eq_true, Bool.or_eq_true, decide_eq_true_eq] at this ⊢
      refine ⟨this.1, ?_⟩
      rcases this.2 with h | h
      · exact .inl h
      · by_cases hk : u.k = 2
        · rw [if_pos hk]; exact .inr h
        · exact .inl hk
    unfold R.right at h ⊢
    unfold R.plain
    simp only [Bool.and_eq_true] at h ⊢
    exact ⟨⟨⟨h.1.1.1, hv _ h.1.1.2⟩, hv _ h.1.2⟩, h.2⟩
  rw [readR_eq r.raw g1 g2 g3 g4 g5 g6 g7 g8 g9 g10]
  rw [if_neg (by rw [h10.ok]; simp), hp, hpr, h10.left]
  rfl
end Go.VB.Rec
