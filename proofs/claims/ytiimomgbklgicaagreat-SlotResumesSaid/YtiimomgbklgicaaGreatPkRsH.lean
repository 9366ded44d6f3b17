import Derived.Test.YtiimomgbklgicaaGreatPkRsC
set_option linter.unusedVariables false
namespace Go.VB.Cat
open Go.VB.Oct
def pNum (k : Nat) (s : Bs) : Option (Nat × Bs) := if k ≤ s.length then some (num (s.take k), s.drop k) else none
def pText (s : Bs) : Option (Bs × Bs) :=
  match pNum 2 s with
  | none => none
  | some (n, t) => if n ≤ t.length then some (t.take n, t.drop n) else none
def pCol (s : Bs) : Option (Col × Bs) :=
  match pText s with
  | none => none
  | some (n, t) => match pNum 1 t with
    | none => none
    | some (k, u) => some (⟨n, k⟩, u)
def pCols (s : Bs) : Nat → Option (List Col × Bs)
  | 0 => some ([], s)
  | j + 1 => match pCols s j with
    | none => none
    | some (l, t) => match pCol t with
      | none => none
      | some (c, u) => some (l ++ [c], u)
def pName (cols : List Col) (s : Bs) : Option (Bs × Bs) :=
  match pNum 1 s with
  | none => none
  | some (k, t) => match cols[k]? with
    | none => none
    | some c => some (c.name, t)
def pNames (cols : List Col) (s : Bs) : Nat → Option (List Bs × Bs)
  | 0 => some ([], s)
  | j + 1 => match pNames cols s j with
    | none => none
    | some (l, t) => match pName cols t with
      | none => none
      | some (c, u) => some (l ++ [c], u)
def stT (n : Bs) (l : List Col) : St := ⟨1, n, [], l, [], []⟩
def stI (tn n : Bs) (l : List Bs) : St := ⟨2, tn, n, [], l, []⟩
def did (p : List Tab × Int) : Option (List Tab) := if p.2 = 0 then some p.1 else none
def pIx (tn : Bs) (cols : List Col) (m : List Tab) (s : Bs) : Option (List Tab × Bs) :=
  match pText s with
  | none => none
  | some (n, t) => match pNum 1 t with
    | none => none
    | some (k, u) => match pNames cols u k with
      | none => none
      | some (l, v) => match pNum 2 v with
        | none => none
        | some (root, x) => match did (doM m (stI tn n l) root) with
          | none => none
          | some m' => some (m', x)
def pIxs (tn : Bs) (cols : List Col) (m : List Tab) (s : Bs) : Nat → Option (List Tab × Bs)
  | 0 => some (m, s)
  | j + 1 => match pIxs tn cols m s j with
    | none => none
    | some (m', t) => pIx tn cols m' t
def pTab (m : List Tab) (s : Bs) : Option (List Tab × Bs) :=
  match pText s with
  | none => none
  | some (n, t) => match pNum 1 t with
    | none => none
    | some (k, u) => match pCols u k with
      | none => none
      | some (l, v) => match did (doM m (stT n l) 0) with
        | none => none
        | some m' => match pNum 1 v with
          | none => none
          | some (q, x) => pIxs n l m' x q
def pTabs (s : Bs) : Nat → Option (List Tab × Bs)
  | 0 => some ([], s)
  | j + 1 => match pTabs s j with
    | none => none
    | some (m, t) => pTab m t
def parse (s : Bs) : Option (List Tab) :=
  match pNum 1 s with
  | none => none
  | some (n, t) => match pTabs t n with
    | none => none
    | some (m, u) => if u = [] then some m else none
theorem pNum_be (k n : Nat) (t : Bs) (hk : k ≤ 8) (h : n < 256 ^ k) : pNum k (be k n ++ t) = some (n, t) := by
  have hl := be_length k n hk
  unfold pNum
  rw [if_pos (by rw [List.length_append]; omega), List.take_left' hl, List.drop_left' hl, num_be_lt hk h]
theorem pText_text (x t : Bs) (h : x.length ≤ 65535) : pText (text x ++ t) = some (x, t) := by
  unfold pText text
  rw [List.append_assoc, pNum_be 2 x.length (x ++ t) (by omega) (by omega)]
  dsimp only
  rw [if_pos (by rw [List.length_append]; omega), List.take_left' rfl, List.drop_left' rfl]
theorem named_le {n : Bs} (h : named n = true) : 1 ≤ n.length ∧ n.length ≤ 12 := by
  unfold named at h
  simpa using h
theorem pCol_bytes {c : Col} (h : named c.name = true ∧ (c.kind = 1 ∨ c.kind = 2)) (t : Bs) : pCol (c.bytes ++ t) = some (c, t) := by
  have hn := named_le h.1
  unfold pCol Col.bytes
  rw [List.append_assoc, pText_text _ _ (by omega)]
  dsimp only
  rw [pNum_be 1 c.kind.toNat t (by omega) (by rcases h.2 with e | e <;> rw [e] <;> decide)]
  dsimp only
  have : ((c.kind.toNat : Nat) : Int) = c.kind := by rcases h.2 with e | e <;> rw [e] <;> rfl
  rw [this]
theorem pCols_bytes {l : List Col} (h : ∀ c ∈ l, named c.name = true ∧ (c.kind = 1 ∨ c.kind = 2)) (t : Bs) : ∀ j, j ≤ l.length → pCols (l.flatMap Col.bytes ++ t) j = some (l.take j, (l.drop j).flatMap Col.bytes ++ t)
  | 0, _ => by simp [pCols]
  | j + 1, hj => by
    unfold pCols
    rw [pCols_bytes h t j (by omega)]
    dsimp only
    rw [List.drop_eq_getElem_cons (show j < l.length by omega), List.flatMap_cons, List.append_assoc, pCol_bytes (h _ (List.getElem_mem _))]
    dsimp only
    rw [List.take_succ_eq_append_getElem]
theorem pNames_bytes {cols : List Col} {l : List Int} (h : ∀ k ∈ l, 0 ≤ k ∧ k < cols.length) (hc : cols.length ≤ 6) (t : Bs) : ∀ j, j ≤ l.length → pNames cols ((l.flatMap fun n => be 1 n.toNat) ++ t) j = some ((l.take j).map (fun k => (cols[k.toNat]?.map Col.name).getD []), ((l.drop j).flatMap fun n => be 1 n.toNat) ++ t)
  | 0, _ => by simp [pNames]
  | j + 1, hj => by
    have hm := h _ (List.getElem_mem (show j < l.length by omega))
    unfold pNames
    rw [pNames_bytes h hc t j (by omega)]
    dsimp only
    rw [List.drop_eq_getElem_cons (show j < l.length by omega), List.flatMap_cons, List.append_assoc]
    unfold pName
    rw [pNum_be 1 _ _ (by omega) (by omega)]
    dsimp only
    rw [List.getElem?_eq_getElem (show (l[j]).toNat < cols.length by omega)]
    dsimp only
    rw [List.take_succ_eq_append_getElem (show j < l.length by omega), List.map_append, List.map_singleton, List.getElem?_eq_getElem (show (l[j]).toNat < cols.length by omega)]
    rfl
theorem col_of_at {l : List Col} (h : (l.map Col.name).Nodup) {k : Nat} (hk : k < l.length) : colOf l l[k].name = (k : Int) := by
  refine pos_at hk (by simp) fun j hj => ?_
  rw [beq_eq_false_iff_ne]
  intro e
  unfold List.Nodup at h
  rw [List.pairwise_iff_getElem] at h
  exact h j k (by simp; omega) (by simpa using hk) hj (by simpa using e)
theorem find_of_at {m : List Tab} (h : (m.map Tab.name).Nodup) {k : Nat} (hk : k < m.length) : find m m[k].name = (k : Int) := by
  refine pos_at hk (by simp) fun j hj => ?_
  rw [beq_eq_false_iff_ne]
  intro e
  unfold List.Nodup at h
  rw [List.pairwise_iff_getElem] at h
  exact h j k (by simp; omega) (by simpa using hk) hj (by simpa using e)
end Go.VB.Cat
namespace Go.VB.Cat
open Go.VB.Oct
theorem any_false {α : Type} {p : α → Bool} {l : List α} (h : ∀ x ∈ l, p x = false) : ¬ l.any p = true := by
  intro h'
  obtain ⟨x, hx, hp⟩ := List.any_eq_true.1 h'
  rw [h x hx] at hp
  cases hp
theorem dup_no {l : List Bs} (h : l.Nodup) : ¬ dup l = true := by unfold dup; simpa using h
theorem create_zero {m : List Tab} {s : St} (h1 : named s.table = true) (h2 : 1 ≤ s.cols.length) (h3 : s.cols.length ≤ 6) (h4 : ∀ c ∈ s.cols, named c.name = true ∧ (c.kind = 1 ∨ c.kind = 2)) (h5 : (s.cols.map Col.name).Nodup) (h6 : find m s.table < 0) (h7 : m.length < 8) : createE m s = 0 := by
  unfold createE
  rw [if_neg, if_neg, if_neg, if_neg (by omega)]
  · rintro (h | h)
    · exact dup_no h5 h
    · omega
  · refine any_false fun c hc => ?_
    rcases (h4 c hc).2 with e | e <;> simp [e]
  · rintro (h | h | h | h)
    · rw [h1] at h; cases h
    · omega
    · omega
    · exact any_false (fun c hc => by simp [(h4 c hc).1]) h
theorem do_create {m : List Tab} {s : St} {root : Int} (h : s.kind = 1) : doM m s root = create m s := by unfold doM; rw [if_pos h]
theorem do_index {m : List Tab} {s : St} {root : Int} (h : s.kind = 2) : doM m s root = index m s root := by unfold doM; rw [if_neg (by rw [h]; decide), if_pos h]
theorem find_no {m : List Tab} {n : Bs} (h : ∀ t ∈ m, t.name ≠ n) : find m n = -1 := by
  refine pos_none fun t ht => ?_
  rw [beq_eq_false_iff_ne]
  exact h t ht
theorem index_zero {m : List Tab} {s : St} {root : Int} {i : Nat} (hi : i < m.length) (hf : find m s.table = (i : Int)) (h1 : named s.name = true) (h2 : 1 ≤ s.names.length) (h3 : s.names.length ≤ 6) (h4 : 0 ≤ root ∧ root < 400)
    (h5 : ∀ n ∈ s.names, 0 ≤ colOf m[i].cols n) (h6 : s.names.Nodup) (h7 : ∀ t ∈ m, ∀ x ∈ t.ixs, x.name ≠ s.name) (h8 : m[i].ixs.length < 4) : indexE m s root = 0 := by
  unfold indexE
  rw [if_neg]
  · have e : (find m s.table).toNat = i := by omega
    rw [e, List.getElem?_eq_getElem hi]
    dsimp only
    rw [if_neg (by omega), if_neg, if_neg, if_neg (by omega)]
    · rintro (h | h)
      · exact dup_no h6 h
      · refine any_false (fun t ht => ?_) h
        have : ¬ (t.ixs.any fun x => x.name == s.name) = true := any_false fun x hx => by rw [beq_eq_false_iff_ne]; exact h7 t ht x hx
        simpa using this
    · refine any_false fun n hn => ?_
      have := h5 n hn
      rw [beq_eq_false_iff_ne]
      omega
  · rintro (h | h | h | h | h)
    · rw [h1] at h; cases h
    all_goals omega
theorem flat_drop {α : Type} (f : α → Bs) {l : List α} {j : Nat} (h : j < l.length) (t : Bs) : (l.drop j).flatMap f ++ t = f l[j] ++ ((l.drop (j + 1)).flatMap f ++ t) := by
  rw [List.drop_eq_getElem_cons h, List.flatMap_cons, List.append_assoc]
theorem setT_last (A : List Tab) (x : Tab) (f : Tab → Tab) : setT (A ++ [x]) A.length f = A ++ [f x] := by
  rw [setT_eq (by simp)]
  simp
theorem ixn_apart {A B : List Tab} {T : Tab} (h : ((A ++ T :: B).flatMap fun t => t.ixs.map Ix.name).Nodup) {k : Nat} (hk : k < T.ixs.length) : (∀ t ∈ A, ∀ x ∈ t.ixs, x.name ≠ T.ixs[k].name) ∧ ∀ x ∈ T.ixs.take k, x.name ≠ T.ixs[k].name := by
  rw [List.flatMap_append, List.flatMap_cons, List.nodup_append] at h
  obtain ⟨_, h2, h3⟩ := h
  rw [List.nodup_append] at h2
  obtain ⟨h4, _, _⟩ := h2
  constructor
  · intro t ht x hx
    refine h3 _ (List.mem_flatMap.2 ⟨t, ht, List.mem_map_of_mem hx⟩) _ ?_
    exact List.mem_append_left _ (List.mem_map_of_mem (List.getElem_mem hk))
  · intro x hx
    obtain ⟨i, hi, rfl⟩ := List.getElem_of_mem hx
    rw [List.length_take] at hi
    rw [List.getElem_take]
    unfold List.Nodup at h4
    rw [List.pairwise_iff_getElem] at h4
    have := h4 i k (by simp; omega) (by simpa using hk) (by omega)
    simpa using this
theorem names_cols {cols : List Col} (h : (cols.map Col.name).Nodup) {l : List Int} (hl : ∀ k ∈ l, 0 ≤ k ∧ k < cols.length) : (l.map (fun k => (cols[k.toNat]?.map Col.name).getD [])).map (colOf cols) = l := by
  rw [List.map_map]
  conv => rhs; rw [← List.map_id l]
  refine List.map_congr_left fun k hk => ?_
  have hkk := hl k hk
  have hb : k.toNat < cols.length := by omega
  simp only [Function.comp_apply, List.getElem?_eq_getElem hb, Option.map_some, Option.getD_some, id_eq]
  rw [col_of_at h hb]
  omega
theorem pIx_bytes {A : List Tab} {T : Tab} (hT : TabOk T) (hA : ∀ t ∈ A, t.name ≠ T.name) {k : Nat} (hk : k < T.ixs.length) (hx : (∀ t ∈ A, ∀ x ∈ t.ixs, x.name ≠ T.ixs[k].name) ∧ ∀ x ∈ T.ixs.take k, x.name ≠ T.ixs[k].name) (t : Bs) :
    pIx T.name T.cols (A ++ [{ T with ixs := T.ixs.take k }]) (T.ixs[k].bytes ++ t) = some (A ++ [{ T with ixs := T.ixs.take (k + 1) }], t) := by
  have X := hT.ix _ (List.getElem_mem hk)
  have hn := named_le X.name
  have hle := hT.le
  have hxl := X.le
  have hrt := X.root
  unfold pIx Ix.bytes
  simp only [List.append_assoc]
  rw [pText_text _ _ (by omega)]
  dsimp only
  rw [pNum_be 1 _ _ (by omega) (by omega)]
  dsimp only
  rw [pNames_bytes X.col hle _ _ (Nat.le_refl _)]
  dsimp only
  rw [List.drop_length, List.flatMap_nil, List.nil_append, List.take_length, pNum_be 2 _ _ (by omega) (by omega)]
  dsimp only
  have hnl : ((T.ixs[k].cols.map (fun k => (T.cols[k.toNat]?.map Col.name).getD [])).map (colOf T.cols)) = T.ixs[k].cols := names_cols hT.nodup X.col
  obtain ⟨nl, hnd⟩ : ∃ nl, T.ixs[k].cols.map (fun k => (T.cols[k.toNat]?.map Col.name).getD []) = nl := ⟨_, rfl⟩
  rw [hnd] at hnl ⊢
  have hfind : find (A ++ [{ T with ixs := T.ixs.take k }]) T.name = (A.length : Int) := by
    refine pos_at (by simp) (by simp) fun j hj => ?_
    rw [List.getElem_append_left hj, beq_eq_false_iff_ne]
    exact hA _ (List.getElem_mem hj)
  have hlen : nl.length = T.ixs[k].cols.length := by rw [← hnd, List.length_map]
  have hz : indexE (A ++ [{ T with ixs := T.ixs.take k }]) (stI T.name T.ixs[k].name nl) (T.ixs[k].root.toNat : Nat) = 0 := by
    refine index_zero (i := A.length) (by simp) hfind X.name (by show 1 ≤ nl.length; have := X.pos; omega) (by show nl.length ≤ 6; omega) (by omega) ?_ ?_ ?_ ?_
    · intro n hm
      have hm : n ∈ nl := hm
      have hc : (A ++ [{ T with ixs := T.ixs.take k }])[A.length]'(by simp) = { T with ixs := T.ixs.take k } := by simp
      rw [hc]
      have : colOf T.cols n ∈ T.ixs[k].cols := by rw [← hnl]; exact List.mem_map_of_mem hm
      exact (X.col _ this).1
    · show nl.Nodup
      have := X.nodup
      rw [← hnl] at this
      unfold List.Nodup at this ⊢
      rw [List.pairwise_map] at this
      exact this.imp (fun h e => h (congrArg _ e))
    · intro t' ht' x hx'
      rcases List.mem_append.1 ht' with g | g
      · exact hx.1 t' g x hx'
      · rw [List.mem_singleton.1 g] at hx'
        exact hx.2 x hx'
    · have hc : (A ++ [{ T with ixs := T.ixs.take k }])[A.length]'(by simp) = { T with ixs := T.ixs.take k } := by simp
      rw [hc]
      have := hT.ixs
      simp
      omega
  have hdo : doM (A ++ [{ T with ixs := T.ixs.take k }]) (stI T.name T.ixs[k].name nl) (T.ixs[k].root.toNat : Nat) = (A ++ [{ T with ixs := T.ixs.take (k + 1) }], 0) := by
    rw [do_index rfl]
    unfold index
    rw [if_pos hz]
    have e : (find (A ++ [{ T with ixs := T.ixs.take k }]) (stI T.name T.ixs[k].name nl).table).toNat = A.length := by
      have : (stI T.name T.ixs[k].name nl).table = T.name := rfl
      rw [this, hfind]; rfl
    rw [e, setT_last]
    have hix : (stI T.name T.ixs[k].name nl).ix { T with ixs := T.ixs.take k } (T.ixs[k].root.toNat : Nat) = T.ixs[k] := by
      show (⟨T.ixs[k].name, nl.map (colOf T.cols), ((T.ixs[k].root.toNat : Nat) : Int)⟩ : Ix) = T.ixs[k]
      rw [hnl, show ((T.ixs[k].root.toNat : Nat) : Int) = T.ixs[k].root by omega]
    rw [hix, List.take_succ_eq_append_getElem hk]
  rw [hdo]
  rfl
theorem pIxs_bytes {A : List Tab} {T : Tab} (hT : TabOk T) (hA : ∀ t ∈ A, t.name ≠ T.name) (hx : ∀ k (hk : k < T.ixs.length), (∀ t ∈ A, ∀ x ∈ t.ixs, x.name ≠ T.ixs[k].name) ∧ ∀ x ∈ T.ixs.take k, x.name ≠ T.ixs[k].name) (t : Bs) :
    ∀ j, j ≤ T.ixs.length → pIxs T.name T.cols (A ++ [{ T with ixs := [] }]) (T.ixs.flatMap Ix.bytes ++ t) j = some (A ++ [{ T with ixs := T.ixs.take j }], (T.ixs.drop j).flatMap Ix.bytes ++ t)
  | 0, _ => by simp [pIxs]
  | j + 1, hj => by
    unfold pIxs
    rw [pIxs_bytes hT hA hx t j (by omega)]
    dsimp only
    rw [flat_drop Ix.bytes (show j < T.ixs.length by omega), pIx_bytes hT hA (by omega) (hx j (by omega))]
theorem pTab_bytes {m : List Tab} (H : Ok m) {k : Nat} (hk : k < m.length) (t : Bs) : pTab (m.take k) (m[k].bytes ++ t) = some (m.take (k + 1), t) := by
  have T := H.tab _ (List.getElem_mem hk)
  have hn := named_le T.name
  have hle := T.le
  have hil := T.ixs
  have hA : ∀ t ∈ m.take k, t.name ≠ m[k].name := by
    intro t ht
    obtain ⟨i, hi, rfl⟩ := List.getElem_of_mem ht
    rw [List.length_take] at hi
    rw [List.getElem_take]
    have := H.nodup
    unfold List.Nodup at this
    rw [List.pairwise_iff_getElem] at this
    have := this i k (by simp; omega) (by simpa using hk) (by omega)
    simpa using this
  have hlk : (m.take k).length = k := by rw [List.length_take]; omega
  unfold pTab Tab.bytes
  simp only [List.append_assoc]
  rw [pText_text _ _ (by omega)]
  dsimp only
  rw [pNum_be 1 _ _ (by omega) (by omega)]
  dsimp only
  rw [pCols_bytes T.col _ _ (Nat.le_refl _)]
  dsimp only
  rw [List.drop_length, List.flatMap_nil, List.nil_append, List.take_length]
  have hz : createE (m.take k) (stT m[k].name m[k].cols) = 0 := create_zero T.name T.pos T.le T.col T.nodup (by
    have := find_no hA
    show find (m.take k) m[k].name < 0
    omega) (by have := H.len; omega)
  have hdo : doM (m.take k) (stT m[k].name m[k].cols) 0 = (m.take k ++ [{ m[k] with ixs := [] }], 0) := by
    rw [do_create rfl]
    unfold create
    rw [if_pos hz, hlk]
    have := H.ids k hk
    rw [← this]
    rfl
  rw [hdo]
  dsimp only [did]
  rw [if_pos rfl]
  dsimp only
  rw [pNum_be 1 _ _ (by omega) (by omega)]
  dsimp only
  rw [pIxs_bytes T hA (fun i hi => ixn_apart (B := m.drop (k + 1)) (by rw [← split_at hk]; exact H.ixn) hi) t _ (Nat.le_refl _)]
  rw [List.drop_length, List.flatMap_nil, List.nil_append, List.take_length, List.take_succ_eq_append_getElem hk]
theorem pTabs_bytes {m : List Tab} (H : Ok m) (t : Bs) : ∀ j, j ≤ m.length → pTabs (m.flatMap Tab.bytes ++ t) j = some (m.take j, (m.drop j).flatMap Tab.bytes ++ t)
  | 0, _ => by simp [pTabs]
  | j + 1, hj => by
    unfold pTabs
    rw [pTabs_bytes H t j (by omega)]
    dsimp only
    rw [flat_drop Tab.bytes (show j < m.length by omega), pTab_bytes H (by omega)]
theorem parse_bytes {m : List Tab} (H : Ok m) : parse (bytes m) = some m := by
  have hl := H.len
  unfold parse bytes
  rw [pNum_be 1 _ _ (by omega) (by omega)]
  dsimp only
  have := pTabs_bytes H [] m.length (Nat.le_refl _)
  rw [List.append_nil, List.drop_length, List.take_length] at this
  rw [this]
  rfl
theorem pNum_back {k n : Nat} {s t : Bs} (hk : k ≤ 8) (h : pNum k s = some (n, t)) : s = be k n ++ t ∧ n < 256 ^ k := by
  unfold pNum at h
  split at h
  · rename_i hl
    simp only [Option.some.injEq, Prod.mk.injEq] at h
    obtain ⟨rfl, rfl⟩ := h
    have hlen : (s.take k).length = k := by rw [List.length_take]; omega
    have := num_lt (s.take k)
    rw [hlen] at this
    exact ⟨by rw [be_num hlen hk, List.take_append_drop], this⟩
  · cases h
theorem pText_back {x s t : Bs} (h : pText s = some (x, t)) : s = text x ++ t ∧ x.length ≤ 65535 := by
  unfold pText at h
  split at h
  · cases h
  · rename_i n u hn
    obtain ⟨rfl, hb⟩ := pNum_back (by omega) hn
    split at h
    · rename_i hl
      simp only [Option.some.injEq, Prod.mk.injEq] at h
      obtain ⟨rfl, rfl⟩ := h
      have hlen : (u.take n).length = n := by rw [List.length_take]; omega
      refine ⟨?_, by omega⟩
      unfold text
      rw [hlen, List.append_assoc, List.take_append_drop]
    · cases h
theorem pCol_back {c : Col} {s t : Bs} (h : pCol s = some (c, t)) : s = c.bytes ++ t := by
  unfold pCol at h
  split at h
  · cases h
  · rename_i n u hn
    obtain ⟨rfl, -⟩ := pText_back hn
    split at h
    · cases h
    · rename_i k v hk
      obtain ⟨rfl, -⟩ := pNum_back (by omega) hk
      simp only [Option.some.injEq, Prod.mk.injEq] at h
      obtain ⟨rfl, rfl⟩ := h
      simp [Col.bytes]
theorem pCols_back {s : Bs} : ∀ {j : Nat} {l : List Col} {t : Bs}, pCols s j = some (l, t) → s = l.flatMap Col.bytes ++ t ∧ l.length = j
  | 0, l, t, h => by
    simp only [pCols, Option.some.injEq, Prod.mk.injEq] at h
    obtain ⟨rfl, rfl⟩ := h
    exact ⟨rfl, rfl⟩
  | j + 1, l, t, h => by
    unfold pCols at h
    split at h
    · cases h
    · rename_i l' u hu
      split at h
      · cases h
      · rename_i c v hc
        simp only [Option.some.injEq, Prod.mk.injEq] at h
        obtain ⟨rfl, rfl⟩ := h
        obtain ⟨h1, h2⟩ := pCols_back hu
        have h3 := pCol_back hc
        refine ⟨?_, by simp [h2]⟩
        rw [h1, h3]
        simp
/-- the names' numbers -/
theorem pNames_back {cols : List Col} (hc : cols.length ≤ 6) (hn : (cols.map Col.name).Nodup) {s : Bs} : ∀ {j : Nat} {l : List Bs} {t : Bs}, pNames cols s j = some (l, t) → s = (l.flatMap fun n => be 1 (colOf cols n).toNat) ++ t ∧ l.length = j
  | 0, l, t, h => by
    simp only [pNames, Option.some.injEq, Prod.mk.injEq] at h
    obtain ⟨rfl, rfl⟩ := h
    exact ⟨rfl, rfl⟩
  | j + 1, l, t, h => by
    unfold pNames at h
    split at h
    · cases h
    · rename_i l' u hu
      split at h
      · cases h
      · rename_i c v hcc
        simp only [Option.some.injEq, Prod.mk.injEq] at h
        obtain ⟨rfl, rfl⟩ := h
        obtain ⟨h1, h2⟩ := pNames_back hc hn hu
        unfold pName at hcc
        split at hcc
        · cases hcc
        · rename_i k x hk
          obtain ⟨rfl, -⟩ := pNum_back (by omega) hk
          split at hcc
          · cases hcc
          · rename_i cc hcol
            simp only [Option.some.injEq, Prod.mk.injEq] at hcc
            obtain ⟨rfl, rfl⟩ := hcc
            obtain ⟨hkl, rfl⟩ := List.getElem?_eq_some_iff.1 hcol
            refine ⟨?_, by simp [h2]⟩
            rw [h1, List.flatMap_append]
            simp only [List.flatMap_cons, List.flatMap_nil, List.append_nil, List.append_assoc]
            rw [col_of_at hn hkl]
            rfl
theorem did_some {p : List Tab × Int} {m : List Tab} (h : did p = some m) : p = (m, 0) := by
  unfold did at h
  split at h
  · rename_i h0
    obtain ⟨a, b⟩ := p
    simp only [Option.some.injEq] at h
    dsimp only at h0
    rw [h, h0]
  · cases h
theorem pIx_back {A m' : List Tab} {T : Tab} (hO : Ok (A ++ [T])) {s t : Bs} (h : pIx T.name T.cols (A ++ [T]) s = some (m', t)) : ∃ x : Ix, m' = A ++ [{ T with ixs := T.ixs ++ [x] }] ∧ Ok m' ∧ s = x.bytes ++ t := by
  have hT := hO.tab T (by simp)
  unfold pIx at h
  split at h
  · cases h
  · rename_i n u hn
    obtain ⟨rfl, -⟩ := pText_back hn
    split at h
    · cases h
    · rename_i k v hk
      obtain ⟨rfl, -⟩ := pNum_back (by omega) hk
      split at h
      · cases h
      · rename_i l x hl
        obtain ⟨rfl, rfl⟩ := pNames_back hT.le hT.nodup hl
        split at h
        · cases h
        · rename_i root y hr
          obtain ⟨rfl, -⟩ := pNum_back (by omega) hr
          split at h
          · cases h
          · rename_i m2 hd
            simp only [Option.some.injEq, Prod.mk.injEq] at h
            obtain ⟨rfl, rfl⟩ := h
            have hd := did_some hd
            have hok := ok_do hO (stI T.name n l) root
            rw [hd] at hok
            have hfind : find (A ++ [T]) T.name = (A.length : Int) := by
              have := find_of_at hO.nodup (k := A.length) (by simp)
              simpa using this
            rw [do_index rfl] at hd
            unfold index at hd
            split at hd
            · have e : (find (A ++ [T]) (stI T.name n l).table).toNat = A.length := by
                have : (stI T.name n l).table = T.name := rfl
                rw [this, hfind]; rfl
              rw [e, setT_last] at hd
              simp only [Prod.mk.injEq, and_true] at hd
              refine ⟨(stI T.name n l).ix T root, hd.symm, hok, ?_⟩
              show _ = (⟨n, l.map (colOf T.cols), (root : Int)⟩ : Ix).bytes ++ y
              unfold Ix.bytes
              dsimp only
              rw [List.flatMap_map, List.length_map]
              simp only [List.append_assoc, Int.toNat_natCast]
            · rename_i hz
              simp only [Prod.mk.injEq] at hd
              exact absurd hd.2 hz
theorem pIxs_back {A : List Tab} {T : Tab} (hO : Ok (A ++ [T])) {s : Bs} : ∀ {j : Nat} {m' : List Tab} {t : Bs}, pIxs T.name T.cols (A ++ [T]) s j = some (m', t) → ∃ xs : List Ix, m' = A ++ [{ T with ixs := T.ixs ++ xs }] ∧ Ok m' ∧ s = xs.flatMap Ix.bytes ++ t ∧ xs.length = j
  | 0, m', t, h => by
    simp only [pIxs, Option.some.injEq, Prod.mk.injEq] at h
    obtain ⟨rfl, rfl⟩ := h
    exact ⟨[], by simp, hO, rfl, rfl⟩
  | j + 1, m', t, h => by
    unfold pIxs at h
    split at h
    · cases h
    · rename_i m2 u hu
      obtain ⟨xs, rfl, h2, h3, h4⟩ := pIxs_back hO hu
      obtain ⟨x, rfl, g2, g3⟩ := pIx_back h2 h
      refine ⟨xs ++ [x], by simp, by simpa using g2, ?_, by simp [h4]⟩
      rw [h3, g3]
      simp
theorem pTab_back {m m' : List Tab} (hO : Ok m) {s t : Bs} (h : pTab m s = some (m', t)) : ∃ T : Tab, m' = m ++ [T] ∧ Ok m' ∧ s = T.bytes ++ t := by
  unfold pTab at h
  split at h
  · cases h
  · rename_i n u hn
    obtain ⟨rfl, -⟩ := pText_back hn
    split at h
    · cases h
    · rename_i k v hk
      obtain ⟨rfl, -⟩ := pNum_back (by omega) hk
      split at h
      · cases h
      · rename_i l x hl
        obtain ⟨rfl, rfl⟩ := pCols_back hl
        split at h
        · cases h
        · rename_i m2 hd
          have hd := did_some hd
          have hok := ok_do hO (stT n l) 0
          rw [hd] at hok
          rw [do_create rfl] at hd
          unfold create at hd
          split at hd
          · simp only [Prod.mk.injEq, and_true] at hd
            subst hd
            split at h
            · cases h
            · rename_i q y hq
              obtain ⟨rfl, -⟩ := pNum_back (by omega) hq
              obtain ⟨xs, rfl, g2, g3, g4⟩ := pIxs_back (T := ⟨m.length + 1, n, l, []⟩) hok h
              refine ⟨⟨m.length + 1, n, l, xs⟩, by simp, by simpa using g2, ?_⟩
              rw [g3]
              unfold Tab.bytes
              dsimp only
              rw [g4]
              simp only [List.append_assoc]
          · rename_i hz
            simp only [Prod.mk.injEq] at hd
            exact absurd hd.2 hz
theorem pTabs_back {s : Bs} : ∀ {j : Nat} {m : List Tab} {t : Bs}, pTabs s j = some (m, t) → Ok m ∧ s = m.flatMap Tab.bytes ++ t ∧ m.length = j
  | 0, m, t, h => by
    simp only [pTabs, Option.some.injEq, Prod.mk.injEq] at h
    obtain ⟨rfl, rfl⟩ := h
    exact ⟨ok_nil, rfl, rfl⟩
  | j + 1, m, t, h => by
    unfold pTabs at h
    split at h
    · cases h
    · rename_i m2 u hu
      obtain ⟨h1, h2, h3⟩ := pTabs_back hu
      obtain ⟨T, rfl, g2, g3⟩ := pTab_back h1 h
      refine ⟨g2, ?_, by simp [h3]⟩
      rw [h2, g3]
      simp
theorem parse_back {s : Bs} {m : List Tab} (h : parse s = some m) : Ok m ∧ bytes m = s := by
  unfold parse at h
  split at h
  · cases h
  · rename_i n t hn
    obtain ⟨rfl, -⟩ := pNum_back (by omega) hn
    split at h
    · cases h
    · rename_i m2 u hu
      obtain ⟨h1, rfl, rfl⟩ := pTabs_back hu
      split at h
      · rename_i h0
        obtain rfl := Option.some.inj h
        subst h0
        exact ⟨h1, by unfold bytes; simp⟩
      · cases h
def rCols (r : RM) : Nat → RM × List Col
  | 0 => (r, [])
  | j + 1 => let p := rCols r j; ((p.1.text.1.num 1).1, p.2 ++ [⟨p.1.text.2, ((p.1.text.1.num 1).2 : Nat)⟩])
def rNames (cols : List Col) (r : RM) (fine : Bool) : Nat → RM × Bool × List Bs
  | 0 => (r, fine, [])
  | j + 1 => let p := rNames cols r fine j
    match cols[(p.1.num 1).2]? with
    | none => ((p.1.num 1).1, false, p.2.2)
    | some c => ((p.1.num 1).1, p.2.1, p.2.2 ++ [c.name])
structure RS where
  r : RM
  m : List Tab
  fine : Bool
def rDo (p : RS) (s : St) (root : Int) : RS := if p.fine = true then ⟨p.r, (doM p.m s root).1, decide ((doM p.m s root).2 = 0)⟩ else ⟨p.r, p.m, false⟩
def rIx (tn : Bs) (cols : List Col) (p : RS) : RS :=
  let a := p.r.text
  let b := a.1.num 1
  let c := rNames cols b.1 p.fine b.2
  let d := c.1.num 2
  rDo ⟨d.1, p.m, c.2.1⟩ (stI tn a.2 c.2.2) d.2
def rIxs (tn : Bs) (cols : List Col) (p : RS) : Nat → RS
  | 0 => p
  | j + 1 => rIx tn cols (rIxs tn cols p j)
def rTab (p : RS) : RS :=
  let a := p.r.text
  let b := a.1.num 1
  let c := rCols b.1 b.2
  let q := rDo ⟨c.1, p.m, p.fine⟩ (stT a.2 c.2) 0
  let d := q.r.num 1
  rIxs a.2 c.2 ⟨d.1, q.m, q.fine⟩ d.2
def rTabs (p : RS) : Nat → RS
  | 0 => p
  | j + 1 => rTab (rTabs p j)
def readS (s : Bs) : RS := rTabs ⟨((RM.new s).num 1).1, [], true⟩ ((RM.new s).num 1).2
def readM (s : Bs) : Option (List Tab) := if (readS s).r.failed = true ∨ 0 < (readS s).r.left ∨ (readS s).fine = false then none else some (readS s).m
/-- the reader that has t before it, or has failed -/
def SimR {α : Type} (x : Option (α × Bs)) (r : RM) (a : α) : Prop := match x with | some (a', t) => r.Has t ∧ a = a' | none => r.failed = true
theorem sim_num {r : RM} {t : Bs} (h : r.Has t) (k : Nat) : SimR (pNum k t) (r.num k).1 (r.num k).2 := by
  unfold pNum
  split
  · rename_i hk
    have hh := h.take hk
    have e : r.num k = ({ r with at_ := r.at_ + k }, Go.VB.Oct.num (t.take k)) := by unfold RM.num; rw [hh.1]
    rw [e]
    exact ⟨hh.2, rfl⟩
  · show (r.num k).1.failed = true
    unfold RM.num
    rw [h.bad (by omega)]
theorem num_fail {r : RM} (h : r.failed = true) (k : Nat) : (r.num k).1.failed = true := by rw [RM.num_failed h]; exact h
theorem text_fail {r : RM} (h : r.failed = true) : r.text.1.failed = true := by rw [RM.text_failed h]; exact h
theorem sim_text {r : RM} {t : Bs} (h : r.Has t) : SimR (pText t) r.text.1 r.text.2 := by
  have h1 := sim_num h 2
  unfold pText
  split
  · rename_i hn
    rw [hn] at h1
    have h1 : (r.num 2).1.failed = true := h1
    show r.text.1.failed = true
    unfold RM.text
    dsimp only
    rw [RM.take_failed h1]
    dsimp only
    rw [if_pos h1]
    exact h1
  · rename_i n u hn
    rw [hn] at h1
    obtain ⟨h1, h2⟩ := h1
    split
    · rename_i hl
      have hh := h1.take hl
      refine ⟨?_, ?_⟩
      · unfold RM.text
        dsimp only
        rw [h2, hh.1]
        dsimp only
        rw [if_neg (by rw [hh.2.ok]; decide)]
        exact hh.2
      · unfold RM.text
        dsimp only
        rw [h2, hh.1]
    · rename_i hl
      show r.text.1.failed = true
      unfold RM.text
      dsimp only
      rw [h2, h1.bad (by omega)]
      rfl
theorem cols_fail {r : RM} (h : r.failed = true) : ∀ j, (rCols r j).1.failed = true
  | 0 => h
  | j + 1 => num_fail (text_fail (cols_fail h j)) 1
theorem sim_cols {r : RM} {t : Bs} (h : r.Has t) : ∀ j, SimR (pCols t j) (rCols r j).1 (rCols r j).2
  | 0 => ⟨h, rfl⟩
  | j + 1 => by
    have ih := sim_cols h j
    unfold pCols rCols
    dsimp only
    split
    · rename_i hn
      rw [hn] at ih
      exact num_fail (text_fail ih) 1
    · rename_i l u hn
      rw [hn] at ih
      obtain ⟨ih1, ih2⟩ := ih
      have h1 := sim_text ih1
      unfold pCol
      split
      · rename_i hc
        split at hc
        · rename_i hx
          rw [hx] at h1
          exact num_fail h1 1
        · rename_i n v hx
          rw [hx] at h1
          obtain ⟨h1, h2⟩ := h1
          have h3 := sim_num h1 1
          split at hc
          · rename_i hy
            rw [hy] at h3
            exact h3
          · cases hc
      · rename_i c w hc
        split at hc
        · cases hc
        · rename_i n v hx
          rw [hx] at h1
          obtain ⟨h1, h2⟩ := h1
          have h3 := sim_num h1 1
          split at hc
          · cases hc
          · rename_i k x hy
            rw [hy] at h3
            obtain ⟨h3, h4⟩ := h3
            simp only [Option.some.injEq, Prod.mk.injEq] at hc
            obtain ⟨rfl, rfl⟩ := hc
            exact ⟨h3, by rw [ih2, h2, h4]⟩
def bad (r : RM) (fine : Bool) : Prop := r.failed = true ∨ fine = false
theorem names_bad {cols : List Col} {r : RM} {fine : Bool} (h : bad r fine) : ∀ j, bad (rNames cols r fine j).1 (rNames cols r fine j).2.1
  | 0 => h
  | j + 1 => by
    have ih := names_bad (cols := cols) h j
    unfold rNames
    dsimp only
    split
    · exact .inr rfl
    · exact ih.imp (fun h => num_fail h 1) id
def SimN (x : Option (List Bs × Bs)) (p : RM × Bool × List Bs) : Prop := match x with | some (l, t) => p.1.Has t ∧ p.2.1 = true ∧ p.2.2 = l | none => bad p.1 p.2.1
theorem sim_names {cols : List Col} {r : RM} {t : Bs} (h : r.Has t) : ∀ j, SimN (pNames cols t j) (rNames cols r true j)
  | 0 => ⟨h, rfl, rfl⟩
  | j + 1 => by
    have ih := sim_names (cols := cols) h j
    unfold pNames rNames
    dsimp only
    split
    · rename_i hn
      rw [hn] at ih
      have ih : bad _ _ := ih
      split
      · exact .inr rfl
      · exact ih.imp (fun h => num_fail h 1) id
    · rename_i l u hn
      rw [hn] at ih
      obtain ⟨ih1, ih2, ih3⟩ := ih
      have h1 := sim_num ih1 1
      unfold pName
      cases hx : pNum 1 u with
      | none =>
        rw [hx] at h1
        have h1 : ((rNames cols r true j).1.num 1).1.failed = true := h1
        dsimp only
        split
        · exact .inr rfl
        · exact .inl h1
      | some kv =>
        obtain ⟨k, v⟩ := kv
        rw [hx] at h1
        obtain ⟨h1, h2⟩ := h1
        dsimp only
        rw [h2]
        cases hc : cols[k]? with
        | none => exact .inr rfl
        | some c => exact ⟨h1, ih2, by rw [ih3]⟩
def SimS (x : Option (List Tab × Bs)) (p : RS) : Prop := match x with | some (m, t) => p.r.Has t ∧ p.fine = true ∧ p.m = m | none => bad p.r p.fine
theorem do_bad {p : RS} {s : St} {root : Int} (h : bad p.r p.fine) : bad (rDo p s root).r (rDo p s root).fine := by
  unfold rDo
  split
  · rename_i hf
    rcases h with h | h
    · exact .inl h
    · rw [h] at hf; cases hf
  · exact .inr rfl
theorem ix_bad {tn : Bs} {cols : List Col} {p : RS} (h : bad p.r p.fine) : bad (rIx tn cols p).r (rIx tn cols p).fine := by
  unfold rIx
  dsimp only
  refine do_bad ?_
  have h1 : bad (p.r.text.1.num 1).1 p.fine := h.imp (fun h => num_fail (text_fail h) 1) id
  have h2 := names_bad (cols := cols) h1 (p.r.text.1.num 1).2
  exact h2.imp (fun h => num_fail h 2) id
theorem ixs_bad {tn : Bs} {cols : List Col} {p : RS} (h : bad p.r p.fine) : ∀ j, bad (rIxs tn cols p j).r (rIxs tn cols p j).fine
  | 0 => h
  | j + 1 => ix_bad (ixs_bad h j)
theorem tab_bad {p : RS} (h : bad p.r p.fine) : bad (rTab p).r (rTab p).fine := by
  unfold rTab
  dsimp only
  refine ixs_bad ?_ _
  have h1 : bad (rCols (p.r.text.1.num 1).1 (p.r.text.1.num 1).2).1 p.fine := h.imp (fun h => cols_fail (num_fail (text_fail h) 1) _) id
  have h2 := do_bad (p := ⟨(rCols (p.r.text.1.num 1).1 (p.r.text.1.num 1).2).1, p.m, p.fine⟩) (s := stT p.r.text.2 (rCols (p.r.text.1.num 1).1 (p.r.text.1.num 1).2).2) (root := 0) h1
  exact h2.imp (fun h => num_fail h 1) id
theorem sim_ix {tn : Bs} {cols : List Col} {p : RS} {t : Bs} {m : List Tab} (h : p.r.Has t) (hf : p.fine = true) (hm : p.m = m) : SimS (pIx tn cols m t) (rIx tn cols p) := by
  subst hm
  have h1 := sim_text h
  unfold pIx
  cases hx : pText t with
  | none =>
    rw [hx] at h1
    have h1 : p.r.text.1.failed = true := h1
    unfold rIx
    dsimp only
    refine do_bad ?_
    have h2 := names_bad (cols := cols) (fine := p.fine) (.inl (num_fail h1 1)) (p.r.text.1.num 1).2
    exact h2.imp (fun h => num_fail h 2) id
  | some nu =>
    obtain ⟨n, u⟩ := nu
    rw [hx] at h1
    obtain ⟨h1, h2⟩ := h1
    have h3 := sim_num h1 1
    dsimp only
    cases hy : pNum 1 u with
    | none =>
      rw [hy] at h3
      have h3 : (p.r.text.1.num 1).1.failed = true := h3
      unfold rIx
      dsimp only
      refine do_bad ?_
      have h2 := names_bad (cols := cols) (fine := p.fine) (.inl h3) (p.r.text.1.num 1).2
      exact h2.imp (fun h => num_fail h 2) id
    | some kv =>
      obtain ⟨k, v⟩ := kv
      rw [hy] at h3
      obtain ⟨h3, h4⟩ := h3
      have h5 := sim_names (cols := cols) h3 k
      dsimp only
      cases hz : pNames cols v k with
      | none =>
        rw [hz] at h5
        have h5 : bad _ _ := h5
        unfold rIx
        dsimp only
        rw [h4, hf]
        exact do_bad (h5.imp (fun h => num_fail h 2) id)
      | some lw =>
        obtain ⟨l, w⟩ := lw
        rw [hz] at h5
        obtain ⟨h5, h6, h7⟩ := h5
        have h8 := sim_num h5 2
        dsimp only
        cases hq : pNum 2 w with
        | none =>
          rw [hq] at h8
          unfold rIx
          dsimp only
          rw [h4, hf]
          exact do_bad (.inl h8)
        | some rx =>
          obtain ⟨root, x⟩ := rx
          rw [hq] at h8
          obtain ⟨h8, h9⟩ := h8
          unfold rIx
          dsimp only
          rw [h4, hf, h6, h7, h9, h2]
          unfold rDo did
          dsimp only
          rw [if_pos rfl]
          by_cases h0 : (doM p.m (stI tn n l) root).2 = 0
          · rw [if_pos h0]
            exact ⟨h8, by simp [h0], rfl⟩
          · rw [if_neg h0]
            exact .inr (by simp [h0])
theorem sim_ixs {tn : Bs} {cols : List Col} {p : RS} {t : Bs} {m : List Tab} (h : p.r.Has t) (hf : p.fine = true) (hm : p.m = m) : ∀ j, SimS (pIxs tn cols m t j) (rIxs tn cols p j)
  | 0 => ⟨h, hf, hm⟩
  | j + 1 => by
    have ih := sim_ixs (tn := tn) (cols := cols) h hf hm j
    unfold pIxs rIxs
    cases hx : pIxs tn cols m t j with
    | none => rw [hx] at ih; exact ix_bad ih
    | some mu =>
      obtain ⟨m', u⟩ := mu
      rw [hx] at ih
      exact sim_ix ih.1 ih.2.1 ih.2.2
theorem sim_tab {p : RS} {t : Bs} {m : List Tab} (h : p.r.Has t) (hf : p.fine = true) (hm : p.m = m) : SimS (pTab m t) (rTab p) := by
  subst hm
  have h1 := sim_text h
  have HB : bad (rCols (p.r.text.1.num 1).1 (p.r.text.1.num 1).2).1 true → bad (rTab p).r (rTab p).fine := by
    intro hb
    unfold rTab
    dsimp only
    refine ixs_bad ?_ _
    have h2 := do_bad (p := ⟨(rCols (p.r.text.1.num 1).1 (p.r.text.1.num 1).2).1, p.m, p.fine⟩) (s := stT p.r.text.2 (rCols (p.r.text.1.num 1).1 (p.r.text.1.num 1).2).2) (root := 0) (by rw [hf]; exact hb)
    exact h2.imp (fun h => num_fail h 1) id
  unfold pTab
  cases hx : pText t with
  | none =>
    rw [hx] at h1
    exact HB (.inl (cols_fail (num_fail h1 1) _))
  | some nu =>
    obtain ⟨n, u⟩ := nu
    rw [hx] at h1
    obtain ⟨h1, h2⟩ := h1
    have h3 := sim_num h1 1
    dsimp only
    cases hy : pNum 1 u with
    | none =>
      rw [hy] at h3
      exact HB (.inl (cols_fail h3 _))
    | some kv =>
      obtain ⟨k, v⟩ := kv
      rw [hy] at h3
      obtain ⟨h3, h4⟩ := h3
      have h5 := sim_cols h3 k
      dsimp only
      cases hz : pCols v k with
      | none =>
        rw [hz] at h5
        refine HB (.inl ?_)
        rw [h4]
        exact h5
      | some lw =>
        obtain ⟨l, w⟩ := lw
        rw [hz] at h5
        obtain ⟨h5, h6⟩ := h5
        dsimp only
        unfold rTab
        dsimp only
        rw [h4, h6, h2]
        by_cases h0 : (doM p.m (stT n l) 0).2 = 0
        · have e1 : did (doM p.m (stT n l) 0) = some (doM p.m (stT n l) 0).1 := if_pos h0
          have e2 : rDo ⟨(rCols (p.r.text.1.num 1).1 k).1, p.m, p.fine⟩ (stT n l) 0 = ⟨(rCols (p.r.text.1.num 1).1 k).1, (doM p.m (stT n l) 0).1, true⟩ := by
            unfold rDo
            rw [if_pos hf]
            simp [h0]
          rw [e1, e2]
          dsimp only
          have h8 := sim_num h5 1
          cases hq : pNum 1 w with
          | none =>
            rw [hq] at h8
            exact ixs_bad (.inl (show ((rCols (p.r.text.1.num 1).1 k).1.num 1).1.failed = true from h8)) _
          | some rx =>
            obtain ⟨q, x⟩ := rx
            rw [hq] at h8
            obtain ⟨h8, h9⟩ := h8
            dsimp only
            rw [h9]
            exact sim_ixs (p := ⟨((rCols (p.r.text.1.num 1).1 k).1.num 1).1, (doM p.m (stT n l) 0).1, true⟩) h8 rfl rfl q
        · have e1 : did (doM p.m (stT n l) 0) = none := if_neg h0
          have e2 : rDo ⟨(rCols (p.r.text.1.num 1).1 k).1, p.m, p.fine⟩ (stT n l) 0 = ⟨(rCols (p.r.text.1.num 1).1 k).1, (doM p.m (stT n l) 0).1, false⟩ := by
            unfold rDo
            rw [if_pos hf]
            simp [h0]
          rw [e1, e2]
          dsimp only
          exact ixs_bad (.inr rfl) _
theorem sim_tabs {p : RS} {t : Bs} (h : p.r.Has t) (hf : p.fine = true) (hm : p.m = []) : ∀ j, SimS (pTabs t j) (rTabs p j)
  | 0 => ⟨h, hf, hm⟩
  | j + 1 => by
    have ih := sim_tabs h hf hm j
    unfold pTabs rTabs
    cases hx : pTabs t j with
    | none => rw [hx] at ih; exact tab_bad ih
    | some mu =>
      obtain ⟨m', u⟩ := mu
      rw [hx] at ih
      exact sim_tab ih.1 ih.2.1 ih.2.2
theorem tabs_bad {p : RS} (h : bad p.r p.fine) : ∀ j, bad (rTabs p j).r (rTabs p j).fine
  | 0 => h
  | j + 1 => tab_bad (tabs_bad h j)
theorem readM_parse (s : Bs) : readM s = parse s := by
  have h1 := sim_num (RM.Has.new s) 1
  unfold readM readS parse
  cases hx : pNum 1 s with
  | none =>
    rw [hx] at h1
    have h2 := tabs_bad (p := ⟨((RM.new s).num 1).1, [], true⟩) (.inl h1) ((RM.new s).num 1).2
    dsimp only
    rw [if_pos]
    rcases h2 with h | h
    · exact .inl h
    · exact .inr (.inr h)
  | some nt =>
    obtain ⟨n, t⟩ := nt
    rw [hx] at h1
    obtain ⟨h1, h2⟩ := h1
    have h3 := sim_tabs (p := ⟨((RM.new s).num 1).1, [], true⟩) h1 rfl rfl n
    dsimp only
    rw [h2]
    cases hy : pTabs t n with
    | none =>
      rw [hy] at h3
      dsimp only
      rw [if_pos]
      rcases h3 with h | h
      · exact .inl h
      · exact .inr (.inr h)
    | some mu =>
      obtain ⟨m, u⟩ := mu
      rw [hy] at h3
      obtain ⟨h3, h4, h5⟩ := h3
      dsimp only
      have hl := h3.left
      by_cases hu : u = []
      · rw [if_neg, if_pos hu, h5]
        rintro (h | h | h)
        · rw [h3.ok] at h; cases h
        · rw [hl, hu] at h; simp at h
        · rw [h4] at h; cases h
      · rw [if_pos, if_neg hu]
        refine .inr (.inl ?_)
        rw [hl]
        cases u with
        | nil => exact absurd rfl hu
        | cons a l => simp
end Go.VB.Cat
