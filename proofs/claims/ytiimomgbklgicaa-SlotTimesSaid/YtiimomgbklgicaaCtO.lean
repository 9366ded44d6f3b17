import Derived.Test.YtiimomgbklgicaaCtM
/- The model of the catalog keeps what holds of every catalog (no program in sight). -/
set_option linter.unusedVariables false
namespace Go.VB.Cat
open Go.VB.Oct
theorem setT_eq {m : List Tab} {i : Nat} (h : i < m.length) (f : Tab → Tab) : setT m i f = m.take i ++ f m[i] :: m.drop (i + 1) := by
  unfold setT
  rw [List.modify_eq_take_cons_drop h]
theorem split_at {m : List Tab} {i : Nat} (h : i < m.length) : m = m.take i ++ m[i] :: m.drop (i + 1) := by
  rw [List.getElem_cons_drop, List.take_append_drop]
theorem setT_len (m : List Tab) (i : Nat) (f : Tab → Tab) : (setT m i f).length = m.length := by unfold setT; rw [List.length_modify]
theorem setT_get {m : List Tab} {i : Nat} {f : Tab → Tab} {j : Nat} (h : j < (setT m i f).length) : (setT m i f)[j] = if i = j then f (m[j]'(by rwa [setT_len] at h)) else m[j]'(by rwa [setT_len] at h) := by
  unfold setT
  rw [List.getElem_modify]
theorem ids_set {m : List Tab} (h : ∀ i (hi : i < m.length), m[i].id = (i : Int) + 1) (k : Nat) {f : Tab → Tab} (hf : ∀ t, (f t).id = t.id) : ∀ i (hi : i < (setT m k f).length), (setT m k f)[i].id = (i : Int) + 1 := by
  intro i hi
  have hi2 : i < m.length := by rwa [setT_len] at hi
  rw [setT_get hi]
  split
  · rw [hf]; exact h i hi2
  · exact h i hi2
theorem map_set {m : List Tab} (k : Nat) {f : Tab → Tab} {β : Type} (g : Tab → β) (hf : ∀ t, g (f t) = g t) : (setT m k f).map g = m.map g := by
  apply List.ext_getElem
  · rw [List.length_map, List.length_map, setT_len]
  · intro i h1 h2
    rw [List.getElem_map, List.getElem_map, setT_get (by rwa [List.length_map] at h1)]
    split
    · rw [hf]
    · rfl
theorem mem_set {m : List Tab} {k : Nat} {f : Tab → Tab} {t : Tab} (h : t ∈ setT m k f) : t ∈ m ∨ ∃ h : k < m.length, t = f m[k] := by
  obtain ⟨i, hi, rfl⟩ := List.getElem_of_mem h
  rw [setT_get hi]
  have hi2 : i < m.length := by rwa [setT_len] at hi
  split
  · rename_i e; subst e; exact .inr ⟨hi2, rfl⟩
  · exact .inl (List.getElem_mem hi2)
/-- a table that was found -/
theorem find_at {m : List Tab} {n : Bs} (h : 0 ≤ find m n) : ∃ hi : (find m n).toNat < m.length, m[(find m n).toNat].name = n ∧ find m n = ((find m n).toNat : Int) := by
  rcases pos_cases (fun t : Tab => t.name == n) m with ⟨h1, _⟩ | ⟨i, hi, h1, h2, _⟩
  · unfold find at h; omega
  · have e : (find m n).toNat = i := by unfold find; rw [h1]; rfl
    refine ⟨by rw [e]; exact hi, ?_, by unfold find; omega⟩
    simp only [e]
    exact beq_iff_eq.1 h2
theorem find_none {m : List Tab} {n : Bs} (h : find m n < 0) : ∀ t ∈ m, t.name ≠ n := by
  rcases pos_cases (fun t : Tab => t.name == n) m with ⟨_, h2⟩ | ⟨i, hi, h1, _, _⟩
  · intro t ht e
    have := h2 t ht
    simp [e] at this
  · unfold find at h; omega
theorem col_at {l : List Col} {n : Bs} (h : 0 ≤ colOf l n) : ∃ hi : (colOf l n).toNat < l.length, l[(colOf l n).toNat].name = n ∧ colOf l n = ((colOf l n).toNat : Int) := by
  rcases pos_cases (fun t : Col => t.name == n) l with ⟨h1, _⟩ | ⟨i, hi, h1, h2, _⟩
  · unfold colOf at h; omega
  · have e : (colOf l n).toNat = i := by unfold colOf; rw [h1]; rfl
    refine ⟨by rw [e]; exact hi, ?_, by unfold colOf; omega⟩
    simp only [e]
    exact beq_iff_eq.1 h2
theorem col_none {l : List Col} {n : Bs} (h : colOf l n < 0) : ∀ t ∈ l, t.name ≠ n := by
  rcases pos_cases (fun t : Col => t.name == n) l with ⟨_, h2⟩ | ⟨i, hi, h1, _, _⟩
  · intro t ht e
    have := h2 t ht
    simp [e] at this
  · unfold colOf at h; omega
theorem col_ge (l : List Col) (n : Bs) : -1 ≤ colOf l n ∧ colOf l n < l.length := by
  rcases pos_cases (fun t : Col => t.name == n) l with ⟨h1, _⟩ | ⟨i, hi, h1, _, _⟩
  · unfold colOf; omega
  · unfold colOf; omega
theorem dup_false {l : List Bs} (h : ¬ dup l = true) : l.Nodup := by
  unfold dup at h
  simpa using h
theorem ok_nil : Ok [] := ⟨by simp, fun i h => by simp at h, by simp, fun t h => by simp at h, by simp⟩
theorem create_ok {m : List Tab} {s : St} (h : createE m s = 0) : named s.table = true ∧ 1 ≤ s.cols.length ∧ s.cols.length ≤ 6 ∧ (∀ c ∈ s.cols, named c.name = true ∧ (c.kind = 1 ∨ c.kind = 2)) ∧ (s.cols.map Col.name).Nodup ∧ find m s.table < 0 ∧ m.length < 8 := by
  unfold createE at h
  split at h
  · cases h
  · rename_i h1
    split at h
    · cases h
    · rename_i h2
      split at h
      · cases h
      · rename_i h3
        split at h
        · cases h
        · rename_i h4
          simp only [not_or, Bool.not_eq_false, Bool.not_eq_true] at h1
          simp only [not_or] at h3
          obtain ⟨a1, a2, a3, a4⟩ := h1
          refine ⟨a1, by omega, by omega, fun c hc => ⟨?_, ?_⟩, dup_false h3.1, by omega, by omega⟩
          · have := any_no (by rw [a4]; decide) c hc
            simpa using this
          · have := any_no h2 c hc
            by_cases e : c.kind = 1
            · exact .inl e
            · refine .inr (Decidable.byContradiction fun g => ?_)
              simp [e, g] at this
theorem ok_create {m : List Tab} (H : Ok m) (s : St) : Ok (create m s).1 := by
  unfold create
  split
  · rename_i h
    obtain ⟨h1, h2, h3, h4, h5, h6, h7⟩ := create_ok h
    refine ⟨by simp; omega, ?_, ?_, ?_, ?_⟩
    · intro i hi
      simp only [List.length_append, List.length_singleton] at hi
      rcases Nat.lt_or_ge i m.length with g | g
      · rw [List.getElem_append_left g]; exact H.ids i g
      · have : i = m.length := by omega
        subst this
        simp
    · rw [List.map_append, List.map_singleton, List.nodup_append]
      refine ⟨H.nodup, by simp, ?_⟩
      intro a ha b hb
      rw [List.mem_singleton.1 hb]
      obtain ⟨t, ht, rfl⟩ := List.mem_map.1 ha
      exact find_none h6 t ht
    · intro t ht
      rcases List.mem_append.1 ht with g | g
      · exact H.tab t g
      · rw [List.mem_singleton.1 g]
        exact ⟨h1, h2, h3, h4, h5, by simp, fun x hx => by simp at hx⟩
    · rw [List.flatMap_append]
      simpa using H.ixn
  · exact H
theorem index_ok {m : List Tab} {s : St} {root : Int} (h : indexE m s root = 0) :
    named s.name = true ∧ 1 ≤ s.names.length ∧ s.names.length ≤ 6 ∧ 0 ≤ root ∧ root < 400 ∧ ∃ hi : (find m s.table).toNat < m.length, 0 ≤ find m s.table ∧
      (∀ n ∈ s.names, 0 ≤ colOf m[(find m s.table).toNat].cols n) ∧ s.names.Nodup ∧ (∀ t ∈ m, ∀ x ∈ t.ixs, x.name ≠ s.name) ∧ m[(find m s.table).toNat].ixs.length < 4 := by
  unfold indexE at h
  split at h
  · cases h
  · rename_i h1
    simp only [not_or, Bool.not_eq_false] at h1
    obtain ⟨a1, a2, a3, a4, a5⟩ := h1
    split at h
    · cases h
    · rename_i t ht
      split at h
      · cases h
      · rename_i h2
        obtain ⟨hi, hn, -⟩ := find_at (m := m) (n := s.table) (by omega)
        have e : m[(find m s.table).toNat] = t := by rw [List.getElem?_eq_getElem hi] at ht; exact Option.some.inj ht
        split at h
        · cases h
        · rename_i h3
          split at h
          · cases h
          · rename_i h4
            split at h
            · cases h
            · rename_i h5
              simp only [not_or] at h4
              refine ⟨a1, by omega, by omega, by omega, by omega, hi, by omega, ?_, dup_false h4.1, ?_, ?_⟩
              · intro n hn
                rw [e]
                have := any_no h3 n hn
                have hge := (col_ge t.cols n).1
                rw [beq_eq_false_iff_ne] at this
                omega
              · intro t' ht' x hx hxn
                have := any_no h4.2 t' ht'
                have := any_no (by rw [this]; decide) x hx
                simp [hxn] at this
              · rw [e]; omega
theorem nodup_map_on {α β : Type} {f : α → β} {l : List α} (h : l.Nodup) (hf : ∀ a ∈ l, ∀ b ∈ l, f a = f b → a = b) : (l.map f).Nodup := by
  induction l with
  | nil => simp
  | cons x l ih =>
    rw [List.nodup_cons] at h
    rw [List.map_cons, List.nodup_cons]
    refine ⟨?_, ih h.2 (fun a ha b hb => hf a (List.mem_cons_of_mem _ ha) b (List.mem_cons_of_mem _ hb))⟩
    intro hm
    obtain ⟨y, hy, e⟩ := List.mem_map.1 hm
    have := hf y (List.mem_cons_of_mem _ hy) x (List.mem_cons_self ..) e
    exact h.1 (this ▸ hy)
theorem ok_index {m : List Tab} (H : Ok m) (s : St) (root : Int) : Ok (index m s root).1 := by
  unfold index
  split
  · rename_i h
    obtain ⟨h1, h2, h3, h4, h5, hi, h6, h7, h8, h9, h10⟩ := index_ok h
    generalize (find m s.table).toNat = k at *
    dsimp only
    refine ⟨by rw [setT_len]; exact H.len, ids_set H.ids k (fun t => rfl), ?_, ?_, ?_⟩
    · rw [map_set k Tab.name (by intro t; rfl)]; exact H.nodup
    · intro t ht
      rcases mem_set ht with g | ⟨hk, rfl⟩
      · exact H.tab t g
      · have T := H.tab m[k] (List.getElem_mem hk)
        refine ⟨T.name, T.pos, T.le, T.col, T.nodup, by simp; omega, ?_⟩
        intro x hx
        rcases List.mem_append.1 hx with g | g
        · exact T.ix x g
        · rw [List.mem_singleton.1 g]
          refine ⟨h1, by simp [St.ix]; omega, by simp [St.ix]; omega, ?_, ?_, h4, h5⟩
          · refine nodup_map_on h8 ?_
            intro a ha b hb e
            obtain ⟨_, e1, e2⟩ := col_at (h7 a ha)
            obtain ⟨_, e3, e4⟩ := col_at (h7 b hb)
            rw [← e1, ← e3]
            simp only [e]
          · intro c hc
            obtain ⟨n, hn, rfl⟩ := List.mem_map.1 hc
            exact ⟨h7 n hn, (col_ge _ n).2⟩
    · have hm := H.ixn
      rw [split_at hi] at hm
      rw [setT_eq hi]
      simp only [List.flatMap_append, List.flatMap_cons, List.map_append, List.map_cons, List.map_nil] at hm ⊢
      have hmem : ∀ a ∈ (m.take k).flatMap (fun t => t.ixs.map Ix.name) ++ (m[k].ixs.map Ix.name ++ (m.drop (k + 1)).flatMap (fun t => t.ixs.map Ix.name)), a ≠ s.name := by
        intro a ha
        have : a ∈ m.flatMap fun t => t.ixs.map Ix.name := by
          rw [split_at hi]
          simpa only [List.flatMap_append, List.flatMap_cons] using ha
        obtain ⟨t, ht, hx⟩ := List.mem_flatMap.1 this
        obtain ⟨x, hx2, rfl⟩ := List.mem_map.1 hx
        exact h9 t ht x hx2
      generalize (m.take k).flatMap (fun t => t.ixs.map Ix.name) = A at *
      generalize m[k].ixs.map Ix.name = T at *
      generalize (m.drop (k + 1)).flatMap (fun t => t.ixs.map Ix.name) = B at *
      have e : (s.ix m[k] root).name = s.name := rfl
      rw [e]
      rw [List.nodup_append] at hm ⊢
      obtain ⟨p1, p2, p3⟩ := hm
      rw [List.nodup_append] at p2
      obtain ⟨q1, q2, q3⟩ := p2
      refine ⟨p1, ?_, ?_⟩
      · rw [List.nodup_append]
        refine ⟨?_, q2, ?_⟩
        · rw [List.nodup_append]
          exact ⟨q1, by simp, fun a ha b hb => by rw [List.mem_singleton.1 hb]; exact hmem a (by simp [ha])⟩
        · intro a ha b hb
          rcases List.mem_append.1 ha with g | g
          · exact q3 a g b hb
          · rw [List.mem_singleton.1 g]; exact fun e => hmem b (by simp [hb]) e.symm
      · intro a ha b hb
        simp only [List.append_assoc, List.mem_append, List.mem_singleton] at hb
        rcases hb with g | g | g
        · exact p3 a ha b (by simp [g])
        · rw [g]; exact hmem a (by simp [ha])
        · exact p3 a ha b (by simp [g])
  · exact H
theorem rename_ok {m : List Tab} {s : St} (h : renameE m s = 0) :
    named s.join = true ∧ ∃ hi : (find m s.table).toNat < m.length, 0 ≤ find m s.table ∧ 0 ≤ colOf m[(find m s.table).toNat].cols s.name ∧ colOf m[(find m s.table).toNat].cols s.join < 0 := by
  unfold renameE at h
  split at h
  · cases h
  · rename_i h1
    split at h
    · cases h
    · rename_i t ht
      split at h
      · cases h
      · rename_i h2
        obtain ⟨hi, hn, -⟩ := find_at (m := m) (n := s.table) (by omega)
        have e : m[(find m s.table).toNat] = t := by rw [List.getElem?_eq_getElem hi] at ht; exact Option.some.inj ht
        split at h
        · cases h
        · split at h
          · cases h
          · exact ⟨by simpa using h1, hi, by omega, by rw [e]; omega, by rw [e]; omega⟩
theorem ren_len (l : List Col) (i : Nat) (n : Bs) : (renCol l i n).length = l.length := by unfold renCol; rw [List.length_modify]
theorem ren_get {l : List Col} {i : Nat} {n : Bs} {j : Nat} (h : j < (renCol l i n).length) : (renCol l i n)[j] = if i = j then ⟨n, (l[j]'(by rwa [ren_len] at h)).kind⟩ else l[j]'(by rwa [ren_len] at h) := by
  unfold renCol
  rw [List.getElem_modify]
theorem mem_ren {l : List Col} {i : Nat} {n : Bs} {c : Col} (h : c ∈ renCol l i n) : c ∈ l ∨ ∃ h : i < l.length, c = ⟨n, l[i].kind⟩ := by
  obtain ⟨j, hj, rfl⟩ := List.getElem_of_mem h
  rw [ren_get hj]
  have hj2 : j < l.length := by rwa [ren_len] at hj
  split
  · rename_i e; subst e; exact .inr ⟨hj2, rfl⟩
  · exact .inl (List.getElem_mem hj2)
theorem ren_nodup {l : List Col} (h : (l.map Col.name).Nodup) {n : Bs} (hn : ∀ c ∈ l, c.name ≠ n) (i : Nat) : ((renCol l i n).map Col.name).Nodup := by
  unfold List.Nodup at h ⊢
  rw [List.pairwise_iff_getElem] at h ⊢
  intro a b ha hb hab
  have hla : a < l.length := by simpa [ren_len] using ha
  have hlb : b < l.length := by simpa [ren_len] using hb
  have h1 := h a b (by simpa using hla) (by simpa using hlb) hab
  simp only [List.getElem_map] at h1 ⊢
  rw [ren_get (by rwa [ren_len]), ren_get (by rwa [ren_len])]
  split
  · split
    · omega
    · exact fun e => hn _ (List.getElem_mem hlb) e.symm
  · split
    · exact fun e => hn _ (List.getElem_mem hla) e
    · exact h1
theorem ok_rename {m : List Tab} (H : Ok m) (s : St) : Ok (rename m s).1 := by
  unfold rename
  split
  · rename_i h
    obtain ⟨h1, hi, h2, h3, h4⟩ := rename_ok h
    generalize (find m s.table).toNat = k at *
    dsimp only
    refine ⟨by rw [setT_len]; exact H.len, ids_set H.ids k (fun t => rfl), ?_, ?_, ?_⟩
    · rw [map_set k Tab.name (by intro t; rfl)]; exact H.nodup
    · intro t ht
      rcases mem_set ht with g | ⟨hk, rfl⟩
      · exact H.tab t g
      · have T := H.tab m[k] (List.getElem_mem hk)
        refine ⟨T.name, by rw [ren_len]; exact T.pos, by rw [ren_len]; exact T.le, ?_, ren_nodup T.nodup (col_none h4) _, T.ixs, ?_⟩
        · intro c hc
          rcases mem_ren hc with g | ⟨hj, rfl⟩
          · exact T.col c g
          · exact ⟨h1, (T.col _ (List.getElem_mem hj)).2⟩
        · rw [ren_len]; exact T.ix
    · have e : (fun t : Tab => t.ixs.map Ix.name) = fun t => (fun l : List Ix => l.map Ix.name) t.ixs := rfl
      have := map_set (m := m) k (f := fun t => { t with cols := renCol t.cols (colOf t.cols s.name).toNat s.join }) (fun t => t.ixs.map Ix.name) (fun t => rfl)
      rw [List.flatMap_def] 
      rw [this, ← List.flatMap_def]
      exact H.ixn
  · exact H
theorem ok_do {m : List Tab} (H : Ok m) (s : St) (root : Int) : Ok (doM m s root).1 := by
  unfold doM
  split
  · exact ok_create H s
  · split
    · exact ok_index H s root
    · split
      · exact ok_rename H s
      · exact H
end Go.VB.Cat
