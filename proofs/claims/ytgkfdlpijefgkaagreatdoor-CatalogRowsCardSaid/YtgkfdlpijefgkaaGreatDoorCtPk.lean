import Derived.Test.YtgkfdlpijefgkaaGreatDoorCtR
/- What a statement keeps and changes; a column renamed and renamed back (no program in sight). -/
set_option linter.unusedVariables false
namespace Go.VB.Cat
open Go.VB Go.VB.Oct
/-- what a statement keeps of a table -/
structure Kept (a b : Tab) : Prop where
  id : b.id = a.id
  name : b.name = a.name
  kinds : b.cols.map Col.kind = a.cols.map Col.kind
  ixs : a.ixs <+: b.ixs
theorem Kept.refl (a : Tab) : Kept a a := ⟨rfl, rfl, rfl, List.prefix_refl _⟩
theorem Kept.len {a b : Tab} (h : Kept a b) : b.cols.length = a.cols.length := by
  have := congrArg List.length h.kinds
  simpa using this
theorem ren_kinds (l : List Col) (i : Nat) (n : Bs) : (renCol l i n).map Col.kind = l.map Col.kind := by
  apply List.ext_getElem
  · simp
  · intro j h1 h2
    rw [List.getElem_map, List.getElem_map, ren_get (by simpa using h1)]
    split
    · rfl
    · rfl
structure KeptL (m m' : List Tab) : Prop where
  len : m.length ≤ m'.length
  t : ∀ i (h : i < m.length), Kept m[i] (m'[i]'(Nat.lt_of_lt_of_le h len))
theorem KeptL.refl (m : List Tab) : KeptL m m := ⟨Nat.le_refl _, fun i h => Kept.refl _⟩
theorem keptL_set {m : List Tab} (k : Nat) {f : Tab → Tab} (hf : ∀ t, Kept t (f t)) : KeptL m (setT m k f) := by
  refine ⟨by rw [setT_len]; exact Nat.le_refl _, fun i h => ?_⟩
  rw [setT_get (by rw [setT_len]; exact h)]
  split
  · exact hf _
  · exact Kept.refl _
theorem keptL_do (m : List Tab) (s : St) (root : Int) : KeptL m (doM m s root).1 := by
  unfold doM
  split
  · unfold create
    split
    · refine ⟨by simp, fun i h => ?_⟩
      simp only [List.getElem_append_left h]
      exact Kept.refl _
    · exact KeptL.refl m
  · split
    · unfold index
      split
      · exact keptL_set _ (fun t => ⟨rfl, rfl, rfl, List.prefix_append _ _⟩)
      · exact KeptL.refl m
    · split
      · unfold rename
        split
        · exact keptL_set _ (fun t => ⟨rfl, rfl, ren_kinds _ _ _, List.prefix_refl _⟩)
        · exact KeptL.refl m
      · exact KeptL.refl m
theorem setT_ne {m : List Tab} {k : Nat} (hk : k < m.length) {f : Tab → Tab} (hf : f m[k] ≠ m[k]) : setT m k f ≠ m := by
  intro e
  have h1 : (setT m k f)[k]'(by rw [setT_len]; exact hk) = m[k] := by simp only [e]
  rw [setT_get, if_pos rfl] at h1
  exact hf h1
/-- a statement that ends well changes the catalog -/
theorem do_change {m : List Tab} {s : St} {root : Int} (h : (doM m s root).2 = 0) : (doM m s root).1 ≠ m := by
  unfold doM at *
  split
  · rename_i h1
    rw [if_pos h1] at h
    unfold create at *
    split
    · intro e
      have := congrArg List.length e
      simp at this
    · rename_i h2; rw [if_neg h2] at h; exact absurd h h2
  · rename_i h1
    rw [if_neg h1] at h
    split
    · rename_i h2
      rw [if_pos h2] at h
      unfold index at *
      split
      · rename_i h3
        obtain ⟨-, -, -, -, -, hi, -⟩ := index_ok h3
        refine setT_ne hi (fun e => ?_)
        have := congrArg (fun t => t.ixs.length) e
        simp at this
      · rename_i h3; rw [if_neg h3] at h; exact absurd h h3
    · rename_i h2
      rw [if_neg h2] at h
      split
      · rename_i h3
        rw [if_pos h3] at h
        unfold rename at *
        split
        · rename_i h4
          obtain ⟨-, hi, -, h5, h6⟩ := rename_ok h4
          refine setT_ne hi (fun e => ?_)
          have e2 := congrArg (fun t => t.cols) e
          dsimp only at e2
          obtain ⟨hc, hn, -⟩ := col_at h5
          have h7 := col_none h6
          generalize (colOf m[(find m s.table).toNat].cols s.name).toNat = k at *
          have h8 : (renCol m[(find m s.table).toNat].cols k s.join)[k]'(by rw [ren_len]; exact hc) = (m[(find m s.table).toNat].cols)[k] := by simp only [e2]
          rw [ren_get, if_pos rfl] at h8
          have h9 := h7 _ (List.getElem_mem hc)
          rw [← h8] at h9
          exact h9 rfl
        · rename_i h4; rw [if_neg h4] at h; exact absurd h h4
      · rename_i h3; rw [if_neg h3] at h; cases h
/-- the bytes tell whether a statement did anything -/
theorem do_bytes {m : List Tab} (H : Ok m) (s : St) (root : Int) : (bytes (doM m s root).1 = bytes m) ↔ (doM m s root).2 ≠ 0 := by
  constructor
  · intro e h
    exact do_change h (bytes_inj (ok_do H s root) H e)
  · intro h
    rw [do_err h]
/-- no column bears the name n -/
def NoCol (n : Bs) (m : List Tab) : Prop := ∀ t ∈ m, ∀ c ∈ t.cols, c.name ≠ n
theorem noCol_do {n : Bs} {m : List Tab} (h : NoCol n m) {s : St} {root : Int} (hc : ∀ c ∈ s.cols, c.name ≠ n) (hj : s.join ≠ n) : NoCol n (doM m s root).1 := by
  unfold doM
  split
  · unfold create
    split
    · intro t ht
      rcases List.mem_append.1 ht with g | g
      · exact h t g
      · rw [List.mem_singleton.1 g]; exact hc
    · exact h
  · split
    · unfold index
      split
      · intro t ht
        rcases mem_set ht with g | ⟨hk, rfl⟩
        · exact h t g
        · exact fun c hc => h _ (List.getElem_mem hk) c hc
      · exact h
    · split
      · unfold rename
        split
        · intro t ht
          rcases mem_set ht with g | ⟨hk, rfl⟩
          · exact h t g
          · intro c hc2
            rcases mem_ren hc2 with g | ⟨hj2, rfl⟩
            · exact h _ (List.getElem_mem hk) c g
            · exact hj
        · exact h
      · exact h
theorem ren_ren (l : List Col) (i : Nat) (n : Bs) (hi : i < l.length) : renCol (renCol l i n) i l[i].name = l := by
  apply List.ext_getElem
  · rw [ren_len, ren_len]
  · intro j h1 h2
    rw [ren_get, ren_get]
    split
    · rename_i e; subst e; rfl
    · rfl
theorem set_set (m : List Tab) (k : Nat) (f g : Tab → Tab) : setT (setT m k f) k g = setT m k (fun t => g (f t)) := by
  apply List.ext_getElem
  · rw [setT_len, setT_len, setT_len]
  · intro j h1 h2
    rw [setT_get, setT_get, setT_get]
    split
    · rfl
    · rfl
theorem set_same {m : List Tab} {k : Nat} (hk : k < m.length) {f : Tab → Tab} (hf : f m[k] = m[k]) : setT m k f = m := by
  apply List.ext_getElem
  · rw [setT_len]
  · intro j h1 h2
    rw [setT_get]
    split
    · rename_i e; subst e; exact hf
    · rfl
theorem rename_to {m : List Tab} {s : St} {k i : Nat} (hk : k < m.length) (hf : find m s.table = (k : Int)) (hi : colOf m[k].cols s.name = (i : Int)) (hn : named s.join = true) (hj : colOf m[k].cols s.join < 0) :
    rename m s = (setT m k (fun t => { t with cols := renCol t.cols (colOf t.cols s.name).toNat s.join }), 0) := by
  have h0 : renameE m s = 0 := by
    unfold renameE
    rw [if_neg (by rw [hn]; decide), hf, Int.toNat_natCast, List.getElem?_eq_getElem hk]
    dsimp only
    rw [if_neg (by omega), hi, if_neg (by omega), if_neg (by omega)]
  unfold rename
  rw [if_pos h0, hf, Int.toNat_natCast]
def tilde : Bs := [126]
/-- the catalog with column i of table k renamed to ~ -/
def tiM (m : List Tab) (k i : Nat) : List Tab := setT m k (fun t => { t with cols := renCol t.cols i tilde })
theorem setT_congr {m : List Tab} {k : Nat} (hk : k < m.length) {f g : Tab → Tab} (h : f m[k] = g m[k]) : setT m k f = setT m k g := by
  apply List.ext_getElem
  · rw [setT_len, setT_len]
  · intro j h1 h2
    rw [setT_get, setT_get]
    split
    · rename_i e; subst e; exact h
    · rfl
theorem back_one {m : List Tab} (H : Ok m) (N : NoCol tilde m) {k i : Nat} (hk : k < m.length) (hi : i < m[k].cols.length) :
    doM m ⟨3, m[k].name, m[k].cols[i].name, [], [], tilde⟩ 0 = (tiM m k i, 0) := by
  rw [do_rename rfl]
  have hcol := col_of_at (H.tab _ (List.getElem_mem hk)).nodup hi
  rw [rename_to (k := k) (i := i) hk (find_of_at H.nodup hk) hcol (show named tilde = true by decide) (by
    have := pos_none (p := fun c : Col => c.name == tilde) (l := m[k].cols) (fun c hc => by simpa using N _ (List.getElem_mem hk) c hc)
    show pos _ _ < 0
    rw [this]; decide)]
  unfold tiM
  rw [setT_congr hk (f := fun t => { t with cols := renCol t.cols (colOf t.cols m[k].cols[i].name).toNat tilde }) (g := fun t => { t with cols := renCol t.cols i tilde }) (by rw [hcol, Int.toNat_natCast])]
theorem ti_len (m : List Tab) (k i : Nat) : (tiM m k i).length = m.length := setT_len _ _ _
theorem ti_at {m : List Tab} {k i j : Nat} (h : j < (tiM m k i).length) (hne : k ≠ j) : (tiM m k i)[j] = m[j]'(by rwa [ti_len] at h) := by
  unfold tiM
  rw [setT_get h, if_neg hne]
theorem back_two {m : List Tab} (H : Ok m) (N : NoCol tilde m) {k i : Nat} (hk : k < m.length) (hi : i < m[k].cols.length) :
    doM (tiM m k i) ⟨3, m[k].name, tilde, [], [], m[k].cols[i].name⟩ 0 = (m, 0) := by
  have H1 : Ok (tiM m k i) := by
    have := ok_do H ⟨3, m[k].name, m[k].cols[i].name, [], [], tilde⟩ 0
    rwa [back_one H N hk hi] at this
  have hk1 : k < (tiM m k i).length := by rw [ti_len]; exact hk
  have e1 : (tiM m k i)[k] = { m[k] with cols := renCol m[k].cols i tilde } := by
    show (setT m k fun t => { t with cols := renCol t.cols i tilde })[k]'(by rw [setT_len]; exact hk) = _
    rw [setT_get, if_pos rfl]
  have hi1 : i < (tiM m k i)[k].cols.length := by rw [e1]; dsimp only; rw [ren_len]; exact hi
  have n1 : (tiM m k i)[k].name = m[k].name := by rw [e1]
  have c1 : (tiM m k i)[k].cols = renCol m[k].cols i tilde := by rw [e1]
  have T := H.tab _ (List.getElem_mem hk)
  have hcol : colOf (tiM m k i)[k].cols tilde = (i : Int) := by
    have := col_of_at (H1.tab _ (List.getElem_mem hk1)).nodup hi1
    have e2 : (tiM m k i)[k].cols[i].name = tilde := by
      simp only [c1]
      rw [ren_get, if_pos rfl]
    rwa [e2] at this
  have hno : colOf (tiM m k i)[k].cols m[k].cols[i].name < 0 := by
    have := pos_none (p := fun c : Col => c.name == m[k].cols[i].name) (l := renCol m[k].cols i tilde) (fun c hc => by
      obtain ⟨j, hj, rfl⟩ := List.getElem_of_mem hc
      rw [ren_get hj]
      have hj2 : j < m[k].cols.length := by rwa [ren_len] at hj
      split
      · have := N _ (List.getElem_mem hk) _ (List.getElem_mem hi)
        simpa using fun e => this e.symm
      · rename_i hne
        have := T.nodup
        unfold List.Nodup at this
        rw [List.pairwise_iff_getElem] at this
        have hx : m[k].cols[j].name ≠ m[k].cols[i].name := by
          rcases Nat.lt_or_ge i j with g | g
          · have := this i j (by simpa using hi) (by simpa using hj2) g
            simp only [List.getElem_map] at this
            exact fun e => this e.symm
          · have := this j i (by simpa using hj2) (by simpa using hi) (by omega)
            simpa only [List.getElem_map] using this
        simpa using hx)
    rw [c1]
    show pos _ _ < 0
    rw [this]; decide
  have hf : find (tiM m k i) m[k].name = (k : Int) := by
    rw [← n1]; exact find_of_at H1.nodup hk1
  rw [do_rename rfl, rename_to (s := ⟨3, m[k].name, tilde, [], [], m[k].cols[i].name⟩) (k := k) (i := i) hk1 hf hcol (T.col _ (List.getElem_mem hi)).1 hno]
  have e3 : setT (tiM m k i) k (fun t => { t with cols := renCol t.cols (colOf t.cols tilde).toNat m[k].cols[i].name }) = m := by
    rw [setT_congr hk1 (f := fun t => { t with cols := renCol t.cols (colOf t.cols tilde).toNat m[k].cols[i].name }) (g := fun t => { t with cols := renCol t.cols i m[k].cols[i].name }) (by rw [hcol, Int.toNat_natCast])]
    unfold tiM
    rw [set_set]
    refine set_same hk ?_
    dsimp only
    rw [ren_ren _ _ _ hi]
  rw [e3]
/-- what the law's once asks -/
theorem once_ok {m : List Tab} (H : Ok m) : (m.map Tab.name).Nodup ∧ (∀ t ∈ m, (t.cols.map Col.name).Nodup) ∧ (m.flatMap fun t => t.ixs.map Ix.name).Nodup := ⟨H.nodup, fun t ht => (H.tab t ht).nodup, H.ixn⟩
theorem nodup_at {l : List Bs} (h : l.Nodup) {i j : Nat} (hi : i < l.length) (hj : j < i) : l[i] ≠ l[j]'(by omega) := by
  unfold List.Nodup at h
  rw [List.pairwise_iff_getElem] at h
  exact fun e => h j i (by omega) hi hj e.symm
/-- a table cut back to what it was -/
theorem kept_back {a b : Tab} (h : Kept a b) : ({ b with ixs := b.ixs.take a.ixs.length, cols := a.cols } : Tab) = a := by
  obtain ⟨id, name, cols, ixs⟩ := a
  obtain ⟨h1, h2, h3, h4⟩ := h
  dsimp only at h1 h2 h4 ⊢
  rw [h1, h2, List.prefix_iff_eq_take.1 h4]
  simp
end Go.VB.Cat
