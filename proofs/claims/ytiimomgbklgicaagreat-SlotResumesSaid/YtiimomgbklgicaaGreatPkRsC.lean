import Derived.Shelf.Strings.Builder1
import Derived.Shelf.Strings.Builder2
import Derived.Shelf.Small.Bits
import Derived.Shelf.Small.Wraps
import Derived.Shelf.Strings.BuilderF
import Derived.Shelf.Strings.BuilderK
import Derived.Shelf.Strings.Builder2Cap
import Derived.Shelf.Strconv.Itoa0
import Derived.Shelf.Strings.BuilderCap
import Derived.Shelf.Slices.Turned
import Derived.Ground.Names2Prog
import Derived.Shelf.Slices.Clone
import Derived.Shelf.Slices.SearchI
import Derived.Ground.SlgnProg
import Derived.Shelf.SlicesE.Clone
import Derived.Test.YtiimomgbklgicaaGreatProg
import Derived.Lib.Bytealg
import Derived.Lib.ItoaNum
import Derived.Lib.LaidTab
import Derived.Lib.Replace
import Derived.Lib.Small
import Derived.Lib.SplitLaws
import Derived.Test.YtiimomgbklgicaaGreatPkRsB
set_option linter.unusedVariables false
namespace Go.VB.Cat
open Go.VB.Oct
theorem setT_eq {m : List Tab} {i : Nat} (h : i < m.length) (f : Tab → Tab) : setT m i f = m.take i ++ f m[i] :: m.drop (i + 1) := by
  unfold setT
  rw [List.modify_eq_take_cons_drop h]
theorem split_at {m : List Tab} {i : Nat} (h : i < m.length) : m = m.take i ++ m[i] :: m.drop (i + 1) := by
  rw [List.getElem_cons_drop, List.take_append_drop]
theorem setT_len (m : List Tab) (i : Nat) (f : Tab → Tab) : (setT m i f).length = m.length := by unfold setT; rw [List.length_modify]
theorem setT_get {m : List Tab} {i : Nat} {f : Tab → Tab} {j : Nat} (h : j < (setT m i f).length) : (setT m i f)[j] = if i = j then f (m[j]'(by rwa [setT_len] at h)) else m[j]'(by rwa [setT_len] at h) := by
  unfold setT
  rw [List.getElem_modify]
theorem ids_set {m : List Tab} (h : ∀ i (hi : i < m.length), m[i].id = (i : Int) + 1) (k : Nat) {f : Tab → Tab} (hf : ∀ t, (f t).id = t.id) : ∀ i (hi : i < (setT m k f).length), (setT m k f)[i].id = (i : Int) + 1 := by
  intro i hi
  have hi2 : i < m.length := by rwa [setT_len] at hi
  rw [setT_get hi]
  split
  · rw [hf]; exact h i hi2
  · exact h i hi2
theorem map_set {m : List Tab} (k : Nat) {f : Tab → Tab} {β : Type} (g : Tab → β) (hf : ∀ t, g (f t) = g t) : (setT m k f).map g = m.map g := by
  apply List.ext_getElem
  · rw [List.length_map, List.length_map, setT_len]
  · intro i h1 h2
    rw [List.getElem_map, List.getElem_map, setT_get (by rwa [List.length_map] at h1)]
    split
    · rw [hf]
    · rfl
theorem mem_set {m : List Tab} {k : Nat} {f : Tab → Tab} {t : Tab} (h : t ∈ setT m k f) : t ∈ m ∨ ∃ h : k < m.length, t = f m[k] := by
  obtain ⟨i, hi, rfl⟩ := List.getElem_of_mem h
  rw [setT_get hi]
  have hi2 : i < m.length := by rwa [setT_len] at hi
  split
  · rename_i e; subst e; exact .inr ⟨hi2, rfl⟩
  · exact .inl (List.getElem_mem hi2)
/-- a table that was found -/
theorem find_at {m : List Tab} {n : Bs} (h : 0 ≤ find m n) : ∃ hi : (find m n).toNat < m.length, m[(find m n).toNat].name = n ∧ find m n = ((find m n).toNat : Int) := by
  rcases pos_cases (fun t : Tab => t.name == n) m with ⟨h1, _⟩ | ⟨i, hi, h1, h2, _⟩
  · unfold find at h; omega
  · have e : (find m n).toNat = i := by unfold find; rw [h1]; rfl
    refine ⟨by rw [e]; exact hi, ?_, by unfold find; omega⟩
    simp only [e]
    exact beq_iff_eq.1 h2
theorem find_none {m : List Tab} {n : Bs} (h : find m n < 0) : ∀ t ∈ m, t.name ≠ n := by
  rcases pos_cases (fun t : Tab => t.name == n) m with ⟨_, h2⟩ | ⟨i, hi, h1, _, _⟩
  · intro t ht e
    have := h2 t ht
    simp [e] at this
  · unfold find at h; omega
theorem col_at {l : List Col} {n : Bs} (h : 0 ≤ colOf l n) : ∃ hi : (colOf l n).toNat < l.length, l[(colOf l n).toNat].name = n ∧ colOf l n = ((colOf l n).toNat : Int) := by
  rcases pos_cases (fun t : Col => t.name == n) l with ⟨h1, _⟩ | ⟨i, hi, h1, h2, _⟩
  · unfold colOf at h; omega
  · have e : (colOf l n).toNat = i := by unfold colOf; rw [h1]; rfl
    refine ⟨by rw [e]; exact hi, ?_, by unfold colOf; omega⟩
    simp only [e]
    exact beq_iff_eq.1 h2
theorem col_none {l : List Col} {n : Bs} (h : colOf l n < 0) : ∀ t ∈ l, t.name ≠ n := by
  rcases pos_cases (fun t : Col => t.name == n) l with ⟨_, h2⟩ | ⟨i, hi, h1, _, _⟩
  · intro t ht e
    have := h2 t ht
    simp [e] at this
  · unfold colOf at h; omega
theorem col_ge (l : List Col) (n : Bs) : -1 ≤ colOf l n ∧ colOf l n < l.length := by
  rcases pos_cases (fun t : Col => t.name == n) l with ⟨h1, _⟩ | ⟨i, hi, h1, _, _⟩
  · unfold colOf; omega
  · unfold colOf; omega
theorem dup_false {l : List Bs} (h : ¬ dup l = true) : l.Nodup := by
  unfold dup at h
  simpa using h
theorem ok_nil : Ok [] := ⟨by simp, fun i h => by simp at h, by simp, fun t h => by simp at h, by simp⟩
theorem create_ok {m : List Tab} {s : St} (h : createE m s = 0) : named s.table = true ∧ 1 ≤ s.cols.length ∧ s.cols.length ≤ 6 ∧ (∀ c ∈ s.cols, named c.name = true ∧ (c.kind = 1 ∨ c.kind = 2)) ∧ (s.cols.map Col.name).Nodup ∧ find m s.table < 0 ∧ m.length < 8 := by
  unfold createE at h
  split at h
  · cases h
  · rename_i h1
    split at h
    · cases h
    · rename_i h2
      split at h
      · cases h
      · rename_i h3
        split at h
        · cases h
        · rename_i h4
          simp only [not_or, Bool.not_eq_false, Bool.not_eq_true] at h1
          simp only [not_or] at h3
          obtain ⟨a1, a2, a3, a4⟩ := h1
          refine ⟨a1, by omega, by omega, fun c hc => ⟨?_, ?_⟩, dup_false h3.1, by omega, by omega⟩
          · have := any_no (by rw [a4]; decide) c hc
            simpa using this
          · have := any_no h2 c hc
            by_cases e : c.kind = 1
            · exact .inl e
            · refine .inr (Decidable.byContradiction fun g => ?_)
              simp [e, g] at this
theorem ok_create {m : List Tab} (H : Ok m) (s : St) : Ok (create m s).1 := by
  unfold create
  split
  · rename_i h
    obtain ⟨h1, h2, h3, h4, h5, h6, h7⟩ := create_ok h
    refine ⟨by simp; omega, ?_, ?_, ?_, ?_⟩
    · intro i hi
      simp only [List.length_append, List.length_singleton] at hi
      rcases Nat.lt_or_ge i m.length with g | g
      · rw [List.getElem_append_left g]; exact H.ids i g
      · have : i = m.length := by omega
        subst this
        simp
    · rw [List.map_append, List.map_singleton, List.nodup_append]
      refine ⟨H.nodup, by simp, ?_⟩
      intro a ha b hb
      rw [List.mem_singleton.1 hb]
      obtain ⟨t, ht, rfl⟩ := List.mem_map.1 ha
      exact find_none h6 t ht
    · intro t ht
      rcases List.mem_append.1 ht with g | g
      · exact H.tab t g
      · rw [List.mem_singleton.1 g]
        exact ⟨h1, h2, h3, h4, h5, by simp, fun x hx => by simp at hx⟩
    · rw [List.flatMap_append]
      simpa using H.ixn
  · exact H
theorem index_ok {m : List Tab} {s : St} {root : Int} (h : indexE m s root = 0) :
    named s.name = true ∧ 1 ≤ s.names.length ∧ s.names.length ≤ 6 ∧ 0 ≤ root ∧ root < 400 ∧ ∃ hi : (find m s.table).toNat < m.length, 0 ≤ find m s.table ∧
      (∀ n ∈ s.names, 0 ≤ colOf m[(find m s.table).toNat].cols n) ∧ s.names.Nodup ∧ (∀ t ∈ m, ∀ x ∈ t.ixs, x.name ≠ s.name) ∧ m[(find m s.table).toNat].ixs.length < 4 := by
  unfold indexE at h
  split at h
  · cases h
  · rename_i h1
    simp only [not_or, Bool.not_eq_false] at h1
    obtain ⟨a1, a2, a3, a4, a5⟩ := h1
    split at h
    · cases h
    · rename_i t ht
      split at h
      · cases h
      · rename_i h2
        obtain ⟨hi, hn, -⟩ := find_at (m := m) (n := s.table) (by omega)
        have e : m[(find m s.table).toNat] = t := by rw [List.getElem?_eq_getElem hi] at ht; exact Option.some.inj ht
        split at h
        · cases h
        · rename_i h3
          split at h
          · cases h
          · rename_i h4
            split at h
            · cases h
            · rename_i h5
              simp only [not_or] at h4
              refine ⟨a1, by omega, by omega, by omega, by omega, hi, by omega, ?_, dup_false h4.1, ?_, ?_⟩
              · intro n hn
                rw [e]
                have := any_no h3 n hn
                have hge := (col_ge t.cols n).1
                rw [beq_eq_false_iff_ne] at this
                omega
              · intro t' ht' x hx hxn
                have := any_no h4.2 t' ht'
                have := any_no (by rw [this]; decide) x hx
                simp [hxn] at this
              · rw [e]; omega
theorem nodup_map_on {α β : Type} {f : α → β} {l : List α} (h : l.Nodup) (hf : ∀ a ∈ l, ∀ b ∈ l, f a = f b → a = b) : (l.map f).Nodup := by
  induction l with
  | nil => simp
  | cons x l ih =>
    rw [List.nodup_cons] at h
    rw [List.map_cons, List.nodup_cons]
    refine ⟨?_, ih h.2 (fun a ha b hb => hf a (List.mem_cons_of_mem _ ha) b (List.mem_cons_of_mem _ hb))⟩
    intro hm
    obtain ⟨y, hy, e⟩ := List.mem_map.1 hm
    have := hf y (List.mem_cons_of_mem _ hy) x (List.mem_cons_self ..) e
    exact h.1 (this ▸ hy)
theorem ok_index {m : List Tab} (H : Ok m) (s : St) (root : Int) : Ok (index m s root).1 := by
  unfold index
  split
  · rename_i h
    obtain ⟨h1, h2, h3, h4, h5, hi, h6, h7, h8, h9, h10⟩ := index_ok h
    generalize (find m s.table).toNat = k at *
    dsimp only
    refine ⟨by rw [setT_len]; exact H.len, ids_set H.ids k (fun t => rfl), ?_, ?_, ?_⟩
    · rw [map_set k Tab.name (by intro t; rfl)]; exact H.nodup
    · intro t ht
      rcases mem_set ht with g | ⟨hk, rfl⟩
      · exact H.tab t g
      · have T := H.tab m[k] (List.getElem_mem hk)
        refine ⟨T.name, T.pos, T.le, T.col, T.nodup, by simp; omega, ?_⟩
        intro x hx
        rcases List.mem_append.1 hx with g | g
        · exact T.ix x g
        · rw [List.mem_singleton.1 g]
          refine ⟨h1, by simp [St.ix]; omega, by simp [St.ix]; omega, ?_, ?_, h4, h5⟩
          · refine nodup_map_on h8 ?_
            intro a ha b hb e
            obtain ⟨_, e1, e2⟩ := col_at (h7 a ha)
            obtain ⟨_, e3, e4⟩ := col_at (h7 b hb)
            rw [← e1, ← e3]
            simp only [e]
          · intro c hc
            obtain ⟨n, hn, rfl⟩ := List.mem_map.1 hc
            exact ⟨h7 n hn, (col_ge _ n).2⟩
    · have hm := H.ixn
      rw [split_at hi] at hm
      rw [setT_eq hi]
      simp only [List.flatMap_append, List.flatMap_cons, List.map_append, List.map_cons, List.map_nil] at hm ⊢
      have hmem : ∀ a ∈ (m.take k).flatMap (fun t => t.ixs.map Ix.name) ++ (m[k].ixs.map Ix.name ++ (m.drop (k + 1)).flatMap (fun t => t.ixs.map Ix.name)), a ≠ s.name := by
        intro a ha
        have : a ∈ m.flatMap fun t => t.ixs.map Ix.name := by
          rw [split_at hi]
          simpa only [List.flatMap_append, List.flatMap_cons] using ha
        obtain ⟨t, ht, hx⟩ := List.mem_flatMap.1 this
        obtain ⟨x, hx2, rfl⟩ := List.mem_map.1 hx
        exact h9 t ht x hx2
      generalize (m.take k).flatMap (fun t => t.ixs.map Ix.name) = A at *
      generalize m[k].ixs.map Ix.name = T at *
      generalize (m.drop (k + 1)).flatMap (fun t => t.ixs.map Ix.name) = B at *
      have e : (s.ix m[k] root).name = s.name := rfl
      rw [e]
      rw [List.nodup_append] at hm ⊢
      obtain ⟨p1, p2, p3⟩ := hm
      rw [List.nodup_append] at p2
      obtain ⟨q1, q2, q3⟩ := p2
      refine ⟨p1, ?_, ?_⟩
      · rw [List.nodup_append]
        refine ⟨?_, q2, ?_⟩
        · rw [List.nodup_append]
          exact ⟨q1, by simp, fun a ha b hb => by rw [List.mem_singleton.1 hb]; exact hmem a (by simp [ha])⟩
        · intro a ha b hb
          rcases List.mem_append.1 ha with g | g
          · exact q3 a g b hb
          · rw [List.mem_singleton.1 g]; exact fun e => hmem b (by simp [hb]) e.symm
      · intro a ha b hb
        simp only [List.append_assoc, List.mem_append, List.mem_singleton] at hb
        rcases hb with g | g | g
        · exact p3 a ha b (by simp [g])
        · rw [g]; exact hmem a (by simp [ha])
        · exact p3 a ha b (by simp [g])
  · exact H
theorem rename_ok {m : List Tab} {s : St} (h : renameE m s = 0) :
    named s.join = true ∧ ∃ hi : (find m s.table).toNat < m.length, 0 ≤ find m s.table ∧ 0 ≤ colOf m[(find m s.table).toNat].cols s.name ∧ colOf m[(find m s.table).toNat].cols s.join < 0 := by
  unfold renameE at h
  split at h
  · cases h
  · rename_i h1
    split at h
    · cases h
    · rename_i t ht
      split at h
      · cases h
      · rename_i h2
        obtain ⟨hi, hn, -⟩ := find_at (m := m) (n := s.table) (by omega)
        have e : m[(find m s.table).toNat] = t := by rw [List.getElem?_eq_getElem hi] at ht; exact Option.some.inj ht
        split at h
        · cases h
        · split at h
          · cases h
          · exact ⟨by simpa using h1, hi, by omega, by rw [e]; omega, by rw [e]; omega⟩
theorem ren_len (l : List Col) (i : Nat) (n : Bs) : (renCol l i n).length = l.length := by unfold renCol; rw [List.length_modify]
theorem ren_get {l : List Col} {i : Nat} {n : Bs} {j : Nat} (h : j < (renCol l i n).length) : (renCol l i n)[j] = if i = j then ⟨n, (l[j]'(by rwa [ren_len] at h)).kind⟩ else l[j]'(by rwa [ren_len] at h) := by
  unfold renCol
  rw [List.getElem_modify]
theorem mem_ren {l : List Col} {i : Nat} {n : Bs} {c : Col} (h : c ∈ renCol l i n) : c ∈ l ∨ ∃ h : i < l.length, c = ⟨n, l[i].kind⟩ := by
  obtain ⟨j, hj, rfl⟩ := List.getElem_of_mem h
  rw [ren_get hj]
  have hj2 : j < l.length := by rwa [ren_len] at hj
  split
  · rename_i e; subst e; exact .inr ⟨hj2, rfl⟩
  · exact .inl (List.getElem_mem hj2)
theorem ren_nodup {l : List Col} (h : (l.map Col.name).Nodup) {n : Bs} (hn : ∀ c ∈ l, c.name ≠ n) (i : Nat) : ((renCol l i n).map Col.name).Nodup := by
  unfold List.Nodup at h ⊢
  rw [List.pairwise_iff_getElem] at h ⊢
  intro a b ha hb hab
  have hla : a < l.length := by simpa [ren_len] using ha
  have hlb : b < l.length := by simpa [ren_len] using hb
  have h1 := h a b (by simpa using hla) (by simpa using hlb) hab
  simp only [List.getElem_map] at h1 ⊢
  rw [ren_get (by rwa [ren_len]), ren_get (by rwa [ren_len])]
  split
  · split
    · omega
    · exact fun e => hn _ (List.getElem_mem hlb) e.symm
  · split
    · exact fun e => hn _ (List.getElem_mem hla) e
    · exact h1
theorem ok_rename {m : List Tab} (H : Ok m) (s : St) : Ok (rename m s).1 := by
  unfold rename
  split
  · rename_i h
    obtain ⟨h1, hi, h2, h3, h4⟩ := rename_ok h
    generalize (find m s.table).toNat = k at *
    dsimp only
    refine ⟨by rw [setT_len]; exact H.len, ids_set H.ids k (fun t => rfl), ?_, ?_, ?_⟩
    · rw [map_set k Tab.name (by intro t; rfl)]; exact H.nodup
    · intro t ht
      rcases mem_set ht with g | ⟨hk, rfl⟩
      · exact H.tab t g
      · have T := H.tab m[k] (List.getElem_mem hk)
        refine ⟨T.name, by rw [ren_len]; exact T.pos, by rw [ren_len]; exact T.le, ?_, ren_nodup T.nodup (col_none h4) _, T.ixs, ?_⟩
        · intro c hc
          rcases mem_ren hc with g | ⟨hj, rfl⟩
          · exact T.col c g
          · exact ⟨h1, (T.col _ (List.getElem_mem hj)).2⟩
        · rw [ren_len]; exact T.ix
    · have e : (fun t : Tab => t.ixs.map Ix.name) = fun t => (fun l : List Ix => l.map Ix.name) t.ixs := rfl
      have := map_set (m := m) k (f := fun t => { t with cols := renCol t.cols (colOf t.cols s.name).toNat s.join }) (fun t => t.ixs.map Ix.name) (fun t => rfl)
      rw [List.flatMap_def] 
      rw [this, ← List.flatMap_def]
      exact H.ixn
  · exact H
theorem ok_do {m : List Tab} (H : Ok m) (s : St) (root : Int) : Ok (doM m s root).1 := by
  unfold doM
  split
  · exact ok_create H s
  · split
    · exact ok_index H s root
    · split
      · exact ok_rename H s
      · exact H
end Go.VB.Cat
namespace Go.Proofs
open Go.Shelf
def Tryz.lays169_ren : Go.Shelf.Ren := ⟨fun | 169 => 128 | n => n, fun | 70 => 203 | 9 => 9 | 0 => 0 | 72 => 205 | 37 => 74 | 127 => 247 | 3 => 3 | 5 => 5 | n => n, fun | n => n⟩
theorem Tryz.lays169 : Go.Proofs.Lays.n169 Tryz.prog Tryz.lays169_ren := {
  mixed := by kernel_rfl
  f169 := Tryz.func128.trans (congrArg some (by kernel_rfl))
  t0 := Tryz.underlying0
  a0 := Tryz.isAgg0
  z0 := Tryz.sizeOf0
  v0 := Tryz.zeroValue0
  t3 := Tryz.underlying3
  a3 := Tryz.isAgg3
  z3 := Tryz.sizeOf3
  v3 := Tryz.zeroValue3
  t9 := Tryz.underlying9
  a9 := Tryz.isAgg9
  z9 := Tryz.sizeOf9
  v9 := Tryz.zeroValue9
  t37 := Tryz.underlying74
  a37 := Tryz.isAgg74
  z37 := Tryz.sizeOf74
  v37 := Tryz.zeroValue74
  t70 := Tryz.underlying203
  a70 := Tryz.isAgg203
  z70 := Tryz.sizeOf203
  v70 := Tryz.zeroValue203
  t72 := Tryz.underlying205
  a72 := Tryz.isAgg205
  z72 := Tryz.sizeOf205
  v72 := Tryz.zeroValue205
  t127 := Tryz.underlying247
  a127 := Tryz.isAgg247
  z127 := Tryz.sizeOf247
  v127 := Tryz.zeroValue247 }
theorem Tryz.Builder_Extra_169 : Builder.Extra Tryz.prog Tryz.lays169_ren := {
  sizeBuilder := by kernel_rfl
  liesBuilder := by kernel_rfl
  t5 := Tryz.underlying5
  a5 := Tryz.isAgg5
  z5 := Tryz.sizeOf5
  v5 := Tryz.zeroValue5
  infoByte := by kernel_rfl
  cellsByte := by kernel_rfl
  sizeByte := by kernel_rfl
  neB5 := by decide }
open Go.RowKit in
/-- (*strings.Builder).String: "String returns the accumulated string.": WHATEVER THE BUILDER HOLDS. (LAID: no walk: one application.) -/
theorem Tryz.Builder_String_any (B b : Nat) (l : List UInt8) (w : World) (h : Lib.IsBuilder 205 5 B b (Lib.byteCells l) w) (hBw : B ≤ w.heap.size) :
    Calls Tryz.prog 128 #[.pointer (some ⟨b, 0, none⟩)] w fun e w' => e = .returned (.string ⟨l.toArray⟩) ∧ Below B w w' := Any.Builder_String_any Tryz.lays169 Tryz.Builder_Extra_169 B b l w h hBw
def Tryz.lays122_ren : Go.Shelf.Ren := ⟨fun | 122 => 63 | 215 => 119 | n => n, fun | 3 => 3 | 4 => 4 | n => n, fun | n => n⟩
theorem Tryz.lays122 : Go.Proofs.Lays.n122 Tryz.prog Tryz.lays122_ren := {
  mixed := by kernel_rfl
  f122 := Tryz.func63.trans (congrArg some (by kernel_rfl))
  f215 := Tryz.func119.trans (congrArg some (by kernel_rfl))
  t3 := Tryz.underlying3
  a3 := Tryz.isAgg3
  z3 := Tryz.sizeOf3
  v3 := Tryz.zeroValue3
  t4 := Tryz.underlying4
  a4 := Tryz.isAgg4
  z4 := Tryz.sizeOf4
  v4 := Tryz.zeroValue4 }
open Go.RowKit in
/-- cmp.Compare at int: "Compare returns -1 if x is less than y, 0 if x equals y, +1 if x is greater than y.": IT RETURNS 'Lib.compareInt x y'; the world is as it was. (LAID: no walk: one application.) -/
theorem Tryz.cmp_Compare_int (x y : Int) (w : World) :
    Calls Tryz.prog 63 #[.int .i64 x, .int .i64 y] w fun e w' => e = .returned (.int .i64 (Lib.compareInt x y)) ∧ w' = w := Any.cmp_Compare_int Tryz.lays122 x y w
def Tryz.lays107_ren : Go.Shelf.Ren := ⟨fun | 107 => 187 | 108 => 197 | n => n, fun | 28 => 22 | 3 => 3 | 4 => 4 | 0 => 0 | n => n, fun | n => n⟩
theorem Tryz.lays107 : Go.Proofs.Lays.n107 Tryz.prog Tryz.lays107_ren := {
  mixed := by kernel_rfl
  f107 := Tryz.func187.trans (congrArg some (by kernel_rfl))
  f108 := Tryz.func197.trans (congrArg some (by kernel_rfl))
  t0 := Tryz.underlying0
  a0 := Tryz.isAgg0
  z0 := Tryz.sizeOf0
  v0 := Tryz.zeroValue0
  t3 := Tryz.underlying3
  a3 := Tryz.isAgg3
  z3 := Tryz.sizeOf3
  v3 := Tryz.zeroValue3
  t4 := Tryz.underlying4
  a4 := Tryz.isAgg4
  z4 := Tryz.sizeOf4
  v4 := Tryz.zeroValue4
  t28 := Tryz.underlying22
  a28 := Tryz.isAgg22
  z28 := Tryz.sizeOf22
  v28 := Tryz.zeroValue22 }
open Go.Lib in
/-- slices.Contains at []int: "Contains reports whether v is present in s.": IT RETURNS 'elements.contains v'; the world is as it was. ITS CALLEE slices.Index IS MET BY ITS OWN CONTRACT OFF THE SHELF (lay that first): no loop is walked here. (LAID: no walk: one application.) -/
theorem Tryz.slices_Contains_int (b off n c : Nat) (zs : List Int) (x : Int) (w : World) (hz : n ≤ zs.length) (hbig : n ≤ 9223372036854775807) (hc : ∀ j, j < zs.length → w.cell? ⟨b, off + j, none⟩ = some (.int .i64 (zs.getD j 0))) :
    Calls Tryz.prog 187 #[.slice (some ⟨b, off, none⟩) n c, .int .i64 x] w fun e w' => e = .returned (.bool ((zs.take n).contains x)) ∧ w' = w := Any.slices_Contains_int Tryz.lays107 b off n c zs x w hz hbig hc
open Go.Lib in
/-- The same at a slice of length 0, a nil one too. (LAID: no walk: one application.) -/
theorem Tryz.slices_Contains_int_empty (a : Option Addr) (c : Nat) (x : Int) (w : World) :
    Calls Tryz.prog 187 #[.slice a 0 c, .int .i64 x] w fun e w' => e = .returned (.bool false) ∧ w' = w := Any.slices_Contains_int_empty Tryz.lays107 a c x w
def Tryz.lays109_ren : Go.Shelf.Ren := ⟨fun | 109 => 196 | n => n, fun | 31 => 78 | 9 => 9 | 3 => 3 | 0 => 0 | 4 => 4 | n => n, fun | n => n⟩
theorem Tryz.lays109 : Go.Proofs.Lays.n109 Tryz.prog Tryz.lays109_ren := {
  mixed := by kernel_rfl
  f109 := Tryz.func196.trans (congrArg some (by kernel_rfl))
  t0 := Tryz.underlying0
  a0 := Tryz.isAgg0
  z0 := Tryz.sizeOf0
  v0 := Tryz.zeroValue0
  t3 := Tryz.underlying3
  a3 := Tryz.isAgg3
  z3 := Tryz.sizeOf3
  v3 := Tryz.zeroValue3
  t4 := Tryz.underlying4
  a4 := Tryz.isAgg4
  z4 := Tryz.sizeOf4
  v4 := Tryz.zeroValue4
  t9 := Tryz.underlying9
  a9 := Tryz.isAgg9
  z9 := Tryz.sizeOf9
  v9 := Tryz.zeroValue9
  t31 := Tryz.underlying78
  a31 := Tryz.isAgg78
  z31 := Tryz.sizeOf78
  v31 := Tryz.zeroValue78 }
open Go.Lib in
/-- slices.Index at []string: "Index returns the index of the first occurrence of v in s, or -1 if not present.": IT RETURNS 'Lib.idxOfS (the elements) v'; the world is as it was. 'zs': what the cells behind the slice's address hold (its spare capacity too, if you have it); 'zs.take n': its elements. (LAID: no walk: one application.) -/
theorem Tryz.slices_Index_string (b off n c : Nat) (zs : List ByteArray) (x : ByteArray) (w : World) (hz : n ≤ zs.length) (hbig : n ≤ 9223372036854775807) (hc : ∀ j, j < zs.length → w.cell? ⟨b, off + j, none⟩ = some (.string (zs.getD j ByteArray.empty))) :
    Calls Tryz.prog 196 #[.slice (some ⟨b, off, none⟩) n c, .string x] w fun e w' => e = .returned (.int .i64 (Lib.idxOfS (zs.take n) x)) ∧ w' = w := Any.slices_Index_string Tryz.lays109 b off n c zs x w hz hbig hc
open Go.Lib in
/-- The same at a slice of length 0, a nil one too: no cell is known, none is asked for. (LAID: no walk: one application.) -/
theorem Tryz.slices_Index_string_empty (a : Option Addr) (c : Nat) (x : ByteArray) (w : World) :
    Calls Tryz.prog 196 #[.slice a 0 c, .string x] w fun e w' => e = .returned (.int .i64 (Lib.idxOfS [] x)) ∧ w' = w := Any.slices_Index_string_empty Tryz.lays109 a c x w
end Go.Proofs
namespace Go.Proofs.YtiimomgbklgicaaGreat
open Go.RowKit Go.VB
theorem fr_below {w0 w w' : World} (f : Fr (fun _ => False) w0 w) (h : Below w0.heap.size w w') : Fr (fun _ => False) w0 w' :=
  f.trans (S := fun _ => False) (T := fun k => w0.heap.size ≤ k) ⟨h.os, h.tape, h.output, h.size, fun k _ hn => h.block k (by omega)⟩ (fun k hk hl => by omega)
theorem String_go {B : Nat} {w : World} {b : Nat} {l : List UInt8} {v : Value} (h : Bld B w b l v) (hB : B ≤ w.heap.size) (hb : B ≤ b) : Calls Tryz.prog 128 #[.pointer (some ⟨b, 0, none⟩)] w fun e w' => e = .returned (.string (bs l)) ∧ Below B w w' := by
  have own : w.ownsRow B 5 1 v (Lib.byteCells l).length (Lib.byteCells l) := by
    have h1 := h.row.own
    rw [Lib.byteCells_length]
    refine ⟨h1.1, ?_⟩
    rcases h1.2 with h2 | ⟨g, cap, cur, h2, h3, h4⟩
    · exact .inl h2
    · exact .inr ⟨g, cap, cur, h2, h.row.new g (by rw [h2]; rfl), h4⟩
  have hne : v.ownBlock ≠ some b := fun e => h.ne b e rfl
  refine Tryz.Builder_String_any B b l w ?_ hB
  rcases h.blk with h1 | h1
  · exact .inl ⟨hb, v, h1, own, hne⟩
  · exact .inr ⟨hb, v, h1, own, hne⟩
end Go.Proofs.YtiimomgbklgicaaGreat
namespace Go.VB.Rec
open Go.VB.Oct
structure V where
  k : Int
  n : Int
  s : List UInt8
deriving DecidableEq
structure E where
  page : Int
  slot : Int
  item : List UInt8
deriving DecidableEq
structure R where
  kind : Int
  xid : Int
  table : Int
  old : List V
  new : List V
  edits : List E
  xids : List Int
  note : List UInt8
deriving DecidableEq
def V.cells (v : V) : List Value := [.int .i64 v.k, .int .i64 v.n, .string (bs v.s)]
def E.cells (e : E) : List Value := [.int .i64 e.page, .int .i64 e.slot, .string (bs e.item)]
def icell (x : Int) : List Value := [.int .i64 x]
def V.right (v : V) : Bool := decide (0 ≤ v.k) && decide (v.k ≤ 2) && (decide (v.k ≠ 2) || decide (v.s.length ≤ 40))
def row (r : List V) : Bool := decide (r.length ≤ 6) && r.all V.right
def E.right (e : E) : Bool :=
  decide (0 ≤ e.page) && decide (e.page ≤ 399) && (if e.slot = -1 then e.item = [0] || e.item = [1] || e.item = [2] else decide (0 ≤ e.slot) && decide (e.slot ≤ 23) && decide (e.item.length ≤ 400))
def R.right (r : R) : Bool :=
  decide (1 ≤ r.kind) && decide (r.kind ≤ 10) && decide (0 ≤ r.xid) && decide (r.xid ≤ 127) && decide (0 ≤ r.table) && decide (r.table ≤ 65535) &&
  (decide (r.edits.length ≤ 64) && r.edits.all E.right) && (decide (r.xids.length ≤ 32) && r.xids.all fun x => decide (3 ≤ x) && decide (x ≤ 127)) && row r.old && row r.new && decide (r.note.length ≤ 60000)
/-- an int as a 64-bit word -/
def word (n : Int) : Nat := (n % 18446744073709551616).toNat
def V.bytes (v : V) : List UInt8 := UInt8.ofNat v.k.toNat :: (if v.k = 1 then be8 (word v.n) else if v.k = 2 then UInt8.ofNat v.s.length :: v.s else [])
def rowBytes (r : List V) : List UInt8 := if row r then UInt8.ofNat r.length :: r.flatMap V.bytes else []
def E.bytes (e : E) : List UInt8 := be 2 e.page.toNat ++ be 1 (e.slot + 1).toNat ++ text e.item
def R.raw (r : R) : List UInt8 :=
  be 1 r.kind.toNat ++ be 1 r.xid.toNat ++ be 2 r.table.toNat ++ text (rowBytes r.old) ++ text (rowBytes r.new) ++ be 1 r.edits.length ++ r.edits.flatMap E.bytes ++ be 1 r.xids.length ++ (r.xids.flatMap fun x => be 1 x.toNat) ++ text r.note
def R.bytes (r : R) : List UInt8 := if r.right then r.raw else []
def frame (r : R) : List UInt8 := if r.right then be 4 r.raw.length ++ be 4 (sum r.raw) ++ r.raw else []
end Go.VB.Rec
namespace Go.Proofs.YtiimomgbklgicaaGreat
open Go.RowKit Go.VB Go.VB.Oct Go.VB.Rec
theorem icell_len (x : Int) : (icell x).length = 1 := rfl
theorem flat1 {α : Type} (f : α → List Value) (hf : ∀ x, (f x).length = 1) : ∀ (L : List α) (j : Nat) (h : j < L.length), (L.flatMap f)[j]? = (f L[j])[0]?
  | x :: L, 0, _ => by simp [List.getElem?_append, hf]
  | x :: L, j + 1, h => by
    rw [List.flatMap_cons, List.getElem?_append_right (by rw [hf]; omega), hf, Nat.add_sub_cancel, flat1 f hf L j (by simpa using h)]
    rfl
theorem sl_cell1 {α : Type} {R : Nat → Prop} {w : World} {a : Option Addr} {c : Nat} {f : α → List Value} (hf : ∀ x, (f x).length = 1) {L : List α} (h : Sl R w (.slice a L.length c) L.length (L.flatMap f)) (hL : L ≠ []) :
    ∃ g o, a = some ⟨g, o, none⟩ ∧ R g ∧ ∀ j (hj : j < L.length), w.cell? ⟨g, o + j, none⟩ = (f L[j])[0]? := by
  obtain ⟨a', cap, he, hc, hx⟩ := h
  cases he
  obtain ⟨g, o, rfl, hR, hr⟩ := hx (by
    cases L with
    | nil => exact absurd rfl hL
    | cons x L => intro hh; have := congrArg List.length hh; simp [hf] at this)
  refine ⟨g, o, rfl, hR, fun j hj => ?_⟩
  have hfl := flat1 f hf L j hj
  cases hh : (f L[j])[0]? with
  | none => rw [List.getElem?_eq_none_iff, hf] at hh; omega
  | some u => rw [hh] at hfl; exact hr _ u hfl
end Go.Proofs.YtiimomgbklgicaaGreat
namespace Go.VB.Rec
open Go.VB.Oct
def rank (k : Int) : Int := if 0 ≤ k ∧ k ≤ 2 then k else 3
/-- one value against another -/
def V.cmp (a b : V) : Int := if rank a.k ≠ rank b.k then Lib.compareInt (rank a.k) (rank b.k) else if a.k = 1 then Lib.compareInt a.n b.n else if a.k = 2 then Lib.compareBytes a.s b.s else 0
/-- every c of s turned into new -/
def esc (c : UInt8) (new : List UInt8) (s : List UInt8) : List UInt8 := s.flatMap fun x => if x = c then new else [x]
def V.key (v : V) : List UInt8 := UInt8.ofNat (v.k.toNat + 1) :: (if v.k = 1 then be8 ((word v.n + 9223372036854775808) % 18446744073709551616) else if v.k = 2 then esc 0 [0, 255] v.s ++ [0, 1] else [])
def V.text (v : V) : List UInt8 := if v.k = 0 then [110, 117, 108, 108] else if v.k = 1 then Lib.itoa v.n else if v.k = 2 then 39 :: esc 39 [39, 39] v.s ++ [39] else []
/-- the six operators on the sign of a comparison -/
def opHolds (op c : Int) : Bool := if op = 1 then c == 0 else if op = 2 then c != 0 else if op = 3 then decide (c < 0) else if op = 4 then decide (c ≤ 0) else if op = 5 then decide (0 < c) else if op = 6 then decide (0 ≤ c) else false
def V.fits (a : V) (op : Int) (b : V) : Bool := if a.k = 0 ∨ b.k = 0 ∨ rank a.k = 3 ∨ rank b.k = 3 then false else if a.k ≠ b.k then decide (op = 2) else opHolds op (V.cmp a b)
end Go.VB.Rec
namespace Go.VB.Rec
structure Ord {α : Type} (c : α → α → Int) : Prop where
  rng : ∀ a b, c a b = -1 ∨ c a b = 0 ∨ c a b = 1
  anti : ∀ a b, c b a = - c a b
  tr : ∀ a b d, c a b ≤ 0 → c b d ≤ 0 → c a d ≤ 0
namespace Ord
variable {α : Type} {c : α → α → Int}
theorem refl (h : Ord c) (a : α) : c a a = 0 := by have := h.anti a a; omega
theorem ge (h : Ord c) {a b d : α} (h1 : 0 ≤ c a b) (h2 : 0 ≤ c b d) : 0 ≤ c a d := by
  have := h.anti a d
  have := h.anti a b
  have := h.anti b d
  have := h.tr d b a (by omega) (by omega)
  omega
end Ord
end Go.VB.Rec
namespace Go.VB.Cat
open Go.VB Go.VB.Oct
/-- an index with the value of its columns -/
structure IxV where
  x : Ix
  v : Value
/-- a table with the values of its slices -/
structure TabV where
  t : Tab
  vc : Value
  vi : Value
  ix : List IxV
def Col.cells (c : Col) : List Value := [.string (bs c.name), .int .i64 c.kind]
def IxV.cells (x : IxV) : List Value := [.string (bs x.x.name), x.v, .int .i64 x.x.root]
def TabV.cells (t : TabV) : List Value := [.int .i64 t.t.id, .string (bs t.t.name), t.vc, t.vi]
def scell (s : Bs) : List Value := [.string (bs s)]
def Col.agg (c : Col) : Value := .agg c.cells.toArray
def IxV.agg (x : IxV) : Value := .agg x.cells.toArray
def TabV.agg (t : TabV) : Value := .agg t.cells.toArray
def sval (s : Bs) : Value := .string (bs s)
theorem col_len (c : Col) : c.cells.length = 2 := rfl
theorem ix_len (x : IxV) : x.cells.length = 3 := rfl
theorem tab_len (t : TabV) : t.cells.length = 4 := rfl
theorem scell_len (s : Bs) : (scell s).length = 1 := rfl
/-- cell i of element j, k cells an element -/
theorem flatK {α : Type} {k : Nat} (f : α → List Value) (hf : ∀ x, (f x).length = k) : ∀ (L : List α) (j : Nat) (h : j < L.length) (i : Nat), i < k → (L.flatMap f)[j * k + i]? = (f L[j])[i]?
  | x :: L, 0, _, i, hi => by simp [List.getElem?_append, hf, hi]
  | x :: L, j + 1, h, i, hi => by
    rw [List.flatMap_cons, List.getElem?_append_right (by rw [hf, Nat.succ_mul]; omega), hf, show (j + 1) * k + i - k = j * k + i by rw [Nat.succ_mul]; omega, flatK f hf L j (by simpa using h) i hi]
    rfl
theorem slK {α : Type} {k : Nat} {R : Nat → Prop} {w : World} {a : Option Addr} {c : Nat} {f : α → List Value} (hk : 0 < k) (hf : ∀ x, (f x).length = k) {L : List α} (h : Sl R w (.slice a L.length c) L.length (L.flatMap f)) {j : Nat} (hj : j < L.length) :
    ∃ g o, a = some ⟨g, o, none⟩ ∧ R g ∧ ∀ i, i < k → w.cell? ⟨g, o + j * k + i, none⟩ = (f L[j])[i]? := by
  obtain ⟨a', cap, he, hc, hx⟩ := h
  cases he
  obtain ⟨g, o, rfl, hR, hr⟩ := hx (by
    intro e
    have hl := congrArg List.length e
    cases L with
    | nil => cases hj
    | cons x L => simp [hf] at hl; omega)
  refine ⟨g, o, rfl, hR, fun i hi => ?_⟩
  have hfl := flatK f hf L j hj i hi
  cases hh : (f L[j])[i]? with
  | none => rw [List.getElem?_eq_none_iff, hf] at hh; omega
  | some u => rw [hh] at hfl; rw [Nat.add_assoc]; exact hr _ u hfl
theorem pos_ge {α : Type} (p : α → Bool) (l : List α) : decide (0 ≤ pos p l) = l.any p := by
  rcases pos_cases p l with ⟨h1, h2⟩ | ⟨i, hi, h1, h2, _⟩
  · rw [h1, List.any_eq_false.2 (fun x hx => by rw [h2 x hx]; decide)]; rfl
  · rw [h1, List.any_eq_true.2 ⟨l[i], List.getElem_mem hi, h2⟩]; exact decide_eq_true (by omega)
end Go.VB.Cat
namespace Go.Proofs.YtiimomgbklgicaaGreat
open Go.RowKit Go.VB Go.VB.Oct Go.VB.Cat
set_option maxRecDepth 20000 in
theorem IndexFunc_find {R : Nat → Prop} {w : World} {va cv : Value} {r : List TabV} {p : TabV → Bool} (h : Sl R w va r.length (r.flatMap TabV.cells)) (hn : r.length ≤ 1099511627776) (hf : ∀ x ∈ r, ∀ w', Fr (fun _ => False) w w' → Calls Tryz.prog 195 #[TabV.agg x, cv] w' fun e w'' => e = .returned (.bool (p x)) ∧ Fr (fun _ => False) w' w'') :
    Calls Tryz.prog 194 #[va, .func (.func 195) #[] #[cv]] w fun e w' => e = .returned (.int .i64 (pos p r)) ∧ Fr (fun _ => False) w w' := by
  obtain ⟨a, c, rfl, hc, hx⟩ := h
  have HX := hid (show Sl R w (.slice a r.length c) r.length (r.flatMap TabV.cells) from ⟨a, c, rfl, hc, hx⟩)
  clear hx
  have HV := hid hf
  have F0 := hid (Fr.refl (fun _ => False) w)
  clear hf
  go_enter Tryz.func194, Tryz.ntmps194
  go_wp2_with (fail)
  go_loopw [8] (fun i wr => ∃ j : Nat, j ≤ r.length ∧ i = .int .i64 j ∧ (∀ i (hi : i < j) (hr : i < r.length), p r[i] = false) ∧ Fr (fun _ => False) w wr) (fun i _ => r.length - (intOf i).toNat)
  case atStart => exact ⟨0, by omega, rfl, fun i hi => by omega, F0.out⟩
  case round =>
    obtain ⟨j, hj, rfl, hall, fr⟩ := hrel
    by_cases hjl : j < r.length
    · obtain ⟨g, o, rfl, hg, q⟩ := slK (k := 4) (f := TabV.cells) (by decide) tab_len (HX.out.fr fr (fun _ _ h => h)) hjl
      have HQ := hid q
      have HM := hid (HV.out r[j] (List.getElem_mem hjl))
      have FR := hid fr
      have HA := hid hall
      have i1 : (0 : Int) ≤ (j : Int) := by omega
      have i2 : (j : Int) < r.length := by omega
      have HP : ∀ b, p r[j] = b → Hid (p r[j] = b) := fun b h => hid h
      have q0 := HQ.out 0 (by decide); have q1 := HQ.out 1 (by decide); have q2 := HQ.out 2 (by decide); have q3 := HQ.out 3 (by decide)
      clear fr hall HX HV q
      cases hr : p r[j] with
      | true =>
        have HR := HP _ hr
        rw [hr] at HM
        have hfa := hid (pos_at hjl hr (fun i hi => HA.out i hi (by omega)))
        clear hr HP HR HQ
        generalize r[j] = x at *
        simp only [TabV.cells, Nat.add_zero, List.getElem?_cons_zero, List.getElem?_cons_succ] at q0 q1 q2 q3
        go_wp2_with (go_at_call 195; refine (HM.out _ FR.out).mono ?_; rintro e w1 ⟨rfl, f1⟩; have F1 := hid (FR.out.trans f1 (fun _ h _ => h)); clear f1)
        go_ret
        exact ⟨by rw [hfa.out]; exact ret_int (by go_num), F1.out⟩
      | false =>
        have HR := HP _ hr
        rw [hr] at HM
        clear hr HP HQ
        obtain ⟨x, hx⟩ : ∃ x, x = r[j] := ⟨_, rfl⟩
        rw [← hx] at q0 q1 q2 q3 HM
        clear hx
        simp only [TabV.cells, Nat.add_zero, List.getElem?_cons_zero, List.getElem?_cons_succ] at q0 q1 q2 q3
        go_wp2_with (go_at_call 195; refine (HM.out _ FR.out).mono ?_; rintro e w1 ⟨rfl, f1⟩; have F1 := hid (FR.out.trans f1 (fun _ h _ => h)); clear f1)
        go_roundw
        case rel => exact ⟨j + 1, by omega, by go_num, fun i hi hr => by
          by_cases hij : i = j
          · subst hij; exact HR.out
          · exact HA.out i (by omega) hr, F1.out⟩
        case measure => simp [intOf]; omega
    · obtain rfl : j = r.length := by omega
      have FR := hid fr
      have hfa := hid (pos_none (p := p) (l := r) (fun x hx => by obtain ⟨i, hi, rfl⟩ := List.getElem_of_mem hx; exact hall i hi hi))
      clear HX HV fr hall
      go_wp2_with (fail)
      go_ret
      exact ⟨by rw [hfa.out]; rfl, FR.out⟩
set_option maxRecDepth 20000 in
theorem IndexFunc_has {R : Nat → Prop} {w : World} {va cv : Value} {r : List TabV} {p : TabV → Bool} (h : Sl R w va r.length (r.flatMap TabV.cells)) (hn : r.length ≤ 1099511627776) (hf : ∀ x ∈ r, ∀ w', Fr (fun _ => False) w w' → Calls Tryz.prog 189 #[TabV.agg x, cv] w' fun e w'' => e = .returned (.bool (p x)) ∧ Fr (fun _ => False) w' w'') :
    Calls Tryz.prog 194 #[va, .func (.func 189) #[] #[cv]] w fun e w' => e = .returned (.int .i64 (pos p r)) ∧ Fr (fun _ => False) w w' := by
  obtain ⟨a, c, rfl, hc, hx⟩ := h
  have HX := hid (show Sl R w (.slice a r.length c) r.length (r.flatMap TabV.cells) from ⟨a, c, rfl, hc, hx⟩)
  clear hx
  have HV := hid hf
  have F0 := hid (Fr.refl (fun _ => False) w)
  clear hf
  go_enter Tryz.func194, Tryz.ntmps194
  go_wp2_with (fail)
  go_loopw [8] (fun i wr => ∃ j : Nat, j ≤ r.length ∧ i = .int .i64 j ∧ (∀ i (hi : i < j) (hr : i < r.length), p r[i] = false) ∧ Fr (fun _ => False) w wr) (fun i _ => r.length - (intOf i).toNat)
  case atStart => exact ⟨0, by omega, rfl, fun i hi => by omega, F0.out⟩
  case round =>
    obtain ⟨j, hj, rfl, hall, fr⟩ := hrel
    by_cases hjl : j < r.length
    · obtain ⟨g, o, rfl, hg, q⟩ := slK (k := 4) (f := TabV.cells) (by decide) tab_len (HX.out.fr fr (fun _ _ h => h)) hjl
      have HQ := hid q
      have HM := hid (HV.out r[j] (List.getElem_mem hjl))
      have FR := hid fr
      have HA := hid hall
      have i1 : (0 : Int) ≤ (j : Int) := by omega
      have i2 : (j : Int) < r.length := by omega
      have HP : ∀ b, p r[j] = b → Hid (p r[j] = b) := fun b h => hid h
      have q0 := HQ.out 0 (by decide); have q1 := HQ.out 1 (by decide); have q2 := HQ.out 2 (by decide); have q3 := HQ.out 3 (by decide)
      clear fr hall HX HV q
      cases hr : p r[j] with
      | true =>
        have HR := HP _ hr
        rw [hr] at HM
        have hfa := hid (pos_at hjl hr (fun i hi => HA.out i hi (by omega)))
        clear hr HP HR HQ
        generalize r[j] = x at *
        simp only [TabV.cells, Nat.add_zero, List.getElem?_cons_zero, List.getElem?_cons_succ] at q0 q1 q2 q3
        go_wp2_with (go_at_call 189; refine (HM.out _ FR.out).mono ?_; rintro e w1 ⟨rfl, f1⟩; have F1 := hid (FR.out.trans f1 (fun _ h _ => h)); clear f1)
        go_ret
        exact ⟨by rw [hfa.out]; exact ret_int (by go_num), F1.out⟩
      | false =>
        have HR := HP _ hr
        rw [hr] at HM
        clear hr HP HQ
        obtain ⟨x, hx⟩ : ∃ x, x = r[j] := ⟨_, rfl⟩
        rw [← hx] at q0 q1 q2 q3 HM
        clear hx
        simp only [TabV.cells, Nat.add_zero, List.getElem?_cons_zero, List.getElem?_cons_succ] at q0 q1 q2 q3
        go_wp2_with (go_at_call 189; refine (HM.out _ FR.out).mono ?_; rintro e w1 ⟨rfl, f1⟩; have F1 := hid (FR.out.trans f1 (fun _ h _ => h)); clear f1)
        go_roundw
        case rel => exact ⟨j + 1, by omega, by go_num, fun i hi hr => by
          by_cases hij : i = j
          · subst hij; exact HR.out
          · exact HA.out i (by omega) hr, F1.out⟩
        case measure => simp [intOf]; omega
    · obtain rfl : j = r.length := by omega
      have FR := hid fr
      have hfa := hid (pos_none (p := p) (l := r) (fun x hx => by obtain ⟨i, hi, rfl⟩ := List.getElem_of_mem hx; exact hall i hi hi))
      clear HX HV fr hall
      go_wp2_with (fail)
      go_ret
      exact ⟨by rw [hfa.out]; rfl, FR.out⟩
theorem ContainsFunc_has {R : Nat → Prop} {w : World} {va cv : Value} {r : List TabV} {p : TabV → Bool} (h : Sl R w va r.length (r.flatMap TabV.cells)) (hn : r.length ≤ 1099511627776) (hf : ∀ x ∈ r, ∀ w', Fr (fun _ => False) w w' → Calls Tryz.prog 189 #[TabV.agg x, cv] w' fun e w'' => e = .returned (.bool (p x)) ∧ Fr (fun _ => False) w' w'') :
    Calls Tryz.prog 188 #[va, .func (.func 189) #[] #[cv]] w fun e w' => e = .returned (.bool (r.any p)) ∧ Fr (fun _ => False) w w' := by
  have HI := hid (IndexFunc_has (cv := cv) h hn hf)
  have HG := hid (pos_ge p r)
  clear h hn hf
  generalize pos p r = i at *
  generalize r.any p = b at *
  go_enter Tryz.func188, Tryz.ntmps188
  go_wp2_with (go_at_call 194; refine HI.out.mono ?_; rintro e w1 ⟨rfl, f1⟩)
  go_ret
  exact ⟨ret_bool HG.out, f1⟩
set_option maxRecDepth 20000 in
theorem IndexFunc_ix {R : Nat → Prop} {w : World} {va cv : Value} {r : List IxV} {p : IxV → Bool} (h : Sl R w va r.length (r.flatMap IxV.cells)) (hn : r.length ≤ 1099511627776) (hf : ∀ x ∈ r, ∀ w', Fr (fun _ => False) w w' → Calls Tryz.prog 186 #[IxV.agg x, cv] w' fun e w'' => e = .returned (.bool (p x)) ∧ Fr (fun _ => False) w' w'') :
    Calls Tryz.prog 198 #[va, .func (.func 186) #[] #[cv]] w fun e w' => e = .returned (.int .i64 (pos p r)) ∧ Fr (fun _ => False) w w' := by
  obtain ⟨a, c, rfl, hc, hx⟩ := h
  have HX := hid (show Sl R w (.slice a r.length c) r.length (r.flatMap IxV.cells) from ⟨a, c, rfl, hc, hx⟩)
  clear hx
  have HV := hid hf
  have F0 := hid (Fr.refl (fun _ => False) w)
  clear hf
  go_enter Tryz.func198, Tryz.ntmps198
  go_wp2_with (fail)
  go_loopw [8] (fun i wr => ∃ j : Nat, j ≤ r.length ∧ i = .int .i64 j ∧ (∀ i (hi : i < j) (hr : i < r.length), p r[i] = false) ∧ Fr (fun _ => False) w wr) (fun i _ => r.length - (intOf i).toNat)
  case atStart => exact ⟨0, by omega, rfl, fun i hi => by omega, F0.out⟩
  case round =>
    obtain ⟨j, hj, rfl, hall, fr⟩ := hrel
    by_cases hjl : j < r.length
    · obtain ⟨g, o, rfl, hg, q⟩ := slK (k := 3) (f := IxV.cells) (by decide) ix_len (HX.out.fr fr (fun _ _ h => h)) hjl
      have HQ := hid q
      have HM := hid (HV.out r[j] (List.getElem_mem hjl))
      have FR := hid fr
      have HA := hid hall
      have i1 : (0 : Int) ≤ (j : Int) := by omega
      have i2 : (j : Int) < r.length := by omega
      have HP : ∀ b, p r[j] = b → Hid (p r[j] = b) := fun b h => hid h
      have q0 := HQ.out 0 (by decide); have q1 := HQ.out 1 (by decide); have q2 := HQ.out 2 (by decide)
      clear fr hall HX HV q
      cases hr : p r[j] with
      | true =>
        have HR := HP _ hr
        rw [hr] at HM
        have hfa := hid (pos_at hjl hr (fun i hi => HA.out i hi (by omega)))
        clear hr HP HR HQ
        generalize r[j] = x at *
        simp only [IxV.cells, Nat.add_zero, List.getElem?_cons_zero, List.getElem?_cons_succ] at q0 q1 q2
        go_wp2_with (go_at_call 186; refine (HM.out _ FR.out).mono ?_; rintro e w1 ⟨rfl, f1⟩; have F1 := hid (FR.out.trans f1 (fun _ h _ => h)); clear f1)
        go_ret
        exact ⟨by rw [hfa.out]; exact ret_int (by go_num), F1.out⟩
      | false =>
        have HR := HP _ hr
        rw [hr] at HM
        clear hr HP HQ
        obtain ⟨x, hx⟩ : ∃ x, x = r[j] := ⟨_, rfl⟩
        rw [← hx] at q0 q1 q2 HM
        clear hx
        simp only [IxV.cells, Nat.add_zero, List.getElem?_cons_zero, List.getElem?_cons_succ] at q0 q1 q2
        go_wp2_with (go_at_call 186; refine (HM.out _ FR.out).mono ?_; rintro e w1 ⟨rfl, f1⟩; have F1 := hid (FR.out.trans f1 (fun _ h _ => h)); clear f1)
        go_roundw
        case rel => exact ⟨j + 1, by omega, by go_num, fun i hi hr => by
          by_cases hij : i = j
          · subst hij; exact HR.out
          · exact HA.out i (by omega) hr, F1.out⟩
        case measure => simp [intOf]; omega
    · obtain rfl : j = r.length := by omega
      have FR := hid fr
      have hfa := hid (pos_none (p := p) (l := r) (fun x hx => by obtain ⟨i, hi, rfl⟩ := List.getElem_of_mem hx; exact hall i hi hi))
      clear HX HV fr hall
      go_wp2_with (fail)
      go_ret
      exact ⟨by rw [hfa.out]; rfl, FR.out⟩
theorem ContainsFunc_ix {R : Nat → Prop} {w : World} {va cv : Value} {r : List IxV} {p : IxV → Bool} (h : Sl R w va r.length (r.flatMap IxV.cells)) (hn : r.length ≤ 1099511627776) (hf : ∀ x ∈ r, ∀ w', Fr (fun _ => False) w w' → Calls Tryz.prog 186 #[IxV.agg x, cv] w' fun e w'' => e = .returned (.bool (p x)) ∧ Fr (fun _ => False) w' w'') :
    Calls Tryz.prog 190 #[va, .func (.func 186) #[] #[cv]] w fun e w' => e = .returned (.bool (r.any p)) ∧ Fr (fun _ => False) w w' := by
  have HI := hid (IndexFunc_ix (cv := cv) h hn hf)
  have HG := hid (pos_ge p r)
  clear h hn hf
  generalize pos p r = i at *
  generalize r.any p = b at *
  go_enter Tryz.func190, Tryz.ntmps190
  go_wp2_with (go_at_call 198; refine HI.out.mono ?_; rintro e w1 ⟨rfl, f1⟩)
  go_ret
  exact ⟨ret_bool HG.out, f1⟩
set_option maxRecDepth 20000 in
theorem IndexFunc_named {R : Nat → Prop} {w : World} {va cv : Value} {r : List Bs} {p : Bs → Bool} (h : Sl R w va r.length (r.flatMap scell)) (hn : r.length ≤ 1099511627776) (hf : ∀ x ∈ r, ∀ w', Fr (fun _ => False) w w' → Calls Tryz.prog 180 #[sval x] w' fun e w'' => e = .returned (.bool (p x)) ∧ Fr (fun _ => False) w' w'') :
    Calls Tryz.prog 192 #[va, .func (.func 180) #[] #[]] w fun e w' => e = .returned (.int .i64 (pos p r)) ∧ Fr (fun _ => False) w w' := by
  obtain ⟨a, c, rfl, hc, hx⟩ := h
  have HX := hid (show Sl R w (.slice a r.length c) r.length (r.flatMap scell) from ⟨a, c, rfl, hc, hx⟩)
  clear hx
  have HV := hid hf
  have F0 := hid (Fr.refl (fun _ => False) w)
  clear hf
  go_enter Tryz.func192, Tryz.ntmps192
  go_wp2_with (fail)
  go_loopw [8] (fun i wr => ∃ j : Nat, j ≤ r.length ∧ i = .int .i64 j ∧ (∀ i (hi : i < j) (hr : i < r.length), p r[i] = false) ∧ Fr (fun _ => False) w wr) (fun i _ => r.length - (intOf i).toNat)
  case atStart => exact ⟨0, by omega, rfl, fun i hi => by omega, F0.out⟩
  case round =>
    obtain ⟨j, hj, rfl, hall, fr⟩ := hrel
    by_cases hjl : j < r.length
    · obtain ⟨g, o, rfl, hg, q⟩ := slK (k := 1) (f := scell) (by decide) scell_len (HX.out.fr fr (fun _ _ h => h)) hjl
      have HQ := hid q
      have HM := hid (HV.out r[j] (List.getElem_mem hjl))
      have FR := hid fr
      have HA := hid hall
      have i1 : (0 : Int) ≤ (j : Int) := by omega
      have i2 : (j : Int) < r.length := by omega
      have HP : ∀ b, p r[j] = b → Hid (p r[j] = b) := fun b h => hid h
      have q0 := HQ.out 0 (by decide)
      clear fr hall HX HV q
      cases hr : p r[j] with
      | true =>
        have HR := HP _ hr
        rw [hr] at HM
        have hfa := hid (pos_at hjl hr (fun i hi => HA.out i hi (by omega)))
        clear hr HP HR HQ
        generalize r[j] = x at *
        simp only [scell, Nat.add_zero, Nat.mul_one, List.getElem?_cons_zero] at q0
        go_wp2_with (go_at_call 180; refine (HM.out _ FR.out).mono ?_; rintro e w1 ⟨rfl, f1⟩; have F1 := hid (FR.out.trans f1 (fun _ h _ => h)); clear f1)
        go_ret
        exact ⟨by rw [hfa.out]; exact ret_int (by go_num), F1.out⟩
      | false =>
        have HR := HP _ hr
        rw [hr] at HM
        clear hr HP HQ
        obtain ⟨x, hx⟩ : ∃ x, x = r[j] := ⟨_, rfl⟩
        rw [← hx] at q0 HM
        clear hx
        simp only [scell, Nat.add_zero, Nat.mul_one, List.getElem?_cons_zero] at q0
        go_wp2_with (go_at_call 180; refine (HM.out _ FR.out).mono ?_; rintro e w1 ⟨rfl, f1⟩; have F1 := hid (FR.out.trans f1 (fun _ h _ => h)); clear f1)
        go_roundw
        case rel => exact ⟨j + 1, by omega, by go_num, fun i hi hr => by
          by_cases hij : i = j
          · subst hij; exact HR.out
          · exact HA.out i (by omega) hr, F1.out⟩
        case measure => simp [intOf]; omega
    · obtain rfl : j = r.length := by omega
      have FR := hid fr
      have hfa := hid (pos_none (p := p) (l := r) (fun x hx => by obtain ⟨i, hi, rfl⟩ := List.getElem_of_mem hx; exact hall i hi hi))
      clear HX HV fr hall
      go_wp2_with (fail)
      go_ret
      exact ⟨by rw [hfa.out]; rfl, FR.out⟩
theorem ContainsFunc_named {R : Nat → Prop} {w : World} {va cv : Value} {r : List Bs} {p : Bs → Bool} (h : Sl R w va r.length (r.flatMap scell)) (hn : r.length ≤ 1099511627776) (hf : ∀ x ∈ r, ∀ w', Fr (fun _ => False) w w' → Calls Tryz.prog 180 #[sval x] w' fun e w'' => e = .returned (.bool (p x)) ∧ Fr (fun _ => False) w' w'') :
    Calls Tryz.prog 179 #[va, .func (.func 180) #[] #[]] w fun e w' => e = .returned (.bool (r.any p)) ∧ Fr (fun _ => False) w w' := by
  have HI := hid (IndexFunc_named (cv := cv) h hn hf)
  have HG := hid (pos_ge p r)
  clear h hn hf
  generalize pos p r = i at *
  generalize r.any p = b at *
  go_enter Tryz.func179, Tryz.ntmps179
  go_wp2_with (go_at_call 192; refine HI.out.mono ?_; rintro e w1 ⟨rfl, f1⟩)
  go_ret
  exact ⟨ret_bool HG.out, f1⟩
set_option maxRecDepth 20000 in
theorem IndexFunc_kind {R : Nat → Prop} {w : World} {va cv : Value} {r : List Col} {p : Col → Bool} (h : Sl R w va r.length (r.flatMap Col.cells)) (hn : r.length ≤ 1099511627776) (hf : ∀ x ∈ r, ∀ w', Fr (fun _ => False) w w' → Calls Tryz.prog 182 #[Col.agg x] w' fun e w'' => e = .returned (.bool (p x)) ∧ Fr (fun _ => False) w' w'') :
    Calls Tryz.prog 193 #[va, .func (.func 182) #[] #[]] w fun e w' => e = .returned (.int .i64 (pos p r)) ∧ Fr (fun _ => False) w w' := by
  obtain ⟨a, c, rfl, hc, hx⟩ := h
  have HX := hid (show Sl R w (.slice a r.length c) r.length (r.flatMap Col.cells) from ⟨a, c, rfl, hc, hx⟩)
  clear hx
  have HV := hid hf
  have F0 := hid (Fr.refl (fun _ => False) w)
  clear hf
  go_enter Tryz.func193, Tryz.ntmps193
  go_wp2_with (fail)
  go_loopw [8] (fun i wr => ∃ j : Nat, j ≤ r.length ∧ i = .int .i64 j ∧ (∀ i (hi : i < j) (hr : i < r.length), p r[i] = false) ∧ Fr (fun _ => False) w wr) (fun i _ => r.length - (intOf i).toNat)
  case atStart => exact ⟨0, by omega, rfl, fun i hi => by omega, F0.out⟩
  case round =>
    obtain ⟨j, hj, rfl, hall, fr⟩ := hrel
    by_cases hjl : j < r.length
    · obtain ⟨g, o, rfl, hg, q⟩ := slK (k := 2) (f := Col.cells) (by decide) col_len (HX.out.fr fr (fun _ _ h => h)) hjl
      have HQ := hid q
      have HM := hid (HV.out r[j] (List.getElem_mem hjl))
      have FR := hid fr
      have HA := hid hall
      have i1 : (0 : Int) ≤ (j : Int) := by omega
      have i2 : (j : Int) < r.length := by omega
      have HP : ∀ b, p r[j] = b → Hid (p r[j] = b) := fun b h => hid h
      have q0 := HQ.out 0 (by decide); have q1 := HQ.out 1 (by decide)
      clear fr hall HX HV q
      cases hr : p r[j] with
      | true =>
        have HR := HP _ hr
        rw [hr] at HM
        have hfa := hid (pos_at hjl hr (fun i hi => HA.out i hi (by omega)))
        clear hr HP HR HQ
        generalize r[j] = x at *
        simp only [Col.cells, Nat.add_zero, List.getElem?_cons_zero, List.getElem?_cons_succ] at q0 q1
        go_wp2_with (go_at_call 182; refine (HM.out _ FR.out).mono ?_; rintro e w1 ⟨rfl, f1⟩; have F1 := hid (FR.out.trans f1 (fun _ h _ => h)); clear f1)
        go_ret
        exact ⟨by rw [hfa.out]; exact ret_int (by go_num), F1.out⟩
      | false =>
        have HR := HP _ hr
        rw [hr] at HM
        clear hr HP HQ
        obtain ⟨x, hx⟩ : ∃ x, x = r[j] := ⟨_, rfl⟩
        rw [← hx] at q0 q1 HM
        clear hx
        simp only [Col.cells, Nat.add_zero, List.getElem?_cons_zero, List.getElem?_cons_succ] at q0 q1
        go_wp2_with (go_at_call 182; refine (HM.out _ FR.out).mono ?_; rintro e w1 ⟨rfl, f1⟩; have F1 := hid (FR.out.trans f1 (fun _ h _ => h)); clear f1)
        go_roundw
        case rel => exact ⟨j + 1, by omega, by go_num, fun i hi hr => by
          by_cases hij : i = j
          · subst hij; exact HR.out
          · exact HA.out i (by omega) hr, F1.out⟩
        case measure => simp [intOf]; omega
    · obtain rfl : j = r.length := by omega
      have FR := hid fr
      have hfa := hid (pos_none (p := p) (l := r) (fun x hx => by obtain ⟨i, hi, rfl⟩ := List.getElem_of_mem hx; exact hall i hi hi))
      clear HX HV fr hall
      go_wp2_with (fail)
      go_ret
      exact ⟨by rw [hfa.out]; rfl, FR.out⟩
theorem ContainsFunc_kind {R : Nat → Prop} {w : World} {va cv : Value} {r : List Col} {p : Col → Bool} (h : Sl R w va r.length (r.flatMap Col.cells)) (hn : r.length ≤ 1099511627776) (hf : ∀ x ∈ r, ∀ w', Fr (fun _ => False) w w' → Calls Tryz.prog 182 #[Col.agg x] w' fun e w'' => e = .returned (.bool (p x)) ∧ Fr (fun _ => False) w' w'') :
    Calls Tryz.prog 181 #[va, .func (.func 182) #[] #[]] w fun e w' => e = .returned (.bool (r.any p)) ∧ Fr (fun _ => False) w w' := by
  have HI := hid (IndexFunc_kind (cv := cv) h hn hf)
  have HG := hid (pos_ge p r)
  clear h hn hf
  generalize pos p r = i at *
  generalize r.any p = b at *
  go_enter Tryz.func181, Tryz.ntmps181
  go_wp2_with (go_at_call 193; refine HI.out.mono ?_; rintro e w1 ⟨rfl, f1⟩)
  go_ret
  exact ⟨ret_bool HG.out, f1⟩
end Go.Proofs.YtiimomgbklgicaaGreat
