import Derived.Test.YtiimomgbklgicaaCpO
/- The schema of tables and indexes: a model (no program in sight). -/
set_option linter.unusedVariables false
namespace Go.VB.Cat
open Go.VB.Oct
abbrev Bs := List UInt8
structure Col where
  name : Bs
  kind : Int
deriving DecidableEq
structure Ix where
  name : Bs
  cols : List Int
  root : Int
deriving DecidableEq
structure Tab where
  id : Int
  name : Bs
  cols : List Col
  ixs : List Ix
deriving DecidableEq
/-- what the catalog reads of a statement -/
structure St where
  kind : Int
  table : Bs
  name : Bs
  cols : List Col
  names : List Bs
  join : Bs
deriving DecidableEq
def named (s : Bs) : Bool := decide (1 ≤ s.length) && decide (s.length ≤ 12)
/-- the first place where p holds, or -1 -/
def pos {α : Type} (p : α → Bool) (l : List α) : Int := if l.findIdx p < l.length then (l.findIdx p : Int) else -1
def find (m : List Tab) (n : Bs) : Int := pos (fun t => t.name == n) m
def colOf (l : List Col) (n : Bs) : Int := pos (fun c => c.name == n) l
def dup (l : List Bs) : Bool := decide (¬ l.Nodup)
def createE (m : List Tab) (s : St) : Int :=
  if named s.table = false ∨ s.cols.length < 1 ∨ 6 < s.cols.length ∨ s.cols.any (fun c => !named c.name) = true then 1
  else if s.cols.any (fun c => c.kind != 1 && c.kind != 2) = true then 52
  else if dup (s.cols.map Col.name) = true ∨ 0 ≤ find m s.table then 51
  else if 8 ≤ m.length then 2 else 0
def create (m : List Tab) (s : St) : List Tab × Int :=
  if createE m s = 0 then (m ++ [⟨m.length + 1, s.table, s.cols, []⟩], 0) else (m, createE m s)
/-- the statement's index, its columns by the table t -/
def St.ix (s : St) (t : Tab) (root : Int) : Ix := ⟨s.name, s.names.map (colOf t.cols), root⟩
def indexE (m : List Tab) (s : St) (root : Int) : Int :=
  if named s.name = false ∨ s.names.length < 1 ∨ 6 < s.names.length ∨ root < 0 ∨ 400 ≤ root then 1
  else match m[(find m s.table).toNat]? with
    | none => 50
    | some t =>
      if find m s.table < 0 then 50
      else if s.names.any (fun n => colOf t.cols n == -1) = true then 50
      else if dup s.names = true ∨ m.any (fun t => t.ixs.any (fun x => x.name == s.name)) = true then 51
      else if 4 ≤ t.ixs.length then 2 else 0
/-- table i changed -/
abbrev setT (m : List Tab) (i : Nat) (f : Tab → Tab) : List Tab := m.modify i f
def index (m : List Tab) (s : St) (root : Int) : List Tab × Int :=
  if indexE m s root = 0 then (setT m (find m s.table).toNat (fun t => { t with ixs := t.ixs ++ [s.ix t root] }), 0) else (m, indexE m s root)
def renameE (m : List Tab) (s : St) : Int :=
  if named s.join = false then 1
  else match m[(find m s.table).toNat]? with
    | none => 50
    | some t =>
      if find m s.table < 0 then 50
      else if colOf t.cols s.name < 0 then 50
      else if 0 ≤ colOf t.cols s.join then 51 else 0
abbrev renCol (l : List Col) (i : Nat) (n : Bs) : List Col := l.modify i (fun c => { c with name := n })
def rename (m : List Tab) (s : St) : List Tab × Int :=
  if renameE m s = 0 then (setT m (find m s.table).toNat (fun t => { t with cols := renCol t.cols (colOf t.cols s.name).toNat s.join }), 0) else (m, renameE m s)
def doM (m : List Tab) (s : St) (root : Int) : List Tab × Int :=
  if s.kind = 1 then create m s else if s.kind = 2 then index m s root else if s.kind = 3 then rename m s else (m, 1)
/-- bytes -/
def Col.bytes (c : Col) : Bs := text c.name ++ be 1 c.kind.toNat
def Ix.bytes (x : Ix) : Bs := text x.name ++ be 1 x.cols.length ++ (x.cols.flatMap fun n => be 1 n.toNat) ++ be 2 x.root.toNat
def Tab.bytes (t : Tab) : Bs := text t.name ++ be 1 t.cols.length ++ t.cols.flatMap Col.bytes ++ be 1 t.ixs.length ++ t.ixs.flatMap Ix.bytes
def bytes (m : List Tab) : Bs := be 1 m.length ++ m.flatMap Tab.bytes
/-- what holds of every catalog -/
structure IxOk (n : Nat) (x : Ix) : Prop where
  name : named x.name = true
  pos : 1 ≤ x.cols.length
  le : x.cols.length ≤ 6
  nodup : x.cols.Nodup
  col : ∀ k ∈ x.cols, 0 ≤ k ∧ k < n
  root : 0 ≤ x.root ∧ x.root < 400
structure TabOk (t : Tab) : Prop where
  name : named t.name = true
  pos : 1 ≤ t.cols.length
  le : t.cols.length ≤ 6
  col : ∀ c ∈ t.cols, named c.name = true ∧ (c.kind = 1 ∨ c.kind = 2)
  nodup : (t.cols.map Col.name).Nodup
  ixs : t.ixs.length ≤ 4
  ix : ∀ x ∈ t.ixs, IxOk t.cols.length x
structure Ok (m : List Tab) : Prop where
  len : m.length ≤ 8
  ids : ∀ i (h : i < m.length), m[i].id = (i : Int) + 1
  nodup : (m.map Tab.name).Nodup
  tab : ∀ t ∈ m, TabOk t
  ixn : (m.flatMap fun t => t.ixs.map Ix.name).Nodup
theorem any_no {α : Type} {p : α → Bool} {l : List α} (h : ¬ l.any p = true) : ∀ x ∈ l, p x = false := by
  intro x hx
  cases hp : p x
  · rfl
  · exact absurd (List.any_eq_true.2 ⟨x, hx, hp⟩) h
theorem pos_lt {α : Type} {p : α → Bool} {l : List α} (h : l.findIdx p < l.length) : pos p l = (l.findIdx p : Int) := if_pos h
theorem pos_none {α : Type} {p : α → Bool} {l : List α} (h : ∀ x ∈ l, p x = false) : pos p l = -1 := by
  unfold pos
  rw [if_neg]
  rw [List.findIdx_lt_length]
  rintro ⟨x, hx, hp⟩
  rw [h x hx] at hp; cases hp
theorem pos_cases {α : Type} (p : α → Bool) (l : List α) : (pos p l = -1 ∧ ∀ x ∈ l, p x = false) ∨ ∃ (i : Nat) (h : i < l.length), pos p l = (i : Int) ∧ p l[i] = true ∧ ∀ j (hj : j < i), p l[j] = false := by
  by_cases h : l.findIdx p < l.length
  · refine .inr ⟨l.findIdx p, h, pos_lt h, List.findIdx_getElem, fun j hj => ?_⟩
    have := List.not_of_lt_findIdx hj
    simpa using this
  · refine .inl ⟨if_neg h, fun x hx => ?_⟩
    by_cases hp : p x = true
    · exact absurd (List.findIdx_lt_length.2 ⟨x, hx, hp⟩) h
    · simpa using hp
theorem pos_at {α : Type} {p : α → Bool} {l : List α} {i : Nat} (h : i < l.length) (hp : p l[i] = true) (hb : ∀ j (hj : j < i), p l[j] = false) : pos p l = (i : Int) := by
  rcases pos_cases p l with ⟨_, h2⟩ | ⟨k, hk, h1, h2, h3⟩
  · rw [h2 _ (List.getElem_mem h)] at hp; cases hp
  · rw [h1]
    rcases Nat.lt_trichotomy k i with g | g | g
    · rw [hb k g] at h2; cases h2
    · rw [g]
    · rw [h3 i g] at hp; cases hp
theorem do_err {m : List Tab} {s : St} {root : Int} (h : (doM m s root).2 ≠ 0) : (doM m s root).1 = m := by
  unfold doM create index rename at *
  split
  · split
    · rename_i h1 h2; rw [if_pos h1, if_pos h2] at h; exact absurd rfl h
    · rfl
  · split
    · split
      · rename_i h0 h1 h2; rw [if_neg h0, if_pos h1, if_pos h2] at h; exact absurd rfl h
      · rfl
    · split
      · split
        · rename_i h0 h1 h2 h3; rw [if_neg h0, if_neg h1, if_pos h2, if_pos h3] at h; exact absurd rfl h
        · rfl
      · rfl
end Go.VB.Cat
