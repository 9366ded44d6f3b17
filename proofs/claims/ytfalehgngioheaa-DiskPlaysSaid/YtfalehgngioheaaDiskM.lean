import Derived.Test.YtfalehgngioheaaBase
/- The model of a disk (plain Lean, no program in sight) and how it lies in memory. -/
set_option linter.unusedVariables false
namespace Go.VB.Disk
abbrev Bytes := List UInt8
structure Pg where
  safe : Bytes
  ws : List Bytes
structure DM where
  pages : List Pg
  log : Bytes
  flushed : Nat
  off : Bool
  armed : Bool
  left : Int
def blank : Bytes := List.replicate 512 0
def Pg.cur (p : Pg) : Bytes := p.ws.getLastD p.safe
def DM.new (n : Nat) : DM := { pages := List.replicate n ⟨blank, []⟩, log := [], flushed := 0, off := false, armed := false, left := 0 }
def DM.is (m : DM) (n : Int) : Bool := decide (0 ≤ n) && decide (n < m.pages.length)
def DM.read (m : DM) (n : Int) : Bytes × Int :=
  if m.off then ([], 24) else if m.is n then ((m.pages.getD n.toNat ⟨[], []⟩).cur, 0) else ([], 22)
def DM.safeOf (m : DM) (n : Int) : Bytes × Int :=
  if m.is n then ((m.pages.getD n.toNat ⟨[], []⟩).safe, 0) else ([], 22)
def DM.operate (m : DM) (wrong : Int) (f : DM → DM) : DM × Int :=
  if m.off then (m, 24) else if wrong ≠ 0 then (m, wrong)
  else if m.armed && decide (m.left ≤ 0) then ({ m with off := true }, 24)
  else (f { m with left := Go.RowKit.wrap64 (m.left - 1) }, 0)
def Pg.write (s : Bytes) (p : Pg) : Pg := { p with ws := p.ws ++ [s] }
def Pg.sync (p : Pg) : Pg := { safe := p.cur, ws := [] }
def DM.write (m : DM) (n : Int) (s : Bytes) : DM × Int :=
  m.operate (if m.is n then (if s.length = 512 then 0 else 1) else 22) fun m => { m with pages := m.pages.modify n.toNat (Pg.write s) }
def DM.sync (m : DM) : DM × Int := m.operate 0 fun m => { m with pages := m.pages.map Pg.sync }
def DM.append (m : DM) (s : Bytes) : DM × Int :=
  m.operate (if 1048576 < m.log.length + s.length then 31 else 0) fun m => { m with log := m.log ++ s }
def DM.flush (m : DM) : DM × Int := m.operate 0 fun m => { m with flushed := m.log.length }
def DM.cut (m : DM) (n : Int) : DM × Int :=
  m.operate (if n < 0 ∨ (m.log.length : Int) < n then 1 else 0) fun m => { m with log := m.log.take n.toNat, flushed := min m.flushed n.toNat }
def DM.arm (m : DM) (n : Int) : DM := { m with armed := decide (0 ≤ n), left := n }
/-- the next number of a crash, modulo n; what is left of the numbers -/
def takeQ (q : List Int) (n : Nat) : Nat := match q with | [] => 0 | x :: _ => (x % (n : Int)).toNat
def Pg.crash (p : Pg) (q : List Int) : Pg :=
  { safe := ((p.safe :: p.ws).getD (takeQ q (p.ws.length + 1)) []).take 256 ++ ((p.safe :: p.ws).getD (takeQ q.tail (p.ws.length + 1)) []).drop 256, ws := [] }
def crashPages : List Pg → List Int → List Pg × List Int
  | [], q => ([], q)
  | p :: ps, q =>
    if p.ws = [] then let r := crashPages ps q; (p :: r.1, r.2)
    else let r := crashPages ps q.tail.tail; (p.crash q :: r.1, r.2)
def DM.crash (m : DM) (q : List Int) : DM :=
  let r := crashPages m.pages q
  let f := m.flushed + takeQ r.2 (m.log.length - m.flushed + 1)
  { m with pages := r.1, flushed := f, log := m.log.take f, off := false, armed := false }
/-- what always holds; k bounds the number of pending writes -/
structure DM.Ok (m : DM) (k : Nat) : Prop where
  np : m.pages.length ≤ 400
  safe : ∀ p ∈ m.pages, p.safe.length = 512
  ws : ∀ p ∈ m.pages, ∀ s ∈ p.ws, s.length = 512
  few : ∀ p ∈ m.pages, p.ws.length ≤ k
  log : m.log.length ≤ 1048576
  fl : m.flushed ≤ m.log.length

/-- an owned row, its block in S -/
def OwnB (S : Nat → Prop) (w : World) (e : TypeId) (size : Nat) (v : Value) (n : Nat) (xs : List Value) : Prop :=
  w.ownsRow 0 e size v n xs ∧ ∀ k, v.ownBlock = some k → S k
theorem OwnB.fr {S R : Nat → Prop} {w w' : World} {e : TypeId} {size : Nat} {v : Value} {n : Nat} {xs : List Value} (h : OwnB S w e size v n xs) (hf : Fr R w w') (hd : ∀ k, v.ownBlock = some k → ¬ R k) : OwnB S w' e size v n xs := by
  refine ⟨⟨h.1.1, ?_⟩, h.2⟩
  rcases h.1.2 with hn | ⟨g, cap, cur, rfl, hb, hgg, rest⟩
  · exact .inl hn
  · exact .inr ⟨g, cap, cur, rfl, hb, by rw [hf.blk g (Array.getElem?_eq_some_iff.1 hgg).1 (hd g rfl)]; exact hgg, rest⟩
theorem OwnB.mono {S S' : Nat → Prop} {w : World} {e : TypeId} {size : Nat} {v : Value} {n : Nat} {xs : List Value} (h : OwnB S w e size v n xs) (hs : ∀ k, v.ownBlock = some k → S k → S' k) : OwnB S' w e size v n xs :=
  ⟨h.1, fun k hk => hs k hk (h.2 k hk)⟩
/-- the cells of the pages: each page's safe bytes and the slice of its pending writes -/
def pcells (ps : List (Bytes × Value)) : List Value := ps.flatMap fun p => bv p.1 ++ [p.2]
theorem pcells_length (L : List (Bytes × Value)) (h : ∀ p ∈ L, p.1.length = 512) : (pcells L).length = L.length * 513 := by
  induction L with
  | nil => rfl
  | cons p L ih =>
    have := ih fun q hq => h q (List.mem_cons_of_mem _ hq)
    have h1 := h p List.mem_cons_self
    simp only [pcells, List.flatMap_cons, List.length_append, bv_length, List.length_cons, List.length_nil] at this ⊢
    omega
theorem pcells_append (L M : List (Bytes × Value)) : pcells (L ++ M) = pcells L ++ pcells M := by simp [pcells]
theorem pcells_split (L : List (Bytes × Value)) (i : Nat) (p : Bytes × Value) (hi : L[i]? = some p) : pcells L = pcells (L.take i) ++ (bv p.1 ++ [p.2]) ++ pcells (L.drop (i + 1)) := by
  have hl : i < L.length := (List.getElem?_eq_some_iff.1 hi).1
  have hp : L[i] = p := (List.getElem?_eq_some_iff.1 hi).2
  conv => lhs; rw [← List.take_append_drop i L, List.drop_eq_getElem_cons hl, hp]
  rw [pcells_append]
  simp [pcells]
theorem pcells_take_length (L : List (Bytes × Value)) (h : ∀ p ∈ L, p.1.length = 512) (i : Nat) (hi : i ≤ L.length) : (pcells (L.take i)).length = i * 513 := by
  rw [pcells_length _ fun p hp => h p (List.mem_of_mem_take hp), List.length_take, Nat.min_eq_left hi]
theorem pcells_range {w : World} {b : Nat} {t : TypeId} {L : List (Bytes × Value)} (hb : Blk w b (pcells L) t) (h : ∀ p ∈ L, p.1.length = 512) (i : Nat) (p : Bytes × Value) (hi : L[i]? = some p) :
    w.rangeAt b (i * 513) (bv p.1 ++ [p.2]) := by
  have := hb.range (pcells (L.take i)) (bv p.1 ++ [p.2]) (pcells (L.drop (i + 1))) (pcells_split L i p hi)
  rwa [pcells_take_length L h i (Nat.le_of_lt (List.getElem?_eq_some_iff.1 hi).1)] at this
theorem rangeAt_left {w : World} {b o : Nat} {l m : List Value} (h : w.rangeAt b o (l ++ m)) : w.rangeAt b o l := fun j v hv => h j v (by rw [List.getElem?_append_left (List.getElem?_eq_some_iff.1 hv).1]; exact hv)
theorem rangeAt_right {w : World} {b o : Nat} {l m : List Value} (h : w.rangeAt b o (l ++ m)) (n : Nat) (hn : n = o + l.length) : w.rangeAt b n m := fun j v hv => by
  subst hn
  have := h (l.length + j) v (by rw [List.getElem?_append_right (by omega)]; simpa using hv)
  rwa [Nat.add_assoc]
theorem rangeAt_one {w : World} {b o : Nat} {v : Value} (h : w.rangeAt b o [v]) : w.cell? ⟨b, o, none⟩ = some v := by simpa using h 0 v rfl
theorem pcells_set (L : List (Bytes × Value)) (i : Nat) (s : Bytes) (v v' : Value) (hi : L[i]? = some (s, v)) (h : ∀ p ∈ L, p.1.length = 512) : (pcells L).set (i * 513 + 512) v' = pcells (L.set i (s, v')) := by
  have hl : i < L.length := (List.getElem?_eq_some_iff.1 hi).1
  have hs := h _ (List.mem_of_getElem? hi)
  have hi' : (L.set i (s, v'))[i]? = some (s, v') := by simp [hl]
  rw [pcells_split L i _ hi, pcells_split (L.set i (s, v')) i _ hi']
  have e1 : (L.set i (s, v')).take i = L.take i := by simp [List.take_set_of_le]
  have e2 : (L.set i (s, v')).drop (i + 1) = L.drop (i + 1) := List.drop_set_of_lt (by omega)
  rw [e1, e2]
  have l1 := pcells_take_length L h i (Nat.le_of_lt hl)
  dsimp only at hs ⊢
  rw [List.append_assoc, List.append_assoc, List.append_assoc, List.append_assoc, List.set_append_right _ _ (by omega), List.set_append_right _ _ (by rw [bv_length]; omega)]
  have : i * 513 + 512 - (pcells (L.take i)).length - (bv s).length = 0 := by rw [bv_length]; omega
  rw [this]
  rfl
end Go.VB.Disk
