import Derived.Test.YtgkfdlpijefgkaaGreatDoorCtSa
/- The reference's reading of a catalog, told by what is left to do (no program in sight). -/
set_option linter.unusedVariables false
namespace Go.VB.Cat
open Go.VB.Oct
/-- the reader stands before u and the whole result is f u, or it has failed and there is no result -/
def Cont {α : Type} (s0 : Bs) (r : RM) (f : Bs → Option α) (x : Option α) : Prop := (r.failed = true ∧ x = none) ∨ ∃ u, r.Has u ∧ r.s = s0 ∧ x = f u
theorem text_s (r : RM) : r.text.1.s = r.s := by
  have h : ((r.num 2).1.take (r.num 2).2).1.s = r.s := by
    rw [RM.take_s]
    show (r.take 2).1.s = r.s
    rw [RM.take_s]
  unfold RM.text
  dsimp only
  split
  · exact h
  · exact h
section
variable {s0 : Bs}
theorem Cont.bad {α : Type} {r : RM} {f : Bs → Option α} {x : Option α} (h : Cont s0 r f x) (hf : r.failed = true) : x = none := by
  rcases h with ⟨_, h⟩ | ⟨u, h, _, _⟩
  · exact h
  · rw [h.ok] at hf; cases hf
theorem Cont.good {α : Type} {r : RM} {f : Bs → Option α} {x : Option α} (h : Cont s0 r f x) (hf : r.failed = false) : ∃ u, r.Has u ∧ r.s = s0 ∧ x = f u := by
  rcases h with ⟨h, _⟩ | h
  · rw [h] at hf; cases hf
  · exact h
theorem Cont.of_bad {α : Type} {r : RM} {f : Bs → Option α} {x : Option α} (hf : r.failed = true) (hx : x = none) : Cont s0 r f x := .inl ⟨hf, hx⟩
theorem Cont.num {α : Type} {r : RM} {k : Nat} {g : Nat → Bs → Option α} {x : Option α} (h : Cont s0 r (fun t => match pNum k t with | none => none | some (n, u) => g n u) x) : Cont s0 (r.num k).1 (g (r.num k).2) x := by
  rcases h with ⟨h, hx⟩ | ⟨u, h, hs0, hx⟩
  · exact .inl ⟨num_fail h k, hx⟩
  · have hs := sim_num h k
    unfold SimR at hs
    dsimp only at hx
    cases hp : pNum k u with
    | none => rw [hp] at hs hx; exact .inl ⟨hs, hx⟩
    | some q =>
      obtain ⟨n, v⟩ := q
      rw [hp] at hs hx
      obtain ⟨h1, h2⟩ := hs
      exact .inr ⟨v, h1, (RM.take_s r k).trans hs0, by rw [hx, h2]⟩
theorem Cont.text {α : Type} {r : RM} {g : Bs → Bs → Option α} {x : Option α} (h : Cont s0 r (fun t => match pText t with | none => none | some (n, u) => g n u) x) : Cont s0 r.text.1 (g r.text.2) x := by
  rcases h with ⟨h, hx⟩ | ⟨u, h, hs0, hx⟩
  · exact .inl ⟨text_fail h, hx⟩
  · have hs := sim_text h
    unfold SimR at hs
    dsimp only at hx
    cases hp : pText u with
    | none => rw [hp] at hs hx; exact .inl ⟨hs, hx⟩
    | some q =>
      obtain ⟨n, v⟩ := q
      rw [hp] at hs hx
      obtain ⟨h1, h2⟩ := hs
      exact .inr ⟨v, h1, (text_s r).trans hs0, by rw [hx, h2]⟩
/-- an error is met -/
theorem Cont.fail {α : Type} {r : RM} {f g : Bs → Option α} {x : Option α} (h : Cont s0 r f x) (hf : ∀ u, f u = none) : Cont s0 { r with failed := true } g x := by
  rcases h with ⟨_, hx⟩ | ⟨u, _, _, hx⟩
  · exact .inl ⟨rfl, hx⟩
  · exact .inl ⟨rfl, hx.trans (hf u)⟩
theorem Cont.to {α : Type} {r : RM} {f g : Bs → Option α} {x : Option α} (h : Cont s0 r f x) (hf : ∀ u, f u = g u) : Cont s0 r g x := by
  rcases h with h | ⟨u, h, hs0, hx⟩
  · exact .inl h
  · exact .inr ⟨u, h, hs0, hx.trans (hf u)⟩
/-- what must records -/
def mustM (r : RM) (e : Int) : RM := if e = 0 then r else { r with failed := true }
theorem mustM_s (r : RM) (e : Int) : (mustM r e).s = r.s ∧ (mustM r e).at_ = r.at_ := by unfold mustM; split <;> exact ⟨rfl, rfl⟩
theorem Cont.must {α : Type} {r : RM} {p : List Tab × Int} {h : List Tab → Bs → Option α} {x : Option α} (c : Cont s0 r (fun u => match did p with | none => none | some m' => h m' u) x) : Cont s0 (mustM r p.2) (h p.1) x := by
  unfold mustM
  split
  · rename_i e
    refine c.to fun u => ?_
    unfold did
    rw [if_pos e]
  · rename_i e
    refine c.fail fun u => ?_
    unfold did
    rw [if_neg e]
theorem mustM_ok {r : RM} (ok : r.Ok) (e : Int) : (mustM r e).Ok := by
  unfold mustM
  split
  · exact ok
  · exact ⟨ok.le, ok.len⟩
/- loops, from the front -/
def fCols : Nat → List Col → Bs → Option (List Col × Bs)
  | 0, l, s => some (l, s)
  | j + 1, l, s => match pText s with
    | none => none
    | some (n, t) => match pNum 1 t with
      | none => none
      | some (k, u) => fCols j (l ++ [(⟨n, (k : Nat)⟩ : Col)]) u
theorem pCols_front (s : Bs) : ∀ n, pCols s n = fCols n [] s := by
  suffices h : ∀ n j, (match pCols s j with | none => none | some (l, t) => fCols n l t) = pCols s (j + n) by
    intro n
    have := h n 0
    rw [Nat.zero_add] at this
    rw [← this]
    rfl
  intro n
  induction n with
  | zero => intro j; cases hp : pCols s j with
    | none => simp
    | some q => simp [fCols]
  | succ n ih =>
    intro j
    have e : j + (n + 1) = (j + 1) + n := by omega
    rw [e, ← ih (j + 1)]
    show _ = (match (match pCols s j with | none => none | some (l, t) => match pCol t with | none => none | some (c, u) => some (l ++ [c], u)) with | none => none | some (l, t) => fCols n l t)
    cases hp : pCols s j with
    | none => rfl
    | some q =>
      obtain ⟨l, t⟩ := q
      dsimp only
      show (match pText t with | none => none | some (n', t') => match pNum 1 t' with | none => none | some (k, u) => fCols n (l ++ [(⟨n', (k : Nat)⟩ : Col)]) u) = _
      unfold pCol
      cases pText t with
      | none => rfl
      | some a =>
        obtain ⟨a1, a2⟩ := a
        dsimp only
        cases pNum 1 a2 with
        | none => rfl
        | some b => rfl
def fNames (cols : List Col) : Nat → List Bs → Bs → Option (List Bs × Bs)
  | 0, l, s => some (l, s)
  | j + 1, l, s => match pNum 1 s with
    | none => none
    | some (k, t) => match cols[k]? with
      | none => none
      | some c => fNames cols j (l ++ [c.name]) t
theorem pNames_front (cols : List Col) (s : Bs) : ∀ n, pNames cols s n = fNames cols n [] s := by
  suffices h : ∀ n j, (match pNames cols s j with | none => none | some (l, t) => fNames cols n l t) = pNames cols s (j + n) by
    intro n
    have := h n 0
    rw [Nat.zero_add] at this
    rw [← this]
    rfl
  intro n
  induction n with
  | zero => intro j; cases hp : pNames cols s j with
    | none => simp
    | some q => simp [fNames]
  | succ n ih =>
    intro j
    have e : j + (n + 1) = (j + 1) + n := by omega
    rw [e, ← ih (j + 1)]
    show _ = (match (match pNames cols s j with | none => none | some (l, t) => match pName cols t with | none => none | some (c, u) => some (l ++ [c], u)) with | none => none | some (l, t) => fNames cols n l t)
    cases hp : pNames cols s j with
    | none => rfl
    | some q =>
      obtain ⟨l, t⟩ := q
      dsimp only
      show (match pNum 1 t with | none => none | some (k, t') => match cols[k]? with | none => none | some c => fNames cols n (l ++ [c.name]) t') = _
      unfold pName
      cases pNum 1 t with
      | none => rfl
      | some a =>
        obtain ⟨a1, a2⟩ := a
        dsimp only
        cases cols[a1]? with
        | none => rfl
        | some b => rfl
def fIxs (tn : Bs) (cols : List Col) : Nat → List Tab → Bs → Option (List Tab × Bs)
  | 0, m, s => some (m, s)
  | j + 1, m, s => match pText s with
    | none => none
    | some (n, t) => match pNum 1 t with
      | none => none
      | some (k, u) => match fNames cols k [] u with
        | none => none
        | some (l, v) => match pNum 2 v with
          | none => none
          | some (root, x) => match did (doM m (stI tn n l) root) with
            | none => none
            | some m' => fIxs tn cols j m' x
theorem pIxs_front (tn : Bs) (cols : List Col) (m : List Tab) (s : Bs) : ∀ n, pIxs tn cols m s n = fIxs tn cols n m s := by
  suffices h : ∀ n j, (match pIxs tn cols m s j with | none => none | some (m', t) => fIxs tn cols n m' t) = pIxs tn cols m s (j + n) by
    intro n
    have := h n 0
    rw [Nat.zero_add] at this
    rw [← this]
    rfl
  intro n
  induction n with
  | zero => intro j; cases hp : pIxs tn cols m s j with
    | none => simp
    | some q => simp [fIxs]
  | succ n ih =>
    intro j
    have e : j + (n + 1) = (j + 1) + n := by omega
    rw [e, ← ih (j + 1)]
    show _ = (match (match pIxs tn cols m s j with | none => none | some (m', t) => pIx tn cols m' t) with | none => none | some (l, t) => fIxs tn cols n l t)
    cases hp : pIxs tn cols m s j with
    | none => rfl
    | some q =>
      obtain ⟨m1, t⟩ := q
      dsimp only
      unfold pIx
      show (match pText t with
        | none => none
        | some (n', t') => match pNum 1 t' with
          | none => none
          | some (k, u) => match fNames cols k [] u with
            | none => none
            | some (l, v) => match pNum 2 v with
              | none => none
              | some (root, x) => match did (doM m1 (stI tn n' l) root) with
                | none => none
                | some m' => fIxs tn cols n m' x) = _
      cases pText t with
      | none => rfl
      | some a =>
        obtain ⟨a1, a2⟩ := a
        dsimp only
        cases pNum 1 a2 with
        | none => rfl
        | some b =>
          obtain ⟨b1, b2⟩ := b
          dsimp only
          rw [pNames_front]
          cases fNames cols b1 [] b2 with
          | none => rfl
          | some c =>
            obtain ⟨c1, c2⟩ := c
            dsimp only
            cases pNum 2 c2 with
            | none => rfl
            | some d =>
              obtain ⟨d1, d2⟩ := d
              dsimp only
              cases did (doM m1 (stI tn a1 c1) d1) with
              | none => rfl
              | some _ => rfl
/-- what is left of a table, and the tables behind it -/
def fTabs : Nat → List Tab → Bs → Option (List Tab × Bs)
  | 0, m, s => some (m, s)
  | j + 1, m, s => match pText s with
    | none => none
    | some (n, t) => match pNum 1 t with
      | none => none
      | some (k, u) => match fCols k [] u with
        | none => none
        | some (l, v) => match did (doM m (stT n l) 0) with
          | none => none
          | some m' => match pNum 1 v with
            | none => none
            | some (q, x) => match fIxs n l q m' x with
              | none => none
              | some (m'', y) => fTabs j m'' y
theorem pTabs_front (s : Bs) : ∀ n, pTabs s n = fTabs n [] s := by
  suffices h : ∀ n j, (match pTabs s j with | none => none | some (m', t) => fTabs n m' t) = pTabs s (j + n) by
    intro n
    have := h n 0
    rw [Nat.zero_add] at this
    rw [← this]
    rfl
  intro n
  induction n with
  | zero => intro j; cases hp : pTabs s j with
    | none => simp
    | some q => simp [fTabs]
  | succ n ih =>
    intro j
    have e : j + (n + 1) = (j + 1) + n := by omega
    rw [e, ← ih (j + 1)]
    show _ = (match (match pTabs s j with | none => none | some (m', t) => pTab m' t) with | none => none | some (l, t) => fTabs n l t)
    cases hp : pTabs s j with
    | none => rfl
    | some q =>
      obtain ⟨m1, t⟩ := q
      dsimp only
      unfold pTab
      show (match pText t with
        | none => none
        | some (n', t') => match pNum 1 t' with
          | none => none
          | some (k, u) => match fCols k [] u with
            | none => none
            | some (l, v) => match did (doM m1 (stT n' l) 0) with
              | none => none
              | some m' => match pNum 1 v with
                | none => none
                | some (q, x) => match fIxs n' l q m' x with
                  | none => none
                  | some (m'', y) => fTabs n m'' y) = _
      cases pText t with
      | none => rfl
      | some a =>
        obtain ⟨a1, a2⟩ := a
        dsimp only
        cases pNum 1 a2 with
        | none => rfl
        | some b =>
          obtain ⟨b1, b2⟩ := b
          dsimp only
          rw [pCols_front]
          cases fCols b1 [] b2 with
          | none => rfl
          | some c =>
            obtain ⟨c1, c2⟩ := c
            dsimp only
            cases did (doM m1 (stT a1 c1) 0) with
            | none => rfl
            | some m2 =>
              dsimp only
              cases pNum 1 c2 with
              | none => rfl
              | some d =>
                obtain ⟨d1, d2⟩ := d
                dsimp only
                rw [pIxs_front]
/-- the whole -/
def endP (m : List Tab) (u : Bs) : Option (List Tab) := if u = [] then some m else none
/-- behind a table's indexes -/
def kTabs (j : Nat) (m : List Tab) (u : Bs) : Option (List Tab) := match fTabs j m u with | none => none | some (m', v) => endP m' v
def kIxs (j : Nat) (tn : Bs) (cols : List Col) (q : Nat) (m : List Tab) (u : Bs) : Option (List Tab) := match fIxs tn cols q m u with | none => none | some (m', v) => kTabs j m' v
def kRoot (j : Nat) (tn : Bs) (cols : List Col) (q : Nat) (m : List Tab) (n : Bs) (l : List Bs) (u : Bs) : Option (List Tab) :=
  match pNum 2 u with | none => none | some (root, x) => match did (doM m (stI tn n l) (root : Nat)) with | none => none | some m' => kIxs j tn cols q m' x
def kNames (j : Nat) (tn : Bs) (cols : List Col) (q : Nat) (m : List Tab) (n : Bs) (k : Nat) (l : List Bs) (u : Bs) : Option (List Tab) := match fNames cols k l u with | none => none | some (l', v) => kRoot j tn cols q m n l' v
def kCols (j : Nat) (m : List Tab) (n : Bs) (k : Nat) (l : List Col) (u : Bs) : Option (List Tab) :=
  match fCols k l u with | none => none | some (l', v) => match did (doM m (stT n l') 0) with | none => none | some m' => match pNum 1 v with | none => none | some (q, x) => kIxs j n l' q m' x
theorem parse_k (s : Bs) : parse s = match pNum 1 s with | none => none | some (n, t) => kTabs n [] t := by
  unfold parse kTabs
  cases pNum 1 s with
  | none => rfl
  | some a =>
    obtain ⟨a1, a2⟩ := a
    dsimp only
    rw [pTabs_front]
    cases fTabs a1 [] a2 with
    | none => rfl
    | some _ => rfl
theorem kTabs_zero (m : List Tab) (u : Bs) : kTabs 0 m u = endP m u := rfl
theorem kTabs_succ (j : Nat) (m : List Tab) (u : Bs) : kTabs (j + 1) m u = match pText u with | none => none | some (n, t) => match pNum 1 t with | none => none | some (k, v) => kCols j m n k [] v := by
  unfold kTabs kCols
  show (match (match pText u with
    | none => none
    | some (n, t) => match pNum 1 t with
      | none => none
      | some (k, u) => match fCols k [] u with
        | none => none
        | some (l, v) => match did (doM m (stT n l) 0) with
          | none => none
          | some m' => match pNum 1 v with
            | none => none
            | some (q, x) => match fIxs n l q m' x with
              | none => none
              | some (m'', y) => fTabs j m'' y) with | none => none | some (m', v) => endP m' v) = _
  cases pText u with
  | none => rfl
  | some a =>
    obtain ⟨a1, a2⟩ := a
    dsimp only
    cases pNum 1 a2 with
    | none => rfl
    | some b =>
      obtain ⟨b1, b2⟩ := b
      dsimp only
      cases fCols b1 [] b2 with
      | none => rfl
      | some c =>
        obtain ⟨c1, c2⟩ := c
        dsimp only
        cases did (doM m (stT a1 c1) 0) with
        | none => rfl
        | some m2 =>
          dsimp only
          cases pNum 1 c2 with
          | none => rfl
          | some d =>
            obtain ⟨d1, d2⟩ := d
            dsimp only
            unfold kIxs kTabs
            cases fIxs a1 c1 d1 m2 d2 with
            | none => rfl
            | some _ => rfl
theorem kCols_zero (j : Nat) (m : List Tab) (n : Bs) (l : List Col) (u : Bs) : kCols j m n 0 l u = match did (doM m (stT n l) 0) with | none => none | some m' => match pNum 1 u with | none => none | some (q, x) => kIxs j n l q m' x := rfl
theorem kCols_succ (j : Nat) (m : List Tab) (n : Bs) (k : Nat) (l : List Col) (u : Bs) : kCols j m n (k + 1) l u = match pText u with | none => none | some (c, t) => match pNum 1 t with | none => none | some (q, v) => kCols j m n k (l ++ [(⟨c, (q : Nat)⟩ : Col)]) v := by
  unfold kCols
  show (match (match pText u with
    | none => none
    | some (n, t) => match pNum 1 t with
      | none => none
      | some (q, u) => fCols k (l ++ [(⟨n, (q : Nat)⟩ : Col)]) u) with | none => none | some (l', v) => match did (doM m (stT n l') 0) with | none => none | some m' => match pNum 1 v with | none => none | some (q, x) => kIxs j n l' q m' x) = _
  cases pText u with
  | none => rfl
  | some a =>
    obtain ⟨a1, a2⟩ := a
    dsimp only
    cases pNum 1 a2 with
    | none => rfl
    | some b => rfl
theorem kIxs_zero (j : Nat) (tn : Bs) (cols : List Col) (m : List Tab) (u : Bs) : kIxs j tn cols 0 m u = kTabs j m u := rfl
theorem kIxs_succ (j : Nat) (tn : Bs) (cols : List Col) (q : Nat) (m : List Tab) (u : Bs) : kIxs j tn cols (q + 1) m u = match pText u with | none => none | some (n, t) => match pNum 1 t with | none => none | some (k, v) => kNames j tn cols q m n k [] v := by
  unfold kIxs kNames kRoot
  show (match (match pText u with
    | none => none
    | some (n, t) => match pNum 1 t with
      | none => none
      | some (k, u) => match fNames cols k [] u with
        | none => none
        | some (l, v) => match pNum 2 v with
          | none => none
          | some (root, x) => match did (doM m (stI tn n l) root) with
            | none => none
            | some m' => fIxs tn cols q m' x) with | none => none | some (m', v) => kTabs j m' v) = _
  cases pText u with
  | none => rfl
  | some a =>
    obtain ⟨a1, a2⟩ := a
    dsimp only
    cases pNum 1 a2 with
    | none => rfl
    | some b =>
      obtain ⟨b1, b2⟩ := b
      dsimp only
      cases fNames cols b1 [] b2 with
      | none => rfl
      | some c =>
        obtain ⟨c1, c2⟩ := c
        dsimp only
        cases pNum 2 c2 with
        | none => rfl
        | some d =>
          obtain ⟨d1, d2⟩ := d
          dsimp only
          cases did (doM m (stI tn a1 c1) d1) with
          | none => rfl
          | some _ => rfl
theorem kNames_zero (j : Nat) (tn : Bs) (cols : List Col) (q : Nat) (m : List Tab) (n : Bs) (l : List Bs) (u : Bs) : kNames j tn cols q m n 0 l u = kRoot j tn cols q m n l u := rfl
theorem kNames_succ (j : Nat) (tn : Bs) (cols : List Col) (q : Nat) (m : List Tab) (n : Bs) (k : Nat) (l : List Bs) (u : Bs) : kNames j tn cols q m n (k + 1) l u = match pNum 1 u with | none => none | some (i, t) => match cols[i]? with | none => none | some c => kNames j tn cols q m n k (l ++ [c.name]) t := by
  unfold kNames
  show (match (match pNum 1 u with
    | none => none
    | some (k', t) => match cols[k']? with
      | none => none
      | some c => fNames cols k (l ++ [c.name]) t) with | none => none | some (l', v) => kRoot j tn cols q m n l' v) = _
  cases pNum 1 u with
  | none => rfl
  | some a =>
    obtain ⟨a1, a2⟩ := a
    dsimp only
    cases cols[a1]? with
    | none => rfl
    | some _ => rfl
/- the steps, as the walk takes them -/
theorem cont_start (s : Bs) : Cont s ((RM.new s).num 1).1 (kTabs ((RM.new s).num 1).2 []) (parse s) :=
  Cont.num (.inr ⟨s, RM.Has.new s, rfl, parse_k s⟩)
theorem cont_tab {r : RM} {j : Nat} {m : List Tab} {x : Option (List Tab)} (h : Cont s0 r (kTabs (j + 1) m) x) : Cont s0 (r.text.1.num 1).1 (kCols j m r.text.2 (r.text.1.num 1).2 []) x := by
  have h1 : Cont s0 r.text.1 _ x := Cont.text (g := fun n t => match pNum 1 t with | none => none | some (k, v) => kCols j m n k [] v) (h.to (kTabs_succ j m))
  exact Cont.num (g := fun k v => kCols j m r.text.2 k [] v) h1
theorem cont_col {r : RM} {j : Nat} {m : List Tab} {n : Bs} {k : Nat} {l : List Col} {x : Option (List Tab)} (h : Cont s0 r (kCols j m n (k + 1) l) x) : Cont s0 (r.text.1.num 1).1 (kCols j m n k (l ++ [(⟨r.text.2, ((r.text.1.num 1).2 : Nat)⟩ : Col)])) x := by
  have h1 : Cont s0 r.text.1 _ x := Cont.text (g := fun c t => match pNum 1 t with | none => none | some (q, v) => kCols j m n k (l ++ [(⟨c, (q : Nat)⟩ : Col)]) v) (h.to (kCols_succ j m n k l))
  exact Cont.num (g := fun q v => kCols j m n k (l ++ [(⟨r.text.2, (q : Nat)⟩ : Col)]) v) h1
theorem cont_made {r : RM} {j : Nat} {m : List Tab} {n : Bs} {l : List Col} {x : Option (List Tab)} (h : Cont s0 r (kCols j m n 0 l) x) :
    Cont s0 ((mustM r (doM m (stT n l) 0).2).num 1).1 (kIxs j n l ((mustM r (doM m (stT n l) 0).2).num 1).2 (doM m (stT n l) 0).1) x := by
  have h1 : Cont s0 (mustM r (doM m (stT n l) 0).2) _ x := Cont.must (h := fun m' u => match pNum 1 u with | none => none | some (q, x) => kIxs j n l q m' x) (h.to (kCols_zero j m n l))
  exact Cont.num (g := fun q v => kIxs j n l q (doM m (stT n l) 0).1 v) h1
theorem cont_ix {r : RM} {j : Nat} {tn : Bs} {cols : List Col} {q : Nat} {m : List Tab} {x : Option (List Tab)} (h : Cont s0 r (kIxs j tn cols (q + 1) m) x) : Cont s0 (r.text.1.num 1).1 (kNames j tn cols q m r.text.2 (r.text.1.num 1).2 []) x := by
  have h1 : Cont s0 r.text.1 _ x := Cont.text (g := fun n t => match pNum 1 t with | none => none | some (k, v) => kNames j tn cols q m n k [] v) (h.to (kIxs_succ j tn cols q m))
  exact Cont.num (g := fun k v => kNames j tn cols q m r.text.2 k [] v) h1
theorem cont_name {r : RM} {j : Nat} {tn : Bs} {cols : List Col} {q : Nat} {m : List Tab} {n : Bs} {k : Nat} {l : List Bs} {x : Option (List Tab)} (h : Cont s0 r (kNames j tn cols q m n (k + 1) l) x) {c : Col} (hc : cols[(r.num 1).2]? = some c) :
    Cont s0 (r.num 1).1 (kNames j tn cols q m n k (l ++ [c.name])) x := by
  have h1 : Cont s0 (r.num 1).1 _ x := Cont.num (g := fun i t => match cols[i]? with | none => none | some c => kNames j tn cols q m n k (l ++ [c.name]) t) (h.to (kNames_succ j tn cols q m n k l))
  refine h1.to fun u => ?_
  rw [hc]
theorem cont_noname {r : RM} {j : Nat} {tn : Bs} {cols : List Col} {q : Nat} {m : List Tab} {n : Bs} {k : Nat} {l : List Bs} {x : Option (List Tab)} (h : Cont s0 r (kNames j tn cols q m n (k + 1) l) x) (hc : cols[(r.num 1).2]? = none) (g : Bs → Option (List Tab)) :
    Cont s0 { (r.num 1).1 with failed := true } g x := by
  have h1 : Cont s0 (r.num 1).1 _ x := Cont.num (g := fun i t => match cols[i]? with | none => none | some c => kNames j tn cols q m n k (l ++ [c.name]) t) (h.to (kNames_succ j tn cols q m n k l))
  refine h1.fail fun u => ?_
  rw [hc]
theorem cont_ixed {r : RM} {j : Nat} {tn : Bs} {cols : List Col} {q : Nat} {m : List Tab} {n : Bs} {l : List Bs} {x : Option (List Tab)} (h : Cont s0 r (kNames j tn cols q m n 0 l) x) :
    Cont s0 (mustM (r.num 2).1 (doM m (stI tn n l) ((r.num 2).2 : Nat)).2) (kIxs j tn cols q (doM m (stI tn n l) ((r.num 2).2 : Nat)).1) x := by
  have h1 : Cont s0 (r.num 2).1 _ x := Cont.num (g := fun root x => match did (doM m (stI tn n l) (root : Nat)) with | none => none | some m' => kIxs j tn cols q m' x) (h.to (kNames_zero j tn cols q m n l))
  exact Cont.must (h := fun m' u => kIxs j tn cols q m' u) h1
theorem cont_tabbed {r : RM} {j : Nat} {tn : Bs} {cols : List Col} {m : List Tab} {x : Option (List Tab)} (h : Cont s0 r (kIxs j tn cols 0 m) x) : Cont s0 r (kTabs j m) x := h
/-- a loop is left at its end or at a failure -/
theorem cont_exit {α : Type} {r : RM} {f : Nat → Bs → Option α} {k : Nat} {x : Option α} (h : Cont s0 r (f k) x) (he : k = 0 ∨ r.failed = true) : Cont s0 r (f 0) x := by
  rcases he with rfl | he
  · exact h
  · exact .inl ⟨he, h.bad he⟩
theorem cont_end {r : RM} {m : List Tab} {x : Option (List Tab)} (h : Cont s0 r (kTabs 0 m) x) (hr : r.Ok) : x = if r.failed = true ∨ r.at_ < s0.length then none else some m := by
  rcases h with ⟨h, hx⟩ | ⟨u, h, hs0, hx⟩
  · rw [if_pos (.inl h), hx]
  · rw [hx, kTabs_zero]
    unfold endP
    rw [← hs0]
    have hl := h.left
    unfold RM.left at hl
    by_cases hu : u = []
    · rw [if_pos hu, if_neg]
      rintro (g | g)
      · rw [h.ok] at g; cases g
      · have h1 : u.length = 0 := by rw [hu]; rfl
        omega
    · have h0 : 0 < u.length := List.length_pos_iff.2 hu
      have hlt : r.at_ < r.s.length := by omega
      rw [if_neg hu, if_pos (.inr hlt)]
end
end Go.VB.Cat
/- The reference's reader: numbers and texts. -/
namespace Go.Proofs.YtgkfdlpijefgkaaGreatDoor
open Go.RowKit Go.VB Go.VB.Oct Go.VB.Rec
theorem wrap64_eq (n : Int) : wrap64 n = IntKind.i64.wrap n := by rw [IntKind.wrap_i64]; unfold wrap64; omega
theorem bs_get (s : List UInt8) {j : Nat} (h : j < s.length) {k : Nat} (hk : s[j].toNat = k) : ((bs s)[j]'(by rw [bs_size]; exact h)).toNat = k := by
  have : (bs s)[j]'(by rw [bs_size]; exact h) = s[j] := by simp [bs]; rfl
  rw [this, hk]
/-- the reference's reader at p stands where rm does -/
structure R14 (w : World) (p a : Nat) (rm : RM) : Prop where
  blk : Blk w p [.string (bs rm.s), .int .i64 a, .bool rm.failed] 134
  at_ : rm.failed = false → a = rm.at_
theorem R14.fr {S : Nat → Prop} {w w' : World} {p a : Nat} {rm : RM} (h : R14 w p a rm) (f : Fr S w w') (hS : ¬ S p) : R14 w' p a rm := ⟨h.blk.fr f hS, h.at_⟩
theorem R14.fre {w w' : World} {p a : Nat} {rm : RM} (h : R14 w p a rm) (f : Fr (fun _ => False) w w') : R14 w' p a rm := ⟨Blk.fr h.blk f (fun h => h), h.at_⟩
/-- the reader's three cells -/
structure R14C (w : World) (p : Nat) (s : List UInt8) (a : Nat) (b : Bool) : Prop where
  c0 : w.cell? ⟨p, 0, none⟩ = some (.string (bs s))
  c1 : w.cell? ⟨p, 1, none⟩ = some (.int .i64 a)
  c2 : w.cell? ⟨p, 2, none⟩ = some (.bool b)
theorem num_bad {rm : RM} (hf : rm.failed = false) {k : Nat} (h : rm.left < k) : rm.num k = ({ rm with failed := true }, 0) := by
  unfold RM.num RM.take RM.bad
  rw [if_pos (by rw [hf]; simpa using h)]
  rfl
theorem num_good {rm : RM} (hf : rm.failed = false) {k : Nat} (h : ¬ rm.left < k) : rm.num k = ({ rm with at_ := rm.at_ + k }, num ((rm.s.drop rm.at_).take k)) := by
  unfold RM.num RM.take RM.bad
  rw [if_neg (by rw [hf]; simpa using h)]
set_option maxRecDepth 20000 in
set_option maxHeartbeats 8000000 in
theorem r14num_go {w : World} {p a : Nat} {rm : RM} (h : R14 w p a rm) (ok : rm.Ok) (k : Nat) (hk : k ≤ 4) : Calls Tryz.prog 80 #[.pointer (some ⟨p, 0, none⟩), .int .i64 k] w fun e w' => e = .returned (.int .i64 (rm.num k).2) ∧ (∃ a', R14 w' p a' (rm.num k).1) ∧ Fr (fun b => b = p) w w' := by
  obtain ⟨s, at_, f⟩ := rm
  obtain ⟨hle, hlen⟩ := ok
  have HB := hid h.blk
  have HAT := hid h.at_
  dsimp only at HB HAT hle hlen
  have e1 := bs_size s
  clear h
  have C0 : Hid (R14C w.drew p s a f) := hid ⟨HB.out.drew.cell 0, HB.out.drew.cell 1, HB.out.drew.cell 2⟩
  cases f with
  | true =>
    rw [RM.num_failed (r := ⟨s, at_, true⟩) rfl]
    have HS := hid (HB.out.set 2 (.bool true)).drew
    have c2 : w.drew.cell? ⟨p, 2, none⟩ = some (.bool true) := C0.out.c2
    have z2 := HB.out.drew.frozen 2
    have FS := hid ((Fr.refl (fun b => b = p) w).setCell ⟨p, 2, none⟩ (.bool true) (fun _ => rfl)).drew
    go_enter Tryz.func80, Tryz.ntmps80
    go_wp2_with (fail)
    refine wp_region_scr (.take 0 (.take 1 (.take 2 (.take 3 (.take 4 (.take 5 (.take 6 (.take 7 (.take 8 (.take 9 (.take 10 (.take 11 (.take 12 (.take 13 (.take 14 (.take 15 (.take 16 (.take 17 .done)))))))))))))))))) (fun kz w => (kz ≤ 18 → R14C w p s a true) ∧ True) (by kernel_rfl) (by kernel_rfl) (by intro c a d v w h; cases d <;> exact h) ?_
    repeat
      first
      | (refine wpT_pure rfl rfl rfl ?_; apply Exists.intro; refine ⟨?_, ?_⟩; intro w; (first | (obtain ⟨z0, z1, z2⟩ := qa; go_simp <;> rfl) | (go_simp <;> rfl)); simp only [Act.put, List.setIfInBounds_toArray, List.set_cons_zero, List.set_cons_succ])
      | (refine wpT_take 18 rfl rfl (by decide +kernel) ⟨fun _ => C0.out, trivial⟩ ?_; apply Exists.intro; refine ⟨?_, ?_⟩; intro w hw; (have qa := hw.1 (Nat.le_refl _); have qb := hw.2); (first | (obtain ⟨z0, z1, z2⟩ := qa; go_simp <;> rfl) | (go_simp <;> rfl)); simp only [Act.put, List.setIfInBounds_toArray, List.set_cons_zero, List.set_cons_succ])
      | (refine wpT_skip rfl rfl ?_; simp only [Act.put, List.setIfInBounds_toArray, List.set_cons_zero, List.set_cons_succ])
    refine wpT_nil ?_
    go_wp2_with (fail)
    go_ret
    exact ⟨rfl, ⟨a, HS.out, fun h => by simp at h⟩, FS.out⟩
  | false =>
    obtain rfl : a = at_ := HAT.out rfl
    clear HAT
    have i0 : (0 : Int) ≤ (a : Int) := by omega
    by_cases hsh : s.length - a < k
    · rw [num_bad (rm := ⟨s, a, false⟩) rfl hsh]
      have HS := hid (HB.out.set 2 (.bool true)).drew
      have c2 : w.drew.cell? ⟨p, 2, none⟩ = some (.bool false) := C0.out.c2
      have z2 := HB.out.drew.frozen 2
      have FS := hid ((Fr.refl (fun b => b = p) w).setCell ⟨p, 2, none⟩ (.bool true) (fun _ => rfl)).drew
      have i1 : (s.length : Int) < (a : Int) + (k : Int) := by omega
      have HWA := hid (show wrap64 ((a : Int) + (k : Int)) = ((a + k : Nat) : Int) from by unfold wrap64; omega)
      have HWB := hid (show IntKind.i64.wrap ((a : Int) + (k : Int)) = ((a + k : Nat) : Int) from by rw [← wrap64_eq]; exact HWA.out)
      have hdec : decide ((s.length : Int) < ((a + k : Nat) : Int)) = true := decide_eq_true (by omega)
      have hdec2 : decide (s.length < a + k) = true := decide_eq_true (by omega)
      go_enter Tryz.func80, Tryz.ntmps80
      go_wp2_with (fail)
      refine wp_region_scr (.take 0 (.take 1 (.take 2 (.take 3 (.take 4 (.take 5 (.take 6 (.take 7 (.take 8 (.take 9 (.take 10 (.take 11 (.take 12 (.take 13 (.take 14 (.take 15 (.take 16 (.take 17 .done)))))))))))))))))) (fun kz w => (kz ≤ 18 → R14C w p s a false) ∧ True) (by kernel_rfl) (by kernel_rfl) (by intro c a d v w h; cases d <;> exact h) ?_
      repeat
        first
        | (refine wpT_pure rfl rfl rfl ?_; apply Exists.intro; refine ⟨?_, ?_⟩; intro w; (first | (first | (refine Eq.trans (b := Result.ok (Next.value (.int .i64 ((a + k : Nat) : Int))) w) ?_ rfl; go_simp; first | exact HWB.out | rw [HWB.out] | exact HWA.out | rw [HWA.out]) | (obtain ⟨z0, z1, z2⟩ := qa; go_simp <;> rfl)) | (go_simp <;> rfl)); simp only [Act.put, List.setIfInBounds_toArray, List.set_cons_zero, List.set_cons_succ])
        | (refine wpT_take 18 rfl rfl (by decide +kernel) ⟨fun _ => C0.out, trivial⟩ ?_; apply Exists.intro; refine ⟨?_, ?_⟩; intro w hw; (have qa := hw.1 (Nat.le_refl _); have qb := hw.2); (first | (first | (refine Eq.trans (b := Result.ok (Next.value (.int .i64 ((a + k : Nat) : Int))) w) ?_ rfl; go_simp; first | exact HWB.out | rw [HWB.out] | exact HWA.out | rw [HWA.out]) | (obtain ⟨z0, z1, z2⟩ := qa; go_simp <;> rfl)) | (go_simp <;> rfl)); simp only [Act.put, List.setIfInBounds_toArray, List.set_cons_zero, List.set_cons_succ])
        | (refine wpT_skip rfl rfl ?_; simp only [Act.put, List.setIfInBounds_toArray, List.set_cons_zero, List.set_cons_succ])
      refine wpT_nil ?_
      go_wp2_with (fail)
      go_ret
      exact ⟨rfl, ⟨a, HS.out, fun h => by simp at h⟩, FS.out⟩
    · rw [num_good (rm := ⟨s, a, false⟩) rfl hsh]
      have i1 : ¬ (s.length : Int) < (a : Int) + (k : Int) := by omega
      have HWA := hid (show wrap64 ((a : Int) + (k : Int)) = ((a + k : Nat) : Int) from by unfold wrap64; omega)
      have HWB := hid (show IntKind.i64.wrap ((a : Int) + (k : Int)) = ((a + k : Nat) : Int) from by rw [← wrap64_eq]; exact HWA.out)
      have hdec : decide ((s.length : Int) < ((a + k : Nat) : Int)) = false := decide_eq_false (by omega)
      have hdec2 : decide (s.length < a + k) = false := decide_eq_false (by omega)
      have HSH := hid hsh
      clear hsh
      go_enter Tryz.func80, Tryz.ntmps80
      go_wp2_with (fail)
      refine wp_region_scr (.take 0 (.take 1 (.take 2 (.take 3 (.take 4 (.take 5 (.take 6 (.take 7 (.take 8 (.take 9 (.take 10 (.take 11 (.take 12 (.take 13 (.take 14 (.take 15 (.take 16 (.take 17 .done)))))))))))))))))) (fun kz w => (kz ≤ 18 → R14C w p s a false) ∧ True) (by kernel_rfl) (by kernel_rfl) (by intro c a d v w h; cases d <;> exact h) ?_
      repeat
        first
        | (refine wpT_pure rfl rfl rfl ?_; apply Exists.intro; refine ⟨?_, ?_⟩; intro w; (first | (first | (refine Eq.trans (b := Result.ok (Next.value (.int .i64 ((a + k : Nat) : Int))) w) ?_ rfl; go_simp; first | exact HWB.out | rw [HWB.out] | exact HWA.out | rw [HWA.out]) | (obtain ⟨z0, z1, z2⟩ := qa; go_simp <;> rfl)) | (go_simp <;> rfl)); simp only [Act.put, List.setIfInBounds_toArray, List.set_cons_zero, List.set_cons_succ])
        | (refine wpT_take 18 rfl rfl (by decide +kernel) ⟨fun _ => C0.out, trivial⟩ ?_; apply Exists.intro; refine ⟨?_, ?_⟩; intro w hw; (have qa := hw.1 (Nat.le_refl _); have qb := hw.2); (first | (first | (refine Eq.trans (b := Result.ok (Next.value (.int .i64 ((a + k : Nat) : Int))) w) ?_ rfl; go_simp; first | exact HWB.out | rw [HWB.out] | exact HWA.out | rw [HWA.out]) | (obtain ⟨z0, z1, z2⟩ := qa; go_simp <;> rfl)) | (go_simp <;> rfl)); simp only [Act.put, List.setIfInBounds_toArray, List.set_cons_zero, List.set_cons_succ])
        | (refine wpT_skip rfl rfl ?_; simp only [Act.put, List.setIfInBounds_toArray, List.set_cons_zero, List.set_cons_succ])
      refine wpT_nil ?_
      go_wp2_with (fail)
      clear hdec hdec2 i1 C0
      go_loopw [5, 6] (fun n5 i wr => ∃ j : Nat, j ≤ k ∧ n5 = .int .i64 (num ((s.drop a).take j) : Int) ∧ i = .int .i64 j ∧ Fr (fun _ => False) w wr) (fun _ i _ => k - (intOf i).toNat)
      case atStart => exact ⟨0, by omega, rfl, rfl, (Fr.refl _ w).drew⟩
      case round =>
        obtain ⟨j, hj, rfl, rfl, fr⟩ := hrel
        have FR := hid fr
        have HBR := hid (Blk.fr HB.out fr (fun h => h))
        clear fr
        by_cases hjk : j < k
        · obtain ⟨y, hy⟩ : ∃ y, y = a + j := ⟨_, rfl⟩
          have hai : y < s.length := by have := HSH.out; omega
          have hti : ((s.drop a).take (j + 1)) = (s.drop a).take j ++ [s[y]] := by
            rw [List.take_succ_eq_append_getElem (by rw [List.length_drop]; omega)]
            congr 2
            rw [List.getElem_drop]
            simp only [hy]
          have hnl := num_lt ((s.drop a).take j)
          have hpl : 256 ^ ((s.drop a).take j).length ≤ 256 ^ 4 := Nat.pow_le_pow_right (by omega) (by rw [List.length_take]; omega)
          have hns : num ((s.drop a).take (j + 1)) = num ((s.drop a).take j) * 256 + s[y].toNat := by rw [hti, num_snoc]
          have HNS := hid hns
          have hkb := bs_get s hai rfl
          have hkb256 := s[y].toNat_lt
          generalize num ((s.drop a).take j) = N at *
          generalize s[y].toNat = kb at *
          have hN : N < 4294967296 := by omega
          have HM1 := hid (show wrap64 ((N : Int) * 256) = ((N * 256 : Nat) : Int) from by unfold wrap64; omega)
          have HM2 := hid (show IntKind.i64.wrap ((N : Int) * 256) = ((N * 256 : Nat) : Int) from by rw [← wrap64_eq]; exact HM1.out)
          have HM3 := hid (show wrap64 (((N * 256 : Nat) : Int) + (kb : Int)) = ((N * 256 + kb : Nat) : Int) from by unfold wrap64; omega)
          have HM4 := hid (show IntKind.i64.wrap (((N * 256 : Nat) : Int) + (kb : Int)) = ((N * 256 + kb : Nat) : Int) from by rw [← wrap64_eq]; exact HM3.out)
          have HY1 := hid (show wrap64 ((a : Int) + (j : Int)) = (y : Int) from by unfold wrap64; omega)
          have HY2 := hid (show IntKind.i64.wrap ((a : Int) + (j : Int)) = (y : Int) from by rw [← wrap64_eq]; exact HY1.out)
          have HK1 := hid (show IntKind.i64.wrap (kb : Int) = (kb : Int) from by rw [IntKind.wrap_i64]; omega)
          clear hti hnl hpl hns hy
          have i4 : (j : Int) < (k : Int) := by omega
          have i5 : (0 : Int) ≤ (y : Int) := by omega
          have i6 : (y : Int) < (s.length : Int) := by omega
          have C1 : Hid (R14C wr.drew p s a false) := hid ⟨HBR.out.drew.cell 0, HBR.out.drew.cell 1, HBR.out.drew.cell 2⟩
          go_upto_region 8 with fail
          generalize hM : N * 256 = M at *
          have HMM := hid hM
          clear hM
          obtain ⟨Z, hZ⟩ : ∃ Z, Z = M + kb := ⟨_, rfl⟩
          rw [← hZ] at HM3 HM4
          have HZZ := hid hZ
          clear hZ hkb256 hN
          refine wp_region_scr (.take 0 (.take 1 (.take 2 (.take 3 (.take 4 (.take 5 (.take 6 (.take 7 (.take 8 (.take 9 (.take 10 (.take 11 (.take 12 (.take 13 (.take 14 (.take 15 .done)))))))))))))))) (fun kz w => (kz ≤ 15 → R14C w p s a false) ∧ True) (by kernel_rfl) (by kernel_rfl) (by intro c a d v w h; cases d <;> exact h) ?_
          repeat
            first
            | (refine wpT_pure rfl rfl rfl ?_; apply Exists.intro; refine ⟨?_, ?_⟩; intro w; (first | (first | (refine Eq.trans (b := Result.ok (Next.value (.int .i64 (y : Int))) w) ?_ rfl; go_simp; first | exact HY2.out | rw [HY2.out] | exact HY1.out | rw [HY1.out]) | (refine Eq.trans (b := Result.ok (Next.value (.int .i64 (kb : Int))) w) ?_ rfl; go_simp; first | exact HK1.out | rw [HK1.out]) | (refine Eq.trans (b := Result.ok (Next.value (.int .i64 (M : Int))) w) ?_ rfl; go_simp; first | exact HM2.out | rw [HM2.out] | exact HM1.out | rw [HM1.out]) | (refine Eq.trans (b := Result.ok (Next.value (.int .i64 (Z : Int))) w) ?_ rfl; go_simp; first | exact HM4.out | rw [HM4.out] | exact HM3.out | rw [HM3.out]) | (obtain ⟨z0, z1, z2⟩ := qa; go_simp <;> rfl)) | (go_simp <;> rfl)); simp only [Act.put, List.setIfInBounds_toArray, List.set_cons_zero, List.set_cons_succ])
            | (refine wpT_take 15 rfl rfl (by decide +kernel) ⟨fun _ => C1.out, trivial⟩ ?_; apply Exists.intro; refine ⟨?_, ?_⟩; intro w hw; (have qa := hw.1 (Nat.le_refl _); have qb := hw.2); (first | (first | (refine Eq.trans (b := Result.ok (Next.value (.int .i64 (y : Int))) w) ?_ rfl; go_simp; first | exact HY2.out | rw [HY2.out] | exact HY1.out | rw [HY1.out]) | (refine Eq.trans (b := Result.ok (Next.value (.int .i64 (kb : Int))) w) ?_ rfl; go_simp; first | exact HK1.out | rw [HK1.out]) | (refine Eq.trans (b := Result.ok (Next.value (.int .i64 (M : Int))) w) ?_ rfl; go_simp; first | exact HM2.out | rw [HM2.out] | exact HM1.out | rw [HM1.out]) | (refine Eq.trans (b := Result.ok (Next.value (.int .i64 (Z : Int))) w) ?_ rfl; go_simp; first | exact HM4.out | rw [HM4.out] | exact HM3.out | rw [HM3.out]) | (obtain ⟨z0, z1, z2⟩ := qa; go_simp <;> rfl)) | (go_simp <;> rfl)); simp only [Act.put, List.setIfInBounds_toArray, List.set_cons_zero, List.set_cons_succ])
            | (refine wpT_skip rfl rfl ?_; simp only [Act.put, List.setIfInBounds_toArray, List.set_cons_zero, List.set_cons_succ])
          refine wpT_nil ?_
          go_wp2_with (fail)
          go_roundw
          case rel => exact ⟨j + 1, by omega, by rw [HNS.out, HZZ.out], by simp, FR.out.drew⟩
          case measure => simp [intOf]; omega
        · obtain rfl : j = k := by omega
          have HS := hid (HBR.out.set 1 (.int .i64 ((a + j : Nat) : Int)))
          have c1 : wr.cell? ⟨p, 1, none⟩ = some (.int .i64 a) := HBR.out.cell 1
          have z1 := HBR.out.frozen 1
          have FS := hid ((FR.out.mono (fun _ h _ => h.elim) : Fr (fun b => b = p) w wr).setCell ⟨p, 1, none⟩ (.int .i64 ((a + j : Nat) : Int)) (fun _ => rfl))
          have hsl := HSH.out
          go_wp2_with (fail)
          go_ret
          exact ⟨rfl, ⟨a + j, HS.out, fun _ => rfl⟩, FS.out⟩
theorem text_bad {rm : RM} (h : ((rm.num 2).1.take (rm.num 2).2).1.failed = true) : rm.text.1.failed = true ∧ rm.text.2 = [] ∧ rm.text.1.s = rm.s := by
  have e : rm.text = ({ ((rm.num 2).1.take (rm.num 2).2).1 with at_ := rm.at_ }, ((rm.num 2).1.take (rm.num 2).2).2) := by
    unfold RM.text
    dsimp only
    rw [if_pos h]
  rw [e]
  refine ⟨h, ?_, ?_⟩
  · have : ∀ (r : RM) (n : Nat), (r.take n).1.failed = true → (r.take n).2 = [] := by
      intro r n hh
      unfold RM.take at hh ⊢
      split
      · rfl
      · rename_i hb
        rw [if_neg hb] at hh
        have : r.failed = true := hh
        unfold RM.bad at hb
        rw [this] at hb
        simp at hb
    exact this _ _ h
  · show ((rm.num 2).1.take (rm.num 2).2).1.s = rm.s
    rw [RM.take_s]
    show (rm.take 2).1.s = rm.s
    rw [RM.take_s]
theorem text_good {rm : RM} {m : RM} {n : Nat} (hm : rm.num 2 = (m, n)) (hf : m.failed = false) (h : ¬ m.left < n) : rm.text = ({ m with at_ := m.at_ + n }, (m.s.drop m.at_).take n) := by
  have e : m.take n = ({ m with at_ := m.at_ + n }, (m.s.drop m.at_).take n) := by
    unfold RM.take RM.bad
    rw [if_neg (by rw [hf]; simpa using h)]
  unfold RM.text
  rw [hm]
  dsimp only
  rw [e]
  dsimp only
  rw [if_neg (by rw [hf]; simp)]
set_option maxRecDepth 20000 in
set_option maxHeartbeats 8000000 in
theorem r14rtext_go {w : World} {p a : Nat} {rm : RM} (h : R14 w p a rm) (ok : rm.Ok) : Calls Tryz.prog 81 #[.pointer (some ⟨p, 0, none⟩)] w fun e w' => e = .returned (.string (bs rm.text.2)) ∧ (∃ a', R14 w' p a' rm.text.1) ∧ Fr (fun b => b = p) w w' := by
  obtain ⟨⟨m, n⟩, hm⟩ : ∃ m, rm.num 2 = m := ⟨_, rfl⟩
  have hnum := r14num_go h ok 2 (by omega)
  rw [hm] at hnum
  have HNUM := hid hnum
  have okm : m.Ok := by have := ok.num 2; rwa [hm] at this
  have hn16 : n < 65536 := by have := rm.num_lt 2; rwa [hm] at this
  have hms : m.s = rm.s := by have : (rm.num 2).1.s = rm.s := RM.take_s _ _; rwa [hm] at this
  obtain ⟨rt, hrt⟩ : ∃ rt, rt = rm.text := ⟨_, rfl⟩
  rw [← hrt]
  have HRT := hid hrt
  have HMS := hid hms
  clear hnum h hrt hms
  go_enter Tryz.func81, Tryz.ntmps81
  go_upto_region 2 with (go_at_call 80; refine HNUM.out.mono ?_; rintro e w1 ⟨rfl, ⟨a', hr⟩, f⟩; have HR := hid hr; have F1 := hid f; clear hr f)
  clear HNUM
  have HB := hid HR.out.blk
  have hbs := bs_size m.s
  by_cases hbad : (m.take n).1.failed = true
  · obtain ⟨t1, t2, t3⟩ := text_bad (rm := rm) (by rw [hm]; exact hbad)
    have HT := hid (show rt.1.failed = true ∧ rt.2 = [] ∧ rt.1.s = m.s from by rw [HRT.out]; exact ⟨t1, t2, by rw [t3, HMS.out]⟩)
    clear t1 t2 t3
    have FS := hid (F1.out.trans ((Fr.refl (fun b => b = p) w1).setCell ⟨p, 2, none⟩ (.bool true) (fun _ => rfl)).drew (fun k hk _ => hk))
    have HS := hid (HB.out.set 2 (.bool true)).drew
    have HEND : Hid (∃ a', R14 (w1.setCell ⟨p, 2, none⟩ (.bool true)).drew p a' rt.1) := hid ⟨a', by rw [HT.out.2.2, HT.out.1]; exact HS.out, fun h => by rw [HT.out.1] at h; cases h⟩
    obtain ⟨ms, ma, mf⟩ := m
    dsimp only at HB hbs okm
    have C0 : Hid (R14C w1.drew p ms a' mf) := hid ⟨HB.out.drew.cell 0, HB.out.drew.cell 1, HB.out.drew.cell 2⟩
    have z2 := HB.out.drew.frozen 2
    cases mf with
    | true =>
      have c2 : w1.drew.cell? ⟨p, 2, none⟩ = some (.bool true) := C0.out.c2
      clear hbad
      refine wp_region_scr (.take 0 (.take 1 (.take 2 (.take 3 (.take 4 (.take 5 (.take 6 (.take 7 (.take 8 (.take 9 (.take 10 (.take 11 (.take 12 (.take 13 (.take 14 (.take 15 (.take 16 (.take 17 .done)))))))))))))))))) (fun kz w => (kz ≤ 18 → R14C w p ms a' true) ∧ True) (by kernel_rfl) (by kernel_rfl) (by intro c a d v w h; cases d <;> exact h) ?_
      repeat
        first
        | (refine wpT_pure rfl rfl rfl ?_; apply Exists.intro; refine ⟨?_, ?_⟩; intro w; (first | (obtain ⟨z0, z1, z2⟩ := qa; go_simp <;> rfl) | (go_simp <;> rfl)); simp only [Act.put, List.setIfInBounds_toArray, List.set_cons_zero, List.set_cons_succ])
        | (refine wpT_take 18 rfl rfl (by decide +kernel) ⟨fun _ => C0.out, trivial⟩ ?_; apply Exists.intro; refine ⟨?_, ?_⟩; intro w hw; (have qa := hw.1 (Nat.le_refl _); have qb := hw.2); (first | (obtain ⟨z0, z1, z2⟩ := qa; go_simp <;> rfl) | (go_simp <;> rfl)); simp only [Act.put, List.setIfInBounds_toArray, List.set_cons_zero, List.set_cons_succ])
        | (refine wpT_skip rfl rfl ?_; simp only [Act.put, List.setIfInBounds_toArray, List.set_cons_zero, List.set_cons_succ])
      refine wpT_nil ?_
      go_wp2_with (fail)
      go_ret
      exact ⟨by rw [HT.out.2.1]; rfl, HEND.out, FS.out⟩
    | false =>
      have c2 : w1.drew.cell? ⟨p, 2, none⟩ = some (.bool false) := C0.out.c2
      have hat : a' = ma := HR.out.at_ rfl
      have hlt : ms.length - ma < n := by
        unfold RM.take RM.bad at hbad
        by_cases hl : (RM.mk ms ma false).left < n
        · exact hl
        · rw [if_neg (by simpa using hl)] at hbad
          cases hbad
      have hle : ma ≤ ms.length := okm.le
      have hlen : ms.length ≤ 1099511627776 := okm.len
      subst hat
      have i0 : (0 : Int) ≤ (a' : Int) := by omega
      have i1 : (ms.length : Int) < (a' : Int) + (n : Int) := by omega
      have HWA := hid (show wrap64 ((a' : Int) + (n : Int)) = ((a' + n : Nat) : Int) from by unfold wrap64; omega)
      have HWB := hid (show IntKind.i64.wrap ((a' : Int) + (n : Int)) = ((a' + n : Nat) : Int) from by rw [← wrap64_eq]; exact HWA.out)
      have hdec : decide ((ms.length : Int) < ((a' + n : Nat) : Int)) = true := decide_eq_true (by omega)
      have hdec2 : decide (ms.length < a' + n) = true := decide_eq_true (by omega)
      clear hbad okm
      refine wp_region_scr (.take 0 (.take 1 (.take 2 (.take 3 (.take 4 (.take 5 (.take 6 (.take 7 (.take 8 (.take 9 (.take 10 (.take 11 (.take 12 (.take 13 (.take 14 (.take 15 (.take 16 (.take 17 .done)))))))))))))))))) (fun kz w => (kz ≤ 18 → R14C w p ms a' false) ∧ True) (by kernel_rfl) (by kernel_rfl) (by intro c a d v w h; cases d <;> exact h) ?_
      repeat
        first
        | (refine wpT_pure rfl rfl rfl ?_; apply Exists.intro; refine ⟨?_, ?_⟩; intro w; (first | (first | (refine Eq.trans (b := Result.ok (Next.value (.int .i64 ((a' + n : Nat) : Int))) w) ?_ rfl; go_simp; first | exact HWB.out | rw [HWB.out] | exact HWA.out | rw [HWA.out]) | (obtain ⟨z0, z1, z2⟩ := qa; go_simp <;> rfl)) | (go_simp <;> rfl)); simp only [Act.put, List.setIfInBounds_toArray, List.set_cons_zero, List.set_cons_succ])
        | (refine wpT_take 18 rfl rfl (by decide +kernel) ⟨fun _ => C0.out, trivial⟩ ?_; apply Exists.intro; refine ⟨?_, ?_⟩; intro w hw; (have qa := hw.1 (Nat.le_refl _); have qb := hw.2); (first | (first | (refine Eq.trans (b := Result.ok (Next.value (.int .i64 ((a' + n : Nat) : Int))) w) ?_ rfl; go_simp; first | exact HWB.out | rw [HWB.out] | exact HWA.out | rw [HWA.out]) | (obtain ⟨z0, z1, z2⟩ := qa; go_simp <;> rfl)) | (go_simp <;> rfl)); simp only [Act.put, List.setIfInBounds_toArray, List.set_cons_zero, List.set_cons_succ])
        | (refine wpT_skip rfl rfl ?_; simp only [Act.put, List.setIfInBounds_toArray, List.set_cons_zero, List.set_cons_succ])
      refine wpT_nil ?_
      go_wp2_with (fail)
      go_ret
      exact ⟨by rw [HT.out.2.1]; rfl, HEND.out, FS.out⟩
  · have hmf : m.failed = false := by
      cases hh : m.failed with
      | false => rfl
      | true => exact absurd (by rw [RM.take_failed hh]; exact hh) hbad
    have hnl : ¬ m.left < n := fun hl => hbad (by unfold RM.take RM.bad; rw [if_pos (by rw [hmf]; simpa using hl)])
    have HGD := hid (HRT.out.trans (text_good hm hmf hnl))
    have hat := HR.out.at_ hmf
    obtain ⟨ms, ma, mf⟩ := m
    dsimp only at HB hbs okm hmf hat
    subst hmf hat
    have hle : a' ≤ ms.length := okm.le
    have hlen : ms.length ≤ 1099511627776 := okm.len
    have hnl2 : ¬ ms.length - a' < n := hnl
    have C0 : Hid (R14C w1.drew p ms a' false) := hid ⟨HB.out.drew.cell 0, HB.out.drew.cell 1, HB.out.drew.cell 2⟩
    have i0 : (0 : Int) ≤ (a' : Int) := by omega
    have i1 : ¬ (ms.length : Int) < (a' : Int) + (n : Int) := by omega
    have HWA := hid (show wrap64 ((a' : Int) + (n : Int)) = ((a' + n : Nat) : Int) from by unfold wrap64; omega)
    have HWB := hid (show IntKind.i64.wrap ((a' : Int) + (n : Int)) = ((a' + n : Nat) : Int) from by rw [← wrap64_eq]; exact HWA.out)
    have hdec : decide ((ms.length : Int) < ((a' + n : Nat) : Int)) = false := decide_eq_false (by omega)
    have hdec2 : decide (ms.length < a' + n) = false := decide_eq_false (by omega)
    refine wp_region_scr (.take 0 (.take 1 (.take 2 (.take 3 (.take 4 (.take 5 (.take 6 (.take 7 (.take 8 (.take 9 (.take 10 (.take 11 (.take 12 (.take 13 (.take 14 (.take 15 (.take 16 (.take 17 .done)))))))))))))))))) (fun kz w => (kz ≤ 18 → R14C w p ms a' false) ∧ True) (by kernel_rfl) (by kernel_rfl) (by intro c a d v w h; cases d <;> exact h) ?_
    repeat
      first
      | (refine wpT_pure rfl rfl rfl ?_; apply Exists.intro; refine ⟨?_, ?_⟩; intro w; (first | (first | (refine Eq.trans (b := Result.ok (Next.value (.int .i64 ((a' + n : Nat) : Int))) w) ?_ rfl; go_simp; first | exact HWB.out | rw [HWB.out] | exact HWA.out | rw [HWA.out]) | (obtain ⟨z0, z1, z2⟩ := qa; go_simp <;> rfl)) | (go_simp <;> rfl)); simp only [Act.put, List.setIfInBounds_toArray, List.set_cons_zero, List.set_cons_succ])
      | (refine wpT_take 18 rfl rfl (by decide +kernel) ⟨fun _ => C0.out, trivial⟩ ?_; apply Exists.intro; refine ⟨?_, ?_⟩; intro w hw; (have qa := hw.1 (Nat.le_refl _); have qb := hw.2); (first | (first | (refine Eq.trans (b := Result.ok (Next.value (.int .i64 ((a' + n : Nat) : Int))) w) ?_ rfl; go_simp; first | exact HWB.out | rw [HWB.out] | exact HWA.out | rw [HWA.out]) | (obtain ⟨z0, z1, z2⟩ := qa; go_simp <;> rfl)) | (go_simp <;> rfl)); simp only [Act.put, List.setIfInBounds_toArray, List.set_cons_zero, List.set_cons_succ])
      | (refine wpT_skip rfl rfl ?_; simp only [Act.put, List.setIfInBounds_toArray, List.set_cons_zero, List.set_cons_succ])
    refine wpT_nil ?_
    have c1 : w1.drew.cell? ⟨p, 1, none⟩ = some (.int .i64 a') := C0.out.c1
    have z1 := HB.out.drew.frozen 1
    obtain ⟨e, he⟩ : ∃ e, e = a' + n := ⟨_, rfl⟩
    have HEE := hid he
    have hae : (a' : Int) + (n : Int) = (e : Int) := by omega
    have HS := hid (HB.out.set 1 (.int .i64 (e : Int))).drew
    have FS := hid (F1.out.trans ((Fr.refl (fun b => b = p) w1).setCell ⟨p, 1, none⟩ (.int .i64 (e : Int)) (fun _ => rfl)).drew (fun k hk _ => hk))
    have HSB := hid (show wrap64 ((e : Int) - (n : Int)) = (a' : Int) from by unfold wrap64; omega)
    have HSC := hid (show IntKind.i64.wrap ((e : Int) - (n : Int)) = (a' : Int) from by rw [← wrap64_eq]; exact HSB.out)
    have hex : (bs ms).extract a' e = bs ((ms.drop a').take n) := by rw [he]; exact ex_take ms a' n
    have i2 : (a' : Int) ≤ (e : Int) := by omega
    have i3 : (e : Int) ≤ (ms.length : Int) := by omega
    clear he
    go_upto_region 6 with fail
    have C2 : Hid (R14C (w1.setCell ⟨p, 1, none⟩ (.int .i64 (e : Int))).drew.drew p ms e false) := hid ⟨HS.out.drew.cell 0, HS.out.drew.cell 1, HS.out.drew.cell 2⟩
    clear hdec hdec2 i1 c1 z1 hnl hnl2 hae
    refine wp_region_scr (.take 0 (.take 1 (.take 2 (.take 3 (.take 4 (.take 5 (.take 6 (.take 7 (.take 8 (.take 9 (.take 10 (.take 11 (.take 12 (.take 13 (.take 14 (.take 15 .done)))))))))))))))) (fun kz w => (kz ≤ 15 → R14C w p ms e false) ∧ True) (by kernel_rfl) (by kernel_rfl) (by intro c a d v w h; cases d <;> exact h) ?_
    repeat
      first
      | (refine wpT_pure rfl rfl rfl ?_; apply Exists.intro; refine ⟨?_, ?_⟩; intro w; (first | (first | (refine Eq.trans (b := Result.ok (Next.value (.int .i64 (a' : Int))) w) ?_ rfl; go_simp; first | exact HSC.out | rw [HSC.out] | exact HSB.out | rw [HSB.out]) | (obtain ⟨z0, z1, z2⟩ := qa; go_simp <;> rfl)) | (go_simp <;> rfl)); simp only [Act.put, List.setIfInBounds_toArray, List.set_cons_zero, List.set_cons_succ])
      | (refine wpT_take 15 rfl rfl (by decide +kernel) ⟨fun _ => C2.out, trivial⟩ ?_; apply Exists.intro; refine ⟨?_, ?_⟩; intro w hw; (have qa := hw.1 (Nat.le_refl _); have qb := hw.2); (first | (first | (refine Eq.trans (b := Result.ok (Next.value (.int .i64 (a' : Int))) w) ?_ rfl; go_simp; first | exact HSC.out | rw [HSC.out] | exact HSB.out | rw [HSB.out]) | (obtain ⟨z0, z1, z2⟩ := qa; go_simp <;> rfl)) | (go_simp <;> rfl)); simp only [Act.put, List.setIfInBounds_toArray, List.set_cons_zero, List.set_cons_succ])
      | (refine wpT_skip rfl rfl ?_; simp only [Act.put, List.setIfInBounds_toArray, List.set_cons_zero, List.set_cons_succ])
    refine wpT_nil ?_
    go_wp2_with (fail)
    go_ret
    exact ⟨by rw [HGD.out]; rfl, ⟨e, by rw [HGD.out]; exact HS.out.drew, fun _ => by rw [HGD.out]; exact HEE.out⟩, FS.out.drew⟩
end Go.Proofs.YtgkfdlpijefgkaaGreatDoor
/- The reference's Read: its reader and its catalog. -/
namespace Go.Proofs.YtgkfdlpijefgkaaGreatDoor
open Go.RowKit Go.VB Go.VB.Oct Go.VB.Cat Go.VB.Rec
theorem must_go {w : World} {p a : Nat} {rm : RM} (h : R14 w p a rm) (e : Int) : Calls Tryz.prog 82 #[.pointer (some ⟨p, 0, none⟩), .int .i64 e] w fun x w' => x = .returned (.tuple #[]) ∧ R14 w' p a (mustM rm e) ∧ Fr (fun b => b = p) w w' := by
  have HR := hid h
  have F0 := hid (Fr.refl (fun b => b = p) w)
  by_cases he : e = 0
  · subst he
    have HM := hid (show mustM rm 0 = rm from by unfold mustM; rw [if_pos rfl])
    clear h
    go_enter Tryz.func82, Tryz.ntmps82
    go_wp2_with (fail)
    go_end0
    refine ⟨rfl, ?_, F0.out⟩
    rw [HM.out]
    exact HR.out
  · have e1 : (e != 0) = true := by simp [he]
    have HM := hid (show mustM rm e = { rm with failed := true } from by unfold mustM; rw [if_neg he])
    have HS := hid (h.blk.set 2 (.bool true))
    have FS := hid ((Fr.refl (fun b => b = p) w).setCell ⟨p, 2, none⟩ (.bool true) (fun _ => rfl))
    have c2 : w.cell? ⟨p, 2, none⟩ = some (.bool rm.failed) := h.blk.cell 2
    have z2 : w.frozen? ⟨p, 2, none⟩ = false := h.blk.frozen 2
    clear h he
    go_enter Tryz.func82, Tryz.ntmps82
    go_wp2_with (fail)
    go_end0
    refine ⟨rfl, ?_, FS.out⟩
    rw [HM.out]
    exact ⟨HS.out, fun h => by cases h⟩
/-- the reader at p, the catalog at c; the catalog keeps off the blocks X -/
structure RJ (w0 : World) (X : Nat → Prop) (p c : Nat) (r : RM) (m : List Tab) (W : World) : Prop where
  fr : Fr (fun _ => False) w0 W
  rd : ∃ a, R14 W p a r
  ok : r.Ok
  ge : w0.heap.size ≤ p
  at_ : X p
  cr : ∃ S, CR 30 S W c m ∧ (∀ k, S k → w0.heap.size ≤ k) ∧ ∀ k, X k → ¬ S k
  okm : Ok m
namespace RJ
variable {w0 W W' : World} {X Y : Nat → Prop} {p c : Nat} {r : RM} {m : List Tab}
theorem wide (h : RJ w0 X p c r m W) : RJ w0 (fun k => X k ∨ W.heap.size ≤ k) p c r m W := by
  obtain ⟨S, h1, h2, h3⟩ := h.cr
  refine ⟨h.fr, h.rd, h.ok, h.ge, .inl h.at_, ⟨S, h1, h2, fun k hk hs => ?_⟩, h.okm⟩
  rcases hk with hk | hk
  · exact h3 k hk hs
  · have := h1.lt hs; omega
theorem less (h : RJ w0 X p c r m W) (hY : ∀ k, Y k → X k) (hb : Y p) : RJ w0 Y p c r m W := by
  obtain ⟨S, h1, h2, h3⟩ := h.cr
  exact ⟨h.fr, h.rd, h.ok, h.ge, hb, ⟨S, h1, h2, fun k hk => h3 k (hY k hk)⟩, h.okm⟩
theorem keep {U : Nat → Prop} (h : RJ w0 X p c r m W) (f : Fr U W W') (hU : ∀ k, U k → X k ∧ w0.heap.size ≤ k) (hn : ¬ U p) : RJ w0 X p c r m W' := by
  obtain ⟨S, h1, h2, h3⟩ := h.cr
  obtain ⟨a, hr⟩ := h.rd
  refine ⟨h.fr.trans f (fun k hk hl => ?_), ⟨a, hr.fr f hn⟩, h.ok, h.ge, h.at_, ⟨S, h1.fr f (fun k hs hu => h3 k (hU k hu).1 hs), h2, h3⟩, h.okm⟩
  have := (hU k hk).2
  omega
theorem fre (h : RJ w0 X p c r m W) (f : Fr (fun _ => False) W W') : RJ w0 X p c r m W' := h.keep f (fun _ h => h.elim) (fun h => h)
theorem blk (h : RJ w0 X p c r m W) : ∃ l, Blk W p l 134 := by
  obtain ⟨a, hr⟩ := h.rd
  exact ⟨_, hr.blk⟩
theorem reader {r' : RM} (h : RJ w0 X p c r m W) (f : Fr (fun k => k = p) W W') (hr : ∃ a, R14 W' p a r') (ok : r'.Ok) : RJ w0 X p c r' m W' := by
  obtain ⟨S, h1, h2, h3⟩ := h.cr
  exact ⟨h.fr.trans f (fun k hk hl => by have := h.ge; omega), hr, ok, h.ge, h.at_, ⟨S, h1.fr f (fun k hs hu => h3 k (hu ▸ h.at_) hs), h2, h3⟩, h.okm⟩
theorem num1 (h : RJ w0 X p c r m W) : Calls Tryz.prog 80 #[.pointer (some ⟨p, 0, none⟩), .int .i64 1] W fun e w' => e = .returned (.int .i64 (r.num 1).2) ∧ RJ w0 X p c (r.num 1).1 m w' ∧ Fr (fun k => k = p) W w' := by
  obtain ⟨a, hr⟩ := h.rd
  have hc : Calls Tryz.prog 80 #[.pointer (some ⟨p, 0, none⟩), .int .i64 1] W _ := r14num_go hr h.ok 1 (by omega)
  refine hc.mono ?_
  rintro e w' ⟨rfl, hr, f⟩
  exact ⟨rfl, h.reader f hr (h.ok.num 1), f⟩
theorem num2 (h : RJ w0 X p c r m W) : Calls Tryz.prog 80 #[.pointer (some ⟨p, 0, none⟩), .int .i64 2] W fun e w' => e = .returned (.int .i64 (r.num 2).2) ∧ RJ w0 X p c (r.num 2).1 m w' ∧ Fr (fun k => k = p) W w' := by
  obtain ⟨a, hr⟩ := h.rd
  have hc : Calls Tryz.prog 80 #[.pointer (some ⟨p, 0, none⟩), .int .i64 2] W _ := r14num_go hr h.ok 2 (by omega)
  refine hc.mono ?_
  rintro e w' ⟨rfl, hr, f⟩
  exact ⟨rfl, h.reader f hr (h.ok.num 2), f⟩
theorem text (h : RJ w0 X p c r m W) : Calls Tryz.prog 81 #[.pointer (some ⟨p, 0, none⟩)] W fun e w' => e = .returned (.string (bs r.text.2)) ∧ RJ w0 X p c r.text.1 m w' ∧ Fr (fun k => k = p) W w' := by
  obtain ⟨a, hr⟩ := h.rd
  refine (r14rtext_go hr h.ok).mono ?_
  rintro e w' ⟨rfl, hr, f⟩
  exact ⟨rfl, h.reader f hr h.ok.text, f⟩
theorem must (h : RJ w0 X p c r m W) (e : Int) : Calls Tryz.prog 82 #[.pointer (some ⟨p, 0, none⟩), .int .i64 e] W fun x w' => x = .returned (.tuple #[]) ∧ RJ w0 X p c (mustM r e) m w' ∧ Fr (fun k => k = p) W w' := by
  obtain ⟨a, hr⟩ := h.rd
  refine (must_go hr e).mono ?_
  rintro x w' ⟨rfl, hr, f⟩
  exact ⟨rfl, h.reader f ⟨a, hr⟩ (mustM_ok h.ok e), f⟩
/-- bad is set -/
theorem fail (h : RJ w0 X p c r m W) : RJ w0 X p c { r with failed := true } m (W.setCell ⟨p, 2, none⟩ (.bool true)) := by
  obtain ⟨a, hr⟩ := h.rd
  exact h.reader ((Fr.refl (fun b => b = p) W).setCell ⟨p, 2, none⟩ (.bool true) (fun _ => rfl)) ⟨a, hr.blk.set 2 (.bool true), fun h => by cases h⟩ ⟨h.ok.le, h.ok.len⟩
theorem cell2 (h : RJ w0 X p c r m W) : W.cell? ⟨p, 2, none⟩ = some (.bool r.failed) := by
  obtain ⟨a, hr⟩ := h.rd
  exact hr.blk.cell 2
theorem free2 (h : RJ w0 X p c r m W) : W.frozen? ⟨p, 2, none⟩ = false := by
  obtain ⟨a, hr⟩ := h.rd
  exact hr.blk.frozen 2
theorem cell1 (h : RJ w0 X p c r m W) (hf : r.failed = false) : W.cell? ⟨p, 1, none⟩ = some (.int .i64 r.at_) := by
  obtain ⟨a, hr⟩ := h.rd
  have := hr.blk.cell 1
  rw [hr.at_ hf] at this
  exact this
theorem lt (h : RJ w0 X p c r m W) : p < W.heap.size := by
  obtain ⟨a, hr⟩ := h.rd
  exact hr.blk.lt
/-- a statement is done: behind it the catalog keeps off Y -/
theorem do_ {P : Nat → Prop} (h : RJ w0 X p c r m W) (hY : ∀ k, Y k → X k ∧ k < W.heap.size) (hb : Y p) {t : StV} (hs : StR P W t) (root : Int) :
    Calls Tryz.prog 17 #[.pointer (some ⟨c, 0, none⟩), .agg t.cells.toArray, .int .i64 root] W fun e w' => e = .returned (.int .i64 (doM m t.s root).2) ∧ RJ w0 Y p c r (doM m t.s root).1 w' ∧ Fr (fun k => ¬ X k) W w' := by
  obtain ⟨S, h1, h2, h3⟩ := h.cr
  obtain ⟨a, hr⟩ := h.rd
  refine (rDo_go h1 h.okm hs root).mono ?_
  rintro e w' ⟨rfl, hc, f⟩
  have n1 := h3 _ h.at_
  refine ⟨rfl, ⟨h.fr.trans f (fun k hk hl => by have := h2 k hk; omega), ⟨a, hr.fr f n1⟩, h.ok, h.ge, hb, ⟨_, hc, fun k hk => ?_, fun k hk hs => ?_⟩, ok_do h.okm _ _⟩, f.mono (fun k hk _ hx => h3 k hx hk)⟩
  · rcases hk with g | g
    · exact h2 k g
    · have := h.fr.size; omega
  · rcases hs with g | g
    · exact h3 k (hY k hk).1 g
    · have := (hY k hk).2; omega
/-- a block of X is written -/
theorem put1 (h : RJ w0 X p c r m W) {d : Nat} (hd : X d ∧ w0.heap.size ≤ d) (hn : d ≠ p) (o : Nat) (v : Value) : RJ w0 X p c r m (W.setCell ⟨d, o, none⟩ v) :=
  h.keep (U := fun k => k = d) ((Fr.refl _ W).setCell ⟨d, o, none⟩ v (fun _ => rfl)) (fun k hk => hk ▸ hd) (fun e => hn e.symm)
theorem off {l : List Value} {d : Nat} {t : TypeId} (h : RJ w0 X p c r m W) (hb : Blk W d l t) (ht : t ≠ 134) : d ≠ p := by
  obtain ⟨a, hr⟩ := h.rd
  exact hb.ne_of_type hr.blk ht
theorem offR {e : TypeId} {size B n : Nat} {v : Value} {xs : List Value} (h : RJ w0 X p c r m W) (hr : Row e size B W v n xs) (ht : 134 ≠ e) : ∀ k, v.ownBlock = some k → ¬ k = p := by
  obtain ⟨a, hb⟩ := h.rd
  exact fun k hk => hr.ne hb.blk ht k hk
end RJ
end Go.Proofs.YtgkfdlpijefgkaaGreatDoor
/- The reference's Read. -/
namespace Go.Proofs.YtgkfdlpijefgkaaGreatDoor
open Go.RowKit Go.VB Go.VB.Oct Go.VB.Cat Go.VB.Rec
/-- how the reference's Read ends -/
def RReadP (w w' : World) (e : Ending) : Option (List Tab) → Prop
  | none => e = .returned (.tuple #[.pointer none, .bool false]) ∧ Fr (fun _ => False) w w'
  | some m => ∃ c, e = .returned (.tuple #[.pointer (some ⟨c, 0, none⟩), .bool true]) ∧ CR 30 (fun k => w.heap.size ≤ k ∧ k < w'.heap.size) w' c m ∧ Fr (fun _ => False) w w'
/-- the names that are read are the columns' -/
def Among (cols : List Col) (l : List Bs) : Prop := ∀ n ∈ l, ∃ c ∈ cols, n = c.name
theorem Among.add {cols : List Col} {l : List Bs} (h : Among cols l) {c : Col} (hc : c ∈ cols) : Among cols (l ++ [c.name]) := by
  intro n hn
  rcases List.mem_append.1 hn with g | g
  · exact h n g
  · exact ⟨c, hc, List.mem_singleton.1 g⟩
def ColsLe (l : List Col) : Prop := ∀ c ∈ l, c.name.length ≤ 65535
theorem ColsLe.add {l : List Col} (h : ColsLe l) {n : Bs} {k : Int} (hn : n.length ≤ 65535) : ColsLe (l ++ [⟨n, k⟩]) := by
  intro c hc
  rcases List.mem_append.1 hc with g | g
  · exact h c g
  · rw [List.mem_singleton.1 g]; exact hn
theorem exit_ways {j n : Nat} {b : Bool} (hj : j ≤ n) (h : j = n ∨ b = true) : ((j : Int) < (n : Int) ∧ b = true) ∨ ¬ (j : Int) < (n : Int) := by
  rcases h with h | h
  · right; omega
  · by_cases h2 : j < n
    · left; exact ⟨by omega, h⟩
    · right; omega
set_option maxRecDepth 20000 in
set_option maxHeartbeats 8000000 in
theorem rRead_go (s : Bs) (hs : s.length ≤ 1099511627776) (w : World) : Calls Tryz.prog 52 #[.string (bs s)] w fun e w' => RReadP w w' e (parse s) := by
  have HCT := hid (cont_start s)
  obtain ⟨x, hx⟩ : ∃ x, parse s = x := ⟨_, rfl⟩
  rw [hx] at HCT ⊢
  clear hx
  have hsz := bs_size s
  have fa := (Fr.refl (fun _ => False) w).alloc (.cells #[.string (bs s), .int .i64 0, .bool false] 134)
  have b1 := Blk.new w [.string (bs s), .int .i64 0, .bool false] 134
  have HO0 := hid (OR.new (w.alloc (.cells #[.string (bs s), .int .i64 0, .bool false] 134)))
  have HJ0 := hid (show RJ w (fun k => k = w.heap.size) w.heap.size ((w.alloc (.cells #[.string (bs s), .int .i64 0, .bool false] 134)).heap.size) (RM.new s) [] ((w.alloc (.cells #[.string (bs s), .int .i64 0, .bool false] 134)).alloc (.cells #[.slice none 0 0] 30)) from
    ⟨fa.trans HO0.out.fr (fun _ h _ => h), ⟨0, Blk.fr b1 HO0.out.fr (fun h => h), fun _ => rfl⟩, ⟨Nat.zero_le _, hs⟩, Nat.le_refl _, rfl, ⟨_, HO0.out.cr, fun k hk => by rw [hk]; exact fa.size, fun k hk hk2 => by have := b1.lt; omega⟩, ok_nil⟩)
  clear fa b1 HO0
  go_enter Tryz.func52, Tryz.ntmps52
  go_upto_region 3 with fail
  rw [World.size_alloc] at HJ0
  generalize (w.alloc _).alloc _ = W1 at *
  obtain ⟨c, hc⟩ : ∃ c, c = w.heap.size + 1 := ⟨_, rfl⟩
  rw [← hc] at HJ0 ⊢
  generalize hp : w.heap.size = p at *
  have HPE := hid hp
  have HCE := hid hc
  clear hp hc
  have HN := hid HJ0.out.num1
  have HNB := hid (RM.num_lt (RM.new s) 1)
  obtain ⟨r1, hr1⟩ : ∃ r, ((RM.new s).num 1).1 = r := ⟨_, rfl⟩
  obtain ⟨n, hn⟩ : ∃ n, ((RM.new s).num 1).2 = n := ⟨_, rfl⟩
  rw [hr1, hn] at HN HCT
  rw [hn] at HNB
  have hn255 : n ≤ 255 := by have := HNB.out; omega
  clear hr1 hn HNB
  go_upto_region 4 with (go_at_call 80; refine HN.out.mono ?_; rintro e W2 ⟨rfl, h, f⟩; have HJ1 := hid h; clear h f)
  clear HN HJ0
  obtain ⟨X, hX⟩ : ∃ X : Nat → Prop, X = fun k => k = p := ⟨_, rfl⟩
  rw [← hX] at HJ1
  have HXS := hid (fun k (h : X k) => (by rw [hX] at h; exact h : k = p))
  have HXP := hid (show X p from by rw [hX])
  clear hX
  go_upto_block 0 with fail
  go_cut [7] (fun v7 wx => ∃ (m : List Tab) (r : RM), RJ w X p c r m wx ∧ Cont s r (kTabs 0 m) x)
  case first =>
    go_wp2_with (fail)
    go_loopw [7] (fun i wr => ∃ (j : Nat) (m : List Tab) (r : RM), j ≤ n ∧ i = .int .i64 j ∧ RJ w X p c r m wr ∧ Cont s r (kTabs (n - j) m) x) (fun i _ => n - (intOf i).toNat)
    case atStart => exact ⟨0, _, _, by omega, rfl, HJ1.out, HCT.out⟩
    case round =>
      obtain ⟨j, m, r, hj, rfl, hri, hct⟩ := hrel
      have HR6 := hid hri
      have HC6 := hid hct
      clear hri hct HJ1 HCT
      have i1 : (0 : Int) ≤ (j : Int) := by omega
      by_cases hend : j = n ∨ r.failed = true
      · have HEN := hid (cont_exit (k := n - j) (f := fun k => kTabs k m) HC6.out (hend.imp (fun h => by omega) id))
        rcases exit_ways hj hend with ⟨i2, hb⟩ | i2
        · have q2 : wr.cell? ⟨p, 2, none⟩ = some (.bool true) := by rw [← hb]; exact HR6.out.cell2
          clear hb hend
          go_wp2_with (fail)
          go_meet
          exact ⟨m, r, HR6.out, HEN.out⟩
        · clear hend
          go_wp2_with (fail)
          go_meet
          exact ⟨m, r, HR6.out, HEN.out⟩
      · have hjn : j < n := by omega
        have hrf : r.failed = false := by cases h : r.failed with | false => rfl | true => exact absurd (.inr h) hend
        have i2 : (j : Int) < (n : Int) := by omega
        have q2 : wr.cell? ⟨p, 2, none⟩ = some (.bool false) := by rw [← hrf]; exact HR6.out.cell2
        obtain ⟨J, hJ⟩ : ∃ J, n - j = J + 1 := ⟨n - j - 1, by omega⟩
        rw [hJ] at HC6
        have HJE := hid hJ
        clear hend hrf hJ
        have HCA := hid (cont_tab HC6.out)
        have HTL := hid (text_le r)
        clear HC6
        obtain ⟨B, hB⟩ : ∃ B, B = wr.heap.size := ⟨_, rfl⟩
        have HGE := hid (show w.heap.size ≤ B from by have := HR6.out.fr.size; omega)
        have HLT := hid (show p < B from by have := HR6.out.lt; omega)
        obtain ⟨X1, hX1⟩ : ∃ X1 : Nat → Prop, X1 = fun k => X k ∨ B ≤ k := ⟨_, rfl⟩
        have HR7 := hid (show RJ w X1 p c r m wr from by rw [hX1, hB]; exact HR6.out.wide)
        have HX1 := hid (show (∀ k, X k → X1 k) ∧ ∀ k, B ≤ k → X1 k from by rw [hX1]; exact ⟨fun k h => .inl h, fun k h => .inr h⟩)
        have HDB := hid (show B ≤ wr.heap.size from by omega)
        clear hX1 HR6 hB
        go_upto_region 8 with fail
        have fa := (Fr.refl (fun _ => False) wr).alloc (.cells #[.int .i64 1, .string ⟨#[]⟩, .string ⟨#[]⟩, .slice none 0 0, .slice none 0 0, .slice none 0 0, .slice none 0 0, .slice none 0 0, .string ⟨#[]⟩, .string ⟨#[]⟩, .string ⟨#[]⟩, .int .i64 0, .slice none 0 0, .int .i64 0, .int .i64 0] 55)
        have HD8 := hid (Blk.new wr [.int .i64 1, .string ⟨#[]⟩, .string ⟨#[]⟩, .slice none 0 0, .slice none 0 0, .slice none 0 0, .slice none 0 0, .slice none 0 0, .string ⟨#[]⟩, .string ⟨#[]⟩, .string ⟨#[]⟩, .int .i64 0, .slice none 0 0, .int .i64 0, .int .i64 0] 55)
        have HR8 := hid (HR7.out.fre fa)
        clear fa HR7 q2
        generalize wr.heap.size = d at *
        generalize wr.alloc _ = W8 at *
        have HTX := hid HR8.out.text
        obtain ⟨r2, hr2⟩ : ∃ r', r.text.1 = r' := ⟨_, rfl⟩
        obtain ⟨tn, htn⟩ : ∃ t, r.text.2 = t := ⟨_, rfl⟩
        rw [hr2, htn] at HTX HCA
        rw [htn] at HTL
        clear hr2 htn
        go_upto_region 9 with (go_at_call 81; refine HTX.out.mono ?_; rintro e W9 ⟨rfl, h, f⟩; have HR9 := hid h; have HD9 := hid (Blk.fr HD8.out f (HR8.out.off HD8.out (by decide))); have k1 : W9.cell? ⟨d, 1, none⟩ = some (.string ⟨#[]⟩) := HD9.out.cell 1; have z1 : W9.frozen? ⟨d, 1, none⟩ = false := HD9.out.frozen 1; clear h f)
        have HRA := hid (HR9.out.put1 (d := d) ⟨HX1.out.2 _ HDB.out, Nat.le_trans HGE.out HDB.out⟩ (HR9.out.off HD9.out (by decide)) 1 (.string (bs tn)))
        have HDA := hid (show Blk (W9.setCell ⟨d, 1, none⟩ (.string (bs tn))) d [.int .i64 1, .string (bs tn), .string ⟨#[]⟩, .slice none 0 0, .slice none 0 0, .slice none 0 0, .slice none 0 0, .slice none 0 0, .string ⟨#[]⟩, .string ⟨#[]⟩, .string ⟨#[]⟩, .int .i64 0, .slice none 0 0, .int .i64 0, .int .i64 0] 55 from HD9.out.set 1 (.string (bs tn)))
        clear HR8 HD8 HR9 HD9 k1 z1 HTX
        generalize W9.setCell _ _ = WA at *
        have HN := hid HRA.out.num1
        have HNB := hid (RM.num_lt r2 1)
        obtain ⟨r3, hr3⟩ : ∃ r', (r2.num 1).1 = r' := ⟨_, rfl⟩
        obtain ⟨nc, hnc⟩ : ∃ n', (r2.num 1).2 = n' := ⟨_, rfl⟩
        rw [hr3, hnc] at HN HCA
        rw [hnc] at HNB
        have hnc255 : nc ≤ 255 := by have := HNB.out; omega
        clear hr3 hnc HNB
        go_upto_region 10 with (go_at_call 80; refine HN.out.mono ?_; rintro e WB ⟨rfl, h, f⟩; have HRB := hid h; have HDB2 := hid (Blk.fr HDA.out f (HRA.out.off HDA.out (by decide))); clear h f)
        clear HN HRA HDA
        have HRW := hid (show Row 80 2 B WB (.slice none 0 0) 0 [] from Row.nil)
        go_upto_block 2 with fail
        go_cut [10] from 26 to 136 (fun v10 wx => ∃ (ac : Option Addr) (cc : Nat) (l : List Col) (r : RM), l.length ≤ 255 ∧ ColsLe l ∧ RJ w X1 p c r m wx ∧ Blk wx d [.int .i64 1, .string (bs tn), .string ⟨#[]⟩, .slice ac l.length cc, .slice none 0 0, .slice none 0 0, .slice none 0 0, .slice none 0 0, .string ⟨#[]⟩, .string ⟨#[]⟩, .string ⟨#[]⟩, .int .i64 0, .slice none 0 0, .int .i64 0, .int .i64 0] 55 ∧ Row 80 2 B wx (.slice ac l.length cc) l.length (l.flatMap Col.cells) ∧ Cont s r (kCols J m tn 0 l) x)
        case first =>
          go_wp2_with (fail)
          go_loopw [10] (fun i wr => ∃ (jc : Nat) (ac : Option Addr) (cc : Nat) (l : List Col) (r : RM), jc ≤ nc ∧ i = .int .i64 jc ∧ l.length = jc ∧ ColsLe l ∧ RJ w X1 p c r m wr ∧ Blk wr d [.int .i64 1, .string (bs tn), .string ⟨#[]⟩, .slice ac l.length cc, .slice none 0 0, .slice none 0 0, .slice none 0 0, .slice none 0 0, .string ⟨#[]⟩, .string ⟨#[]⟩, .string ⟨#[]⟩, .int .i64 0, .slice none 0 0, .int .i64 0, .int .i64 0] 55 ∧ Row 80 2 B wr (.slice ac l.length cc) l.length (l.flatMap Col.cells) ∧ Cont s r (kCols J m tn (nc - jc) l) x) (fun i _ => nc - (intOf i).toNat)
          case atStart => exact ⟨0, none, 0, [], _, by omega, rfl, rfl, fun c h => by (cases h), HRB.out, HDB2.out, HRW.out, HCA.out⟩
          case round =>
            obtain ⟨jc, ac, cc, l, r4, hjc, rfl, hll, hcl, hri, hbd, hrow, hct⟩ := hrel
            have HRC := hid hri
            have HDC := hid hbd
            have HWC := hid hrow
            have HCC := hid hct
            have HLL := hid hll
            have HCL := hid hcl
            clear hri hbd hrow hct hll hcl HRB HDB2 HRW HCA
            have i3 : (0 : Int) ≤ (jc : Int) := by omega
            by_cases hend : jc = nc ∨ r4.failed = true
            · have HEN := hid (cont_exit (k := nc - jc) (f := fun k => kCols J m tn k l) HCC.out (hend.imp (fun h => by omega) id))
              have HL255 := hid (show l.length ≤ 255 from by have := HLL.out; omega)
              rcases exit_ways hjc hend with ⟨i4, hb⟩ | i4
              · have q2 : wr.cell? ⟨p, 2, none⟩ = some (.bool true) := by rw [← hb]; exact HRC.out.cell2
                clear hb hend
                go_wp2_with (fail)
                go_meet
                exact ⟨ac, cc, l, r4, HL255.out, HCL.out, HRC.out, HDC.out, HWC.out, HEN.out⟩
              · clear hend
                go_wp2_with (fail)
                go_meet
                exact ⟨ac, cc, l, r4, HL255.out, HCL.out, HRC.out, HDC.out, HWC.out, HEN.out⟩
            · have hjn : jc < nc := by omega
              have hrf : r4.failed = false := by cases h : r4.failed with | false => rfl | true => exact absurd (.inr h) hend
              have i4 : (jc : Int) < (nc : Int) := by omega
              have q2 : wr.cell? ⟨p, 2, none⟩ = some (.bool false) := by rw [← hrf]; exact HRC.out.cell2
              obtain ⟨K, hK⟩ : ∃ K, nc - jc = K + 1 := ⟨nc - jc - 1, by omega⟩
              rw [hK] at HCC
              have HKE := hid (show nc - (jc + 1) = K from by omega)
              clear hend hrf hK
              have HCE2 := hid (cont_col HCC.out)
              have HTL2 := hid (text_le r4)
              clear HCC
              go_upto_region 14 with fail
              have fa := (Fr.refl (fun _ => False) wr).alloc (.cells #[.string ⟨#[]⟩, .int .i64 0] 80)
              have HX0 := hid (Blk.new wr [.string ⟨#[]⟩, .int .i64 0] 80)
              have HXN := hid (show B ≤ wr.heap.size ∧ (∀ k, (Value.slice ac l.length cc).ownBlock = some k → wr.heap.size ≠ k) from ⟨by have := HDC.out.lt; have := HDB.out; omega, fun k hk e => by have := HWC.out.lt hk; omega⟩)
              have HRD := hid (HRC.out.fre fa)
              have HDD := hid (Blk.fr HDC.out fa (fun h => h))
              have HWD := hid (HWC.out.fre fa)
              clear fa HRC HDC HWC q2
              generalize wr.heap.size = dx at *
              generalize wr.alloc _ = WC at *
              have HTX := hid HRD.out.text
              obtain ⟨r5, hr5⟩ : ∃ r', r4.text.1 = r' := ⟨_, rfl⟩
              obtain ⟨cn, hcn⟩ : ∃ t, r4.text.2 = t := ⟨_, rfl⟩
              rw [hr5, hcn] at HTX HCE2
              rw [hcn] at HTL2
              clear hr5 hcn
              go_upto_region 15 with (go_at_call 81; refine HTX.out.mono ?_; rintro e WD ⟨rfl, h, f⟩; have HRE := hid h; have HXE := hid (Blk.fr HX0.out f (HRD.out.off HX0.out (by decide))); have HDE := hid (Blk.fr HDD.out f (HRD.out.off HDD.out (by decide))); have HWE := hid (HWD.out.fr f (HRD.out.offR HWD.out (by decide))); have k1 : WD.cell? ⟨dx, 0, none⟩ = some (.string ⟨#[]⟩) := HXE.out.cell 0; have z1 : WD.frozen? ⟨dx, 0, none⟩ = false := HXE.out.frozen 0; clear h f)
              have HNE := hid (show dx ≠ d from HXE.out.ne_of_type HDE.out (by decide))
              have fs := (Fr.refl (fun k => k = dx) WD).setCell ⟨dx, 0, none⟩ (.string (bs cn)) (fun _ => rfl)
              have HRF := hid (HRE.out.put1 (d := dx) ⟨HX1.out.2 _ HXN.out.1, Nat.le_trans HGE.out HXN.out.1⟩ (HRE.out.off HXE.out (by decide)) 0 (.string (bs cn)))
              have HXF := hid (show Blk (WD.setCell ⟨dx, 0, none⟩ (.string (bs cn))) dx [.string (bs cn), .int .i64 0] 80 from HXE.out.set 0 (.string (bs cn)))
              have HDF := hid (Blk.fr HDE.out fs (fun e => HNE.out e.symm))
              have HWF := hid (HWE.out.fr fs (fun k hk e => HXN.out.2 k hk e.symm))
              clear fs HRD HX0 HDD HWD HRE HXE HDE HWE k1 z1 HTX
              generalize WD.setCell _ _ = WE at *
              have HN := hid HRF.out.num1
              have HNB := hid (RM.num_lt r5 1)
              obtain ⟨r6, hr6⟩ : ∃ r', (r5.num 1).1 = r' := ⟨_, rfl⟩
              obtain ⟨kd, hkd⟩ : ∃ n', (r5.num 1).2 = n' := ⟨_, rfl⟩
              rw [hr6, hkd] at HN HCE2
              clear hr6 hkd HNB
              go_upto_region 16 with (go_at_call 80; refine HN.out.mono ?_; rintro e WF ⟨rfl, h, f⟩; have HRG := hid h; have HXG := hid (Blk.fr HXF.out f (HRF.out.off HXF.out (by decide))); have HDG := hid (Blk.fr HDF.out f (HRF.out.off HDF.out (by decide))); have HWG := hid (HWF.out.fr f (HRF.out.offR HWF.out (by decide))); have k1 : WF.cell? ⟨dx, 1, none⟩ = some (.int .i64 0) := HXG.out.cell 1; have z1 : WF.frozen? ⟨dx, 1, none⟩ = false := HXG.out.frozen 1; clear h f)
              have fs := (Fr.refl (fun k => k = dx) WF).setCell ⟨dx, 1, none⟩ (.int .i64 kd) (fun _ => rfl)
              have HRH := hid (HRG.out.put1 (d := dx) ⟨HX1.out.2 _ HXN.out.1, Nat.le_trans HGE.out HXN.out.1⟩ (HRG.out.off HXG.out (by decide)) 1 (.int .i64 kd))
              have HXH := hid (show Blk (WF.setCell ⟨dx, 1, none⟩ (.int .i64 kd)) dx [.string (bs cn), .int .i64 kd] 80 from HXG.out.set 1 (.int .i64 kd))
              have HDH := hid (Blk.fr HDG.out fs (fun e => HNE.out e.symm))
              have HWH := hid (HWG.out.fr fs (fun k hk e => HXN.out.2 k hk e.symm))
              clear fs HRF HXF HDF HWF HRG HXG HDG HWG k1 z1 HN
              generalize WF.setCell _ _ = WG at *
              have k3 : WG.cell? ⟨d, 3, none⟩ = some (.slice ac l.length cc) := HDH.out.cell 3
              have HXL := hid (HXH.out.all)
              have HSZ := hid (show B ≤ WG.heap.size from by have := HDH.out.lt; have := HDB.out; omega)
              have FA := hid (fun o => (Fr.refl (fun _ => False) WG).alloc o)
              go_upto_region 12 with (first
                | (refine wpList_load_mid rfl 80 (.tmp 11) rfl dx 0 rfl _ _ HXL.out Tryz.underlying80 rfl size_col ?_)
                | (at_builtin; refine wpList_app1 rfl (s := .tmp 64) (x := .tmp 66) (t := 31) rfl Tryz.underlying31 info_col rfl rfl rfl HWH.out HSZ.out rfl (by simp [Value.oneCell']) (by have := HLL.out; omega) (by have := HLL.out; omega) ?_; intro ab ac7 wg APP; have HRI := hid (HRH.out.keep APP.fr (fun k hk => ⟨HX1.out.2 k (HWH.out.new k hk), Nat.le_trans HGE.out (HWH.out.new k hk)⟩) (fun hk => HRH.out.offR HWH.out (by decide) p hk rfl)); have HDI := hid (Blk.fr HDH.out APP.fr (fun hk => HWH.out.ne HDH.out (by decide) _ hk rfl)); have HWI := hid (APP.row.cast (m := (l ++ [(⟨cn, (kd : Int)⟩ : Col)]).length) (ys := (l ++ [(⟨cn, (kd : Int)⟩ : Col)]).flatMap Col.cells) (by rw [List.length_append]; rfl) (by rw [List.flatMap_append]; rfl)); have k3 : wg.cell? ⟨d, 3, none⟩ = some (.slice ac l.length cc) := HDI.out.cell 3; have z3 : wg.frozen? ⟨d, 3, none⟩ = false := HDI.out.frozen 3; clear APP))
              have e1 : (l ++ [(⟨cn, (kd : Int)⟩ : Col)]).length = l.length + 1 := by simp
              rw [e1] at HWI
              have fs := (Fr.refl (fun k => k = d) wg).setCell ⟨d, 3, none⟩ (.slice ab (l.length + 1) ac7) (fun _ => rfl)
              have HRJ := hid (HRI.out.put1 (d := d) ⟨HX1.out.2 _ HDB.out, Nat.le_trans HGE.out HDB.out⟩ (HRI.out.off HDI.out (by decide)) 3 (.slice ab (l.length + 1) ac7))
              have HDJ := hid (HDI.out.set 3 (.slice ab (l.length + 1) ac7))
              have HWJ := hid (HWI.out.fr fs (fun k hk e => HWI.out.ne HDI.out (by decide) k hk e))
              clear fs e1 HRH HXH HDH HWH HRI HDI HWI k3 z3 FA HSZ HXL
              go_wp2_with (fail)
              go_roundw
              case rel =>
                have e1 : (l ++ [(⟨cn, (kd : Int)⟩ : Col)]).length = l.length + 1 := by simp
                refine ⟨jc + 1, ab, ac7, l ++ [⟨cn, kd⟩], r6, by omega, by go_num, by rw [e1, HLL.out], HCL.out.add HTL2.out, HRJ.out, ?_, ?_, ?_⟩
                · rw [e1]; exact HDJ.out
                · rw [e1]; exact HWJ.out
                · rw [HKE.out]; exact HCE2.out
              case measure => simp [intOf]; omega
        case rest =>
          obtain ⟨ac, cc, l, r4, hl255, hcl, hri, hbd, hrow, hct⟩ := hcut
          have HRC := hid hri
          have HDC := hid hbd
          have HWC := hid hrow
          have HCL := hid hcl
          have HCD := hid (cont_made hct)
          clear hri hbd hrow hct hcl HRB HDB2 HRW HCA
          obtain ⟨X2, hX2⟩ : ∃ X2 : Nat → Prop, X2 = fun k => X k ∨ k = d ∨ (Value.slice ac l.length cc).ownBlock = some k := ⟨_, rfl⟩
          have HX2 := hid (show (∀ k, X k → X2 k) ∧ X2 d ∧ (∀ k, (Value.slice ac l.length cc).ownBlock = some k → X2 k) ∧ ∀ k, X2 k → X1 k ∧ (X k ∨ k = d ∨ (Value.slice ac l.length cc).ownBlock = some k) from by
            rw [hX2]
            refine ⟨fun k h => .inl h, .inr (.inl rfl), fun k h => .inr (.inr h), fun k h => ⟨?_, h⟩⟩
            rcases h with h | rfl | h
            · exact HX1.out.1 k h
            · exact HX1.out.2 _ HDB.out
            · exact HX1.out.2 _ (HWC.out.new k h))
          clear hX2
          have HXP2 := hid (HX2.out.1 _ HXP.out)
          have HX2L := hid (fun (W : World) (l' : List Value) (hd : Blk W d l' 55) (hr : Row 80 2 B W (.slice ac l.length cc) l.length (l.flatMap Col.cells)) k (hk : X2 k) => (by
            rcases (HX2.out.2.2.2 k hk).2 with h | rfl | h
            · have h1 := HXS.out k h
              have h2 := HLT.out
              have h3 := hd.lt
              have h4 := HDB.out
              omega
            · exact hd.lt
            · exact hr.lt h : k < W.heap.size))
          have HKEEP := hid (fun (W W' : World) (l' : List Value) (hd : Blk W d l' 55) (hr : Row 80 2 B W (.slice ac l.length cc) l.length (l.flatMap Col.cells)) (f : Fr (fun k => ¬ X2 k) W W') => (⟨Blk.fr hd f (fun h => h HX2.out.2.1), hr.fr f (fun k hk h => h (HX2.out.2.2.1 k hk))⟩ : Blk W' d l' 55 ∧ Row 80 2 B W' (.slice ac l.length cc) l.length (l.flatMap Col.cells)))
          have HDO := hid (HRC.out.do_ (Y := X2) (P := fun _ => True) (fun k hk => ⟨(HX2.out.2.2.2 k hk).1, HX2L.out _ _ HDC.out HWC.out k hk⟩) HXP2.out (t := ⟨stT tn l, ac, cc, none, 0, none, 0, 0, none, 0, 0, none, 0, 0, ⟨#[]⟩, ⟨#[]⟩, 0, none, 0, 0, 0, 0⟩)
            ⟨HWC.out.sl' (fun _ _ => trivial), ⟨none, 0, rfl, Nat.le_refl _, fun h => absurd rfl h⟩, by simp only [stT]; omega, by simp [stT], fun x hx => by have := HCL.out x hx; omega, fun x hx => by simp [stT] at hx⟩ 0)
          unfold StV.cells at HDO
          dsimp only [stT, List.length_nil] at HDO
          obtain ⟨dp, hdp⟩ : ∃ dp, doM m (stT tn l) 0 = dp := ⟨_, rfl⟩
          have hdp2 := hdp
          unfold stT at hdp2
          rw [hdp2] at HDO
          rw [hdp] at HCD
          clear hdp hdp2
          obtain ⟨m6, e6⟩ := dp
          dsimp only at HDO HCD
          have HRG := hid (HDC.out.all)
          go_upto_region 18 with (first
            | (refine wpList_load_mid rfl 55 (.tmp 8) rfl d 0 rfl _ _ HRG.out Tryz.underlying55 rfl size_st ?_)
            | (go_at_call 17; refine HDO.out.mono ?_; rintro e WD ⟨rfl, h, f⟩; have HRD := hid h; have HKD := hid (HKEEP.out _ _ _ HDC.out HWC.out (f.mono (fun k hk _ hx => hk (HX2.out.2.2.2 k hx).1))); clear h f)
            | (go_at_call 82; refine (HRD.out.must e6).mono ?_; rintro e WE ⟨rfl, h, f⟩; have HRE := hid h; have HDE := hid (Blk.fr HKD.out.1 f (HRD.out.off HKD.out.1 (by decide))); have HWE := hid (HKD.out.2.fr f (HRD.out.offR HKD.out.2 (by decide))); clear h f))
          clear HRC HDC HWC HDO HRG HRD HKD
          obtain ⟨r5, hr5⟩ : ∃ r', mustM r4 e6 = r' := ⟨_, rfl⟩
          rw [hr5] at HRE HCD
          clear hr5
          have HN := hid HRE.out.num1
          have HNB := hid (RM.num_lt r5 1)
          obtain ⟨r6, hr6⟩ : ∃ r', (r5.num 1).1 = r' := ⟨_, rfl⟩
          obtain ⟨nx, hnx⟩ : ∃ n', (r5.num 1).2 = n' := ⟨_, rfl⟩
          rw [hr6, hnx] at HN HCD
          rw [hnx] at HNB
          have hnx255 : nx ≤ 255 := by have := HNB.out; omega
          clear hr6 hnx HNB
          go_upto_region 19 with (go_at_call 80; refine HN.out.mono ?_; rintro e WF ⟨rfl, h, f⟩; have HRF := hid h; have HDF := hid (Blk.fr HDE.out f (HRE.out.off HDE.out (by decide))); have HWF := hid (HWE.out.fr f (HRE.out.offR HWE.out (by decide))); clear h f)
          clear HN HRE HDE HWE
          go_wp2_with (fail)
          go_loopw [13] (fun i wr => ∃ (jx : Nat) (m : List Tab) (r : RM), jx ≤ nx ∧ i = .int .i64 jx ∧ RJ w X2 p c r m wr ∧ Blk wr d [.int .i64 1, .string (bs tn), .string ⟨#[]⟩, .slice ac l.length cc, .slice none 0 0, .slice none 0 0, .slice none 0 0, .slice none 0 0, .string ⟨#[]⟩, .string ⟨#[]⟩, .string ⟨#[]⟩, .int .i64 0, .slice none 0 0, .int .i64 0, .int .i64 0] 55 ∧ Row 80 2 B wr (.slice ac l.length cc) l.length (l.flatMap Col.cells) ∧ Cont s r (kIxs J tn l (nx - jx) m) x) (fun i _ => nx - (intOf i).toNat)
          case atStart => exact ⟨0, _, _, by omega, rfl, HRF.out, HDF.out, HWF.out, HCD.out⟩
          case round =>
            obtain ⟨jx, m7, r7, hjx, rfl, hri, hbd, hrow, hct⟩ := hrel
            have HRG := hid hri
            have HDG := hid hbd
            have HWG := hid hrow
            have HCG := hid hct
            clear hri hbd hrow hct HRF HDF HWF HCD
            have i5 : (0 : Int) ≤ (jx : Int) := by omega
            by_cases hend : jx = nx ∨ r7.failed = true
            · have HEN := hid (cont_tabbed (cont_exit (k := nx - jx) (f := fun k => kIxs J tn l k m7) HCG.out (hend.imp (fun h => by omega) id)))
              have HEND := hid (HRG.out.less (HX2.out.1) HXP.out)
              have HJ2 := hid (show n - (j + 1) = J from by have := HJE.out; omega)
              rcases exit_ways hjx hend with ⟨i6, hb⟩ | i6
              · have q2 : wr.cell? ⟨p, 2, none⟩ = some (.bool true) := by rw [← hb]; exact HRG.out.cell2
                clear hb hend
                go_wp2_with (fail)
                go_roundw
                case rel => exact ⟨j + 1, m7, r7, by omega, by go_num, HEND.out, by rw [HJ2.out]; exact HEN.out⟩
                case measure => simp [intOf]; omega
              · clear hend
                go_wp2_with (fail)
                go_roundw
                case rel => exact ⟨j + 1, m7, r7, by omega, by go_num, HEND.out, by rw [HJ2.out]; exact HEN.out⟩
                case measure => simp [intOf]; omega
            · have hjn : jx < nx := by omega
              have hrf : r7.failed = false := by cases h : r7.failed with | false => rfl | true => exact absurd (.inr h) hend
              have i6 : (jx : Int) < (nx : Int) := by omega
              have q2 : wr.cell? ⟨p, 2, none⟩ = some (.bool false) := by rw [← hrf]; exact HRG.out.cell2
              obtain ⟨Q, hQ⟩ : ∃ Q, nx - jx = Q + 1 := ⟨nx - jx - 1, by omega⟩
              rw [hQ] at HCG
              have HQE := hid (show nx - (jx + 1) = Q from by omega)
              clear hend hrf hQ
              have HCH := hid (cont_ix HCG.out)
              clear HCG
              obtain ⟨B5, hB5⟩ : ∃ B5, B5 = wr.heap.size := ⟨_, rfl⟩
              have HGE5 := hid (show B ≤ B5 ∧ (∀ k, X2 k → k < B5) from ⟨by have := HDG.out.lt; have := HDB.out; omega, fun k hk => by rw [hB5]; exact HX2L.out _ _ HDG.out HWG.out k hk⟩)
              obtain ⟨X3, hX3⟩ : ∃ X3 : Nat → Prop, X3 = fun k => X2 k ∨ B5 ≤ k := ⟨_, rfl⟩
              have HRH := hid (show RJ w X3 p c r7 m7 wr from by rw [hX3, hB5]; exact HRG.out.wide)
              have HX3 := hid (show (∀ k, X2 k → X3 k) ∧ ∀ k, B5 ≤ k → X3 k from by rw [hX3]; exact ⟨fun k h => .inl h, fun k h => .inr h⟩)
              have HD5 := hid (show B5 ≤ wr.heap.size from by omega)
              have k1 : wr.cell? ⟨d, 1, none⟩ = some (.string (bs tn)) := HDG.out.cell 1
              clear hX3 HRG hB5
              go_upto_region 23 with fail
              have fa := (Fr.refl (fun _ => False) wr).alloc (.cells #[.int .i64 2, .string (bs tn), .string ⟨#[]⟩, .slice none 0 0, .slice none 0 0, .slice none 0 0, .slice none 0 0, .slice none 0 0, .string ⟨#[]⟩, .string ⟨#[]⟩, .string ⟨#[]⟩, .int .i64 0, .slice none 0 0, .int .i64 0, .int .i64 0] 55)
              have H50 := hid (Blk.new wr [.int .i64 2, .string (bs tn), .string ⟨#[]⟩, .slice none 0 0, .slice none 0 0, .slice none 0 0, .slice none 0 0, .slice none 0 0, .string ⟨#[]⟩, .string ⟨#[]⟩, .string ⟨#[]⟩, .int .i64 0, .slice none 0 0, .int .i64 0, .int .i64 0] 55)
              have HNE5 := hid (show wr.heap.size ≠ d ∧ d < B5 from ⟨by have := HDG.out.lt; omega, HGE5.out.2 d HX2.out.2.1⟩)
              have HRI := hid (HRH.out.fre fa)
              have HDI := hid (Blk.fr HDG.out fa (fun h => h))
              have HWI := hid (HWG.out.fre fa)
              clear fa HRH HDG HWG q2 k1
              generalize wr.heap.size = d5 at *
              generalize wr.alloc _ = WG at *
              have HTX := hid HRI.out.text
              obtain ⟨r8, hr8⟩ : ∃ r', r7.text.1 = r' := ⟨_, rfl⟩
              obtain ⟨xn, hxn⟩ : ∃ t, r7.text.2 = t := ⟨_, rfl⟩
              rw [hr8, hxn] at HTX HCH
              clear hr8 hxn
              go_upto_region 24 with (go_at_call 81; refine HTX.out.mono ?_; rintro e WH ⟨rfl, h, f⟩; have HRJ := hid h; have H51 := hid (Blk.fr H50.out f (HRI.out.off H50.out (by decide))); have HDJ := hid (Blk.fr HDI.out f (HRI.out.off HDI.out (by decide))); have HWJ := hid (HWI.out.fr f (HRI.out.offR HWI.out (by decide))); have k1 : WH.cell? ⟨d5, 2, none⟩ = some (.string ⟨#[]⟩) := H51.out.cell 2; have z1 : WH.frozen? ⟨d5, 2, none⟩ = false := H51.out.frozen 2; clear h f)
              have fs := (Fr.refl (fun k => k = d5) WH).setCell ⟨d5, 2, none⟩ (.string (bs xn)) (fun _ => rfl)
              have HRK := hid (HRJ.out.put1 (d := d5) ⟨HX3.out.2 _ HD5.out, Nat.le_trans HGE.out (Nat.le_trans HGE5.out.1 HD5.out)⟩ (HRJ.out.off H51.out (by decide)) 2 (.string (bs xn)))
              have H52 := hid (show Blk (WH.setCell ⟨d5, 2, none⟩ (.string (bs xn))) d5 [.int .i64 2, .string (bs tn), .string (bs xn), .slice none 0 0, .slice none 0 0, .slice none 0 0, .slice none 0 0, .slice none 0 0, .string ⟨#[]⟩, .string ⟨#[]⟩, .string ⟨#[]⟩, .int .i64 0, .slice none 0 0, .int .i64 0, .int .i64 0] 55 from H51.out.set 2 (.string (bs xn)))
              have HDK := hid (Blk.fr HDJ.out fs (fun e => HNE5.out.1 e.symm))
              have HWK := hid (HWJ.out.fr fs (fun k hk e => HWJ.out.ne H51.out (by decide) k hk e))
              clear fs HRI H50 HDI HWI HRJ H51 HDJ HWJ k1 z1 HTX
              generalize WH.setCell _ _ = WI at *
              have HN := hid HRK.out.num1
              have HNB := hid (RM.num_lt r8 1)
              obtain ⟨r9, hr9⟩ : ∃ r', (r8.num 1).1 = r' := ⟨_, rfl⟩
              obtain ⟨nn, hnn⟩ : ∃ n', (r8.num 1).2 = n' := ⟨_, rfl⟩
              rw [hr9, hnn] at HN HCH
              rw [hnn] at HNB
              have hnn255 : nn ≤ 255 := by have := HNB.out; omega
              clear hr9 hnn HNB
              go_upto_region 25 with (go_at_call 80; refine HN.out.mono ?_; rintro e WJ ⟨rfl, h, f⟩; have HRL := hid h; have H53 := hid (Blk.fr H52.out f (HRK.out.off H52.out (by decide))); have HDL := hid (Blk.fr HDK.out f (HRK.out.off HDK.out (by decide))); have HWL := hid (HWK.out.fr f (HRK.out.offR HWK.out (by decide))); clear h f)
              clear HN HRK H52 HDK HWK
              have HNW := hid (show Row 9 1 B5 WJ (.slice none 0 0) 0 (sv []) from Row.nil)
              go_upto_block 6 with fail
              go_cut [16] from 76 to 136 (fun v16 wx => ∃ (an : Option Addr) (cn : Nat) (ln : List Bs) (r : RM), ln.length ≤ 255 ∧ Among l ln ∧ RJ w X3 p c r m7 wx ∧ Blk wx d [.int .i64 1, .string (bs tn), .string ⟨#[]⟩, .slice ac l.length cc, .slice none 0 0, .slice none 0 0, .slice none 0 0, .slice none 0 0, .string ⟨#[]⟩, .string ⟨#[]⟩, .string ⟨#[]⟩, .int .i64 0, .slice none 0 0, .int .i64 0, .int .i64 0] 55 ∧ Row 80 2 B wx (.slice ac l.length cc) l.length (l.flatMap Col.cells) ∧ Blk wx d5 [.int .i64 2, .string (bs tn), .string (bs xn), .slice none 0 0, .slice an ln.length cn, .slice none 0 0, .slice none 0 0, .slice none 0 0, .string ⟨#[]⟩, .string ⟨#[]⟩, .string ⟨#[]⟩, .int .i64 0, .slice none 0 0, .int .i64 0, .int .i64 0] 55 ∧ Row 9 1 B5 wx (.slice an ln.length cn) ln.length (sv ln) ∧ Cont s r (kNames J tn l Q m7 xn 0 ln) x)
              case first =>
                go_wp2_with (fail)
                go_loopw [16] (fun i wr => ∃ (jn : Nat) (an : Option Addr) (cn : Nat) (ln : List Bs) (r : RM), jn ≤ nn ∧ i = .int .i64 jn ∧ ln.length ≤ jn ∧ Among l ln ∧ RJ w X3 p c r m7 wr ∧ Blk wr d [.int .i64 1, .string (bs tn), .string ⟨#[]⟩, .slice ac l.length cc, .slice none 0 0, .slice none 0 0, .slice none 0 0, .slice none 0 0, .string ⟨#[]⟩, .string ⟨#[]⟩, .string ⟨#[]⟩, .int .i64 0, .slice none 0 0, .int .i64 0, .int .i64 0] 55 ∧ Row 80 2 B wr (.slice ac l.length cc) l.length (l.flatMap Col.cells) ∧ Blk wr d5 [.int .i64 2, .string (bs tn), .string (bs xn), .slice none 0 0, .slice an ln.length cn, .slice none 0 0, .slice none 0 0, .slice none 0 0, .string ⟨#[]⟩, .string ⟨#[]⟩, .string ⟨#[]⟩, .int .i64 0, .slice none 0 0, .int .i64 0, .int .i64 0] 55 ∧ Row 9 1 B5 wr (.slice an ln.length cn) ln.length (sv ln) ∧ Cont s r (kNames J tn l Q m7 xn (nn - jn) ln) x) (fun i _ => nn - (intOf i).toNat)
                case atStart => exact ⟨0, none, 0, [], _, by omega, rfl, Nat.le_refl _, fun c h => by (cases h), HRL.out, HDL.out, HWL.out, H53.out, HNW.out, HCH.out⟩
                case round =>
                  obtain ⟨jn, an, cn, ln, ra, hjn, rfl, hll, hal, hri, hbd, hrow, hb5, hr5, hct⟩ := hrel
                  have HRM := hid hri
                  have HDM := hid hbd
                  have HWM := hid hrow
                  have H54 := hid hb5
                  have HNM := hid hr5
                  have HCM := hid hct
                  have HLL := hid hll
                  have HAL := hid hal
                  clear hri hbd hrow hct hll hal hb5 hr5 HRL HDL HWL H53 HNW HCH
                  have i7 : (0 : Int) ≤ (jn : Int) := by omega
                  by_cases hend : jn = nn ∨ ra.failed = true
                  · have HEN := hid (cont_exit (k := nn - jn) (f := fun k => kNames J tn l Q m7 xn k ln) HCM.out (hend.imp (fun h => by omega) id))
                    have HL255 := hid (show ln.length ≤ 255 from by have := HLL.out; omega)
                    rcases exit_ways hjn hend with ⟨i8, hb⟩ | i8
                    · have q2 : wr.cell? ⟨p, 2, none⟩ = some (.bool true) := by rw [← hb]; exact HRM.out.cell2
                      clear hb hend
                      go_wp2_with (fail)
                      go_meet
                      exact ⟨an, cn, ln, ra, HL255.out, HAL.out, HRM.out, HDM.out, HWM.out, H54.out, HNM.out, HEN.out⟩
                    · clear hend
                      go_wp2_with (fail)
                      go_meet
                      exact ⟨an, cn, ln, ra, HL255.out, HAL.out, HRM.out, HDM.out, HWM.out, H54.out, HNM.out, HEN.out⟩
                  · have hjl : jn < nn := by omega
                    have hrf : ra.failed = false := by cases h : ra.failed with | false => rfl | true => exact absurd (.inr h) hend
                    have i8 : (jn : Int) < (nn : Int) := by omega
                    have q2 : wr.cell? ⟨p, 2, none⟩ = some (.bool false) := by rw [← hrf]; exact HRM.out.cell2
                    obtain ⟨K, hK⟩ : ∃ K, nn - jn = K + 1 := ⟨nn - jn - 1, by omega⟩
                    rw [hK] at HCM
                    have HKE := hid (show nn - (jn + 1) = K from by omega)
                    clear hend hrf hK
                    have HCN := hid (fun cl h => cont_name (c := cl) HCM.out h)
                    have HCO := hid (fun h => cont_noname HCM.out h (kNames J tn l Q m7 xn K ln))
                    clear HCM
                    have HN := hid HRM.out.num1
                    obtain ⟨rb, hrb⟩ : ∃ r', (ra.num 1).1 = r' := ⟨_, rfl⟩
                    obtain ⟨ck, hck⟩ : ∃ n', (ra.num 1).2 = n' := ⟨_, rfl⟩
                    rw [hrb, hck] at HN HCN HCO
                    clear hrb hck
                    go_upto_region 29 with (go_at_call 80; refine HN.out.mono ?_; rintro e WK ⟨rfl, h, f⟩; have HRN := hid h; have H55 := hid (Blk.fr H54.out f (HRM.out.off H54.out (by decide))); have HDN := hid (Blk.fr HDM.out f (HRM.out.off HDM.out (by decide))); have HWN := hid (HWM.out.fr f (HRM.out.offR HWM.out (by decide))); have HNN := hid (HNM.out.fr f (HRM.out.offR HNM.out (by decide))); clear h f)
                    clear HN HRM H54 HDM HWM HNM q2
                    have k3 : WK.cell? ⟨d, 3, none⟩ = some (.slice ac l.length cc) := HDN.out.cell 3
                    by_cases hk : l.length ≤ ck
                    · have i9 : (l.length : Int) ≤ (ck : Int) := by omega
                      have q2 : WK.cell? ⟨p, 2, none⟩ = some (.bool rb.failed) := HRN.out.cell2
                      have z2 : WK.frozen? ⟨p, 2, none⟩ = false := HRN.out.free2
                      have HCP := hid (HCO.out (List.getElem?_eq_none hk))
                      have HRO := hid HRN.out.fail
                      have fs := (Fr.refl (fun k => k = p) WK).setCell ⟨p, 2, none⟩ (.bool true) (fun _ => rfl)
                      have HFN := hid (And.intro (Blk.fr HDN.out fs (HRN.out.off HDN.out (by decide))) (And.intro (HWN.out.fr fs (HRN.out.offR HWN.out (by decide))) (And.intro (Blk.fr H55.out fs (HRN.out.off H55.out (by decide))) (HNN.out.fr fs (HRN.out.offR HNN.out (by decide))))))
                      clear fs HCN HCO
                      go_wp2_with (fail)
                      go_roundw
                      case rel => exact ⟨jn + 1, an, cn, ln, _, by omega, by go_num, by have := HLL.out; omega, HAL.out, HRO.out, HFN.out.1, HFN.out.2.1, HFN.out.2.2.1, HFN.out.2.2.2, by rw [HKE.out]; exact HCP.out⟩
                      case measure => simp [intOf]; omega
                    · have hk2 : ck < l.length := by omega
                      have HCP := hid (HCN.out _ (List.getElem?_eq_getElem hk2))
                      have HALN := hid (HAL.out.add (List.getElem_mem hk2))
                      have i9 : (ck : Int) < l.length := by omega
                      have i10 : ¬ (l.length : Int) ≤ (ck : Int) := by omega
                      have i11 : (0 : Int) ≤ (ck : Int) := by omega
                      obtain ⟨g, o, hgo, -, q0⟩ := slK (k := 2) (f := Col.cells) (by decide) col_len (HWN.out.sl' (R := fun _ => True) (fun _ _ => trivial)) hk2
                      subst hgo
                      have q0 := q0 0 (by decide)
                      obtain ⟨y, hy⟩ : ∃ y, y = l[ck] := ⟨_, rfl⟩
                      rw [← hy] at q0 HCP HALN
                      clear hy HCN HCO
                      obtain ⟨nm, kd⟩ := y
                      simp only [Col.cells, Nat.add_zero, List.getElem?_cons_zero] at q0
                      dsimp only at HCP HALN
                      have HQ0 := hid q0
                      clear q0
                      go_upto_region 31 with fail
                      have fd := (Fr.refl (fun _ => False) WK).drew
                      have HRP := hid (HRN.out.fre fd)
                      have HDP := hid (Blk.fr HDN.out fd (fun h => h))
                      have H56 := hid (Blk.fr H55.out fd (fun h => h))
                      have HWP := hid (HWN.out.fre fd)
                      have HNP := hid (HNN.out.fre fd)
                      have HQP := hid (cell_fr HQ0.out fd (fun h => h))
                      clear fd HRN HDN H55 HWN HNN HQ0 k3
                      refine wp_region_scr (.take 0 (.take 1 (.take 2 (.take 3 (.take 4 (.take 5 (.take 6 (.take 7 (.op 8 (.op 9 (.take 10 (.op 11 .done)))))))))))) (fun kz w => (kz ≤ 11 → w.cell? ⟨d5, 4, none⟩ = some (.slice an ln.length cn) ∧ w.cell? ⟨d, 3, none⟩ = some (.slice (some ⟨g, o, none⟩) l.length cc) ∧ w.cell? ⟨g, o + ck * 2, none⟩ = some (.string (bs nm))) ∧ Hid True) (by kernel_rfl) (by kernel_rfl) (by intro c a d v w h; cases d <;> exact h) ?_
                      repeat
                        first
                        | (refine wpT_pure rfl rfl rfl ?_; apply Exists.intro; refine ⟨?_, ?_⟩; intro w; (first | (first | (obtain ⟨qa1, qa2, qa3⟩ := qa; go_simp <;> rfl)) | (go_simp <;> rfl)); simp only [Act.put, List.setIfInBounds_toArray, List.set_cons_zero, List.set_cons_succ])
                        | (refine wpT_take 11 rfl rfl (by decide +kernel) ⟨fun _ => ⟨H56.out.cell 4, HDP.out.cell 3, HQP.out⟩, hid trivial⟩ ?_; apply Exists.intro; refine ⟨?_, ?_⟩; intro w hw; (have qa := hw.1 (Nat.le_refl _); have qb := hw.2); (first | (first | (obtain ⟨qa1, qa2, qa3⟩ := qa; go_simp <;> rfl)) | (go_simp <;> rfl)); simp only [Act.put, List.setIfInBounds_toArray, List.set_cons_zero, List.set_cons_succ])
                        | (refine wpT_skip rfl rfl ?_; simp only [Act.put, List.setIfInBounds_toArray, List.set_cons_zero, List.set_cons_succ])
                      generalize WK.drew = WL at *
                      have FA := hid (fun o => (Fr.refl (fun _ => False) WL).alloc o)
                      have HSZ := hid (show B5 ≤ WL.heap.size from by have := H56.out.lt; have := HD5.out; omega)
                      refine wpT_op rfl ?_
                      go_wp2_with (fail)
                      (refine ⟨?_, ?_⟩; focus (intro kz hk hk2 hh; first | (exfalso; simp at hk2; omega) | exact hh | exact (fun h => absurd h (by omega)) | obtain ⟨qa, qb⟩ := hh; first | exact ⟨qa, qb⟩ | (refine ⟨fun h => absurd h (by omega), ?_⟩; first | exact qb | (exact ⟨(Blk.fr H56.out (FA.out _) (fun h => h)).cell 4, (Blk.fr HDP.out (FA.out _) (fun h => h)).cell 3, cell_fr HQP.out (FA.out _) (fun h => h)⟩)) | (refine ⟨fun h => ?_, ?_⟩; (have qa := qa h); all_goals (first | exact qa | exact qb | (exact ⟨(Blk.fr H56.out (FA.out _) (fun h => h)).cell 4, (Blk.fr HDP.out (FA.out _) (fun h => h)).cell 3, cell_fr HQP.out (FA.out _) (fun h => h)⟩)))))
                      refine wpT_op rfl ?_
                      go_wp2_with ((at_builtin; refine wpList_app1 rfl (s := .tmp 119) (x := .tmp 126) (t := 51) rfl Tryz.underlying51 info_str rfl rfl rfl HNP.out HSZ.out rfl (by simp [Value.oneCell']) (by have := HLL.out; omega) (by have := HLL.out; omega) ?_; intro ab ac7 wg APP; have HRQ := hid (HRP.out.keep APP.fr (fun k hk => ⟨HX3.out.2 k (HNP.out.new k hk), Nat.le_trans HGE.out (Nat.le_trans HGE5.out.1 (HNP.out.new k hk))⟩) (fun hk => HRP.out.offR HNP.out (by decide) p hk rfl)); have HDQ := hid (Blk.fr HDP.out APP.fr (fun hk => HNP.out.ne HDP.out (by decide) _ hk rfl)); have H57 := hid (Blk.fr H56.out APP.fr (fun hk => HNP.out.ne H56.out (by decide) _ hk rfl)); have HWQ := hid (HWP.out.fr APP.fr (rows_ne HWP.out HNP.out (by decide))); have HNQ := hid (APP.row.cast (m := (ln ++ [nm]).length) (ys := sv (ln ++ [nm])) (by simp) (by simp [sv])); have HQQ := hid (cell_fr HQP.out APP.fr (fun hk => rows_ne HWP.out HNP.out (by decide) g rfl hk)); clear APP))
                      (refine ⟨?_, ?_⟩; focus (intro kz hk hk2 hh; first | (exfalso; simp at hk2; omega) | exact hh | exact (fun h => absurd h (by omega)) | obtain ⟨qa, qb⟩ := hh; first | exact ⟨qa, qb⟩ | (refine ⟨fun h => absurd h (by omega), ?_⟩; first | exact qb | (exact ⟨H57.out.cell 4, HDQ.out.cell 3, HQQ.out⟩)) | (refine ⟨fun h => ?_, ?_⟩; (have qa := qa h); all_goals (first | exact qa | exact qb | (exact ⟨H57.out.cell 4, HDQ.out.cell 3, HQQ.out⟩)))))
                      clear HNP HRP HDP H56 HWP HQP FA
                      repeat
                        first
                        | (refine wpT_pure rfl rfl rfl ?_; apply Exists.intro; refine ⟨?_, ?_⟩; intro w; ((go_simp <;> rfl)); simp only [Act.put, List.setIfInBounds_toArray, List.set_cons_zero, List.set_cons_succ])
                        | (refine wpT_take 11 rfl rfl (by decide +kernel) ⟨fun _ => ⟨H57.out.cell 4, HDQ.out.cell 3, HQQ.out⟩, hid trivial⟩ ?_; apply Exists.intro; refine ⟨?_, ?_⟩; intro w hw; (have qa := hw.1 (Nat.le_refl _); have qb := hw.2); ((go_simp <;> rfl)); simp only [Act.put, List.setIfInBounds_toArray, List.set_cons_zero, List.set_cons_succ])
                        | (refine wpT_skip rfl rfl ?_; simp only [Act.put, List.setIfInBounds_toArray, List.set_cons_zero, List.set_cons_succ])
                      have k5 : wg.cell? ⟨d5, 4, none⟩ = some (.slice an ln.length cn) := H57.out.cell 4
                      have z5 : wg.frozen? ⟨d5, 4, none⟩ = false := H57.out.frozen 4
                      have e1 : (ln ++ [nm]).length = ln.length + 1 := by simp
                      rw [e1] at HNQ
                      have fs := (Fr.refl (fun k => k = d5) wg).setCell ⟨d5, 4, none⟩ (.slice ab (ln.length + 1) ac7) (fun _ => rfl)
                      have HRS := hid (HRQ.out.put1 (d := d5) ⟨HX3.out.2 _ HD5.out, Nat.le_trans HGE.out (Nat.le_trans HGE5.out.1 HD5.out)⟩ (HRQ.out.off H57.out (by decide)) 4 (.slice ab (ln.length + 1) ac7))
                      have HDS := hid (Blk.fr HDQ.out fs (fun e => HNE5.out.1 e.symm))
                      have H58 := hid (H57.out.set 4 (.slice ab (ln.length + 1) ac7))
                      have HWS := hid (HWQ.out.fr fs (fun k hk e => HWQ.out.ne H57.out (by decide) k hk e))
                      have HNS := hid (HNQ.out.fr fs (fun k hk e => HNQ.out.ne H57.out (by decide) k hk e))
                      clear fs e1 HRQ HDQ H57 HWQ HNQ HQQ
                      refine wpT_op rfl ?_
                      go_wp2_with (fail)
                      (refine ⟨?_, ?_⟩; focus (intro kz hk hk2 hh; first | (exfalso; simp at hk2; omega) | exact hh | exact (fun h => absurd h (by omega)) | obtain ⟨qa, qb⟩ := hh; first | exact ⟨qa, qb⟩ | (refine ⟨fun h => absurd h (by omega), ?_⟩; first | exact qb | (exact hid trivial)) | (refine ⟨fun h => ?_, ?_⟩; (have qa := qa h); all_goals (first | exact qa | exact qb | (exact hid trivial)))))
                      refine wpT_nil ?_
                      go_wp2_with (fail)
                      go_roundw
                      case rel =>
                        have e1 : (ln ++ [nm]).length = ln.length + 1 := by simp
                        refine ⟨jn + 1, ab, ac7, ln ++ [nm], rb, by omega, by go_num, by rw [e1]; have := HLL.out; omega, HALN.out, HRS.out, HDS.out, HWS.out, ?_, ?_, ?_⟩
                        · rw [e1]; exact H58.out
                        · rw [e1]; exact HNS.out
                        · rw [HKE.out]; exact HCP.out
                      case measure => simp [intOf]; omega
              case rest =>
                obtain ⟨an, cn, ln, ra, hl255n, hal, hri, hbd, hrow, hb5, hr5, hct⟩ := hcut
                have HRM := hid hri
                have HDM := hid hbd
                have HWM := hid hrow
                have H54 := hid hb5
                have HNM := hid hr5
                have HCM := hid (cont_ixed hct)
                have HAL := hid hal
                clear hri hbd hrow hct hal hb5 hr5 HRL HDL HWL H53 HNW HCH
                have HN := hid HRM.out.num2
                obtain ⟨rb, hrb⟩ : ∃ r', (ra.num 2).1 = r' := ⟨_, rfl⟩
                obtain ⟨rt, hrt⟩ : ∃ n', (ra.num 2).2 = n' := ⟨_, rfl⟩
                rw [hrb, hrt] at HN HCM
                clear hrb hrt
                go_upto_region 33 with (go_at_call 80; refine HN.out.mono ?_; rintro e WK ⟨rfl, h, f⟩; have HRN := hid h; have H55 := hid (Blk.fr H54.out f (HRM.out.off H54.out (by decide))); have HDN := hid (Blk.fr HDM.out f (HRM.out.off HDM.out (by decide))); have HWN := hid (HWM.out.fr f (HRM.out.offR HWM.out (by decide))); have HNN := hid (HNM.out.fr f (HRM.out.offR HNM.out (by decide))); clear h f)
                clear HN HRM H54 HDM HWM HNM
                have HDO2 := hid (HRN.out.do_ (Y := X2) (P := fun _ => True) (fun k hk => ⟨HX3.out.1 k hk, by have := HGE5.out.2 k hk; have := H55.out.lt; have := HD5.out; omega⟩) HXP2.out (t := ⟨stI tn xn ln, none, 0, an, cn, none, 0, 0, none, 0, 0, none, 0, 0, ⟨#[]⟩, ⟨#[]⟩, 0, none, 0, 0, 0, 0⟩)
                  ⟨⟨none, 0, rfl, Nat.le_refl _, fun h => absurd rfl h⟩, HNN.out.sl' (fun _ _ => trivial), by simp [stI], by simp only [stI]; omega, fun x hx => by simp [stI] at hx, fun x hx => by
                    obtain ⟨cl, hcl, e⟩ := HAL.out x hx
                    have := HCL.out cl hcl
                    rw [e]; omega⟩ rt)
                unfold StV.cells at HDO2
                dsimp only [stI, List.length_nil] at HDO2
                obtain ⟨dp, hdp⟩ : ∃ dp, doM m7 (stI tn xn ln) (rt : Nat) = dp := ⟨_, rfl⟩
                have hdp2 := hdp
                unfold stI at hdp2
                rw [hdp2] at HDO2
                rw [hdp] at HCM
                clear hdp hdp2
                obtain ⟨m8, e8⟩ := dp
                dsimp only at HDO2 HCM
                have HRG2 := hid (H55.out.all)
                go_wp2_with (first
                  | (refine wpList_load_mid rfl 55 (.tmp 14) rfl d5 0 rfl _ _ HRG2.out Tryz.underlying55 rfl size_st ?_)
                  | (go_at_call 17; refine HDO2.out.mono ?_; rintro e WM ⟨rfl, h, f⟩; have HRO := hid h; have HKO := hid (HKEEP.out _ _ _ HDN.out HWN.out (f.mono (fun k hk _ hx => hk (HX3.out.1 k hx)))); clear h f)
                  | (go_at_call 82; refine (HRO.out.must e8).mono ?_; rintro e WN ⟨rfl, h, f⟩; have HRP := hid h; have HDP := hid (Blk.fr HKO.out.1 f (HRO.out.off HKO.out.1 (by decide))); have HWP := hid (HKO.out.2.fr f (HRO.out.offR HKO.out.2 (by decide))); clear h f))
                go_roundw
                case rel => exact ⟨jx + 1, m8, _, by omega, by go_num, HRP.out, HDP.out, HWP.out, by rw [HQE.out]; exact HCM.out⟩
                case measure => simp [intOf]; omega
  case rest =>
    obtain ⟨m, r, hri, hct⟩ := hcut
    have HR6 := hid hri
    have HEN := hid (cont_end hct hri.ok)
    clear hri hct HJ1 HCT
    have q2 : wc.cell? ⟨p, 2, none⟩ = some (.bool r.failed) := HR6.out.cell2
    have HC1 := hid (HR6.out.cell1)
    obtain ⟨bd, hbd⟩ : ∃ b, r.failed = b := ⟨_, rfl⟩
    rw [hbd] at q2 HEN HC1
    have FF := hid HR6.out.fr
    clear hbd
    cases bd with
    | true =>
      have HEX := hid (HEN.out.trans (if_pos (.inl rfl)))
      clear HC1 HEN
      go_wp2_with (fail)
      go_ret2
      rw [HEX.out]
      exact ⟨rfl, FF.out⟩
    | false =>
      have q1 : wc.cell? ⟨p, 1, none⟩ = some (.int .i64 r.at_) := HC1.out rfl
      clear HC1
      by_cases hat : r.at_ < s.length
      · have i3 : (r.at_ : Int) < (s.length : Int) := by omega
        have HEX := hid (HEN.out.trans (if_pos (.inr hat)))
        clear HEN hat
        go_wp2_with (fail)
        go_ret2
        rw [HEX.out]
        exact ⟨rfl, FF.out⟩
      · have i3 : ¬ (r.at_ : Int) < (s.length : Int) := by omega
        have HEX := hid (HEN.out.trans (if_neg (by rintro (h | h); cases h; exact hat h)))
        clear HEN hat
        go_wp2_with (fail)
        go_ret2
        rw [HEX.out]
        obtain ⟨S, h1, h2, h3⟩ := HR6.out.cr
        exact ⟨c, rfl, h1.mono (fun k hk => ⟨h2 k hk, h1.lt hk⟩) (fun k hk => hk.2), FF.out⟩
end Go.Proofs.YtgkfdlpijefgkaaGreatDoor
