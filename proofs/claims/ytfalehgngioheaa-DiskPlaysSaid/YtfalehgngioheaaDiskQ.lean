import Derived.Test.YtfalehgngioheaaDiskP
set_option linter.unusedVariables false
namespace Go.Proofs.Ytfalehgngioheaa
open Go.RowKit Go.VB Go.VB.Disk
/-- the numbers that are left ahead of page i -/
def qAt (ps : List Pg) (q : List Int) (i : Nat) : List Int := (ps.take i).foldl (fun q p => if p.ws = [] then q else q.tail.tail) q
def crashE : List Pg → List Value → List Int → List (Bytes × Value)
  | p :: ps, v :: wv, q => if p.ws = [] then (p.safe, v) :: crashE ps wv q else ((p.crash q).safe, .slice none 0 0) :: crashE ps wv q.tail.tail
  | _, _, _ => []
theorem qAt_zero (ps : List Pg) (q : List Int) : qAt ps q 0 = q := by simp [qAt]
theorem qAt_succ (ps : List Pg) (q : List Int) (i : Nat) (p : Pg) (hp : ps[i]? = some p) : qAt ps q (i + 1) = if p.ws = [] then qAt ps q i else (qAt ps q i).tail.tail := by
  simp [qAt, List.take_add_one, hp]
theorem qAt_cons (p : Pg) (ps : List Pg) (q : List Int) (i : Nat) : qAt (p :: ps) q (i + 1) = qAt ps (if p.ws = [] then q else q.tail.tail) i := by simp [qAt]
theorem qAt_length (ps : List Pg) : ∀ (q : List Int) (i : Nat), (qAt ps q i).length ≤ q.length := by
  induction ps with
  | nil => intro q i; simp [qAt]
  | cons p ps ih =>
    intro q i
    cases i with
    | zero => simp [qAt]
    | succ i =>
      rw [qAt_cons]
      refine Nat.le_trans (ih _ _) ?_
      split
      · exact Nat.le_refl _
      · simp; omega
theorem crashPages_snd (ps : List Pg) : ∀ q : List Int, (crashPages ps q).2 = qAt ps q ps.length := by
  induction ps with
  | nil => intro q; rfl
  | cons p ps ih =>
    intro q
    rw [List.length_cons, qAt_cons]
    unfold crashPages
    split <;> simp [ih]
theorem crashPages_length (ps : List Pg) : ∀ q : List Int, (crashPages ps q).1.length = ps.length := by
  induction ps with
  | nil => intro q; rfl
  | cons p ps ih =>
    intro q
    unfold crashPages
    split <;> simp [ih]
theorem crashE_length (ps : List Pg) : ∀ (wv : List Value) (q : List Int), wv.length = ps.length → (crashE ps wv q).length = (pcs ps wv).length := by
  induction ps with
  | nil => intro wv q h; cases wv <;> simp [crashE, pcs] at *
  | cons p ps ih =>
    intro wv q h
    cases wv with
    | nil => simp at h
    | cons v wv =>
      have := fun q => ih wv q (by simpa using h)
      unfold crashE
      simp only [pcs, List.zipWith_cons_cons, List.length_cons] at *
      split <;> simp [this]
theorem crashE_get (ps : List Pg) : ∀ (wv : List Value) (q : List Int) (i : Nat) (p : Pg) (v : Value), ps[i]? = some p → wv[i]? = some v →
    (crashE ps wv q)[i]? = some (if p.ws = [] then (p.safe, v) else ((p.crash (qAt ps q i)).safe, .slice none 0 0)) := by
  induction ps with
  | nil => intro wv q i p v hp; simp at hp
  | cons p0 ps ih =>
    intro wv q i p v hp hv
    cases wv with
    | nil => simp at hv
    | cons v0 wv =>
      unfold crashE
      cases i with
      | zero =>
        simp only [List.getElem?_cons_zero, Option.some.injEq] at hp hv
        subst hp; subst hv
        split <;> simp_all [qAt]
      | succ i =>
        simp only [List.getElem?_cons_succ] at hp hv
        rw [qAt_cons]
        split
        · simpa using ih wv q i p v hp hv
        · simpa using ih wv q.tail.tail i p v hp hv
theorem crashE_pcs (ps : List Pg) : ∀ (wv : List Value) (q : List Int), pcs (crashPages ps q).1 (ps.zipWith syncV wv) = crashE ps wv q := by
  induction ps with
  | nil => intro wv q; simp [crashE, pcs, crashPages]
  | cons p ps ih =>
    intro wv q
    cases wv with
    | nil => simp [crashE, pcs]
    | cons v wv =>
      unfold crashE crashPages
      split
      · rename_i h
        simpa [pcs, syncV, h] using ih wv q
      · rename_i h
        simpa [pcs, syncV, h] using ih wv q.tail.tail
theorem crash_len (p : Pg) (q : List Int) (h : p.safe.length = 512) (h2 : ∀ s ∈ p.ws, s.length = 512) : (p.crash q).safe.length = 512 := by
  have key : ∀ k, k < p.ws.length + 1 → ((p.safe :: p.ws).getD k []).length = 512 := by
    intro k hk
    rw [List.getD_eq_getElem?_getD, List.getElem?_eq_getElem (by simpa using hk)]
    simp only [Option.getD_some]
    rcases List.mem_cons.1 (List.getElem_mem (l := p.safe :: p.ws) (by simpa using hk)) with e | e
    · rw [e]; exact h
    · exact h2 _ e
  have tk : ∀ (q : List Int) (n : Nat), 0 < n → takeQ q n < n := by
    intro q n hn
    cases q with
    | nil => exact hn
    | cons x q =>
      have h1 := Int.emod_lt_of_pos x (b := (n : Int)) (by omega)
      have h2 := Int.emod_nonneg x (b := (n : Int)) (by omega)
      simp only [takeQ]
      omega
  simp only [Pg.crash, List.length_append, List.length_take, List.length_drop, key _ (tk _ _ (Nat.succ_pos _))]
  omega
theorem takeQ_lt (q : List Int) (n : Nat) (hn : 0 < n) : takeQ q n < n := by
  cases q with
  | nil => exact hn
  | cons x q =>
    have h1 := Int.emod_lt_of_pos x (b := (n : Int)) (by omega)
    have h2 := Int.emod_nonneg x (b := (n : Int)) (by omega)
    simp only [takeQ]
    omega
theorem crashE_safe (ps : List Pg) (h : ∀ p ∈ ps, p.safe.length = 512) (h2 : ∀ p ∈ ps, ∀ s ∈ p.ws, s.length = 512) : ∀ (wv : List Value) (q : List Int), ∀ x ∈ crashE ps wv q, x.1.length = 512 := by
  induction ps with
  | nil => intro wv q x hx; simp [crashE] at hx
  | cons p ps ih =>
    intro wv q x hx
    have ih := ih (fun p hp => h p (List.mem_cons_of_mem _ hp)) (fun p hp => h2 p (List.mem_cons_of_mem _ hp))
    cases wv with
    | nil => simp [crashE] at hx
    | cons v wv =>
      unfold crashE at hx
      split at hx
      · rcases List.mem_cons.1 hx with rfl | hx
        · exact h p List.mem_cons_self
        · exact ih _ _ x hx
      · rcases List.mem_cons.1 hx with rfl | hx
        · exact crash_len p q (h p List.mem_cons_self) (h2 p List.mem_cons_self)
        · exact ih _ _ x hx
