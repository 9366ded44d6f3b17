import Derived.Test.YtfalehgngioheaaRefF
/- The reference's disk: the numbers of a crash. -/
set_option linter.unusedVariables false
namespace Go.Proofs.Ytfalehgngioheaa
open Go.RowKit Go.VB Go.VB.Disk
theorem rest_ref {R : Nat → Prop} {w : World} {v : Value} {q : List Int} (hq : QRep R w v q) (hql : q.length ≤ 9223372036854775807) (k n : Nat) (hn0 : 0 < n) (hn : n ≤ 1099511627776) :
    Calls Try.prog 63 #[v, .int .i64 k, .int .i64 n] w fun e w' => e = .returned (.int .i64 (takeQ (q.drop k) n : Nat)) ∧ w = w' := by
  obtain ⟨a, cap, rfl, hc, hr⟩ := hq
  by_cases hk : k < q.length
  · have hne : q ≠ [] := by intro e; subst e; simp at hk
    obtain ⟨g, o, rfl, -, hr⟩ := hr hne
    have hcell : w.cell? ⟨g, o + k, none⟩ = some (.int .i64 q[k]) := hr k _ (by simp [iv, hk])
    have hd : q.drop k = q[k] :: q.drop (k + 1) := List.drop_eq_getElem_cons hk
    have ht : ((takeQ (q.drop k) n : Nat) : Int) = q[k] % (n : Int) := by
      rw [hd]
      show (((q[k] % (n : Int)).toNat : Nat) : Int) = _
      have := Int.emod_nonneg q[k] (show (n : Int) ≠ 0 by omega)
      omega
    rw [ht]
    generalize q[k] = x at *
    have h1 := Int.tmod_lt_of_pos x (show (0 : Int) < n by omega)
    have h2 : -(n : Int) < x.tmod n := Int.lt_tmod_of_pos x (by omega)
    have h3 := tmod_fix x n (by omega)
    clear hd ht hr
    go_enter Try.func63, Try.ntmps63
    go_wp2
    go_ret
    exact ⟨rfl, rfl⟩
  · have ht : takeQ (q.drop k) n = 0 := by rw [List.drop_eq_nil_of_le (by omega)]; rfl
    rw [ht]
    clear ht hr
    go_enter Try.func63, Try.ntmps63
    go_wp2
    go_ret
    exact ⟨rfl, rfl⟩
theorem crashPages_at (ps : List Pg) : ∀ (q : List Int) (i : Nat), (crashPages ps q).1[i]? = (ps[i]?).map (fun p => if p.ws = [] then p else p.crash (qAt ps q i)) := by
  induction ps with
  | nil => intro q i; simp [crashPages]
  | cons p ps ih =>
    intro q i
    cases i with
    | zero =>
      unfold crashPages
      by_cases h : p.ws = []
      · simp [h]
      · simp [h, qAt]
    | succ i =>
      unfold crashPages
      by_cases h : p.ws = []
      · rw [if_pos h]
        simp only [List.getElem?_cons_succ]
        rw [ih q i, qAt_cons, if_pos h]
      · rw [if_neg h]
        simp only [List.getElem?_cons_succ]
        rw [ih _ i, qAt_cons, if_neg h]
/-- the first k pages have gone through the crash -/
def crN (ps : List Pg) (q : List Int) (k : Nat) : List Pg := (crashPages ps q).1.take k ++ ps.drop k
theorem crN_length (ps : List Pg) (q : List Int) (k : Nat) : (crN ps q k).length = ps.length := by
  simp [crN, crashPages_length]; omega
theorem crN_get (ps : List Pg) (q : List Int) (k : Nat) (hk : k ≤ ps.length) (i : Nat) : (crN ps q k)[i]? = if i < k then (crashPages ps q).1[i]? else ps[i]? := by
  unfold crN
  have hl := crashPages_length ps q
  by_cases h : i < k
  · rw [if_pos h, List.getElem?_append_left (by simp; omega)]
    simp [h]
  · rw [if_neg h, List.getElem?_append_right (by simp; omega), List.getElem?_drop]
    congr 1
    simp
    omega
theorem crN_at (ps : List Pg) (q : List Int) (k : Nat) (hk : k < ps.length) : (crN ps q k)[k]'(by rw [crN_length]; exact hk) = ps[k] := by
  have := crN_get ps q k (by omega) k
  rw [if_neg (by omega), List.getElem?_eq_getElem (by rw [crN_length]; exact hk), List.getElem?_eq_getElem hk] at this
  exact Option.some.inj this
theorem crN_succ (ps : List Pg) (q : List Int) (k : Nat) (hk : k < ps.length) : crN ps q (k + 1) = (crN ps q k).set k (if ps[k].ws = [] then ps[k] else ps[k].crash (qAt ps q k)) := by
  apply List.ext_getElem?
  intro i
  rw [crN_get ps q (k + 1) hk]
  by_cases h2 : k = i
  · subst h2
    rw [List.getElem?_set_self (by rw [crN_length]; exact hk), if_pos (by omega), crashPages_at, List.getElem?_eq_getElem hk]
    rfl
  · rw [List.getElem?_set_ne h2, crN_get ps q k (by omega)]
    by_cases h1 : i < k
    · rw [if_pos (by omega), if_pos h1]
    · rw [if_neg (by omega), if_neg h1]
theorem crN_all (ps : List Pg) (q : List Int) : crN ps q ps.length = (crashPages ps q).1 := by
  unfold crN
  rw [List.drop_length, List.append_nil, List.take_of_length_le (by rw [crashPages_length]; exact Nat.le_refl _)]
