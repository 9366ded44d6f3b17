import Derived.Test.YtfalehgngioheaaDiskJ
set_option linter.unusedVariables false
namespace Go.Proofs.Ytfalehgngioheaa
open Go.RowKit Go.VB Go.VB.Disk
attribute [local go_sem] Oper.semAt_some
theorem written_any (w : World) (a : Option Addr) : Calls Try.prog 42 #[.pointer a] w fun e w' => e = .returned (.func (.func 60) #[] #[.pointer (some ⟨w.heap.size, 0, none⟩)]) ∧ (w.alloc (.cells [Value.pointer a].toArray 24)) = w' := by
  go_enter Try.func42, Try.ntmps42
  go_wp2
  go_ret
  exact ⟨rfl, rfl⟩
theorem pcells_setsafe (L : List (Bytes × Value)) (i : Nat) (s s' : Bytes) (v : Value) (hi : L[i]? = some (s, v)) (h : ∀ p ∈ L, p.1.length = 512) (hs' : s'.length = 512) :
    (pcells L).take (i * 513) ++ bv s' ++ (pcells L).drop (i * 513 + (bv s').length) = pcells (L.set i (s', v)) := by
  have hl : i < L.length := (List.getElem?_eq_some_iff.1 hi).1
  have hs := h _ (List.mem_of_getElem? hi)
  have hi' : (L.set i (s', v))[i]? = some (s', v) := by simp [hl]
  rw [pcells_split L i _ hi, pcells_split (L.set i (s', v)) i _ hi']
  have e1 : (L.set i (s', v)).take i = L.take i := by simp [List.take_set_of_le]
  have e2 : (L.set i (s', v)).drop (i + 1) = L.drop (i + 1) := List.drop_set_of_lt (by omega)
  rw [e1, e2]
  have l1 := pcells_take_length L h i (Nat.le_of_lt hl)
  dsimp only at hs ⊢
  have e3 : (pcells (L.take i) ++ (bv s ++ [v]) ++ pcells (L.drop (i + 1))).take (i * 513) = pcells (L.take i) := by
    rw [List.append_assoc, List.take_left' l1]
  have e4 : (pcells (L.take i) ++ (bv s ++ [v]) ++ pcells (L.drop (i + 1))).drop (i * 513 + (bv s').length) = [v] ++ pcells (L.drop (i + 1)) := by
    have : pcells (L.take i) ++ (bv s ++ [v]) ++ pcells (L.drop (i + 1)) = (pcells (L.take i) ++ bv s) ++ ([v] ++ pcells (L.drop (i + 1))) := by simp
    rw [this, List.drop_left' (by rw [List.length_append, l1, bv_length, bv_length, hs, hs'])]
  rw [e3, e4]
  simp
/-- what a page becomes, and where its writes' slice goes -/
def syncV (p : Pg) (v : Value) : Value := if p.ws = [] then v else .slice none 0 0
def mixL (E L : List (Bytes × Value)) (k : Nat) : List (Bytes × Value) := E.take k ++ L.drop k
theorem mixL_zero (E L : List (Bytes × Value)) : mixL E L 0 = L := by simp [mixL]
theorem mixL_all (E L : List (Bytes × Value)) (h : E.length = L.length) : mixL E L L.length = E := by simp [mixL, ← h]
theorem mixL_get (E L : List (Bytes × Value)) (k : Nat) (h : E.length = L.length) (hk : k < L.length) : (mixL E L k)[k]? = L[k]? := by
  simp only [mixL]
  rw [List.getElem?_append_right (by simp; omega)]
  simp [List.getElem?_drop]
  congr 1
  omega
theorem mixL_set (E L : List (Bytes × Value)) (k : Nat) (e : Bytes × Value) (h : E.length = L.length) (he : E[k]? = some e) : (mixL E L k).set k e = mixL E L (k + 1) := by
  have hk : k < E.length := (List.getElem?_eq_some_iff.1 he).1
  have hek : E[k] = e := (List.getElem?_eq_some_iff.1 he).2
  simp only [mixL]
  rw [List.set_append_right _ _ (by simp; omega), List.take_succ_eq_append_getElem hk, hek, List.drop_eq_getElem_cons (by omega : k < L.length)]
  simp only [List.length_take, Nat.min_eq_left (Nat.le_of_lt hk), Nat.sub_self, List.set_cons_zero, List.append_assoc, List.singleton_append]
theorem mixL_skip (E L : List (Bytes × Value)) (k : Nat) (h : E.length = L.length) (he : E[k]? = L[k]?) (hk : k < L.length) : mixL E L k = mixL E L (k + 1) := by
  rw [← mixL_set E L k E[k] h (List.getElem?_eq_getElem (by omega))]
  apply List.ext_getElem?
  intro j
  rw [List.getElem?_set]
  by_cases hj : k = j
  · subst hj
    rw [if_pos rfl, mixL_get E L k h hk, ← he, if_pos (by simp [mixL]; omega), List.getElem?_eq_getElem (by omega)]
  · rw [if_neg hj]
theorem mixL_safe (E L : List (Bytes × Value)) (k : Nat) (hE : ∀ p ∈ E, p.1.length = 512) (hL : ∀ p ∈ L, p.1.length = 512) : ∀ p ∈ mixL E L k, p.1.length = 512 := by
  intro p hp
  rcases List.mem_append.1 hp with h | h
  · exact hE p (List.mem_of_mem_take h)
  · exact hL p (List.mem_of_mem_drop h)
theorem Pg.cur_length (p : Pg) (h1 : p.safe.length = 512) (h2 : ∀ s ∈ p.ws, s.length = 512) : p.cur.length = 512 := by
  unfold Pg.cur
  rw [List.getLastD_eq_getLast?]
  cases h : p.ws.getLast? with
  | none => exact h1
  | some x => exact h2 x (List.mem_of_getLast? h)
def syncE (ps : List Pg) (wv : List Value) : List (Bytes × Value) := ps.zipWith (fun p v => (p.cur, syncV p v)) wv
