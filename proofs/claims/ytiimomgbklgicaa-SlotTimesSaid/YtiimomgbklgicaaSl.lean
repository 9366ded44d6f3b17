import Derived.Test.YtiimomgbklgicaaLaw
import Derived.ChangeArms
import Derived.WideShapes
import Derived.ChangeMaps5
/- Slices in memory, and how an argument that is a slice opens. -/
set_option linter.unusedVariables false
namespace Go.VB
open Go.RowKit Go.WideShapes Go.ChangeShapes
/-- v is a slice of n elements, whose cells are xs, in a block that R holds for -/
def Sl (R : Nat → Prop) (w : World) (v : Value) (n : Nat) (xs : List Value) : Prop :=
  ∃ (a : Option Addr) (cap : Nat), v = .slice a n cap ∧ n ≤ cap ∧ (xs ≠ [] → ∃ g o, a = some ⟨g, o, none⟩ ∧ R g ∧ w.rangeAt g o xs)
theorem lt_of_cell {w : World} {g o : Nat} {s : Option Nat} {v : Value} (h : w.cell? ⟨g, o, s⟩ = some v) : g < w.heap.size := by
  apply Nat.lt_of_not_le
  intro hle
  unfold World.cell? at h
  rw [Array.getElem?_eq_none hle] at h
  cases h
theorem lt_of_range {w : World} {g o : Nat} {xs : List Value} (hx : xs ≠ []) (h : w.rangeAt g o xs) : g < w.heap.size := by
  cases xs with
  | nil => exact absurd rfl hx
  | cons x xs => exact lt_of_cell (h 0 x rfl)
theorem range_fr {S : Nat → Prop} {w w' : World} {g o : Nat} {xs : List Value} (h : w.rangeAt g o xs) (hf : Fr S w w') (hS : ¬ S g) : w'.rangeAt g o xs := by
  intro j u hj
  have := h j u hj
  have hlt := lt_of_cell this
  rw [World.cell?_of_block (w := w) (hf.blk g hlt hS)]
  exact this
theorem cell_fr {S : Nat → Prop} {w w' : World} {g o : Nat} {u : Value} (h : w.cell? ⟨g, o, none⟩ = some u) (hf : Fr S w w') (hS : ¬ S g) : w'.cell? ⟨g, o, none⟩ = some u := by
  have hlt := lt_of_cell h
  rw [World.cell?_of_block (w := w) (hf.blk g hlt hS)]
  exact h
theorem Sl.fr {R S : Nat → Prop} {w w' : World} {v : Value} {n : Nat} {xs : List Value} (h : Sl R w v n xs) (hf : Fr S w w') (hS : ∀ k, R k → ¬ S k) : Sl R w' v n xs := by
  obtain ⟨a, cap, rfl, hc, h⟩ := h
  refine ⟨a, cap, rfl, hc, fun hq => ?_⟩
  obtain ⟨g, o, rfl, hR, hr⟩ := h hq
  exact ⟨g, o, rfl, hR, range_fr hr hf (hS g hR)⟩
theorem Sl.mono {R R' : Nat → Prop} {w : World} {v : Value} {n : Nat} {xs : List Value} (h : Sl R w v n xs) (hR : ∀ k, R k → R' k) : Sl R' w v n xs := by
  obtain ⟨a, cap, rfl, hc, h⟩ := h
  exact ⟨a, cap, rfl, hc, fun hq => by obtain ⟨g, o, h1, h2, h3⟩ := h hq; exact ⟨g, o, h1, hR _ h2, h3⟩⟩
theorem Sl.keep {R : Nat → Prop} {w w' : World} {v : Value} {n : Nat} {xs : List Value} (h : Sl R w v n xs) (hk : ∀ k, k < w.heap.size → w'.heap[k]? = w.heap[k]?) : Sl R w' v n xs := by
  obtain ⟨a, cap, rfl, hc, h⟩ := h
  refine ⟨a, cap, rfl, hc, fun hq => ?_⟩
  obtain ⟨g, o, rfl, hR, hr⟩ := h hq
  refine ⟨g, o, rfl, hR, fun j u hj => cell_keep hk (hr j u hj)⟩
theorem range_append {w : World} {g o : Nat} {xs ys : List Value} (h1 : w.rangeAt g o xs) (h2 : w.rangeAt g (o + xs.length) ys) : w.rangeAt g o (xs ++ ys) := by
  intro j u hj
  by_cases hlt : j < xs.length
  · rw [List.getElem?_append_left hlt] at hj
    exact h1 j u hj
  · rw [List.getElem?_append_right (by omega)] at hj
    have := h2 _ u hj
    rwa [Nat.add_assoc, Nat.add_sub_cancel' (by omega)] at this
theorem list_of_some {α : Type} (p : Nat → α → Prop) : ∀ n, (∀ i, i < n → ∃ x, p i x) → ∃ L : List α, L.length = n ∧ ∀ i x, L[i]? = some x → p i x
  | 0, _ => ⟨[], rfl, fun i x h => by simp at h⟩
  | n + 1, h => by
    obtain ⟨L, hl, hL⟩ := list_of_some p n fun i hi => h i (by omega)
    obtain ⟨x, hx⟩ := h n (by omega)
    refine ⟨L ++ [x], by simp [hl], fun i y hy => ?_⟩
    by_cases hi : i < L.length
    · rw [List.getElem?_append_left hi] at hy
      exact hL i y hy
    · rw [List.getElem?_append_right (by omega)] at hy
      have : i - L.length = 0 := by
        apply Nat.lt_one_iff.1
        have := (List.getElem?_eq_some_iff.1 hy).1
        simpa using this
      rw [this] at hy
      obtain rfl := Option.some.inj hy
      have : i = n := by omega
      rw [this]; exact hx
theorem range_flat {α : Type} {w : World} {g k : Nat} (f : α → List Value) (hf : ∀ x, (f x).length = k) : ∀ (L : List α) (o : Nat), (∀ i x, L[i]? = some x → w.rangeAt g (o + i * k) (f x)) → w.rangeAt g o (L.flatMap f)
  | [], o, _ => fun j u hj => by simp at hj
  | x :: L, o, h => by
    rw [List.flatMap_cons]
    refine range_append (by simpa using h 0 x rfl) ?_
    rw [hf x]
    refine range_flat f hf L (o + k) fun i y hy => ?_
    have := h (i + 1) y (by simpa using hy)
    rwa [Nat.succ_mul, Nat.add_comm (i * k) k, ← Nat.add_assoc] at this
theorem mapM_at {α β : Type} {f : α → Option β} : ∀ (l : List α) (ys : List β), l.mapM f = some ys → ∀ (i : Nat) (x : α), l[i]? = some x → ∃ y : β, ys[i]? = some y ∧ f x = some y
  | [], ys, h, i, x, hx => by simp at hx
  | a :: l, ys, h, i, x, hx => by
    simp only [List.mapM_cons, Option.bind_eq_bind, Option.bind_eq_some_iff, Option.pure_def, Option.some.injEq] at h
    obtain ⟨y, hy, zs, hz, rfl⟩ := h
    cases i with
    | zero =>
      obtain rfl : a = x := by simpa using hx
      exact ⟨y, rfl, hy⟩
    | succ i => simpa using mapM_at l zs hz i x (by simpa using hx)
theorem cells_range {w : World} {base : Nat} {a : Addr} {n : Nat} {cs : List Value} (h : w.cells? base a n = some cs) : cs.length = n ∧ ∀ j u, cs[j]? = some u → w.cell? (a.add j) = some u := by
  unfold World.cells? at h
  split at h
  case isFalse => cases h
  have hl := mapM_len _ _ h
  rw [List.length_range] at hl
  refine ⟨hl, fun j u hj => ?_⟩
  have hjl : j < n := by rw [← hl]; exact (List.getElem?_eq_some_iff.1 hj).1
  obtain ⟨y, h1, h2⟩ := mapM_at _ _ h j j (by simp [hjl])
  rw [hj] at h1
  obtain rfl := Option.some.inj h1
  exact h2
section
variable {H : Type} {enc : TypeId × Value → H} {P : Program}
/-- a slice opens: its elements, by how an element's cells open -/
theorem open_cs {w : World} {base : Nat} {sp : Nat → Bool} {held : Bool} {t e : TypeId} {fuel : Nat} {cs : List Value} {r : DataW H × List MemPlace} (hu : P.underlying t = some (.slice e)) {k : Nat} (hk : P.cellsOf e = k) (hk0 : 0 < k)
    (h : DataW.trod enc P w base sp held fuel t cs = some r)
    {α : Type} (f : α → List Value) (Good : α → Prop) (hf : ∀ x, (f x).length = k)
    (he : ∀ fuel cs r, cs.length = k → DataW.trod enc P w base sp held fuel e cs = some r → ∃ x, cs = f x ∧ Good x) :
    ∃ (v : Value) (L : List α), cs = [v] ∧ Sl (fun k => k < w.heap.size) w v L.length (L.flatMap f) ∧ (∀ x ∈ L, Good x) ∧ L.length ≤ maxLen := by
  subst hk
  rcases DataW.trod_slice hu h with ⟨rfl, -⟩ | ⟨a, len, cap, elems, rest, n, _, rfl, -, hb, hl, hm, hlen, hel, -, -⟩
  · exact ⟨_, [], rfl, ⟨none, 0, rfl, Nat.le_refl _, fun h => absurd rfl h⟩, by simp, by simp⟩
  · obtain ⟨L, hL, hat⟩ := list_of_some (fun i (x : α) => Good x ∧ w.cells? base (a.add (i * P.cellsOf e)) (P.cellsOf e) = some (f x)) len fun i hi => by
      have := hel i hi
      have hsome : elems[i]? = some elems[i] := List.getElem?_eq_getElem (by omega)
      rw [hsome] at this
      simp only [Option.bind_eq_some_iff] at this
      obtain ⟨cs, hc, ht⟩ := this
      obtain ⟨x, rfl, hg⟩ := he _ _ _ (cells_range hc).1 ht
      exact ⟨x, hg, hc⟩
    subst hL
    refine ⟨_, L, rfl, ⟨some a, cap, rfl, hl, fun hne => ?_⟩, fun x hx => ?_, by omega⟩
    · have hs : a.spot = none := by
        cases L with
        | nil => exact absurd rfl hne
        | cons x L =>
          have h0 := (hat 0 x rfl).2
          have hlx := hf x
          have := (cells_range h0).2 0 ((f x)[0]'(by omega)) (List.getElem?_eq_getElem (by omega))
          unfold World.cell? at this
          cases hsp : a.spot with
          | none => rfl
          | some z =>
            exfalso
            split at this
            · rw [if_pos (by simp [Addr.add, hsp])] at this; cases this
            · cases this
      obtain ⟨g, o, s⟩ := a
      obtain rfl : s = none := hs
      have hrange : w.rangeAt g o (L.flatMap f) := range_flat (g := g) f hf L o fun i x hx j u hj => by
        have := (cells_range (hat i x hx).2).2 j u hj
        rw [Addr.add_mid, Addr.add_mid] at this
        exact this
      exact ⟨g, o, rfl, lt_of_range hne hrange, hrange⟩
    · obtain ⟨i, hi⟩ := List.getElem?_of_mem hx
      exact (hat i x hi).1
theorem open_sl {w w0 : World} {r : Reach} {b0 base : Nat} {sp : Nat → Bool} {held : Bool} {t e : TypeId} {v : Value} {d : DataW H} {ps : List MemPlace} (hu : P.underlying t = some (.slice e)) {k : Nat} (hk : P.cellsOf e = k) (hk0 : 0 < k)
    (hval : Value.okWide P w0 r b0 t v) (h : DataW.Trod enc P w base sp held t v d ps)
    {α : Type} (f : α → List Value) (Good : α → Prop) (hf : ∀ x, (f x).length = k)
    (he : ∀ fuel cs r, cs.length = k → DataW.trod enc P w base sp held fuel e cs = some r → ∃ x, cs = f x ∧ Good x) :
    ∃ L : List α, Sl (fun k => k < w.heap.size) w v L.length (L.flatMap f) ∧ (∀ x ∈ L, Good x) ∧ L.length ≤ maxLen := by
  obtain ⟨fuel, hh⟩ := h
  obtain ⟨v', L, hv, h1, h2, h3⟩ := open_cs hu hk hk0 hh f Good hf he
  obtain ⟨a, n, c, rfl⟩ := okWide_slice hu hval
  obtain rfl : Value.slice a n c = v' := by simpa [Value.cells] using hv
  exact ⟨L, h1, h2, h3⟩
theorem flat_of_pieces {α : Type} (f : α → List Value) (k : Nat) : ∀ (L : List α) (cs : List Value), cs.length = L.length * k → (∀ i x, L[i]? = some x → (cs.drop (i * k)).take k = f x) → cs = L.flatMap f
  | [], cs, hl, _ => by
    rw [List.flatMap_nil]
    exact List.eq_nil_of_length_eq_zero (by simpa using hl)
  | x :: L, cs, hl, h => by
    have h0 := h 0 x rfl
    rw [Nat.zero_mul, List.drop_zero] at h0
    rw [List.flatMap_cons, ← h0]
    have := flat_of_pieces f k L (cs.drop k) (by rw [List.length_drop, hl, List.length_cons, Nat.succ_mul]; omega) fun i y hy => by
      have := h (i + 1) y (by simpa using hy)
      rwa [Nat.succ_mul, Nat.add_comm (i * k) k, ← List.drop_drop] at this
    rw [← this, List.take_append_drop]
/-- an array opens -/
theorem open_ar {w w0 : World} {r : Reach} {b0 base : Nat} {sp : Nat → Bool} {held : Bool} {t e : TypeId} {n : Nat} {v : Value} {d : DataW H} {ps : List MemPlace} (hu : P.underlying t = some (.array n e)) {k : Nat} (hk : P.cellsOf e = k) (ht : P.cellsOf t = n * k)
    (hval : Value.okWide P w0 r b0 t v) (h : DataW.Trod enc P w base sp held t v d ps)
    {α : Type} (f : α → List Value) (Good : α → Prop)
    (he : ∀ fuel cs r, DataW.trod enc P w base sp held fuel e cs = some r → ∃ x, cs = f x ∧ Good x) :
    ∃ L : List α, v = .agg (L.flatMap f).toArray ∧ L.length = n ∧ ∀ x ∈ L, Good x := by
  subst hk
  obtain ⟨fuel, h⟩ := h
  simp only [Value.okWide, hu] at hval
  obtain ⟨cs, rfl, hs, -⟩ := hval
  cases fuel with
  | zero => simp [DataW.trod] at h
  | succ m =>
    unfold DataW.trod at h
    rw [hu] at h
    have hcl : (Value.agg cs).cells.toList.length = P.cellsOf t := by simpa [Value.cells] using hs
    dsimp only at h
    rw [if_pos hcl] at h
    simp only [Option.map_eq_some_iff] at h
    obtain ⟨xs, hx, -⟩ := h
    have hlx := mapM_len _ _ hx
    rw [List.length_range] at hlx
    obtain ⟨L, hL, hat⟩ := list_of_some (fun i (x : α) => Good x ∧ ((Value.agg cs).cells.toList.drop (i * P.cellsOf e)).take (P.cellsOf e) = f x) n fun i hi => by
      obtain ⟨y, h1, h2⟩ := mapM_at _ _ hx i i (by simp [hi])
      obtain ⟨x, hx, hg⟩ := he _ _ _ h2
      exact ⟨x, hg, hx⟩
    refine ⟨L, ?_, hL, fun x hx => ?_⟩
    · have := flat_of_pieces f (P.cellsOf e) L (Value.agg cs).cells.toList (by rw [hcl, ht, hL]) fun i x hx => (hat i x hx).2
      rw [← this]
      simp [Value.cells]
    · obtain ⟨i, hi⟩ := List.getElem?_of_mem hx
      exact (hat i x hi).1
/-- an element that is a number, a string -/
theorem elem_int {w : World} {base : Nat} {sp : Nat → Bool} {held : Bool} {e : TypeId} {k : IntKind} (hu : P.underlying e = some (.int k)) : ∀ fuel cs (r : DataW H × List MemPlace), DataW.trod enc P w base sp held fuel e cs = some r → ∃ x : Int, cs = [.int k x] ∧ (Lit.int k x).wf = true := by
  intro fuel cs r h
  cases fuel with
  | zero => simp [DataW.trod] at h
  | succ n =>
    unfold DataW.trod at h
    rw [hu] at h
    split at h <;> simp_all
theorem elem_string {w : World} {base : Nat} {sp : Nat → Bool} {held : Bool} {e : TypeId} (hu : P.underlying e = some .string) : ∀ fuel cs (r : DataW H × List MemPlace), DataW.trod enc P w base sp held fuel e cs = some r → ∃ x : List UInt8, cs = [.string (bs x)] ∧ x.length ≤ maxLen := by
  intro fuel cs r h
  cases fuel with
  | zero => simp [DataW.trod] at h
  | succ n =>
    unfold DataW.trod at h
    rw [hu] at h
    split at h <;> try (exfalso; simp_all; done)
    rename_i s _
    refine ⟨s.data.toList, by rw [bs_toList], ?_⟩
    split at h
    · rename_i hs; rw [Array.length_toList]; exact hs
    · cases h
end
/-- strings as cells, numbers as cells -/
def sv (L : List (List UInt8)) : List Value := L.map fun s => .string (bs s)
theorem sv_flat (L : List (List UInt8)) : L.flatMap (fun s => [Value.string (bs s)]) = sv L := by
  induction L with
  | nil => rfl
  | cons a L ih => rw [List.flatMap_cons, ih]; rfl
theorem sv_at {L : List (List UInt8)} {i : Nat} {s : List UInt8} (h : L[i]? = some s) : (sv L)[i]? = some (.string (bs s)) := by simp [sv, h]
theorem sv_length (L : List (List UInt8)) : (sv L).length = L.length := by simp [sv]
theorem getD_at {α : Type} {L : List α} {i : Nat} {z : α} (h : i < L.length) : L[i]? = some (L.getD i z) := by simp [h]
theorem getD_mem {α : Type} {L : List α} {i : Nat} {z : α} (h : i < L.length) : L.getD i z ∈ L := List.mem_of_getElem? (getD_at h)
end Go.VB
