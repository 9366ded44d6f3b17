import Derived.Test.YtbkebjgoaeddjaaClkG
/- ClockBelow: the model's part. -/
set_option linter.unusedVariables false
namespace Go.VB.Clk
/-- k + 1 xids from p on; each but the first has a parent among those ahead of it -/
structure Tree (m : CM) (p k : Nat) : Prop where
  ok : m.Ok
  low : m.low = p
  n : m.n = k + 1
  top : m.ab (xat p 0) = 0
  up : ∀ i, 1 ≤ i → i ≤ k → ∃ j, j < i ∧ m.ab (xat p i) = xat p j
def xs (p k : Nat) : List Nat := (List.range (k + 1)).map (xat p)
theorem xs_length (p k : Nat) : (xs p k).length = k + 1 := by simp [xs]
theorem xs_get (p k i : Nat) (h : i < (xs p k).length) : (xs p k)[i] = xat p i := by simp [xs]
theorem xs_succ (p k : Nat) : xs p (k + 1) = xs p k ++ [xat p (k + 1)] := by simp [xs, List.range_succ]
section
variable {m : CM} {p k : Nat}
theorem Tree.hp (h : Tree m p k) : 3 ≤ p ∧ p ≤ 127 := h.low ▸ h.ok.lo
theorem Tree.hk (h : Tree m p k) : k ≤ 59 := by have := h.n; have := h.ok.far; omega
theorem Tree.pos (h : Tree m p k) {i : Nat} (hi : i ≤ k) : steps m.low (xat p i) = i := by have := h.hk; rw [h.low]; exact steps_xat h.hp (by omega)
theorem Tree.knows (h : Tree m p k) {i : Nat} (hi : i ≤ k) : m.knows (xat p i) = true := by
  have := xat_on p i
  rw [CM.knows_iff, h.pos hi, h.n]
  omega
theorem Tree.inj (h : Tree m p k) {i j : Nat} (hi : i ≤ k) (hj : j ≤ k) (e : xat p i = xat p j) : i = j := by
  rw [← h.pos hi, ← h.pos hj, e]
theorem Tree.known (h : Tree m p k) : m.known = xs p k := by unfold CM.known xs; rw [h.low, h.n]
theorem Tree.no_up (h : Tree m p k) : m.knows (m.ab (xat p 0)) = false := by
  rw [h.top, Bool.eq_false_iff]
  intro hk
  have := CM.knows_iff.1 hk
  omega
theorem Tree.climb (h : Tree m p k) : ∀ i, 1 ≤ i → i ≤ k → m.climb (xat p 0) 128 (xat p i) = true := by
  intro i
  induction i using Nat.strongRecOn with
  | _ i ih =>
    intro h1 h2
    obtain ⟨j, hj, e⟩ := h.up i h1 h2
    rw [m.climb_up h.ok _ _ (h.knows h2), e, h.knows (by omega), Bool.true_and, Bool.or_eq_true]
    by_cases h0 : j = 0
    · left; rw [h0]; simp
    · right; exact ih j hj (by omega) (by omega)
theorem Tree.climb0 (h : Tree m p k) (x : Nat) : m.climb x 128 (xat p 0) = false := by
  rw [m.climb_up h.ok _ _ (h.knows (by omega)), h.no_up]; rfl
theorem Tree.topF (h : Tree m p k) : ∀ i, i ≤ k → m.topF 128 (xat p i) = xat p 0 := by
  intro i
  induction i using Nat.strongRecOn with
  | _ i ih =>
    intro h2
    rw [m.topF_up h.ok _ (h.knows h2)]
    by_cases h0 : i = 0
    · subst h0; rw [h.no_up]; rfl
    · obtain ⟨j, hj, e⟩ := h.up i (by omega) h2
      rw [e, h.knows (by omega), if_pos rfl]
      exact ih j hj (by omega)
theorem Tree.topI (h : Tree m p k) {i : Nat} (hi : i ≤ k) : m.top (xat p i : Nat) = xat p 0 := by
  unfold CM.top
  rw [if_pos (h.knows hi), Int.toNat_natCast, h.topF i hi]
theorem Tree.ends (h : Tree m p k) (x s : Int) : Tree (m.end_ x s).1 p k := by
  have ok := Ok_end h.ok x s
  unfold CM.end_ at *
  split
  · rename_i hc
    rw [if_pos hc] at ok
    exact ⟨ok, h.low, h.n, h.top, h.up⟩
  · exact h
theorem Tree.below0 (h : Tree m p k) : (m.below (xat p 0 : Nat)).length = k ∧ ∀ i, 1 ≤ i → i ≤ k → xat p i ∈ m.below (xat p 0 : Nat) := by
  unfold CM.below
  rw [if_pos (h.knows (by omega)), h.known, Int.toNat_natCast]
  have e : (xs p k).filter (m.climb (xat p 0) 128) = (List.range k).map fun i => xat p (i + 1) := by
    unfold xs
    rw [List.range_succ_eq_map, List.map_cons, List.filter_cons, h.climb0]
    simp only [Bool.false_eq_true, if_false]
    rw [List.map_map]
    apply List.filter_eq_self.2
    intro y hy
    obtain ⟨i, hi, rfl⟩ := List.mem_map.1 hy
    exact h.climb (i + 1) (by omega) (by have := List.mem_range.1 hi; omega)
  rw [e]
  refine ⟨by simp, fun i h1 h2 => List.mem_map.2 ⟨i - 1, List.mem_range.2 (by omega), by rw [show i - 1 + 1 = i by omega]⟩⟩
theorem Tree.begins (h : Tree m p k) (hk : k ≤ 40) (hs : ∀ y : Nat, m.knows y = true → m.st y = 1) {r : Nat} (hr : r ≤ k) :
    m.begin_ (xat p r : Nat) = (m.add (xat p r), (((xat p (k + 1) : Nat) : Int), 0)) ∧ Tree (m.add (xat p r)) p (k + 1) ∧ ∀ y : Nat, (m.add (xat p r)).knows y = true → (m.add (xat p r)).st y = 1 := by
  have hkr := h.knows hr
  have hn := h.n
  have hlo := h.ok.lo
  have hnx := h.ok.nx
  have hns : steps m.low m.next = m.n := rfl
  have hxa : m.next = xat p (k + 1) := by rw [← h.low, ← hn, ← hns, xat_steps hlo hnx]
  have hb : m.begin_ (xat p r : Nat) = (m.add (xat p r), (((xat p (k + 1) : Nat) : Int), 0)) := by
    unfold CM.begin_ CM.mayB
    rw [if_pos (by rw [hkr, Int.toNat_natCast, hs _ hkr]; simp), if_neg (by omega), Int.toNat_natCast, hxa]
  have okA := Ok_add h.ok (by omega) (xat p r) (.inr hkr)
  have hnA := m.add_n h.ok (xat p r)
  have old : ∀ {i : Nat}, i ≤ k → xat p i ≠ m.next := by
    intro i hi e
    have h1 := h.pos hi
    rw [e, hns] at h1
    omega
  refine ⟨hb, ⟨okA, h.low, by omega, ?_, fun i h1 h2 => ?_⟩, fun y hy => ?_⟩
  · show putN m.ab m.next (xat p r) (xat p 0) = 0
    unfold putN
    rw [if_neg (old (by omega))]
    exact h.top
  · show ∃ j, j < i ∧ putN m.ab m.next (xat p r) (xat p i) = xat p j
    unfold putN
    by_cases hi : i = k + 1
    · subst hi
      rw [if_pos hxa.symm]
      exact ⟨r, by omega, rfl⟩
    · rw [if_neg (old (by omega))]
      exact h.up i h1 (by omega)
  · show put m.st m.next 1 y = 1
    unfold put
    split
    · rfl
    · rename_i hne
      obtain ⟨y1, y2, y3⟩ := CM.knows_iff.1 hy
      refine hs y ?_
      rw [CM.knows_iff]
      refine ⟨y1, y2, ?_⟩
      have hne : steps m.low y ≠ steps m.low m.next := fun e => hne (steps_inj hlo ⟨y1, y2⟩ hnx e)
      have y3 : steps m.low y < (m.add (xat p r)).n := y3
      omega
theorem tree_new : Tree ((CM.new 100).add 0) 100 0 ∧ (CM.new 100).begin_ 0 = ((CM.new 100).add 0, (100, 0)) ∧ (∀ y : Nat, ((CM.new 100).add 0).knows y = true → ((CM.new 100).add 0).st y = 1) ∧ xat 100 0 = 100 := by
  have ok0 := Ok_new 100
  have hn0 : (CM.new 100).n = 0 := by decide +kernel
  have okA := Ok_add ok0 (by omega) 0 (.inl rfl)
  have hnA := (CM.new 100).add_n ok0 0
  refine ⟨⟨okA, rfl, by omega, by decide +kernel, fun i h1 h2 => by omega⟩, CM.begin_zero (by omega), fun y hy => ?_, by decide +kernel⟩
  obtain ⟨y1, y2, y3⟩ := CM.knows_iff.1 hy
  have y4 : steps 100 y < ((CM.new 100).add 0).n := y3
  have : y = 100 := by
    rw [hnA, hn0] at y4
    have := steps_zero (a := 100) (b := y) (by omega) ⟨y1, y2⟩ (by omega)
    omega
  subst this
  decide +kernel
/-- the aborted -/
def Gone (m : CM) (G : List Nat) : Prop := ∀ y : Nat, m.knows y = true → m.st y = if y ∈ G then 3 else 1
theorem Tree.abort (h : Tree m p k) {G : List Nat} (hG : Gone m G) (h0 : xat p 0 ∉ G) {i : Nat} (h1 : 1 ≤ i) (h2 : i ≤ k) (hx : xat p i ∉ G) :
    (m.end_ (xat p i : Nat) 3).2 = 0 ∧ Gone (m.end_ (xat p i : Nat) 3).1 (G ++ xat p i :: m.below (xat p i : Nat)) ∧ xat p 0 ∉ G ++ xat p i :: m.below (xat p i : Nat) := by
  have hk := h.knows h2
  have hst := hG _ hk
  rw [if_neg hx] at hst
  have he : m.end_ (xat p i : Nat) 3 = ({ m with st := endS (xat p i :: m.below (xat p i : Nat)) 3 m.st }, 0) := by
    unfold CM.end_
    rw [if_pos (by unfold CM.mayE CM.live; rw [hk, Int.toNat_natCast, hst]; rfl), Int.toNat_natCast]
  rw [he]
  refine ⟨rfl, fun y hy => ?_, ?_⟩
  · have hy : m.knows y = true := hy
    have hs := hG y hy
    show endS (xat p i :: m.below (xat p i : Nat)) 3 m.st y = _
    unfold endS
    by_cases hg : y ∈ G
    · rw [if_pos hg] at hs
      rw [if_neg (by rw [hs]; intro h; exact absurd h.2 (by decide)), if_pos (by simp [hg]), hs]
    · rw [if_neg hg] at hs
      rw [hs]
      by_cases hm : y ∈ xat p i :: m.below (xat p i : Nat)
      · rw [if_pos ⟨hm, rfl⟩, if_pos (List.mem_append_right _ hm)]
      · rw [if_neg (fun h => hm h.1), if_neg (by rw [List.mem_append]; intro h; exact h.elim hg hm)]
  · rw [List.mem_append, List.mem_cons]
    rintro (hh | hh | hh)
    · exact h0 hh
    · have := h.inj (by omega) h2 hh
      omega
    · unfold CM.below at hh
      rw [if_pos hk, Int.toNat_natCast] at hh
      have := (List.mem_filter.1 hh).2
      rw [h.climb0] at this
      cases this
theorem Tree.finish (h : Tree m p k) {G : List Nat} (hG : Gone m G) (h0 : xat p 0 ∉ G) (s : Int) (hs : 2 ≤ s ∧ s ≤ 4) :
    (m.end_ (xat p 0 : Nat) s).2 = 0 ∧ ∀ i, i ≤ k → (m.end_ (xat p 0 : Nat) s).1.state (xat p i : Nat) = if xat p i ∈ G then 3 else s := by
  have hk := h.knows (i := 0) (by omega)
  have hst := hG _ hk
  rw [if_neg h0] at hst
  have he : m.end_ (xat p 0 : Nat) s = ({ m with st := endS (xat p 0 :: m.below (xat p 0 : Nat)) s m.st }, 0) := by
    unfold CM.end_
    have hd : decide ((1 : Int) ≠ s) = true := by simp; omega
    rw [if_pos (by unfold CM.mayE CM.live; rw [hk, Int.toNat_natCast, hst, hd, decide_eq_true hs.1, decide_eq_true hs.2]; rfl), Int.toNat_natCast]
  rw [he]
  refine ⟨rfl, fun i hi => ?_⟩
  have hki := h.knows hi
  have hon := xat_on p i
  unfold CM.state
  rw [if_neg (by omega), show ({ m with st := endS (xat p 0 :: m.below (xat p 0 : Nat)) s m.st } : CM).knows (xat p i : Nat) = true from hki, if_pos rfl, Int.toNat_natCast]
  show endS (xat p 0 :: m.below (xat p 0 : Nat)) s m.st (xat p i) = _
  have hsi := hG _ hki
  have hmem : xat p i ∈ xat p 0 :: m.below (xat p 0 : Nat) := by
    by_cases hi0 : i = 0
    · subst hi0; simp
    · exact List.mem_cons_of_mem _ (h.below0.2 i (by omega) hi)
  unfold endS
  by_cases hg : xat p i ∈ G
  · rw [if_pos hg] at hsi ⊢
    rw [if_neg (by rw [hsi]; intro h; exact absurd h.2 (by decide)), hsi]
  · rw [if_neg hg] at hsi ⊢
    rw [if_pos ⟨hmem, by rw [hsi]; rfl⟩]
end
end Go.VB.Clk
