import Derived.Test.YtbkebjgoaeddjaaClkRdM
/- A clock read back from its own bytes; transactions begun since; the running ones aborted (plain Lean). -/
set_option linter.unusedVariables false
namespace Go.VB.Clk
theorem byt_zero_next {m : CM} (ok : m.Ok) : byt m.bytes 0 = m.next ∧ byt m.bytes 1 = m.low := by
  obtain ⟨h0, h1, -⟩ := bytes_at m
  have := ok.nx
  have := ok.lo
  omega
theorem bytes_st {m : CM} (ok : m.Ok) {i : Nat} (hi : i < m.n) : byt m.bytes (2 + 2 * i) = (m.st (xat m.low i)).toNat ∧ byt m.bytes (3 + 2 * i) = m.above (xat m.low i) := by
  obtain ⟨-, -, h⟩ := bytes_at m
  obtain ⟨h1, h2⟩ := h i hi
  have hs := ok.st (xat m.low i)
  have ha : m.above (xat m.low i) < 128 := by
    unfold CM.above
    split
    · exact ok.ab _
    · omega
  omega
theorem read_self {m : CM} (ok : m.Ok) : CM.read m.bytes = some (CM.fill m.bytes m.low m.next m.n) := by
  obtain ⟨h0, h1⟩ := byt_zero_next ok
  have hn : steps (byt m.bytes 1) (byt m.bytes 0) = m.n := by rw [h0, h1]; rfl
  have hlen := m.bytes_length
  unfold CM.read
  rw [if_pos]
  · rw [hn, h0, h1]
  · simp only [Bool.and_eq_true, List.all_eq_true, List.mem_range]
    rw [hn]
    refine ⟨⟨?_, ?_⟩, fun i hi => ?_⟩
    · unfold rdHead
      rw [h0, h1, on_of ok.nx.1 ok.nx.2, on_of ok.lo.1 ok.lo.2]
      simp
      omega
    · unfold rdLen
      rw [hn]
      have := ok.far
      simp
      omega
    · rw [h1]
      obtain ⟨g1, g2⟩ := bytes_st ok hi
      have hx := xat_on m.low i
      have hf := ok.far
      have hp := steps_xat ok.lo (i := i) (by omega)
      have hr := ok.run (xat m.low i) hx.1 hx.2 (by omega)
      have hs := ok.st (xat m.low i)
      unfold okAt fineB
      rw [g1, g2]
      simp only [Bool.and_eq_true, decide_eq_true_eq, Bool.or_eq_true]
      refine ⟨⟨by omega, by omega⟩, ?_⟩
      unfold CM.above
      split
      · rename_i hk
        have hy := m.knows_xat ok hi
        have := m.par_lt ok hy hk
        have hk' := CM.knows_iff.1 hk
        exact .inr ⟨on_of hk'.1 hk'.2.1, by omega⟩
      · exact .inl rfl
structure Like (m m0 : CM) : Prop where
  lo : m0.low = m.low
  nx : m0.next = m.next
  st : ∀ y, m.knows (y : Nat) = true → m0.st y = m.st y
theorem like_self {m : CM} (ok : m.Ok) : Like m (CM.fill m.bytes m.low m.next m.n) := by
  obtain ⟨h1, h2⟩ := fill_low m.bytes m.low m.next m.n
  refine ⟨h1, h2, fun y hy => ?_⟩
  obtain ⟨k1, k2, k3⟩ := CM.knows_iff.1 hy
  have hf := ok.far
  have e := xat_steps ok.lo ⟨k1, k2⟩
  have := (fill_at m.bytes m.next ok.lo m.n (steps m.low y) (by omega) k3).1
  rw [e] at this
  rw [this, (bytes_st ok k3).1, e]
  have hs := ok.st y
  omega
theorem Like.n {m m0 : CM} (h : Like m m0) : m0.n = m.n := by unfold CM.n; rw [h.lo, h.nx]
theorem Like.knows {m m0 : CM} (h : Like m m0) (x : Int) : m0.knows x = m.knows x := by unfold CM.knows; rw [h.n, h.lo]
theorem Like.add {m m0 : CM} (ok : m.Ok) (h : Like m m0) (a : Nat) : Like (m.add a) (m0.add a) := by
  refine ⟨h.lo, by show nxt m0.next = nxt m.next; rw [h.nx], fun y hy => ?_⟩
  show put m0.st m0.next 1 y = put m.st m.next 1 y
  unfold put
  rw [h.nx]
  split
  · rfl
  · rename_i hne
    refine h.st y ?_
    obtain ⟨k1, k2, k3⟩ := CM.knows_iff.1 hy
    rw [CM.knows_iff]
    refine ⟨k1, k2, ?_⟩
    rw [m.add_n ok] at k3
    have hlow : (m.add a).low = m.low := rfl
    rw [hlow] at k3
    have : steps m.low y ≠ steps m.low m.next := fun e => hne (steps_inj ok.lo ⟨k1, k2⟩ ok.nx e)
    have : steps m.low m.next = m.n := rfl
    omega
theorem Like.addN {m m0 : CM} (ok : m.Ok) (h : Like m m0) : ∀ k, m.n + k ≤ 60 → Like (m.addN k) (m0.addN k)
  | 0, _ => h
  | k + 1, hk => Like.add (addN_ok ok k (by omega)).1 (Like.addN ok h k (by omega)) 0
theorem addN_next {m : CM} (ok : m.Ok) : ∀ k, m.n + k ≤ 60 → (m.addN k).next = xat m.low (m.n + k)
  | 0, _ => (xat_steps ok.lo ok.nx).symm
  | k + 1, h => by
    show nxt (m.addN k).next = _
    rw [addN_next ok k (by omega), ← xat_succ ok.lo]
    rfl
/-- the last xid of k new ones -/
def lastOf (m : CM) (k : Nat) : Nat := if k = 0 then 0 else xat m.low (m.n + k - 1)
theorem begin_more {m : CM} (ok : m.Ok) {k : Nat} (h : m.n + k ≤ 60) :
    (m.n + k < 60 ∧ (m.addN k).begin_ 0 = (m.addN (k + 1), (((lastOf m (k + 1) : Nat) : Int), 0))) ∨ (m.n + k = 60 ∧ (m.addN k).begin_ 0 = (m.addN k, (0, 40))) := by
  obtain ⟨-, -, h3⟩ := addN_ok ok k h
  by_cases hlt : m.n + k < 60
  · refine .inl ⟨hlt, ?_⟩
    rw [CM.begin_zero (m := m.addN k) (by omega)]
    have : lastOf m (k + 1) = (m.addN k).next := by
      unfold lastOf
      rw [if_neg (by omega), addN_next ok k h]
      rfl
    rw [this]
    rfl
  · refine .inr ⟨by omega, ?_⟩
    unfold CM.begin_
    rw [if_pos (by simp [CM.mayB]), if_pos (by omega)]
theorem reach_last {m m0 : CM} (ok : m.Ok) (h : Like m m0) {k : Nat} (hk : m.n + k ≤ 60) : m0.reach (lastOf m k : Nat) = m0.addN k := by
  unfold lastOf
  by_cases h0 : k = 0
  · subst h0
    rw [if_pos rfl]
    rfl
  · rw [if_neg h0]
    unfold CM.reach
    have hx := xat_on m.low (m.n + k - 1)
    have hs := steps_xat ok.lo (i := m.n + k - 1) (by omega)
    rw [if_pos]
    · rw [Int.toNat_natCast, h.lo, hs, h.n]
      congr 1
      omega
    · rw [on_of hx.1 hx.2, Int.toNat_natCast, h.lo, hs]
      simp
      omega
/-- some of those that had not ended are aborted; none of the first i that had not ended runs -/
structure Abo (r : CM) (st : Nat → Int) (i : Nat) : Prop where
  some_ : ∀ y, st y = r.st y ∨ (liveS (r.st y) = true ∧ st y = 3)
  gone : ∀ k x, k < i → r.lives[k]? = some x → st x ≠ 1
theorem Abo.zero (r : CM) : Abo r r.st 0 := ⟨fun _ => .inl rfl, fun k x hk => absurd hk (by omega)⟩
def CM.with_ (r : CM) (st : Nat → Int) : CM := { r with st := st }
theorem Abo.skip {r : CM} {st : Nat → Int} {i : Nat} (h : Abo r st i) (hx : ∀ x, r.lives[i]? = some x → st x ≠ 1) : Abo r st (i + 1) :=
  ⟨h.some_, fun k x hk hl => by
    by_cases e : k = i
    · subst e; exact hx x hl
    · exact h.gone k x (by omega) hl⟩
theorem Abo.end_ {r : CM} {st : Nat → Int} {i x : Nat} (h : Abo r st i) (hx : r.lives[i]? = some x) (hk : r.knows x = true) (h1 : st x = 1) :
    ∃ st', ((r.with_ st).end_ x 3).1 = r.with_ st' ∧ Abo r st' (i + 1) := by
  have hm : (r.with_ st).mayE x 3 = true := by
    unfold CM.mayE
    have e1 : (r.with_ st).knows (x : Int) = true := hk
    have e2 : (r.with_ st).st x = 1 := h1
    have e3 : (r.with_ st).live x = true := by unfold CM.live; rw [e2]; rfl
    rw [e1, Int.toNat_natCast, e3, e2]
    rfl
  unfold CM.end_
  rw [if_pos hm, Int.toNat_natCast]
  refine ⟨endS (x :: (r.with_ st).below x) 3 st, rfl, fun y => ?_, fun k z hk2 hl => ?_⟩
  · unfold endS
    split
    · rename_i hc
      rcases h.some_ y with h2 | ⟨h2, h3⟩
      · exact .inr ⟨by rw [← h2]; exact hc.2, rfl⟩
      · exact .inr ⟨h2, rfl⟩
    · exact h.some_ y
  · unfold endS
    split
    · omega
    · rename_i hc
      by_cases e : k = i
      · subst e
        rw [hx] at hl
        cases hl
        intro e
        exact hc ⟨by simp, by rw [e]; rfl⟩
      · exact h.gone k z (by omega) hl
theorem kept_end {m r : CM} (ok : r.Ok) (h : Like m r) {st : Nat → Int} (ha : Abo r st r.lives.length) (x : Int) (hx : 3 ≤ x) :
    (m.state x = 1 ∧ (r.with_ st).state x = 3) ∨ (m.state x = 4 ∧ ((r.with_ st).state x = 4 ∨ (r.with_ st).state x = 3)) ∨ (m.state x ≠ 1 ∧ m.state x ≠ 4 ∧ m.state x = (r.with_ st).state x) := by
  have e1 : (r.with_ st).knows x = m.knows x := h.knows x
  have hx2 : ¬ x = 2 := by omega
  simp only [CM.state, if_neg hx2, e1]
  cases hk : m.knows x with
  | false => exact .inr (.inr ⟨by simp, by simp, rfl⟩)
  | true =>
    simp only [if_true]
    obtain ⟨k, rfl, -⟩ := m.knows_nat hk
    rw [Int.toNat_natCast]
    have hst := h.st k hk
    show (m.st k = 1 ∧ st k = 3) ∨ (m.st k = 4 ∧ (st k = 4 ∨ st k = 3)) ∨ (m.st k ≠ 1 ∧ m.st k ≠ 4 ∧ m.st k = st k)
    rw [← hst]
    have hs := ha.some_ k
    by_cases h1 : r.st k = 1
    · refine .inl ⟨h1, ?_⟩
      have hkr : r.knows (k : Int) = true := by rw [h.knows]; exact hk
      have hmem : k ∈ r.lives := List.mem_filter.2 ⟨(r.known_mem ok).2 hkr, by unfold CM.live; rw [h1]; rfl⟩
      obtain ⟨i, hi, he⟩ := List.mem_iff_getElem.1 hmem
      have := ha.gone i k hi (by rw [List.getElem?_eq_getElem hi, he])
      rcases hs with h2 | ⟨-, h2⟩
      · rw [h1] at h2; exact absurd h2 this
      · exact h2
    · by_cases h4 : r.st k = 4
      · refine .inr (.inl ⟨h4, ?_⟩)
        rcases hs with h2 | ⟨-, h2⟩
        · exact .inl (by rw [h2, h4])
        · exact .inr h2
      · refine .inr (.inr ⟨h1, h4, ?_⟩)
        rcases hs with h2 | ⟨h2, -⟩
        · exact h2.symm
        · rcases liveS_cases h2 with h2 | h2 <;> contradiction
end Go.VB.Clk
