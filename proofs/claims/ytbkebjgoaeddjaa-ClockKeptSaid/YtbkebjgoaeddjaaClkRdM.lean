import Derived.Test.YtbkebjgoaeddjaaClkI
/- Reading a clock back (plain Lean). -/
set_option linter.unusedVariables false
namespace Go.VB.Clk
def fineB (low a i : Nat) : Bool := decide (a = 0) || (on a && decide (steps low a < i))
def byt (l : List UInt8) (i : Nat) : Nat := (l.getD i 0).toNat
def okAt (low : Nat) (l : List UInt8) (i : Nat) : Bool := decide (1 ≤ byt l (2 + 2 * i)) && decide (byt l (2 + 2 * i) ≤ 4) && fineB low (byt l (3 + 2 * i)) i
def CM.raw (low next : Nat) : CM := { low := low, next := next, st := fun _ => 0, ab := fun _ => 0 }
def CM.fill (l : List UInt8) (low next : Nat) : Nat → CM
  | 0 => CM.raw low next
  | i + 1 => let m := CM.fill l low next i; { m with st := put m.st (xat low i) (byt l (2 + 2 * i)), ab := putN m.ab (xat low i) (byt l (3 + 2 * i)) }
def rdHead (l : List UInt8) : Bool := decide (2 ≤ l.length) && on (byt l 0) && on (byt l 1)
def rdLen (l : List UInt8) : Bool := decide (steps (byt l 1) (byt l 0) ≤ 60) && decide (l.length = 2 + 2 * steps (byt l 1) (byt l 0))
def CM.read (l : List UInt8) : Option CM :=
  if rdHead l && rdLen l && (List.range (steps (byt l 1) (byt l 0))).all (okAt (byt l 1) l) then some (CM.fill l (byt l 1) (byt l 0) (steps (byt l 1) (byt l 0))) else none
theorem byt_lt (l : List UInt8) (i : Nat) : byt l i < 256 := (l.getD i 0).toNat_lt
theorem byt_at {l : List UInt8} {i : Nat} (h : i < l.length) : byt l i = l[i].toNat := by simp [byt, h]
theorem fineB_zero (low a : Nat) : fineB low a 0 = decide (a = 0) := by simp [fineB]
theorem fineB_succ {low a k : Nat} (hl : 3 ≤ low ∧ low ≤ 127) (hk : k < 125) : fineB low a (k + 1) = (fineB low a k || decide (xat low k = a)) := by
  unfold fineB
  rw [Bool.or_assoc]
  congr 1
  cases ho : on (a : Int) with
  | false =>
    rw [Bool.false_and, Bool.false_and, Bool.false_or]
    symm
    rw [decide_eq_false_iff_not]
    rintro rfl
    have := xat_on low k
    rw [on_of this.1 this.2] at ho
    cases ho
  | true =>
    rw [Bool.true_and, Bool.true_and, ← Bool.decide_or]
    rw [decide_eq_decide]
    have ha := on_iff.1 ho
    constructor
    · intro h
      by_cases h1 : steps low a < k
      · exact .inl h1
      · refine .inr ?_
        have : steps low a = k := by omega
        rw [← this, xat_steps hl ha]
    · rintro (h | rfl)
      · omega
      · rw [steps_xat hl hk]
        omega
theorem fill_low (l : List UInt8) (low next : Nat) : ∀ i, (CM.fill l low next i).low = low ∧ (CM.fill l low next i).next = next
  | 0 => ⟨rfl, rfl⟩
  | i + 1 => fill_low l low next i
theorem fill_n (l : List UInt8) (low next i : Nat) : (CM.fill l low next i).n = steps low next := by
  unfold CM.n
  rw [(fill_low l low next i).1, (fill_low l low next i).2]
theorem fill_at (l : List UInt8) {low : Nat} (next : Nat) (hl : 3 ≤ low ∧ low ≤ 127) : ∀ (i j : Nat), i ≤ 125 → j < i → (CM.fill l low next i).st (xat low j) = byt l (2 + 2 * j) ∧ (CM.fill l low next i).ab (xat low j) = byt l (3 + 2 * j)
  | 0, j, _, h => absurd h (by omega)
  | i + 1, j, hi, h => by
    show put (CM.fill l low next i).st (xat low i) _ (xat low j) = _ ∧ putN (CM.fill l low next i).ab (xat low i) _ (xat low j) = _
    unfold put putN
    by_cases hji : j = i
    · subst hji
      rw [if_pos rfl, if_pos rfl]
      exact ⟨rfl, rfl⟩
    · have hne : xat low j ≠ xat low i := by
        intro e
        have h1 := steps_xat hl (i := j) (by omega)
        have h2 := steps_xat hl (i := i) (by omega)
        rw [e] at h1
        omega
      rw [if_neg hne, if_neg hne]
      exact fill_at l next hl i j (by omega) (by omega)
theorem fill_any (l : List UInt8) (low next : Nat) : ∀ (i y : Nat), i ≤ 60 → (∀ j, j < i → okAt low l j = true) → (0 ≤ (CM.fill l low next i).st y ∧ (CM.fill l low next i).st y ≤ 4) ∧ (CM.fill l low next i).ab y < 128
  | 0, y, _, _ => ⟨⟨by simp [CM.fill, CM.raw], by simp [CM.fill, CM.raw]⟩, by simp [CM.fill, CM.raw]⟩
  | i + 1, y, hi, h => by
    show (0 ≤ put (CM.fill l low next i).st (xat low i) _ y ∧ put (CM.fill l low next i).st (xat low i) _ y ≤ 4) ∧ putN (CM.fill l low next i).ab (xat low i) _ y < 128
    have ih := fill_any l low next i y (by omega) (fun j hj => h j (by omega))
    have hi' := h i (by omega)
    unfold okAt fineB at hi'
    simp only [Bool.and_eq_true, decide_eq_true_eq, Bool.or_eq_true] at hi'
    obtain ⟨⟨h1, h2⟩, h3⟩ := hi'
    unfold put putN
    split
    · refine ⟨by omega, ?_⟩
      rcases h3 with h3 | ⟨h3, -⟩
      · omega
      · have := on_iff.1 h3; omega
    · exact ih
theorem read_cases {l : List UInt8} {m : CM} (h : CM.read l = some m) : (3 ≤ byt l 1 ∧ byt l 1 ≤ 127) ∧ (3 ≤ byt l 0 ∧ byt l 0 ≤ 127) ∧ steps (byt l 1) (byt l 0) ≤ 60 ∧ l.length = 2 + 2 * steps (byt l 1) (byt l 0) ∧
    (∀ j, j < steps (byt l 1) (byt l 0) → okAt (byt l 1) l j = true) ∧ m = CM.fill l (byt l 1) (byt l 0) (steps (byt l 1) (byt l 0)) := by
  unfold CM.read at h
  split at h
  · rename_i hc
    simp only [rdHead, rdLen, Bool.and_eq_true, decide_eq_true_eq, List.all_eq_true, List.mem_range] at hc
    obtain ⟨⟨⟨⟨-, h0⟩, h1⟩, h2, h3⟩, h4⟩ := hc
    exact ⟨on_iff.1 h1, on_iff.1 h0, h2, h3, h4, (Option.some.inj h).symm⟩
  · cases h
theorem read_ok {l : List UInt8} {m : CM} (h : CM.read l = some m) : m.Ok := by
  obtain ⟨hl, hn, hf, -, hok, rfl⟩ := read_cases h
  generalize byt l 1 = low at *
  generalize byt l 0 = next at *
  have hlow := fill_low l low next (steps low next)
  have hnn := fill_n l low next (steps low next)
  have key : ∀ y, 3 ≤ y → y ≤ 127 → steps low y < steps low next → ∃ j, j < steps low next ∧ y = xat low j := fun y h1 h2 h3 => ⟨_, h3, (xat_steps hl ⟨h1, h2⟩).symm⟩
  refine ⟨by rw [hlow.1]; exact hl, by rw [hlow.2]; exact hn, by rw [hnn]; exact hf, fun x => (fill_any l low next _ x hf hok).1, fun x => (fill_any l low next _ x hf hok).2, fun y h1 h2 h3 => ?_, fun y h1 h2 h3 => ?_⟩
  · rw [hlow.1, hnn] at h3
    obtain ⟨j, hj, rfl⟩ := key y h1 h2 h3
    rw [(fill_at l next hl _ j (by omega) hj).1]
    have := hok j hj
    unfold okAt at this
    simp only [Bool.and_eq_true, decide_eq_true_eq] at this
    omega
  · rw [hlow.1, hnn] at h3
    obtain ⟨j, hj, rfl⟩ := key y h1 h2 h3
    rw [(fill_at l next hl _ j (by omega) hj).2]
    have := hok j hj
    unfold okAt fineB at this
    simp only [Bool.and_eq_true, decide_eq_true_eq, Bool.or_eq_true] at this
    obtain ⟨-, h4 | ⟨h4, h5⟩⟩ := this
    · exact .inl h4
    · have ha := on_iff.1 h4
      refine .inr ⟨ha.1, ha.2, ?_⟩
      have hx := xat_on low j
      have hs := steps_xat hl (i := j) (by omega)
      generalize xat low j = x at *
      generalize byt l (3 + 2 * j) = a at *
      unfold steps at *
      omega
theorem ext_two {a b : List UInt8} (n : Nat) (ha : a.length = 2 + n * 2) (hb : b.length = 2 + n * 2) (h0 : byt a 0 = byt b 0) (h1 : byt a 1 = byt b 1) (h : ∀ i, i < n → byt a (2 + 2 * i) = byt b (2 + 2 * i) ∧ byt a (3 + 2 * i) = byt b (3 + 2 * i)) : a = b := by
  apply List.ext_getElem (by omega)
  intro i hi hj
  have key : byt a i = byt b i := by
    by_cases c0 : i = 0
    · rw [c0]; exact h0
    · by_cases c1 : i = 1
      · rw [c1]; exact h1
      · have := h ((i - 2) / 2) (by omega)
        rcases Nat.mod_two_eq_zero_or_one i with c | c
        · rw [show i = 2 + 2 * ((i - 2) / 2) by omega]; exact this.1
        · rw [show i = 3 + 2 * ((i - 2) / 2) by omega]; exact this.2
  rw [byt_at hi, byt_at hj] at key
  exact UInt8.toNat_inj.1 key
theorem flat_at (f g : Nat → UInt8) : ∀ (L : List Nat) (i : Nat) (hi : i < L.length), (L.flatMap fun x => [f x, g x])[2 * i]? = some (f L[i]) ∧ (L.flatMap fun x => [f x, g x])[2 * i + 1]? = some (g L[i])
  | [], i, hi => by simp at hi
  | x :: L, 0, hi => by simp [List.flatMap_cons]
  | x :: L, i + 1, hi => by
    have := flat_at f g L i (by simpa using hi)
    rw [List.flatMap_cons]
    simp only [List.cons_append, List.nil_append, List.getElem_cons_succ]
    rw [show 2 * (i + 1) = 2 * i + 1 + 1 by omega, List.getElem?_cons_succ, List.getElem?_cons_succ, show 2 * i + 1 + 1 + 1 = (2 * i + 1) + 1 + 1 by omega, List.getElem?_cons_succ, List.getElem?_cons_succ]
    exact this
/-- the bytes of a clock, one by one -/
theorem bytes_at (m : CM) : byt m.bytes 0 = m.next % 256 ∧ byt m.bytes 1 = m.low % 256 ∧ ∀ i, i < m.n → byt m.bytes (2 + 2 * i) = (m.st (xat m.low i)).toNat % 256 ∧ byt m.bytes (3 + 2 * i) = m.above (xat m.low i) % 256 := by
  refine ⟨by simp [CM.bytes, byt], by simp [CM.bytes, byt], fun i hi => ?_⟩
  have h := flat_at (fun x => UInt8.ofNat (m.st x).toNat) (fun x => UInt8.ofNat (m.above x)) m.known i (by rw [m.known_length]; exact hi)
  rw [m.known_get] at h
  unfold CM.bytes byt
  have e1 : ([UInt8.ofNat m.next, UInt8.ofNat m.low] ++ m.known.flatMap fun x => [UInt8.ofNat (m.st x).toNat, UInt8.ofNat (m.above x)])[2 + 2 * i]? = some (UInt8.ofNat (m.st (xat m.low i)).toNat) := by
    rw [List.getElem?_append_right (by simp), show 2 + 2 * i - [UInt8.ofNat m.next, UInt8.ofNat m.low].length = 2 * i by simp]; exact h.1
  have e2 : ([UInt8.ofNat m.next, UInt8.ofNat m.low] ++ m.known.flatMap fun x => [UInt8.ofNat (m.st x).toNat, UInt8.ofNat (m.above x)])[3 + 2 * i]? = some (UInt8.ofNat (m.above (xat m.low i))) := by
    rw [List.getElem?_append_right (by simp; omega), show 3 + 2 * i - [UInt8.ofNat m.next, UInt8.ofNat m.low].length = 2 * i + 1 by simp; omega]; exact h.2
  rw [List.getD_eq_getElem?_getD, List.getD_eq_getElem?_getD, e1, e2]
  simp [UInt8.toNat_ofNat']
theorem read_bytes {l : List UInt8} {m : CM} (h : CM.read l = some m) : m.bytes = l := by
  have hk := read_ok h
  obtain ⟨hl, hn, hf, hlen, hok, rfl⟩ := read_cases h
  have hlow := fill_low l (byt l 1) (byt l 0) (steps (byt l 1) (byt l 0))
  have hnn := fill_n l (byt l 1) (byt l 0) (steps (byt l 1) (byt l 0))
  obtain ⟨b0, b1, b2⟩ := bytes_at (CM.fill l (byt l 1) (byt l 0) (steps (byt l 1) (byt l 0)))
  rw [hlow.2] at b0
  rw [hlow.1] at b1
  rw [hnn] at b2
  refine ext_two (steps (byt l 1) (byt l 0)) (by rw [CM.bytes_length, hnn]) (by omega) (by rw [b0]; omega) (by rw [b1]; omega) (fun i hi => ?_)
  obtain ⟨c1, c2⟩ := b2 i hi
  rw [hlow.1] at c1 c2
  obtain ⟨d1, d2⟩ := fill_at l (byt l 0) hl (steps (byt l 1) (byt l 0)) i (by omega) hi
  have hb1 := byt_lt l (2 + 2 * i)
  have hb2 := byt_lt l (3 + 2 * i)
  refine ⟨by rw [c1, d1]; omega, ?_⟩
  rw [c2]
  have := hok i hi
  unfold okAt fineB at this
  simp only [Bool.and_eq_true, decide_eq_true_eq, Bool.or_eq_true] at this
  have hab : (CM.fill l (byt l 1) (byt l 0) (steps (byt l 1) (byt l 0))).above (xat (byt l 1) i) = byt l (3 + 2 * i) := by
    unfold CM.above
    rw [d2]
    rcases this.2 with h4 | ⟨h4, h5⟩
    · rw [h4]
      split <;> rfl
    · rw [if_pos]
      rw [CM.knows_iff, hlow.1, hnn]
      have ha := on_iff.1 h4
      exact ⟨ha.1, ha.2, by omega⟩
  rw [hab]
  omega
end Go.VB.Clk
