import Derived.Test.YtbkebjgoaeddjaaBase
/- The model of a clock (plain Lean, no program in sight). -/
set_option linter.unusedVariables false
namespace Go.VB.Clk
structure CM where
  low : Nat
  next : Nat
  st : Nat → Int
  ab : Nat → Nat
def on (x : Int) : Bool := decide (3 ≤ x) && decide (x ≤ 127)
def steps (a b : Nat) : Nat := (b + 125 - a) % 125
def nxt (x : Nat) : Nat := if x = 127 then 3 else x + 1
def nextI (x : Int) : Int := if on x && decide (x ≠ 127) then x + 1 else 3
def beforeI (a b : Int) : Bool := if a = 2 then on b else on a && on b && decide (1 ≤ steps a.toNat b.toNat) && decide (steps a.toNat b.toNat ≤ 62)
def ageI (a b : Int) : Nat := if on a && on b then steps a.toNat b.toNat else 0
/-- the xid i steps behind a -/
def xat (a i : Nat) : Nat := (a - 3 + i) % 125 + 3
def CM.n (m : CM) : Nat := steps m.low m.next
def CM.new (next : Int) : CM := let a := if on next then next.toNat else 3; { low := a, next := a, st := fun _ => 0, ab := fun _ => 0 }
def CM.knows (m : CM) (x : Int) : Bool := on x && decide (steps m.low x.toNat < m.n)
def CM.known (m : CM) : List Nat := (List.range m.n).map (xat m.low)
def liveS (s : Int) : Bool := decide (s = 1) || decide (s = 4)
def CM.live (m : CM) (x : Nat) : Bool := liveS (m.st x)
def CM.above (m : CM) (x : Nat) : Nat := if m.knows (m.ab x) then m.ab x else 0
/-- x is reached from y by at most f steps up -/
def CM.climb (m : CM) (x : Nat) : Nat → Nat → Bool
  | 0, _ => false
  | f + 1, y => m.knows (m.ab y) && (decide (m.ab y = x) || m.climb x f (m.ab y))
def CM.below (m : CM) (x : Int) : List Nat := if m.knows x then m.known.filter (m.climb x.toNat 128) else []
def put (f : Nat → Int) (x : Nat) (v : Int) : Nat → Int := fun y => if y = x then v else f y
def putN (f : Nat → Nat) (x : Nat) (v : Nat) : Nat → Nat := fun y => if y = x then v else f y
def CM.add (m : CM) (above : Nat) : CM := { low := m.low, next := nxt m.next, st := put m.st m.next 1, ab := putN m.ab m.next above }
def CM.mayB (m : CM) (above : Int) : Bool := decide (above = 0) || (m.knows above && decide (m.st above.toNat = 1))
def CM.begin_ (m : CM) (above : Int) : CM × (Int × Int) :=
  if m.mayB above then (if 60 ≤ m.n then (m, (0, 40)) else (m.add above.toNat, (m.next, 0))) else (m, (0, 1))
def CM.addN (m : CM) : Nat → CM
  | 0 => m
  | k + 1 => (m.addN k).add 0
def CM.reach (m : CM) (x : Int) : CM := if on x && decide (steps m.low x.toNat < 60) then m.addN (steps m.low x.toNat + 1 - m.n) else m
def endS (l : List Nat) (s : Int) (st : Nat → Int) : Nat → Int := fun y => if y ∈ l ∧ liveS (st y) = true then s else st y
def CM.mayE (m : CM) (x s : Int) : Bool := decide (2 ≤ s) && decide (s ≤ 4) && m.knows x && m.live x.toNat && decide (m.st x.toNat ≠ s)
def CM.end_ (m : CM) (x s : Int) : CM × Int := if m.mayE x s then ({ m with st := endS (x.toNat :: m.below x) s m.st }, 0) else (m, 41)
def CM.state (m : CM) (x : Int) : Int := if x = 2 then 2 else if m.knows x then m.st x.toNat else 0
def CM.topF (m : CM) : Nat → Nat → Nat
  | 0, x => x
  | f + 1, x => if m.knows (m.ab x) then m.topF f (m.ab x) else x
def CM.top (m : CM) (x : Int) : Nat := if m.knows x then m.topF 128 x.toNat else 0
def CM.lives (m : CM) : List Nat := m.known.filter m.live
def CM.oldest (m : CM) : Nat := m.lives.headD m.next
def CM.mayF (m : CM) (x : Int) : Bool := on x && decide (steps m.low x.toNat ≤ steps m.low m.oldest)
def CM.freeze (m : CM) (x : Int) : CM := if m.mayF x then { m with low := x.toNat } else m
def CM.bytes (m : CM) : List UInt8 := [UInt8.ofNat m.next, UInt8.ofNat m.low] ++ m.known.flatMap fun x => [UInt8.ofNat (m.st x).toNat, UInt8.ofNat (m.above x)]
def endedI (high : Int) (live : List Int) (x : Int) (s : Int) : Bool := if x = 2 then true else on x && beforeI x high && !live.contains x && decide (s = 2)

theorem on_nat {x : Int} (h : on x = true) : ∃ k : Nat, x = k ∧ 3 ≤ k ∧ k ≤ 127 := by
  simp only [on, Bool.and_eq_true, decide_eq_true_eq] at h
  exact ⟨x.toNat, by omega, by omega, by omega⟩
theorem on_of {k : Nat} (h1 : 3 ≤ k) (h2 : k ≤ 127) : on (k : Int) = true := by simp [on]; omega
theorem on_iff {k : Nat} : on (k : Int) = true ↔ 3 ≤ k ∧ k ≤ 127 := by simp only [on, Bool.and_eq_true, decide_eq_true_eq]; omega
theorem steps_lt (a b : Nat) : steps a b < 125 := Nat.mod_lt _ (by omega)
theorem steps_self (a : Nat) : steps a a = 0 := by unfold steps; omega
theorem steps_nxt {a b : Nat} (ha : 3 ≤ a ∧ a ≤ 127) (hb : 3 ≤ b ∧ b ≤ 127) (hne : a ≠ b) : steps a b = steps (nxt a) b + 1 := by unfold steps nxt; split <;> omega
theorem steps_next {a b : Nat} (ha : 3 ≤ a ∧ a ≤ 127) (hb : 3 ≤ b ∧ b ≤ 127) (h : steps a b < 124) : steps a (nxt b) = steps a b + 1 := by unfold steps nxt at *; split <;> omega
theorem steps_zero {a b : Nat} (ha : 3 ≤ a ∧ a ≤ 127) (hb : 3 ≤ b ∧ b ≤ 127) (h : steps a b = 0) : a = b := by unfold steps at h; omega
theorem steps_inj {a b c : Nat} (ha : 3 ≤ a ∧ a ≤ 127) (hb : 3 ≤ b ∧ b ≤ 127) (hc : 3 ≤ c ∧ c ≤ 127) (h : steps a b = steps a c) : b = c := by unfold steps at h; omega
theorem nxt_on {a : Nat} (ha : 3 ≤ a ∧ a ≤ 127) : 3 ≤ nxt a ∧ nxt a ≤ 127 := by unfold nxt; split <;> omega
theorem nextI_nat {a : Nat} (ha : 3 ≤ a ∧ a ≤ 127) : nextI (a : Int) = nxt a := by
  unfold nextI nxt
  rw [on_of ha.1 ha.2]
  simp only [Bool.true_and, decide_eq_true_eq]
  split <;> split <;> omega
theorem xat_on (a i : Nat) : 3 ≤ xat a i ∧ xat a i ≤ 127 := by unfold xat; omega
theorem xat_zero {a : Nat} (ha : 3 ≤ a ∧ a ≤ 127) : xat a 0 = a := by unfold xat; omega
theorem xat_succ {a : Nat} (ha : 3 ≤ a ∧ a ≤ 127) (i : Nat) : xat a (i + 1) = nxt (xat a i) := by unfold xat nxt; split <;> omega
theorem steps_xat {a : Nat} (ha : 3 ≤ a ∧ a ≤ 127) {i : Nat} (hi : i < 125) : steps a (xat a i) = i := by unfold steps xat; omega
theorem xat_steps {a b : Nat} (ha : 3 ≤ a ∧ a ≤ 127) (hb : 3 ≤ b ∧ b ≤ 127) : xat a (steps a b) = b := by unfold steps xat; omega
/-- what always holds of a clock -/
structure CM.Ok (m : CM) : Prop where
  lo : 3 ≤ m.low ∧ m.low ≤ 127
  nx : 3 ≤ m.next ∧ m.next ≤ 127
  far : m.n ≤ 60
  st : ∀ x, 0 ≤ m.st x ∧ m.st x ≤ 4
  ab : ∀ x, m.ab x < 128
  run : ∀ y, 3 ≤ y → y ≤ 127 → steps m.low y < m.n → 1 ≤ m.st y
  par : ∀ y, 3 ≤ y → y ≤ 127 → steps m.low y < m.n → m.ab y = 0 ∨ (3 ≤ m.ab y ∧ m.ab y ≤ 127 ∧ 1 ≤ steps (m.ab y) y ∧ steps (m.ab y) y ≤ 59)
theorem CM.knows_iff {m : CM} {k : Nat} : m.knows (k : Int) = true ↔ 3 ≤ k ∧ k ≤ 127 ∧ steps m.low k < m.n := by
  unfold CM.knows
  rw [Bool.and_eq_true, on_iff, decide_eq_true_eq, Int.toNat_natCast, and_assoc]
theorem CM.knows_nat {m : CM} {x : Int} (h : m.knows x = true) : ∃ k : Nat, x = k ∧ 3 ≤ k ∧ k ≤ 127 ∧ steps m.low k < m.n := by
  have h' := h
  unfold CM.knows at h
  obtain ⟨k, rfl, -, -⟩ := on_nat (Bool.and_eq_true_iff.1 h).1
  exact ⟨k, rfl, CM.knows_iff.1 h'⟩
theorem CM.par_lt {m : CM} (ok : m.Ok) {y : Nat} (hy : m.knows y = true) (hp : m.knows (m.ab y) = true) : steps m.low (m.ab y) < steps m.low y := by
  obtain ⟨h1, h2, h3⟩ := CM.knows_iff.1 hy
  obtain ⟨p1, p2, p3⟩ := CM.knows_iff.1 hp
  have hl := ok.lo
  have hf := ok.far
  rcases ok.par y h1 h2 h3 with h | ⟨-, -, h4, h5⟩
  · omega
  · generalize m.ab y = a at *
    generalize m.n = n at *
    unfold steps at *
    omega
theorem CM.known_length (m : CM) : m.known.length = m.n := by simp [CM.known]
theorem CM.known_get (m : CM) (i : Nat) (h : i < m.known.length) : m.known[i] = xat m.low i := by simp [CM.known]
theorem CM.known_mem {m : CM} (ok : m.Ok) {y : Nat} : y ∈ m.known ↔ m.knows y = true := by
  rw [CM.knows_iff]
  simp only [CM.known, List.mem_map, List.mem_range]
  constructor
  · rintro ⟨i, hi, rfl⟩
    have := xat_on m.low i
    have hf := ok.far
    rw [steps_xat ok.lo (by omega)]
    exact ⟨this.1, this.2, hi⟩
  · rintro ⟨h1, h2, h3⟩
    exact ⟨_, h3, xat_steps ok.lo ⟨h1, h2⟩⟩
/-- enough steps -/
theorem CM.climb_more {m : CM} (ok : m.Ok) (x : Nat) : ∀ (f g y : Nat), m.knows y = true → steps m.low y ≤ f → f ≤ g → m.climb x (f + 1) y = m.climb x (g + 1) y := by
  intro f
  induction f with
  | zero =>
    intro g y hy h0 _
    have : m.knows (m.ab y) = false := by
      rw [Bool.eq_false_iff]
      intro hp
      have := m.par_lt ok hy hp
      omega
    simp [CM.climb, this]
  | succ f ih =>
    intro g y hy h0 hg
    obtain ⟨g, rfl⟩ : ∃ g', g = g' + 1 := ⟨g - 1, by omega⟩
    conv => lhs; rw [CM.climb]
    conv => rhs; rw [CM.climb]
    by_cases hp : m.knows (m.ab y) = true
    · have := m.par_lt ok hy hp
      rw [ih g (m.ab y) hp (by omega) (by omega)]
    · rw [Bool.not_eq_true] at hp
      rw [hp]
      rfl
theorem CM.climb_up {m : CM} (ok : m.Ok) (x y : Nat) (hy : m.knows y = true) : m.climb x 128 y = (m.knows (m.ab y) && (decide (m.ab y = x) || m.climb x 128 (m.ab y))) := by
  rw [CM.climb]
  by_cases hp : m.knows (m.ab y) = true
  · obtain ⟨-, -, h3⟩ := CM.knows_iff.1 hp
    have := ok.far
    rw [m.climb_more ok x 126 127 (m.ab y) hp (by omega) (by omega)]
  · rw [Bool.not_eq_true] at hp
    rw [hp]
    rfl
theorem CM.climb_low {m : CM} (ok : m.Ok) (x : Nat) : ∀ (f y : Nat), m.knows y = true → m.climb x f y = true → m.knows x = true ∧ steps m.low x < steps m.low y := by
  intro f
  induction f with
  | zero => intro y _ h; cases h
  | succ f ih =>
    intro y hy h
    rw [CM.climb, Bool.and_eq_true, Bool.or_eq_true, decide_eq_true_eq] at h
    obtain ⟨hp, h⟩ := h
    have hl := m.par_lt ok hy hp
    rcases h with h | h
    · rw [← h]; exact ⟨hp, hl⟩
    · have := ih _ hp h
      exact ⟨this.1, by omega⟩
end Go.VB.Clk
