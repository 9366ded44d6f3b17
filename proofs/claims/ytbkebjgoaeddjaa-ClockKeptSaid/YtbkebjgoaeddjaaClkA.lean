import Derived.Test.YtbkebjgoaeddjaaClkM
import Derived.Test.YtbkebjgoaeddjaaSl
import Derived.Test.YtbkebjgoaeddjaaProg
import Derived.Test.YtbkebjgoaeddjaaChecked
/- The clock under test: how it lies in memory; the functions of the ring. -/
set_option linter.unusedVariables false
namespace Go.VB.Clk
open Go.RowKit
def kcells (st : Nat → Int) (ab : Nat → Nat) : List Value := (List.range 128).flatMap fun x => [.int .i64 (st x), .int .i64 (ab x)]
def ccells (m : CM) : List Value := [.int .i64 m.low, .int .i64 m.next] ++ kcells m.st m.ab
theorem flat2_length {α : Type} (f : Nat → α × α) : ∀ n, ((List.range n).flatMap fun x => [(f x).1, (f x).2]).length = n * 2
  | 0 => rfl
  | n + 1 => by rw [List.range_succ, List.flatMap_append, List.length_append, flat2_length f n]; simp; omega
theorem flat2_get {α : Type} (f : Nat → α × α) : ∀ n x, x < n → ((List.range n).flatMap fun x => [(f x).1, (f x).2])[x * 2]? = some (f x).1 ∧ ((List.range n).flatMap fun x => [(f x).1, (f x).2])[x * 2 + 1]? = some (f x).2
  | 0, x, h => absurd h (by omega)
  | n + 1, x, h => by
    have hl := flat2_length f n
    rw [List.range_succ, List.flatMap_append]
    by_cases hx : x < n
    · have := flat2_get f n x hx
      rw [List.getElem?_append_left (by omega), List.getElem?_append_left (by omega)]
      exact this
    · obtain rfl : x = n := by omega
      rw [List.getElem?_append_right (by omega), List.getElem?_append_right (by omega), hl, Nat.sub_self, show x * 2 + 1 - x * 2 = 1 by omega]
      exact ⟨rfl, rfl⟩
theorem flat2_ext {α : Type} (f : Nat → α × α) (n : Nat) (l : List α) (hl : l.length = n * 2) (h : ∀ x, x < n → l[x * 2]? = some (f x).1 ∧ l[x * 2 + 1]? = some (f x).2) : l = (List.range n).flatMap fun x => [(f x).1, (f x).2] := by
  apply List.ext_getElem?
  intro i
  by_cases hi : i < n * 2
  · have h1 := h (i / 2) (by omega)
    have h2 := flat2_get f n (i / 2) (by omega)
    rcases Nat.mod_two_eq_zero_or_one i with h0 | h0
    · rw [show i = i / 2 * 2 by omega, h1.1, h2.1]
    · rw [show i = i / 2 * 2 + 1 by omega, h1.2, h2.2]
  · rw [List.getElem?_eq_none (by omega), List.getElem?_eq_none (by rw [flat2_length]; omega)]
theorem kcells_eq (st : Nat → Int) (ab : Nat → Nat) : kcells st ab = (List.range 128).flatMap fun x => [((fun x => (Value.int .i64 (st x), Value.int .i64 (ab x))) x).1, ((fun x => (Value.int .i64 (st x), Value.int .i64 (ab x))) x).2] := rfl
theorem kcells_length (st : Nat → Int) (ab : Nat → Nat) : (kcells st ab).length = 256 := by rw [kcells_eq, flat2_length]
theorem kcells_get (st : Nat → Int) (ab : Nat → Nat) (x : Nat) (hx : x < 128) : (kcells st ab)[x * 2]? = some (.int .i64 (st x)) ∧ (kcells st ab)[x * 2 + 1]? = some (.int .i64 (ab x)) := by rw [kcells_eq]; exact flat2_get _ _ _ hx
theorem kcells_st (st : Nat → Int) (ab : Nat → Nat) (x : Nat) (hx : x < 128) (v : Int) : (kcells st ab).set (x * 2) (.int .i64 v) = kcells (put st x v) ab := by
  rw [kcells_eq (put st x v) ab]
  apply flat2_ext _ _ _ (by rw [List.length_set, kcells_length])
  intro y hy
  obtain ⟨h1, h2⟩ := kcells_get st ab y hy
  dsimp only [put]
  refine ⟨?_, by rw [List.getElem?_set_ne (by omega), h2]⟩
  by_cases h : y = x
  · subst h
    rw [List.getElem?_set_self (by rw [kcells_length]; omega), if_pos rfl]
  · rw [List.getElem?_set_ne (by omega), h1, if_neg h]
theorem kcells_ab (st : Nat → Int) (ab : Nat → Nat) (x : Nat) (hx : x < 128) (v : Nat) : (kcells st ab).set (x * 2 + 1) (.int .i64 v) = kcells st (putN ab x v) := by
  rw [kcells_eq st (putN ab x v)]
  apply flat2_ext _ _ _ (by rw [List.length_set, kcells_length])
  intro y hy
  obtain ⟨h1, h2⟩ := kcells_get st ab y hy
  dsimp only [putN]
  refine ⟨by rw [List.getElem?_set_ne (by omega), h1], ?_⟩
  by_cases h : y = x
  · subst h
    rw [List.getElem?_set_self (by rw [kcells_length]; omega), if_pos rfl]
  · rw [List.getElem?_set_ne (by omega), h2, if_neg h]
theorem ccells_length (m : CM) : (ccells m).length = 258 := by simp [ccells, kcells_length]
theorem ccells_st (m : CM) (x : Nat) (hx : x < 128) : (ccells m)[2 + x * 2]? = some (.int .i64 (m.st x)) := by
  unfold ccells; rw [List.getElem?_append_right (by simp), show 2 + x * 2 - [Value.int .i64 m.low, Value.int .i64 m.next].length = x * 2 by simp]
  exact (kcells_get m.st m.ab x hx).1
theorem ccells_ab (m : CM) (x : Nat) (hx : x < 128) : (ccells m)[2 + x * 2 + 1]? = some (.int .i64 (m.ab x)) := by
  unfold ccells; rw [List.getElem?_append_right (by simp; omega), show 2 + x * 2 + 1 - [Value.int .i64 m.low, Value.int .i64 m.next].length = x * 2 + 1 by simp; omega]
  exact (kcells_get m.st m.ab x hx).2
theorem ccells_setst (m : CM) (x : Nat) (hx : x < 128) (v : Int) : (ccells m).set (2 + x * 2) (.int .i64 v) = ccells { m with st := put m.st x v } := by
  unfold ccells
  rw [List.set_append_right _ _ (by simp), show 2 + x * 2 - [Value.int .i64 m.low, Value.int .i64 m.next].length = x * 2 by simp, kcells_st m.st m.ab x hx]
theorem ccells_setab (m : CM) (x : Nat) (hx : x < 128) (v : Nat) : (ccells m).set (2 + x * 2 + 1) (.int .i64 v) = ccells { m with ab := putN m.ab x v } := by
  unfold ccells
  rw [List.set_append_right _ _ (by simp; omega), show 2 + x * 2 + 1 - [Value.int .i64 m.low, Value.int .i64 m.next].length = x * 2 + 1 by simp; omega, kcells_ab m.st m.ab x hx]
theorem ccells_low (m : CM) (v : Nat) : (ccells m).set 0 (.int .i64 v) = ccells { m with low := v } := rfl
theorem ccells_next (m : CM) (v : Nat) : (ccells m).set 1 (.int .i64 v) = ccells { m with next := v } := rfl
end Go.VB.Clk
namespace Go.Proofs.Ytbkebjgoaeddjaa
open Go.RowKit Go.VB Go.VB.Clk
theorem ret_bool {a b : Bool} (h : a = b) : Ending.returned (.bool a) = .returned (.bool b) := by rw [h]
theorem ret_int {k : IntKind} {a b : Int} (h : a = b) : Ending.returned (.int k a) = .returned (.int k b) := by rw [h]
abbrev CRep (w : World) (c : Nat) (m : CM) : Prop := Blk w c (ccells m) 84
theorem on_go (x : Int) (w : World) : Calls Try.prog 52 #[.int .i64 x] w fun e w' => e = .returned (.bool (on x)) ∧ w = w' := by
  unfold on
  go_enter Try.func52, Try.ntmps52
  go_wp2
  all_goals
    go_ret
    exact ⟨ret_bool (by rw [Bool.eq_iff_iff]; simp; omega), rfl⟩
theorem steps_go (a b : Nat) (w : World) (ha : a ≤ 127) (hb : b ≤ 127) (h : a ≤ 125 + b) : Calls Try.prog 54 #[.int .i64 a, .int .i64 b] w fun e w' => e = .returned (.int .i64 (steps a b)) ∧ w = w' := by
  have e : ((steps a b : Nat) : Int) = ((b : Int) - a + 125) % 125 := by unfold steps; omega
  rw [e]
  go_enter Try.func54, Try.ntmps54
  go_wp2
  go_ret
  exact ⟨rfl, rfl⟩
theorem Next_go (x : Int) (w : World) (h : -9223372036854775808 ≤ x ∧ x ≤ 9223372036854775807) : Calls Try.prog 15 #[.int .i64 x] w fun e w' => e = .returned (.int .i64 (nextI x)) ∧ w = w' := by
  unfold nextI
  cases hx : on x with
  | false =>
    simp only [Bool.false_and, Bool.false_eq_true, if_false]
    have ho := on_go x
    rw [hx] at ho
    have HO := hid ho
    clear hx ho
    go_enter Try.func15, Try.ntmps15
    go_wp2_with (go_at_call 52; refine (HO.out _).mono ?_; rintro e w' ⟨rfl, rfl⟩)
    go_ret
    exact ⟨rfl, rfl⟩
  | true =>
    simp only [Bool.true_and, decide_eq_true_eq]
    have ho := on_go x
    rw [hx] at ho
    have HO := hid ho
    obtain ⟨k, rfl, h1, h2⟩ := on_nat hx
    clear hx ho
    by_cases h7 : (k : Int) = 127
    · rw [if_neg (by omega)]
      rw [h7] at HO ⊢
      go_enter Try.func15, Try.ntmps15
      go_wp2_with (go_at_call 52; refine (HO.out _).mono ?_; rintro e w' ⟨rfl, rfl⟩)
      go_ret
      exact ⟨rfl, rfl⟩
    · rw [if_pos h7]
      have h7' : decide ((k : Int) = 127) = false := by simpa using h7
      go_enter Try.func15, Try.ntmps15
      go_wp2_with (go_at_call 52; refine (HO.out _).mono ?_; rintro e w' ⟨rfl, rfl⟩)
      go_ret
      exact ⟨rfl, rfl⟩
theorem ret_tuple {a b : Int} {k k' : IntKind} {c d : Int} (h : a = b) (h2 : c = d) : Ending.returned (.tuple #[.int k a, .int k' c]) = .returned (.tuple #[.int k b, .int k' d]) := by rw [h, h2]
theorem on_is (x : Int) (w : World) {b : Bool} (h : on x = b) : Calls Try.prog 52 #[.int .i64 x] w fun e w' => e = .returned (.bool b) ∧ w = w' := by rw [← h]; exact on_go x w
theorem Before_go (a b : Int) (w : World) : Calls Try.prog 17 #[.int .i64 a, .int .i64 b] w fun e w' => e = .returned (.bool (beforeI a b)) ∧ w = w' := by
  unfold beforeI
  by_cases h2 : a = 2
  · rw [if_pos h2]
    subst h2
    go_enter Try.func17, Try.ntmps17
    go_wp2_with (go_at_call 52; refine (on_go _ _).mono ?_; rintro e w' ⟨rfl, rfl⟩)
    go_ret
    exact ⟨rfl, rfl⟩
  · rw [if_neg h2]
    have h2' : decide (a = 2) = false := by simpa using h2
    have h2'' : (a == 2) = false := by simpa using h2
    cases ha : on a with
    | false =>
      have HA := hid (fun w => on_is a w ha)
      simp only [Bool.false_and]
      clear ha h2
      go_enter Try.func17, Try.ntmps17
      go_wp2_with (first | (go_at_call 52; refine (HA.out _).mono ?_; rintro e w' ⟨rfl, rfl⟩))
      go_ret
      exact ⟨rfl, rfl⟩
    | true =>
      have HA := hid (fun w => on_is a w ha)
      obtain ⟨i, rfl, i1, i2⟩ := on_nat ha
      cases hb : on b with
      | false =>
        have HB := hid (fun w => on_is b w hb)
        simp only [Bool.false_and, Bool.and_false]
        clear ha h2 hb
        go_enter Try.func17, Try.ntmps17
        go_wp2_with (first
          | (go_at_call 52; ((with_reducible refine (HA.out _).mono ?_); rintro e w' ⟨rfl, rfl⟩))
          | (go_at_call 52; ((with_reducible refine (HB.out _).mono ?_); rintro e w' ⟨rfl, rfl⟩)))
        go_ret
        exact ⟨rfl, rfl⟩
      | true =>
        have HB := hid (fun w => on_is b w hb)
        obtain ⟨j, rfl, j1, j2⟩ := on_nat hb
        have HS := hid (fun w => steps_go i j w (by omega) (by omega) (by omega))
        simp only [Bool.true_and, Int.toNat_natCast]
        clear ha h2 hb
        go_enter Try.func17, Try.ntmps17
        go_wp2_with (first
          | (go_at_call 52; ((with_reducible refine (HA.out _).mono ?_); rintro e w' ⟨rfl, rfl⟩))
          | (go_at_call 52; ((with_reducible refine (HB.out _).mono ?_); rintro e w' ⟨rfl, rfl⟩))
          | (go_at_call 54; ((with_reducible refine (HS.out _).mono ?_); rintro e w' ⟨rfl, rfl⟩)))
        all_goals
          go_ret
          exact ⟨ret_bool (by rw [Bool.eq_iff_iff]; simp; omega), rfl⟩
theorem Age_go (a b : Int) (w : World) : Calls Try.prog 19 #[.int .i64 a, .int .i64 b] w fun e w' => e = .returned (.int .i64 (ageI a b)) ∧ w = w' := by
  unfold ageI
  cases ha : on a with
  | false =>
    have HA := hid (fun w => on_is a w ha)
    simp only [Bool.false_and, Bool.false_eq_true, if_false]
    clear ha
    go_enter Try.func19, Try.ntmps19
    go_wp2_with (first | (go_at_call 52; refine (HA.out _).mono ?_; rintro e w' ⟨rfl, rfl⟩))
    go_ret
    exact ⟨rfl, rfl⟩
  | true =>
    have HA := hid (fun w => on_is a w ha)
    obtain ⟨i, rfl, i1, i2⟩ := on_nat ha
    cases hb : on b with
    | false =>
      have HB := hid (fun w => on_is b w hb)
      simp only [Bool.and_false, Bool.false_eq_true, if_false]
      clear ha hb
      go_enter Try.func19, Try.ntmps19
      go_wp2_with (first
        | (go_at_call 52; ((with_reducible refine (HA.out _).mono ?_); rintro e w' ⟨rfl, rfl⟩))
        | (go_at_call 52; ((with_reducible refine (HB.out _).mono ?_); rintro e w' ⟨rfl, rfl⟩)))
      go_ret
      exact ⟨rfl, rfl⟩
    | true =>
      have HB := hid (fun w => on_is b w hb)
      obtain ⟨j, rfl, j1, j2⟩ := on_nat hb
      have HS := hid (fun w => steps_go i j w (by omega) (by omega) (by omega))
      simp only [Bool.and_self, if_true, Int.toNat_natCast]
      generalize steps i j = n at *
      clear ha hb
      go_enter Try.func19, Try.ntmps19
      go_wp2_with (first
        | (go_at_call 52; ((with_reducible refine (HA.out _).mono ?_); rintro e w' ⟨rfl, rfl⟩))
        | (go_at_call 52; ((with_reducible refine (HB.out _).mono ?_); rintro e w' ⟨rfl, rfl⟩))
        | (go_at_call 54; ((with_reducible refine (HS.out _).mono ?_); rintro e w' ⟨rfl, rfl⟩)))
      go_ret
      exact ⟨rfl, rfl⟩
end Go.Proofs.Ytbkebjgoaeddjaa
