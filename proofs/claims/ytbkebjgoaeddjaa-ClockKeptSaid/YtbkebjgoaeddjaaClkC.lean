import Derived.Test.YtbkebjgoaeddjaaClkB
import Derived.Test.YtbkebjgoaeddjaaRange
/- The clock under test: the range over the tracked xids. -/
set_option linter.unusedVariables false
namespace Go.Proofs.Ytbkebjgoaeddjaa
open Go.RowKit Go.VB Go.VB.Clk
attribute [local go_sem] Oper.semAt_some
theorem all_go (w : World) (a : Option Addr) : Calls Try.prog 57 #[.pointer a] w fun e w' => e = .returned (.func (.func 78) #[] #[.pointer (some ⟨w.heap.size, 0, none⟩)]) ∧ (w.alloc (.cells [Value.pointer a].toArray 27)) = w' := by
  go_enter Try.func57, Try.ntmps57
  go_wp2
  go_ret
  exact ⟨rfl, rfl⟩
set_option maxHeartbeats 1000000 in
theorem all1_in (l bc c low next : Nat) (hl : 3 ≤ low ∧ low ≤ 127) (hn : 3 ≤ next ∧ next ≤ 127) (J : Nat → World → Prop) (D : World → Prop)
    (hJ : ∀ i W, J i W → W.cell? ⟨bc, 0, none⟩ = some (.pointer (some ⟨c, 0, none⟩)) ∧ W.cell? ⟨c, 0, none⟩ = some (.int .i64 low) ∧ W.cell? ⟨c, 1, none⟩ = some (.int .i64 next))
    (hY : ∀ i W, J i W → i < steps low next → YieldAt Fence.wide 0 Try.prog l #[.int .i64 (xat low i)] W (YPost J D i))
    (W : World) (h0 : J 0 W) : CallsIn Fence.wide 0 Try.prog 78 #[.func (.yield l) #[] #[], .pointer (some ⟨bc, 0, none⟩)] W fun e W' => (∃ v, e = .returned v) ∧ (J (steps low next) W' ∨ D W') := by
  have hro : Fence.wide.round = none := rfl
  refine callsIn_of_wp Try.func78 rfl trivial ?_ hro
  simp only [Try.ntmps78, List.size_toArray, List.length_cons, List.length_nil, Nat.reduceAdd, Nat.reduceSub, Array.replicate_succ, Array.replicate_zero, List.push_toArray, List.append_toArray, List.nil_append, List.cons_append]
  obtain ⟨q1, q2, q3⟩ := hJ 0 W h0
  have hx0 := xat_zero hl
  gi_wp2
  gi_loopw [3] (fun p wr => ∃ i : Nat, p = .int .i64 (xat low i) ∧ i ≤ steps low next ∧ J i wr) (fun p _ => steps low next - steps low (intOf p).toNat)
  case atStart => exact ⟨0, by rw [hx0], Nat.zero_le _, h0⟩
  case round =>
    obtain ⟨i, rfl, hi, hJi⟩ := hrel
    obtain ⟨q1, q2, q3⟩ := hJ i wr hJi
    have hlt4 := steps_lt low next
    have hs := steps_xat hl (i := i) (by omega)
    have hon := xat_on low i
    have hxn := xat_steps hl hn
    by_cases hlt : i < steps low next
    · have hne : ((xat low i : Nat) : Int) ≠ next := by
        intro e
        have e : xat low i = next := by omega
        rw [e] at hs
        omega
      have hne' : ((xat low i : Int) == next) = false := by simpa using hne
      obtain ⟨fn, tmps, assign, body, hy, hR⟩ := hY i wr hJi hlt
      have HR := hid hR
      have HJ := hid hJi
      have hs1 := steps_xat hl (i := i + 1) (by omega)
      have HS := hid hs
      have HS1 := hid hs1
      have hnx := nextI_nat hon
      rw [← xat_succ hl] at hnx
      have HN := hid (fun w => hnx ▸ Next_go (xat low i) w (by omega))
      clear hY hJ h0 hR hJi hs hs1 hx0 hxn hne hnx
      gi_wp2_with (fail)
      refine ⟨rfl, HR.out.mono ?_⟩
      rintro e W3 (⟨rfl, hJ3⟩ | ⟨rfl, hD3⟩)
      · have HJ3 := hid hJ3
        clear hJ3
        gi_wp2_with (fail)
        refine ⟨trivial, rfl, ((callsIn_wide (n := 0)).2 (HN.out _)).mono ?_⟩
        rintro e w' ⟨rfl, rfl⟩
        gi_wp2_with (fail)
        go_roundw
        case rel => exact ⟨i + 1, rfl, by omega, HJ3.out⟩
        case measure => simp only [intOf]; rw [Int.toNat_natCast, Int.toNat_natCast, HS.out, HS1.out]; omega
      · have HD3 := hid hD3
        clear hD3
        gi_wp2_with (fail)
        exact bodyPost_ret (v := .tuple #[]) (results_none rfl _ _ _) rfl ⟨⟨_, rfl⟩, .inr HD3.out⟩
    · obtain rfl : i = steps low next := by omega
      rw [hxn]
      rw [hxn] at hs hon
      have HJ := hid hJi
      clear hY hJ h0 hJi hs
      gi_wp2_with (fail)
      go_end0
      exact ⟨⟨_, rfl⟩, .inl HJ.out⟩
/-- the range, as wp_range_J asks for it -/
theorem all_it (l bc c low next : Nat) (hl : 3 ≤ low ∧ low ≤ 127) (hn : 3 ≤ next ∧ next ≤ 127) (J : Nat → World → Prop)
    (hJ : ∀ i W, J i W → W.cell? ⟨bc, 0, none⟩ = some (.pointer (some ⟨c, 0, none⟩)) ∧ W.cell? ⟨c, 0, none⟩ = some (.int .i64 low) ∧ W.cell? ⟨c, 1, none⟩ = some (.int .i64 next)) :
    ∀ (JJ : Nat → World → Prop) (DD : World → Prop) (W : World), (∀ i W, JJ i W → J i W) → (∀ i W, JJ i W → i < steps low next → YieldAt Fence.wide 0 Try.prog l #[.int .i64 (xat low i)] W (YPost JJ DD i)) → JJ 0 W →
      CallsIn Fence.wide 0 Try.prog 78 (#[.func (.yield l) #[] #[]] ++ #[.pointer (some ⟨bc, 0, none⟩)]) W fun e W' => (∃ v, e = .returned v) ∧ (JJ (steps low next) W' ∨ DD W') :=
  fun JJ DD W h1 h2 h3 => all1_in l bc c low next hl hn JJ DD (fun i W h => hJ i W (h1 i W h)) h2 W h3
end Go.Proofs.Ytbkebjgoaeddjaa
