import Derived.Test.YtfalehgngioheaaDiskI
import Derived.Test.YtfalehgngioheaaRound
set_option linter.unusedVariables false
namespace Go.Proofs.Ytfalehgngioheaa
open Go.RowKit Go.VB Go.VB.Disk
attribute [local go_sem] Oper.semAt_some
set_option maxHeartbeats 1000000 in
theorem written1_in (l bd d pb np : Nat) (J : Nat → World → Prop) (len : Nat → Nat) (hnp : np ≤ 400)
    (hJ : ∀ i W, J i W → W.cell? ⟨bd, 0, none⟩ = some (.pointer (some ⟨d, 0, none⟩)) ∧ W.cell? ⟨d, 0, none⟩ = some (.slice (some ⟨pb, 0, none⟩) np np) ∧ (i < np → ∃ a cap, W.cell? ⟨pb, i * 513 + 512, none⟩ = some (.slice a (len i) cap)))
    (hskip : ∀ i W, J i W → i < np → len i = 0 → J (i + 1) W)
    (hY : ∀ i W, J i W → i < np → 0 < len i → YieldAt Fence.wide 0 Try.prog l #[.pointer (some ⟨pb, i * 513, none⟩)] W fun e W' => e = .returned (.bool true) ∧ J (i + 1) W')
    (W : World) (h0 : J 0 W) : CallsIn Fence.wide 0 Try.prog 60 #[.func (.yield l) #[] #[], .pointer (some ⟨bd, 0, none⟩)] W fun e W' => (∃ v, e = .returned v) ∧ J np W' := by
  have hro : Fence.wide.round = none := rfl
  refine callsIn_of_wp Try.func60 rfl trivial ?_ hro
  simp only [Try.ntmps60, List.size_toArray, List.length_cons, List.length_nil, Nat.reduceAdd, Nat.reduceSub, Array.replicate_succ, Array.replicate_zero, List.push_toArray, List.append_toArray, List.nil_append, List.cons_append]
  obtain ⟨q1, q2, q3⟩ := hJ 0 W h0
  gi_wp2
  gi_loopw [3, 9] (fun _ p wr => ∃ i : Nat, p = .int .i64 i ∧ i ≤ np ∧ J i wr) (fun _ p _ => np - (intOf p).toNat)
  case atStart => exact ⟨0, rfl, Nat.zero_le _, h0⟩
  case round =>
    obtain ⟨i, rfl, hi, hJi⟩ := hrel
    obtain ⟨q1, q2, q3⟩ := hJ i wr hJi
    by_cases hlt : i < np
    · obtain ⟨a, cap, q4⟩ := q3 hlt
      have hi0 : (0 : Int) ≤ i := by omega
      have hlt' : (i : Int) < np := by omega
      by_cases hlen : 0 < len i
      · have hlen' : (0 : Int) < len i := by omega
        obtain ⟨fn, tmps, assign, body, hy, hR⟩ := hY i wr hJi hlt hlen
        have HR := hid hR
        have HJ := hid hJi
        clear hY hskip hJ q3 h0 hR hJi hlen
        gi_wp2
        refine ⟨rfl, HR.out.mono ?_⟩
        rintro e W3 ⟨rfl, hJ3⟩
        have HJ3 := hid hJ3
        clear hJ3
        gi_wp2
        go_roundw
        case rel => exact ⟨i + 1, by go_num, by omega, HJ3.out⟩
        case measure => simp [intOf]; omega
      · have hlen' : len i = 0 := by omega
        have HK := hid (hskip i wr hJi hlt hlen')
        have hl2 : ¬ (0 : Int) < len i := by omega
        clear hY hskip hJ q3 h0 hlen hJi hlen'
        gi_wp2
        refine ⟨fun _ h => (by cases h), ?_⟩
        gi_wp2
        go_roundw
        case rel => exact ⟨i + 1, by go_num, by omega, HK.out⟩
        case measure => simp [intOf]; omega
    · obtain rfl : i = np := by omega
      have HJ := hid hJi
      clear hY hskip hJ q3 h0 hJi
      gi_wp2
      go_end0
      exact ⟨⟨_, rfl⟩, HJ.out⟩
