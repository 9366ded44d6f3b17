import Derived.Test.YtfhkmiifndhacaaDoorMk
import Derived.Test.YtfhkmiifndhacaaDoorRdN
import Derived.Test.YtfhkmiifndhacaaDoorRecA
import Derived.Test.YtfhkmiifndhacaaDoorValC
import Derived.Deep.CutBlock
/- The reference's Made: one byte as a string, digits, a row. -/
set_option linter.unusedVariables false
namespace Go.Proofs.YtfhkmiifndhacaaDoor
open Go.RowKit Go.VB Go.VB.Oct Go.VB.Rec
theorem rone_go (n : Nat) (hn : n < 256) (w : World) : Calls Tryd.prog 69 #[.int .i64 n] w fun e w' => e = .returned (.string (bs [UInt8.ofNat n])) ∧ Fr (fun _ => False) w w' := by
  have hcell : bv [UInt8.ofNat n] = [.int .u8 (n : Int)] := by simp [bv]; omega
  have hcv := run_bytes_string (P := Tryd.prog) (w := w.alloc (.cells #[.int .u8 (n : Int)] 5)) (l := [UInt8.ofNat n]) (by rw [hcell]; exact Blk.all _ (Blk.new w [.int .u8 (n : Int)] 5)) (src := 64) (dst := 9) Tryd.underlying64 Tryd.underlying5 Tryd.underlying9 1 1 rfl
  have i1 : (0 : Int) ≤ n := by omega
  have i2 : (n : Int) ≤ 255 := by omega
  clear hcell
  go_enter Tryd.func69, Tryd.ntmps69
  go_wp2_with (fail)
  go_ret
  exact ⟨rfl, (Fr.refl _ w).alloc _⟩
def firstOf : Value → Nat
  | .bool true => 1
  | _ => 0
set_option maxRecDepth 20000 in
theorem Digits_go (n : Nat) (hn : n ≤ 20000) (w : World) : Calls Tryd.prog 56 #[.int .i64 n] w fun e w' => ∃ s : List UInt8, e = .returned (.string (bs s)) ∧ s.length ≤ 5 ∧ Fr (fun _ => False) w w' := by
  have F0 := hid (Fr.refl (fun _ => False) w)
  go_enter Tryd.func56, Tryd.ntmps56
  go_wp2_with (fail)
  go_loopw [3, 4, 5] (fun s3 m4 f5 wr => ∃ (s : List UInt8) (m : Nat) (b : Bool), s3 = .string (bs s) ∧ m4 = .int .i64 m ∧ f5 = .bool b ∧ (b = true → s.length = 0) ∧ m * 10 ^ s.length ≤ 20000 ∧ s.length ≤ 5 ∧ Fr (fun _ => False) w wr) (fun _ m4 f5 _ => (intOf m4).toNat + firstOf f5)
  case atStart => exact ⟨[], n, true, rfl, rfl, rfl, fun _ => rfl, by simpa using hn, by simp, F0.out⟩
  case round =>
    obtain ⟨s, m, b, rfl, rfl, rfl, hb, hm, hs, fr⟩ := hrel
    have FR := hid fr
    have HB := hid hb
    have HM := hid hm
    have HS := hid hs
    clear fr hb hm hs F0
    have i0 : (0 : Int) ≤ (m : Int) := by omega
    have i1 : (0 : Int) ≤ (n : Int) := by omega
    have hm2 : m ≤ 20000 := by
      have := HM.out
      have h1 : 1 ≤ 10 ^ s.length := Nat.pow_pos (by omega)
      exact Nat.le_trans (Nat.le_mul_of_pos_right m h1) this
    by_cases hc : b = false ∧ m = 0
    · obtain ⟨rfl, rfl⟩ := hc
      go_wp2_with (fail)
      go_ret
      exact ⟨s, rfl, HS.out, FR.out⟩
    · have hlen : s.length ≤ 4 := by
        cases b with
        | true => have := HB.out rfl; omega
        | false =>
          have hm0 : 1 ≤ m := by
            have : m ≠ 0 := fun h => hc ⟨rfl, h⟩
            omega
          have h5 := HM.out
          have : s.length ≤ 5 := HS.out
          rcases Nat.lt_or_ge s.length 5 with h | h
          · omega
          · have : s.length = 5 := by omega
            rw [this] at h5
            omega
      have hcast : (48 + (m : Int) % 10) = ((48 + m % 10 : Nat) : Int) := by omega
      have HON : Hid (∀ w, Calls Tryd.prog 69 #[.int .i64 (48 + (m : Int) % 10)] w fun e w' => e = .returned (.string (bs [UInt8.ofNat (48 + m % 10)])) ∧ Fr (fun _ => False) w w') := hid (fun w => by rw [hcast]; exact rone_go _ (by omega) w)
      clear hcast
      generalize UInt8.ofNat (48 + m % 10) = c at *
      have hadd := fun w => run_add_bs (P := Tryd.prog) w [c] s (by simp; omega)
      have hstep : m / 10 * 10 ^ ([c] ++ s).length ≤ 20000 := by
        have := HM.out
        rw [List.length_append, List.length_singleton, Nat.add_comm, Nat.pow_succ, Nat.mul_comm (10 ^ s.length), ← Nat.mul_assoc]
        exact Nat.le_trans (Nat.mul_le_mul_right _ (Nat.div_mul_le_self m 10)) this
      have HST := hid hstep
      clear hstep
      cases b with
      | true =>
        go_wp2_with (go_at_call 69; refine (HON.out _).mono ?_; rintro e w1 ⟨rfl, f⟩; have F1 := hid (FR.out.trans f (fun _ h _ => h)); clear f)
        go_roundw
        case rel => exact ⟨[c] ++ s, m / 10, false, rfl, by congr 1, rfl, fun h => by simp at h, HST.out, by simp; omega, F1.out⟩
        case measure => simp [intOf, firstOf]; omega
      | false =>
        have hm0 : m ≠ 0 := fun h => hc ⟨rfl, h⟩
        have hm1 : ((m : Int) != 0) = true := by simp; omega
        clear hc
        go_wp2_with (go_at_call 69; refine (HON.out _).mono ?_; rintro e w1 ⟨rfl, f⟩; have F1 := hid (FR.out.trans f (fun _ h _ => h)); clear f)
        go_roundw
        case rel => exact ⟨[c] ++ s, m / 10, false, rfl, by congr 1, rfl, fun h => by simp at h, HST.out, by simp; omega, F1.out⟩
        case measure => simp [intOf, firstOf]; omega
end Go.Proofs.YtfhkmiifndhacaaDoor
