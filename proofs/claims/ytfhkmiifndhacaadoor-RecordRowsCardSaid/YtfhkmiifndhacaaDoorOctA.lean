import Derived.Test.YtfhkmiifndhacaaDoorOctM
import Derived.Test.YtfhkmiifndhacaaDoorStr
import Derived.Test.YtfhkmiifndhacaaDoorProg
import Derived.Test.YtfhkmiifndhacaaDoorChecked
import Derived.IntWalk
/- octet: size, Put, Text, Sum. -/
set_option linter.unusedVariables false
namespace Go.Proofs.YtfhkmiifndhacaaDoor
open Go.RowKit Go.VB Go.VB.Oct
theorem ret_bool {a b : Bool} (h : a = b) : Ending.returned (.bool a) = .returned (.bool b) := by rw [h]
theorem ret_int {k : IntKind} {a b : Int} (h : a = b) : Ending.returned (.int k a) = .returned (.int k b) := by rw [h]
theorem ret_bs {a b : List UInt8} (h : a = b) : Ending.returned (.string (bs a)) = .returned (.string (bs b)) := by rw [h]
theorem size_go (k : Nat) (hk : k ≤ 8) (w : World) : Calls Tryd.prog 57 #[.int .i64 k] w fun e w' => e = .returned (.int .i64 k) ∧ w = w' := by
  have h1 : (k : Int) ≤ 8 := by omega
  go_enter Tryd.func57, Tryd.ntmps57
  go_wp2
  all_goals
    go_ret
    exact ⟨ret_int (by omega), rfl⟩
theorem bv_take_set (l : List UInt8) (j : Nat) (hj : j < l.length) : (bv (l.take j) ++ List.replicate (l.length - j) (Value.int .u8 0)).set j (.int .u8 ((l[j]).toNat : Int)) = bv (l.take (j + 1)) ++ List.replicate (l.length - (j + 1)) (Value.int .u8 0) := by
  rw [List.set_append_right _ _ (by rw [bv_length, List.length_take]; omega), bv_length, List.length_take, Nat.min_eq_left (by omega), Nat.sub_self, show l.length - j = (l.length - (j + 1)) + 1 by omega, List.replicate_succ, List.set_cons_zero, List.take_add_one, List.getElem?_eq_getElem hj, bv_append]
  simp [bv]
theorem sl8_run (b k : Nat) (hk1 : 1 ≤ k) (hk : k ≤ 8) (w : World) : (Instr.sliceAt 95 (.pointer (some ⟨b, 0, none⟩)) (some (.int .i64 (8 - (k : Int)))) none none).run Tryd.prog w = .ok (.slice (some ⟨b, 8 - k, none⟩) k k) w := by
  have ha : Tryd.prog.arrayLen 95 = 8 := by kernel_rfl
  have hs : (sizeOf (Tryd.prog.elem 95)).run Tryd.prog w = .ok 1 w := by kernel_rfl
  rw [run_sliceAt_array_l w 95 ⟨b, 0, none⟩ (by kernel_rfl) .i64 _ (by omega) (by rw [ha]; omega), hs, ha]
  simp only [Result.andThen, slicedAt]
  rw [if_neg (by omega), show ((8 : Int) - k).toNat = 8 - k by omega, show 8 - (8 - k) = k by omega]
  simp [Addr.add]
  intro h
  omega
theorem byteAt_val (n : Nat) {j : Nat} (hj : j < 8) : (n : Int) / 2 ^ (56 - 8 * j) % 256 = ((byteAt n j).toNat : Int) := by
  unfold byteAt
  rw [UInt8.toNat_ofNat', show 56 - 8 * j = 8 * (7 - j) by omega]
  have : ((2 : Int) ^ (8 * (7 - j))) = ((256 ^ (7 - j) : Nat) : Int) := by
    rw [Int.pow_mul, show ((2 : Int) ^ 8) = ((256 : Nat) : Int) from rfl]
    exact (Int.natCast_pow 256 _).symm
  rw [this, show (2 : Nat) ^ 8 = 256 from rfl]
  generalize 256 ^ (7 - j) = p
  rw [Int.natCast_emod, Int.natCast_ediv]
  rfl
set_option maxRecDepth 20000 in
set_option maxHeartbeats 2000000 in
theorem Put_go (n k : Nat) (hn : n < 9223372036854775808) (hk1 : 1 ≤ k) (hk : k ≤ 8) (w : World) : Calls Tryd.prog 42 #[.int .i64 n, .int .i64 k] w fun e w' => e = .returned (.string (bs (be k n))) ∧ Fr (fun _ => False) w w' := by
  have HSZ := hid (fun w => size_go k hk w)
  have n1 : (0 : Int) ≤ n := by omega
  have n2 : (n : Int) < 9223372036854775808 := by omega
  go_enter Tryd.func42, Tryd.ntmps42
  go_wp2_with (fail)
  have B0 := Blk.new w (List.replicate 8 (Value.int .u8 0)) 95
  have F0 := (Fr.refl (fun _ => False) w).alloc (.cells (List.replicate 8 (Value.int .u8 0)).toArray 95)
  have HB0 := hid B0
  have HF0 := hid F0
  clear B0 F0
  generalize hb : w.heap.size = b at *
  have HBB := hid hb
  clear hb
  have HL8 := hid (be8_length n)
  go_loopw [7] (fun i wr => ∃ j : Nat, j ≤ 8 ∧ i = .int .i64 j ∧ Blk wr b (bv ((be8 n).take j) ++ List.replicate ((be8 n).length - j) (Value.int .u8 0)) 95 ∧ Fr (fun _ => False) w wr) (fun i _ => 8 - (intOf i).toNat)
  case atStart => exact ⟨0, by omega, rfl, by rw [HL8.out]; exact HB0.out, HF0.out⟩
  case round =>
    obtain ⟨j, hj, rfl, hB, fr⟩ := hrel
    by_cases hj8 : j < 8
    · have hj' : j < (be8 n).length := by rw [HL8.out]; exact hj8
      have i1 : (0 : Int) ≤ (j : Int) := by omega
      have i2 : (j : Int) < 8 := by omega
      have z := hB.frozen j
      have c0 : wr.cell? ⟨b, j, none⟩ = some (.int .u8 0) := by
        rw [hB.cell, List.getElem?_append_right (by rw [bv_length, List.length_take]; omega), bv_length, List.length_take, HL8.out, Nat.min_eq_left (by omega), Nat.sub_self]
        rw [show 8 - j = (7 - j) + 1 by omega, List.replicate_succ]
        rfl
      have hB2 := hB.set j (.int .u8 (((be8 n)[j]).toNat : Int))
      rw [bv_take_set _ _ hj'] at hB2
      have hval : (be8 n)[j] = byteAt n j := by
        have := be8_at n j hj8
        rw [List.getElem?_eq_getElem hj'] at this
        exact Option.some.inj this
      rw [hval, ← byteAt_val n hj8] at hB2
      have HB2 := hid hB2
      have HF2 := hid (fr.setCell ⟨b, j, none⟩ (.int .u8 ((n : Int) / 2 ^ (56 - 8 * j) % 256)) (fun h => absurd (show b < w.heap.size from h) (by have := HBB.out; omega)))
      clear hB hB2 fr hval hj'
      go_wp2_with (fail)
      go_roundw
      case rel => exact ⟨j + 1, by omega, by go_num, HB2.out, HF2.out⟩
      case measure => simp [intOf]; omega
    · obtain rfl : j = 8 := by omega
      have hB' : Blk wr b (bv (be8 n)) 95 := by
        rw [HL8.out, Nat.sub_self, List.replicate_zero, List.append_nil, List.take_of_length_le (by rw [HL8.out]; exact Nat.le_refl _)] at hB
        exact hB
      have hr := hB'.range (bv ((be8 n).take (8 - k))) (bv (be k n)) [] (by rw [← bv_append, List.append_nil]; unfold be; rw [List.take_append_drop])
      rw [bv_length, List.length_take, HL8.out, Nat.min_eq_left (by omega)] at hr
      have HR := hid hr
      have FR := hid fr
      have hsl := sl8_run b k hk1 hk
      have hcv := run_bytes_string (P := Tryd.prog) (w := wr) (l := be k n) HR.out (src := 64) (dst := 9) Tryd.underlying64 Tryd.underlying5 Tryd.underlying9 k k (be_length k n hk).symm
      clear hB hB' hr fr
      go_wp2_with (go_at_call 57; refine (HSZ.out _).mono ?_; rintro e w' ⟨rfl, rfl⟩)
      go_ret
      exact ⟨rfl, FR.out⟩
end Go.Proofs.YtfhkmiifndhacaaDoor
