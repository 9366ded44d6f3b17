import Derived.Test.YtfhkmiifndhacaaDoorOctA
import Derived.Laws.BitsAllLaws
/- octet: Text, Sum. -/
set_option linter.unusedVariables false
namespace Go.Proofs.YtfhkmiifndhacaaDoor
open Go.RowKit Go.VB Go.VB.Oct
theorem bs_at (l : List UInt8) (i : Nat) (h : i < (bs l).size) : ((bs l)[i]'h) = l[i]'(by rwa [bs_size] at h) := rfl
theorem bs_all (l : List UInt8) : (bs l).extract 0 l.length = bs l := by
  apply ByteArray.ext
  simp [bs]
theorem or_u32 (y x : Nat) (hy : y < 65536) (hx : x < 65536) : bits .or .u32 ((y : Int) * 65536) (x : Int) = ((y * 65536 + x : Nat) : Int) := by
  have h := u32_or_nat (y * 65536) x (by omega) (by omega)
  rw [show ((y * 65536 : Nat) : Int) = (y : Int) * 65536 by omega] at h
  rw [h, Nat.mul_comm y 65536, ← Nat.two_pow_add_eq_or_of_lt (i := 16) (by simpa using hx) y]
theorem Text_go (s : List UInt8) (hs : s.length ≤ 65535) (w : World) : Calls Tryd.prog 28 #[.string (bs s)] w fun e w' => e = .returned (.string (bs (text s))) ∧ Fr (fun _ => False) w w' := by
  have e1 := bs_size s
  have h1 : (s.length : Int) ≤ 65535 := by omega
  have hex := bs_all s
  have HP := hid (Put_go s.length 2 (by omega) (by omega) (by omega) w)
  have hadd := fun w => run_add_bs (P := Tryd.prog) w (be 2 s.length) s (by rw [be_length _ _ (by omega)]; omega)
  go_enter Tryd.func28, Tryd.ntmps28
  go_wp2_with (go_at_call 42; refine HP.out.mono ?_; rintro e w' ⟨rfl, f⟩)
  go_ret
  exact ⟨rfl, f⟩
theorem Sum1_go {w : World} {ba bb a b : Nat} (c : UInt8) (ha : Blk w ba [.int .u32 a] 81) (hb : Blk w bb [.int .u32 b] 81) (hab : ba ≠ bb) (a1 : a < 65521) (b1 : b < 65521) :
    Calls Tryd.prog 64 #[.int .u8 (c.toNat : Int), .pointer (some ⟨ba, 0, none⟩), .pointer (some ⟨bb, 0, none⟩)] w fun e w' => e = .returned (.tuple #[]) ∧ Blk w' ba [.int .u32 ((a + c.toNat) % 65521 : Nat)] 81 ∧ Blk w' bb [.int .u32 ((b + (a + c.toNat) % 65521) % 65521 : Nat)] 81 ∧ Fr (fun k => k = ba ∨ k = bb) w w' := by
  have hc := c.toNat_lt
  generalize c.toNat = x at *
  have c1 : w.cell? ⟨ba, 0, none⟩ = some (.int .u32 a) := ha.cell 0
  have c2 : w.cell? ⟨bb, 0, none⟩ = some (.int .u32 b) := hb.cell 0
  have z1 := ha.frozen 0
  have z2 := hb.frozen 0
  have x1 : (0 : Int) ≤ x := by omega
  have x2 : (x : Int) < 256 := by omega
  have y1 : (0 : Int) ≤ a := by omega
  have y2 : (a : Int) < 65521 := by omega
  have v1 : (0 : Int) ≤ b := by omega
  have v2 : (b : Int) < 65521 := by omega
  have e1 : (((a + x) % 65521 : Nat) : Int) = ((a : Int) + x) % 65521 := by omega
  have e2 : (((b + (a + x) % 65521) % 65521 : Nat) : Int) = ((b : Int) + (a + x)) % 65521 := by omega
  rw [e1, e2]
  have HA := hid ((ha.set 0 (.int .u32 (((a : Int) + x) % 65521))).set_ne ⟨bb, 0, none⟩ (.int .u32 (((b : Int) + (a + x)) % 65521)) hab)
  have HB := hid ((hb.set_ne ⟨ba, 0, none⟩ (.int .u32 (((a : Int) + x) % 65521)) (Ne.symm hab)).set 0 (.int .u32 (((b : Int) + (a + x)) % 65521)))
  have HF := hid (((Fr.refl (fun k => k = ba ∨ k = bb) w).setCell ⟨ba, 0, none⟩ (.int .u32 (((a : Int) + x) % 65521)) (fun _ => .inl rfl)).setCell ⟨bb, 0, none⟩ (.int .u32 (((b : Int) + (a + x)) % 65521)) (fun _ => .inr rfl))
  clear e1 e2 ha hb
  go_enter Tryd.func64, Tryd.ntmps64
  go_wp2_with (fail)
  go_end0
  exact ⟨rfl, HA.out, HB.out, HF.out⟩
set_option maxRecDepth 20000 in
set_option maxHeartbeats 2000000 in
theorem Sum_go (s : List UInt8) (hs : s.length ≤ 1099511627776) (w : World) : Calls Tryd.prog 43 #[.string (bs s)] w fun e w' => e = .returned (.int .u32 (sum s)) ∧ Fr (fun _ => False) w w' := by
  have e1 := bs_size s
  have HB := hid (fun i (h : i < (bs s).size) => bs_at s i h)
  have HSN := hid (fun i (h : i < s.length) => show sums (s.take (i + 1)) = ((((sums (s.take i)).1 + s[i].toNat) % 65521), ((sums (s.take i)).2 + ((sums (s.take i)).1 + s[i].toNat) % 65521) % 65521) from by
    rw [List.take_add_one, List.getElem?_eq_getElem h]; exact sums_snoc _ _)
  have HLT := hid (fun i => sums_lt (s.take i))
  have B1 := (Blk.new w [Value.int .u32 1] 81).alloc (.cells #[.int .u32 0] 81)
  have B2 := Blk.new (w.alloc (.cells #[.int .u32 1] 81)) [Value.int .u32 0] 81
  rw [World.size_alloc] at B2
  have F0 := hid (((Fr.refl (fun _ => False) w).alloc (.cells #[Value.int .u32 1] 81)).alloc (.cells #[.int .u32 0] 81))
  have HB1 := hid B1
  have HB2 := hid B2
  clear B1 B2
  go_enter Tryd.func43, Tryd.ntmps43
  go_wp2_with (fail)
  generalize hb : w.heap.size = b at *
  have HBB := hid hb
  clear hb
  go_loopw [10] (fun i wr => ∃ j : Nat, j ≤ s.length ∧ i = .int .i64 j ∧ Blk wr b [.int .u32 (sums (s.take j)).1] 81 ∧ Blk wr (b + 1) [.int .u32 (sums (s.take j)).2] 81 ∧ Fr (fun _ => False) w wr) (fun i _ => s.length - (intOf i).toNat)
  case atStart => exact ⟨0, by omega, rfl, HB1.out, HB2.out, F0.out⟩
  case round =>
    obtain ⟨j, hj, rfl, h1, h2, fr⟩ := hrel
    by_cases hjl : j < s.length
    · have g := HB.out j (by rw [e1]; exact hjl)
      have hsn := HSN.out j hjl
      have hlt := HLT.out j
      have hS := hid (Sum1_go s[j] h1 h2 (by omega) hlt.1 hlt.2)
      have HSS := hid hsn
      have FR := hid fr
      have i1 : (0 : Int) ≤ (j : Int) := by omega
      have i2 : (j : Int) < s.length := by omega
      clear hsn hlt h1 h2 fr
      generalize s[j] = c at *
      go_wp2_with (fail)
      refine hS.out.mono ?_
      rintro e w1 ⟨rfl, k1, k2, f1⟩
      have K1 := hid k1
      have K2 := hid k2
      have F1 := hid (FR.out.trans f1 (fun k hk hl => by have := HBB.out; omega))
      clear hS k1 k2 f1
      go_wp2_with (fail)
      go_roundw
      case rel => exact ⟨j + 1, by omega, by go_num, by rw [HSS.out]; exact K1.out, by rw [HSS.out]; exact K2.out, F1.out⟩
      case measure => simp [intOf]; omega
    · obtain rfl : j = s.length := by omega
      rw [List.take_length] at h1 h2
      have hlt := sums_lt s
      have hsum : sum s = (sums s).2 * 65536 + (sums s).1 := rfl
      have c1 : wr.cell? ⟨b, 0, none⟩ = some (.int .u32 (sums s).1) := h1.cell 0
      have c2 : wr.cell? ⟨b + 1, 0, none⟩ = some (.int .u32 (sums s).2) := h2.cell 0
      have HSUM := hid hsum
      clear hsum
      generalize (sums s).1 = x at *
      generalize (sums s).2 = y at *
      have x1 : (0 : Int) ≤ x := by omega
      have x2 : (x : Int) < 65521 := by omega
      have y1 : (0 : Int) ≤ y := by omega
      have y2 : (y : Int) < 65521 := by omega
      clear h1 h2
      go_wp2_with (fail)
      go_ret
      exact ⟨ret_int (by rw [or_u32 y x (by omega) (by omega), HSUM.out]), fr⟩
end Go.Proofs.YtfhkmiifndhacaaDoor
