import Derived.Test.YtfhkmiifndhacaaMdA
import Derived.Test.YtfhkmiifndhacaaRecE
import Derived.Test.YtfhkmiifndhacaaRfA
import Derived.Test.YtfhkmiifndhacaaRecC
import Derived.Test.YtfhkmiifndhacaaRecD
/- The reference: numbers, texts, the checksum as bytes. -/
set_option linter.unusedVariables false
namespace Go.VB.Oct
theorem ofNat_mod (n : Nat) : UInt8.ofNat (n % 256) = UInt8.ofNat n := by
  apply UInt8.toNat_inj.1
  simp
end Go.VB.Oct
namespace Go.Proofs.Ytfhkmiifndhacaa
open Go.RowKit Go.VB Go.VB.Oct Go.VB.Rec
theorem and_8 (n : Int) : bits .and .i64 n 255 = n % 256 := by
  rw [and_mask 8 255 n (by decide) (by omega)]
  rfl
set_option maxRecDepth 20000 in
theorem rNum_go (n k : Nat) (hn : n ≤ 9223372036854775807) (hk : k ≤ 8) (w : World) : Calls Try.prog 45 #[.int .i64 n, .int .i64 k] w fun e w' => e = .returned (.string (bs (be k n))) ∧ Fr (fun _ => False) w w' := by
  have F0 := hid (Fr.refl (fun _ => False) w)
  go_enter Try.func45, Try.ntmps45
  go_wp2_with (fail)
  go_loopw [0, 5, 6] (fun n0 s5 i wr => ∃ j : Nat, j ≤ k ∧ n0 = .int .i64 ((n / 256 ^ j : Nat) : Int) ∧ s5 = .string (bs (be j n)) ∧ i = .int .i64 j ∧ Fr (fun _ => False) w wr) (fun _ _ i _ => k - (intOf i).toNat)
  case atStart => exact ⟨0, by omega, by simp, by rfl, rfl, F0.out⟩
  case round =>
    obtain ⟨j, hj, rfl, rfl, rfl, fr⟩ := hrel
    have FR := hid fr
    clear fr F0
    by_cases hjk : j < k
    · have hle : n / 256 ^ j ≤ n := Nat.div_le_self _ _
      have hdd : n / 256 ^ (j + 1) = n / 256 ^ j / 256 := by rw [Nat.pow_succ, Nat.div_div_eq_div_mul]
      have HBS := hid (be_succ n (k := j) (by omega))
      rw [← ofNat_mod] at HBS
      obtain ⟨x, hx⟩ : ∃ x, x = n / 256 ^ j := ⟨_, rfl⟩
      rw [← hx] at hle hdd HBS ⊢
      clear hx
      have hand : bits .and .i64 (x : Int) 255 = ((x % 256 : Nat) : Int) := by rw [and_8]; omega
      have hw8 : IntKind.u8.wrap ((x % 256 : Nat) : Int) = ((x % 256 : Nat) : Int) := by rw [IntKind.wrap_u8]; omega
      have hcell : bv [UInt8.ofNat (x % 256)] = [.int .u8 ((x % 256 : Nat) : Int)] := by simp [bv]
      have hcv := run_bytes_string (P := Try.prog) (w := wr.alloc (.cells #[.int .u8 ((x % 256 : Nat) : Int)] 5)) (l := [UInt8.ofNat (x % 256)]) (by rw [hcell]; exact Blk.all _ (Blk.new wr [.int .u8 ((x % 256 : Nat) : Int)] 5)) (src := 35) (dst := 9) Try.underlying35 Try.underlying5 Try.underlying9 1 1 rfl
      have hadd := fun w => run_add_bs (P := Try.prog) w [UInt8.ofNat (x % 256)] (be j n) (by rw [be_length _ _ (by omega)]; simp; omega)
      have i1 : (j : Int) < (k : Int) := by omega
      have HDD := hid hdd
      have F1 := hid (FR.out.alloc (.cells #[.int .u8 ((x % 256 : Nat) : Int)] 5))
      clear hcell hdd
      generalize x % 256 = z at *
      go_wp2_with (fail)
      go_roundw
      case rel => exact ⟨j + 1, by omega, by rw [HDD.out]; simp, by rw [HBS.out], by simp, F1.out⟩
      case measure => simp [intOf]; omega
    · obtain rfl : j = k := by omega
      go_wp2_with (fail)
      go_ret
      exact ⟨rfl, FR.out⟩
theorem rtext_go (s : List UInt8) (hs : s.length ≤ 1099511627776) (w : World) : Calls Try.prog 46 #[.string (bs s)] w fun e w' => e = .returned (.string (bs (text s))) ∧ Fr (fun _ => False) w w' := by
  have HN := hid (fun w => rNum_go s.length 2 (by omega) (by omega) w)
  have e1 := bs_size s
  have hadd := fun w => run_add_bs (P := Try.prog) w (be 2 s.length) s (by rw [be_length _ _ (by omega)]; omega)
  unfold text
  go_enter Try.func46, Try.ntmps46
  go_wp2_with (go_at_call 45; refine (HN.out _).mono ?_; rintro e w1 ⟨rfl, f⟩; have F1 := hid f; clear f)
  go_ret
  exact ⟨rfl, F1.out⟩
theorem sums_take (l : List UInt8) {j : Nat} (h : j < l.length) : sums (l.take (j + 1)) = (((sums (l.take j)).1 + l[j].toNat) % 65521, ((sums (l.take j)).2 + ((sums (l.take j)).1 + l[j].toNat) % 65521) % 65521) := by
  rw [List.take_succ_eq_append_getElem h, sums_snoc]
set_option maxRecDepth 20000 in
theorem rSum_go (s : List UInt8) (hs : s.length ≤ 1099511627776) (w : World) : Calls Try.prog 50 #[.string (bs s)] w fun e w' => e = .returned (.int .u32 (sum s)) ∧ Fr (fun _ => False) w w' := by
  have F0 := hid (Fr.refl (fun _ => False) w)
  have e1 := bs_size s
  go_enter Try.func50, Try.ntmps50
  go_wp2_with (fail)
  go_loopw [3, 4, 5] (fun a3 b4 i wr => ∃ j : Nat, j ≤ s.length ∧ a3 = .int .i64 ((sums (s.take j)).1 : Int) ∧ b4 = .int .i64 ((sums (s.take j)).2 : Int) ∧ i = .int .i64 j ∧ Fr (fun _ => False) w wr) (fun _ _ i _ => s.length - (intOf i).toNat)
  case atStart => exact ⟨0, by omega, by rfl, by rfl, rfl, F0.out⟩
  case round =>
    obtain ⟨j, hj, rfl, rfl, rfl, fr⟩ := hrel
    have FR := hid fr
    clear fr F0
    have hlt := sums_lt (s.take j)
    by_cases hjs : j < s.length
    · have HST := hid (sums_take s hjs)
      obtain ⟨a, ha⟩ : ∃ a, a = (sums (s.take j)).1 := ⟨_, rfl⟩
      obtain ⟨b, hb⟩ : ∃ b, b = (sums (s.take j)).2 := ⟨_, rfl⟩
      rw [← ha, ← hb] at HST hlt ⊢
      have hci : (bs s)[j]'(by rw [bs_size]; exact hjs) = s[j] := by simp [bs]; rfl
      have hclt : s[j].toNat < 256 := s[j].toNat_lt
      have i0 : (0 : Int) ≤ (j : Int) := by omega
      have i1 : (j : Int) < (s.length : Int) := by omega
      obtain ⟨c, hc⟩ : ∃ c, c = s[j].toNat := ⟨_, rfl⟩
      have hcc : ((bs s)[j]'(by rw [bs_size]; exact hjs)).toNat = c := by rw [hci, hc]
      rw [← hc] at HST hclt
      clear ha hb hci hc
      have hm1 : ((a : Int) + (c : Int)).tmod 65521 = (((a + c) % 65521 : Nat) : Int) := by rw [Int.tmod_eq_emod_of_nonneg (by omega)]; omega
      have hm2 : ((b : Int) + (((a + c) % 65521 : Nat) : Int)).tmod 65521 = (((b + (a + c) % 65521) % 65521 : Nat) : Int) := by rw [Int.tmod_eq_emod_of_nonneg (by omega)]; omega
      go_wp2_with (fail)
      go_roundw
      case rel => exact ⟨j + 1, by omega, by rw [HST.out]; simp, by rw [HST.out]; simp, by simp, FR.out⟩
      case measure => simp [intOf]; omega
    · obtain rfl : j = s.length := by omega
      rw [List.take_length] at hlt
      have HSU := hid (show sum s = (sums s).2 * 65536 + (sums s).1 from rfl)
      rw [List.take_length]
      generalize (sums s).1 = a at *
      generalize (sums s).2 = b at *
      go_wp2_with (fail)
      go_ret
      exact ⟨by rw [HSU.out]; simp, FR.out⟩
theorem word_byte (n : Int) {j : Nat} (hj : j < 8) : ∃ z : Nat, (n / 256 ^ j) % 256 = (z : Int) ∧ z < 256 ∧ UInt8.ofNat (word n / 256 ^ j) = UInt8.ofNat z := by
  refine ⟨((n / 256 ^ j) % 256).toNat, by rw [Int.toNat_of_nonneg]; omega, by omega, ?_⟩
  apply UInt8.toNat_inj.1
  have h : (word n / 256 ^ j) % 256 = ((n / 256 ^ j) % 256).toNat := by
    unfold word
    have hj8 : j = 0 ∨ j = 1 ∨ j = 2 ∨ j = 3 ∨ j = 4 ∨ j = 5 ∨ j = 6 ∨ j = 7 := by omega
    rcases hj8 with rfl | rfl | rfl | rfl | rfl | rfl | rfl | rfl <;> omega
  simp [h]
  omega
set_option maxRecDepth 20000 in
theorem rwhole_go (n : Int) (w : World) : Calls Try.prog 81 #[.int .i64 n] w fun e w' => e = .returned (.string (bs (be8 (word n)))) ∧ Fr (fun _ => False) w w' := by
  have F0 := hid (Fr.refl (fun _ => False) w)
  go_enter Try.func81, Try.ntmps81
  go_wp2_with (fail)
  go_loopw [0, 3, 4] (fun n0 s3 i wr => ∃ j : Nat, j ≤ 8 ∧ n0 = .int .i64 (n / 256 ^ j) ∧ s3 = .string (bs (be j (word n))) ∧ i = .int .i64 j ∧ Fr (fun _ => False) w wr) (fun _ _ i _ => 8 - (intOf i).toNat)
  case atStart => exact ⟨0, by omega, by simp, by rfl, rfl, F0.out⟩
  case round =>
    obtain ⟨j, hj, rfl, rfl, rfl, fr⟩ := hrel
    have FR := hid fr
    clear fr F0
    by_cases hjk : j < 8
    · obtain ⟨z, hz, hz2, hz3⟩ := word_byte n hjk
      have HBS := hid (be_succ (word n) (k := j) hjk)
      rw [hz3] at HBS
      have hdd : n / 256 ^ (j + 1) = n / 256 ^ j / 256 := by rw [Int.pow_succ, Int.ediv_ediv_of_nonneg (by have := Int.natCast_nonneg (256 ^ j); rw [Int.natCast_pow] at this; exact this)]
      obtain ⟨x, hx⟩ : ∃ x, x = n / 256 ^ j := ⟨_, rfl⟩
      rw [← hx] at hz hdd ⊢
      have hand : bits .and .i64 x 255 = (z : Int) := by rw [and_8]; exact hz
      have HON := hid (fun w => rone_go z hz2 w)
      have hadd := fun w => run_add_bs (P := Try.prog) w [UInt8.ofNat z] (be j (word n)) (by rw [be_length _ _ (by omega)]; simp; omega)
      have HDD := hid hdd
      clear hdd hx hz hz3
      have i1 : (j : Int) < 8 := by omega
      go_wp2_with (go_at_call 80; refine (HON.out _).mono ?_; rintro e w1 ⟨rfl, f⟩; have F1 := hid (FR.out.trans f (fun _ h _ => h)); clear f)
      go_roundw
      case rel => exact ⟨j + 1, by omega, by rw [HDD.out], by rw [HBS.out], by simp, F1.out⟩
      case measure => simp [intOf]; omega
    · obtain rfl : j = 8 := by omega
      go_wp2_with (fail)
      go_ret
      exact ⟨rfl, FR.out⟩
/-- the sum of two strings under a name -/
theorem add_is (l m : List UInt8) (h : l.length + m.length ≤ 9223372036854775807) : ∃ k, Hid (k = l ++ m) ∧ k.length = l.length + m.length ∧ ∀ w, (Op.stringOp .add (bs l) (bs m)).run Try.prog w = .ok (.string (bs k)) w :=
  ⟨l ++ m, hid rfl, List.length_append, fun w => run_add_bs w l m h⟩
theorem row_right {r : List V} (h : row r = true) {j : Nat} (hj : j < r.length) : r[j].right = true := by
  unfold row at h
  simp only [Bool.and_eq_true, List.all_eq_true] at h
  exact h.2 _ (List.getElem_mem hj)
set_option maxRecDepth 20000 in
set_option maxHeartbeats 4000000 in
theorem r2Bytes_go {R : Nat → Prop} {w : World} {va : Value} {r : List V} (h : Sl R w va r.length (r.flatMap V.cells)) (hn : r.length ≤ 1099511627776) : Calls Try.prog 47 #[va] w fun e w' => e = .returned (.string (bs (rowBytes r))) ∧ Fr (fun _ => False) w w' := by
  have HRR := hid (RightRow_go h hn)
  obtain ⟨a, c, rfl, hc, hx⟩ := h
  have HX := hid (show Sl R w (.slice a r.length c) r.length (r.flatMap V.cells) from ⟨a, c, rfl, hc, hx⟩)
  clear hx
  unfold rowBytes
  cases hr : row r with
  | false =>
    rw [hr] at HRR
    clear hr
    go_enter Try.func47, Try.ntmps47
    go_wp2_with (go_at_call 29; refine HRR.out.mono ?_; rintro e w1 ⟨rfl, f⟩)
    go_ret
    exact ⟨rfl, f⟩
  | true =>
    rw [hr] at HRR
    have HR := hid hr
    clear hr
    rw [if_pos rfl]
    have hl6 := (row_parts HR.out).1
    have HON := hid (fun w => rone_go r.length (by omega) w)
    go_enter Try.func47, Try.ntmps47
    go_wp2_with (first
      | (go_at_call 29; refine HRR.out.mono ?_; rintro e w1 ⟨rfl, f⟩; have F1 := hid f; clear f)
      | (go_at_call 80; refine (HON.out _).mono ?_; rintro e w2 ⟨rfl, f⟩; have F2 := hid (F1.out.trans f (fun _ h _ => h)); clear f))
    clear HRR HON
    go_loopw [3, 4] (fun s3 i wr => ∃ j : Nat, j ≤ r.length ∧ s3 = .string (bs (UInt8.ofNat r.length :: (r.take j).flatMap V.bytes)) ∧ i = .int .i64 j ∧ Fr (fun _ => False) w wr) (fun _ i _ => r.length - (intOf i).toNat)
    case atStart => exact ⟨0, by omega, by rfl, rfl, F2.out⟩
    case round =>
      obtain ⟨j, hj, rfl, rfl, fr⟩ := hrel
      have FR := hid fr
      clear fr
      have HLA := hid (show ((r.take j).flatMap V.bytes).length ≤ 42 * r.length from Nat.le_trans (flat_le V.bytes 42 _ (fun x hx => by
        obtain ⟨i, hi, rfl⟩ := List.getElem_of_mem (List.mem_of_mem_take hx)
        exact vbytes_le _ (row_right HR.out hi))) (Nat.mul_le_mul_left _ (by rw [List.length_take]; omega)))
      by_cases hjl : j < r.length
      · obtain ⟨g, o, rfl, hg, q0, q1, q2⟩ := sl_three (f := V.cells) vcells_len (HX.out.fr FR.out (fun _ _ h => h)) hjl
        have HT := hid (take_flat r V.bytes j hjl)
        have hright := row_right HR.out hjl
        obtain ⟨v, hv⟩ : ∃ v, v = r[j] := ⟨_, rfl⟩
        rw [← hv] at q0 q1 q2 HT hright
        clear hv
        obtain ⟨k, n, s⟩ := v
        have hlj := HLA.out
        generalize (r.take j).flatMap V.bytes = lj at *
        simp only [V.cells, List.getElem?_cons_zero, List.getElem?_cons_succ] at q0 q1 q2
        have i1 : (0 : Int) ≤ (j : Int) := by omega
        have i2 : (j : Int) < r.length := by omega
        obtain ⟨L, hL⟩ : ∃ L, L = UInt8.ofNat r.length :: lj := ⟨_, rfl⟩
        have hll : L.length ≤ 300 := by rw [hL]; simp; omega
        rw [← hL]
        have HL := hid hL
        clear hL hlj
        rcases right_kind hright with hk | hk | ⟨hk, hs⟩
        · dsimp only at hk
          subst hk
          have HB := hid (show V.bytes ⟨0, n, s⟩ = [0] from rfl)
          have HO0 : Hid (∀ w, Calls Try.prog 80 #[.int .i64 0] w fun e w' => e = .returned (.string (bs [0])) ∧ Fr (fun _ => False) w w') := hid (fun w => rone_go 0 (by omega) w)
          obtain ⟨m1, hm1, hl1, hadd1⟩ := add_is L [0] (by simp; omega)
          clear hl1 hll hright hc
          go_wp2_with (go_at_call 80; refine (HO0.out _).mono ?_; rintro e w3 ⟨rfl, f⟩; have F3 := hid (FR.out.trans f (fun _ h _ => h)); have q0 := cell_fr q0 f (fun h => h); clear f)
          go_roundw
          case rel => exact ⟨j + 1, by omega, by rw [HT.out, HB.out, hm1.out, HL.out]; simp, by simp, F3.out⟩
          case measure => simp [intOf]; omega
        · dsimp only at hk
          subst hk
          have HB := hid (show V.bytes ⟨1, n, s⟩ = [1] ++ be8 (word n) from rfl)
          have HO0 : Hid (∀ w, Calls Try.prog 80 #[.int .i64 1] w fun e w' => e = .returned (.string (bs [1])) ∧ Fr (fun _ => False) w w') := hid (fun w => rone_go 1 (by omega) w)
          have HW := hid (fun w => rwhole_go n w)
          have h8 := be8_length (word n)
          generalize be8 (word n) = l8 at *
          obtain ⟨m1, hm1, hl1, hadd1⟩ := add_is L [1] (by simp; omega)
          obtain ⟨m2, hm2, hl2, hadd2⟩ := add_is m1 l8 (by rw [hl1]; simp; omega)
          clear hl1 hl2 hll hright hc h8
          go_wp2_with (first
            | (go_at_call 80; refine (HO0.out _).mono ?_; rintro e w3 ⟨rfl, f⟩; have F3 := hid (FR.out.trans f (fun _ h _ => h)); have q0 := cell_fr q0 f (fun h => h); have q1 := cell_fr q1 f (fun h => h); clear f)
            | (go_at_call 81; refine (HW.out _).mono ?_; rintro e w4 ⟨rfl, f⟩; have F4 := hid (F3.out.trans f (fun _ h _ => h)); have q0 := cell_fr q0 f (fun h => h); clear f))
          go_roundw
          case rel => exact ⟨j + 1, by omega, by rw [HT.out, HB.out, hm2.out, hm1.out, HL.out]; simp, by simp, F4.out⟩
          case measure => simp [intOf]; omega
        · dsimp only at hk hs
          subst hk
          have HB := hid (show V.bytes ⟨2, n, s⟩ = [2] ++ [UInt8.ofNat s.length] ++ s from rfl)
          have HO0 : Hid (∀ w, Calls Try.prog 80 #[.int .i64 2] w fun e w' => e = .returned (.string (bs [2])) ∧ Fr (fun _ => False) w w') := hid (fun w => rone_go 2 (by omega) w)
          have HO1 := hid (fun w => rone_go s.length (by omega) w)
          have e1 := bs_size s
          obtain ⟨m1, hm1, hl1, hadd1⟩ := add_is L [2] (by simp; omega)
          obtain ⟨m2, hm2, hl2, hadd2⟩ := add_is m1 [UInt8.ofNat s.length] (by rw [hl1]; simp; omega)
          obtain ⟨m3, hm3, hl3, hadd3⟩ := add_is m2 s (by rw [hl2, hl1]; simp; omega)
          clear hl1 hl2 hl3 hll hright hc
          go_upto_region 11 with (go_at_call 80; refine (HO0.out _).mono ?_; rintro e w3 ⟨rfl, f⟩; have F3 := hid (FR.out.trans f (fun _ h _ => h)); have q0 := cell_fr q0 f (fun h => h); have q2 := cell_fr q2 f (fun h => h); clear f)
          have Q2 := hid (cell_fr q2 ((Fr.refl (fun _ => False) w3).drew) (fun h => h))
          have F4 := hid F3.out.drew
          clear q0 q2
          refine wp_region_scr (.take 0 (.take 1 (.take 2 (.take 3 (.take 4 (.take 5 (.take 6 (.take 9 (.take 10 (.take 11 (.take 12 (.take 13 (.op 7 (.take 8 (.take 14 (.take 15 .done)))))))))))))))) (fun kz w => (kz ≤ 15 → w.cell? ⟨g, o + j * 3 + 2, none⟩ = some (.string (bs s))) ∧ True) (by kernel_rfl) (by kernel_rfl) (by intro c a d v w h; cases d <;> exact h) ?_
          repeat
            first
            | (refine wpT_pure rfl rfl rfl ?_; apply Exists.intro; refine ⟨?_, ?_⟩; intro w; ((go_simp <;> rfl)); simp only [Act.put, List.setIfInBounds_toArray, List.set_cons_zero, List.set_cons_succ])
            | (refine wpT_take 15 rfl rfl (by decide +kernel) ⟨fun _ => Q2.out, trivial⟩ ?_; apply Exists.intro; refine ⟨?_, ?_⟩; intro w hw; (have qa := hw.1 (Nat.le_refl _); have qb := hw.2); ((go_simp <;> rfl)); simp only [Act.put, List.setIfInBounds_toArray, List.set_cons_zero, List.set_cons_succ])
            | (refine wpT_skip rfl rfl ?_; simp only [Act.put, List.setIfInBounds_toArray, List.set_cons_zero, List.set_cons_succ])
          refine wpT_op rfl ?_
          go_wp2_with ((go_at_call 80; refine (HO1.out _).mono ?_; rintro e w4 ⟨rfl, f⟩; have F5 := hid (F4.out.trans f (fun _ h _ => h)); have Q3 := hid (cell_fr Q2.out f (fun h => h)); clear f))
          (refine ⟨?_, ?_⟩; focus (intro kz hk hk2 hh; first | (exfalso; simp at hk2; omega) | exact hh | exact (fun h => absurd h (by omega)) | obtain ⟨qa, qb⟩ := hh; first | exact ⟨qa, qb⟩ | (refine ⟨fun h => absurd h (by omega), ?_⟩; first | exact qb | (exact Q3.out)) | (refine ⟨fun h => ?_, ?_⟩; (have qa := qa h); all_goals (first | exact qa | exact qb | (exact Q3.out)))))
          repeat
            first
            | (refine wpT_pure rfl rfl rfl ?_; apply Exists.intro; refine ⟨?_, ?_⟩; intro w; ((go_simp <;> rfl)); simp only [Act.put, List.setIfInBounds_toArray, List.set_cons_zero, List.set_cons_succ])
            | (refine wpT_take 15 rfl rfl (by decide +kernel) ⟨fun _ => Q3.out, trivial⟩ ?_; apply Exists.intro; refine ⟨?_, ?_⟩; intro w hw; (have qa := hw.1 (Nat.le_refl _); have qb := hw.2); ((go_simp <;> rfl)); simp only [Act.put, List.setIfInBounds_toArray, List.set_cons_zero, List.set_cons_succ])
            | (refine wpT_skip rfl rfl ?_; simp only [Act.put, List.setIfInBounds_toArray, List.set_cons_zero, List.set_cons_succ])
          refine wpT_nil ?_
          go_wp2_with (fail)
          go_roundw
          case rel => exact ⟨j + 1, by omega, by rw [HT.out, HB.out, hm3.out, hm2.out, hm1.out, HL.out]; simp, by simp, F5.out⟩
          case measure => simp [intOf]; omega
      · obtain rfl : j = r.length := by omega
        rw [List.take_length]
        go_wp2_with (fail)
        go_ret
        exact ⟨rfl, FR.out⟩
end Go.Proofs.Ytfhkmiifndhacaa
/- The reference: an edit, a record valid. -/
namespace Go.Proofs.Ytfhkmiifndhacaa
open Go.RowKit Go.VB Go.VB.Oct Go.VB.Rec
theorem byte_le2 (c : UInt8) : (decide ([c] = [0]) || decide ([c] = [1]) || decide ([c] = [2])) = decide (c.toNat ≤ 2) := by
  have : ∀ k : UInt8, ([c] = [k]) ↔ c.toNat = k.toNat := fun k => by rw [List.cons.injEq, ← UInt8.toNat_inj]; simp
  simp only [this]
  by_cases h0 : c.toNat = 0
  · simp [h0]
  · by_cases h1 : c.toNat = 1
    · simp [h1]
    · by_cases h2 : c.toNat = 2
      · simp [h2]
      · have h3 : ¬ c.toNat ≤ 2 := by omega
        have e0 : (0 : UInt8).toNat = 0 := rfl
        have e1 : (1 : UInt8).toNat = 1 := rfl
        have e2 : (2 : UInt8).toNat = 2 := rfl
        simp [e0, e1, e2, h0, h1, h2, h3]
set_option maxRecDepth 20000 in
theorem r4edit_go (x : E) (w : World) : Calls Try.prog 39 #[eagg x] w fun e w' => e = .returned (.bool x.right) ∧ Fr (fun _ => False) w w' := by
  obtain ⟨p, k, s⟩ := x
  have e1 := bs_size s
  have F0 := hid ((Fr.refl (fun _ => False) w).alloc (.cells #[.int .i64 p, .int .i64 k, .string (bs s)] 55))
  unfold eagg E.cells E.right
  dsimp only
  by_cases hp : 0 ≤ p ∧ p ≤ 399
  · obtain ⟨hp0, hp1⟩ := hp
    rw [decide_eq_true hp0, decide_eq_true hp1]
    by_cases hk : k = -1
    · subst hk
      rw [if_pos rfl]
      match s with
      | [] =>
        go_enter Try.func39, Try.ntmps39
        go_wp2_with (fail)
        go_ret
        exact ⟨ret_bool (by simp), F0.out⟩
      | [c] =>
        have hc : (bs [c])[0]'(by rw [bs_size]; simp) = c := rfl
        rw [byte_le2]
        have hcc : ((bs [c])[0]'(by rw [bs_size]; simp)).toNat = c.toNat := by rw [hc]
        have hl : (([c] : List UInt8).length : Int) = 1 := rfl
        go_enter Try.func39, Try.ntmps39
        go_wp2_with (fail)
        all_goals (go_ret; exact ⟨ret_bool (by first | (simp_all; done) | (simp; omega)), F0.out⟩)
      | c :: d :: t =>
        have hl : (((bs (c :: d :: t)).size : Int) == 1) = false := by rw [bs_size, beq_eq_false_iff_ne]; simp; omega
        have hl2 : (((c :: d :: t).length : Int) == 1) = false := by rw [beq_eq_false_iff_ne]; simp; omega
        generalize hs : c :: d :: t = s at *
        have hr : (decide (s = [0]) || decide (s = [1]) || decide (s = [2])) = false := by subst hs; simp
        rw [hr]
        clear hs hr
        go_enter Try.func39, Try.ntmps39
        go_wp2_with (fail)
        all_goals (go_ret; exact ⟨ret_bool (by simp_all), F0.out⟩)
    · rw [if_neg hk]
      have hkb : (k == -1) = false := by rw [beq_eq_false_iff_ne]; exact hk
      go_enter Try.func39, Try.ntmps39
      go_wp2_with (fail)
      all_goals (go_ret; exact ⟨ret_bool (by simp_all <;> omega), F0.out⟩)
  · have hr : (decide (0 ≤ p) && decide (p ≤ 399)) = false := by
      rw [Bool.and_eq_false_iff]
      by_cases h : 0 ≤ p
      · right; exact decide_eq_false (by omega)
      · left; exact decide_eq_false h
    rw [hr, Bool.false_and]
    clear hr
    go_enter Try.func39, Try.ntmps39
    go_wp2_with (fail)
    all_goals first
      | (exfalso; omega)
      | (go_ret; exact ⟨ret_bool (by simp_all), F0.out⟩)
set_option maxRecDepth 20000 in
set_option maxHeartbeats 4000000 in
theorem r4Right_go {P : Nat → Prop} {w : World} {r : R} {vo vn ve vx : Value} (h : RV P w r vo vn ve vx) : Calls Try.prog 16 #[.agg (rv r vo vn ve vx).toArray] w fun e w' => e = .returned (.bool r.right) ∧ Fr (fun _ => False) w w' := by
  have HO := hid (fun w' (f : Fr (fun _ => False) w w') => RightRow_go (h.fre f).o h.lo)
  have HN := hid (fun w' (f : Fr (fun _ => False) w w') => RightRow_go (h.fre f).n h.ln)
  have HEX := hid (fun w' (f : Fr (fun _ => False) w w') => (h.fre f).e)
  have HXX := hid (fun w' (f : Fr (fun _ => False) w w') => (h.fre f).x)
  have hnote := bs_size r.note
  obtain ⟨a1, c1, a2, c2, a3, c3, a4, c4, rfl, rfl, rfl, rfl⟩ := h.slices
  obtain ⟨hle, hlx⟩ : r.edits.length ≤ 1099511627776 ∧ r.xids.length ≤ 1099511627776 := ⟨h.le, h.lx⟩
  clear h
  obtain ⟨res, hres⟩ : ∃ res, res = r.right := ⟨_, rfl⟩
  rw [← hres]
  have HRES := hid hres
  clear hres
  obtain ⟨kind, xid, table, old, new, edits, xids, note⟩ := r
  have HRR : Hid (res = (decide (1 ≤ kind ∧ kind ≤ 10 ∧ 0 ≤ xid ∧ xid ≤ 127 ∧ 0 ≤ table ∧ table ≤ 65535 ∧ edits.length ≤ 64 ∧ xids.length ≤ 32 ∧ note.length ≤ 60000) && edits.all E.right && (xids.all fun x => decide (3 ≤ x) && decide (x ≤ 127)) && row old && row new)) := hid (by
    rw [HRES.out, Bool.eq_iff_iff]
    unfold R.right
    simp only [Bool.and_eq_true, decide_eq_true_eq]
    constructor
    · rintro ⟨⟨⟨⟨⟨⟨⟨⟨⟨⟨h1, h2⟩, h3⟩, h4⟩, h5⟩, h6⟩, h7, h8⟩, h9, h10⟩, h11⟩, h12⟩, h13⟩
      exact ⟨⟨⟨⟨⟨h1, h2, h3, h4, h5, h6, h7, h9, h13⟩, h8⟩, h10⟩, h11⟩, h12⟩
    · rintro ⟨⟨⟨⟨⟨h1, h2, h3, h4, h5, h6, h7, h9, h13⟩, h8⟩, h10⟩, h11⟩, h12⟩
      exact ⟨⟨⟨⟨⟨⟨⟨⟨⟨⟨h1, h2⟩, h3⟩, h4⟩, h5⟩, h6⟩, h7, h8⟩, h9, h10⟩, h11⟩, h12⟩, h13⟩)
  clear HRES
  unfold rv
  dsimp only at *
  have B0 := hid (Blk.new w [.int .i64 kind, .int .i64 xid, .int .i64 table, .slice a1 old.length c1, .slice a2 new.length c2, .slice a3 edits.length c3, .slice a4 xids.length c4, .string (bs note)] 27)
  have F0 := hid ((Fr.refl (fun _ => False) w).alloc (.cells #[.int .i64 kind, .int .i64 xid, .int .i64 table, .slice a1 old.length c1, .slice a2 new.length c2, .slice a3 edits.length c3, .slice a4 xids.length c4, .string (bs note)] 27))
  go_enter Try.func16, Try.ntmps16
  go_upto_region 1 with fail
  generalize hW : w.alloc _ = W at *
  clear hW
  generalize w.heap.size = d at *
  have q0 : W.cell? ⟨d, 0, none⟩ = some (.int .i64 kind) := B0.out.cell 0
  have q1 : W.cell? ⟨d, 1, none⟩ = some (.int .i64 xid) := B0.out.cell 1
  have q2 : W.cell? ⟨d, 2, none⟩ = some (.int .i64 table) := B0.out.cell 2
  have q5 : W.cell? ⟨d, 5, none⟩ = some (.slice a3 edits.length c3) := B0.out.cell 5
  have q6 : W.cell? ⟨d, 6, none⟩ = some (.slice a4 xids.length c4) := B0.out.cell 6
  have q7 : W.cell? ⟨d, 7, none⟩ = some (.string (bs note)) := B0.out.cell 7
  go_cut [51] (fun s51 wx => s51 = .bool (!(decide (1 ≤ kind ∧ kind ≤ 10 ∧ 0 ≤ xid ∧ xid ≤ 127 ∧ 0 ≤ table ∧ table ≤ 65535 ∧ edits.length ≤ 64 ∧ xids.length ≤ 32 ∧ note.length ≤ 60000))) ∧ wx = W)
  case first =>
    go_wp2_with (fail)
    all_goals (go_meet; exact ⟨by first | (rw [decide_eq_true (by omega)]; rfl) | (rw [decide_eq_false (by omega)]; rfl) | (congr 1; rw [Bool.eq_iff_iff]; simp; omega), rfl⟩)
  case rest =>
  obtain ⟨rfl, rfl⟩ := hcut
  clear q0 q1 q2 q5 q6 q7
  obtain ⟨g, hg⟩ : ∃ g, g = decide (1 ≤ kind ∧ kind ≤ 10 ∧ 0 ≤ xid ∧ xid ≤ 127 ∧ 0 ≤ table ∧ table ≤ 65535 ∧ edits.length ≤ 64 ∧ xids.length ≤ 32 ∧ note.length ≤ 60000) := ⟨_, rfl⟩
  rw [← hg] at HRR ⊢
  clear hg
  cases g with
  | false =>
    go_wp2_with (fail)
    go_ret
    exact ⟨ret_bool (by rw [HRR.out]; simp), F0.out⟩
  | true =>
    have HRS : Hid (res = (edits.all E.right && (xids.all fun x => decide (3 ≤ x) && decide (x ≤ 127)) && row old && row new)) := hid (by rw [HRR.out]; simp)
    clear HRR
    have HBW := hid (fun wr (f : Fr (fun _ => False) wc wr) => (Blk.fr B0.out f (fun h => h)))
    clear B0
    go_wp2_with (fail)
    go_loopw [3] (fun i wr => ∃ j : Nat, j ≤ edits.length ∧ i = .int .i64 j ∧ (∀ i (hi : i < j) (hr : i < edits.length), edits[i].right = true) ∧ Fr (fun _ => False) wc wr) (fun i _ => edits.length - (intOf i).toNat)
    case atStart => exact ⟨0, by omega, rfl, fun i hi => by omega, Fr.refl _ _⟩
    case round =>
      obtain ⟨j, hj, rfl, hall, fr⟩ := hrel
      have FR := hid fr
      have HA := hid hall
      have q5 : wr.cell? ⟨d, 5, none⟩ = some (.slice a3 edits.length c3) := (HBW.out wr fr).cell 5
      clear fr hall
      have i1 : (0 : Int) ≤ (j : Int) := by omega
      by_cases hjl : j < edits.length
      · obtain ⟨g, o, rfl, hg, p0, p1, p2⟩ := sl_three (f := E.cells) ecells_len (HEX.out _ (F0.out.trans FR.out (fun _ h _ => h))) hjl
        have i2 : (j : Int) < edits.length := by omega
        simp only [E.cells, List.getElem?_cons_zero, List.getElem?_cons_succ] at p0 p1 p2
        have HED := hid (fun w => r4edit_go edits[j] w)
        have HP : ∀ b, edits[j].right = b → Hid (edits[j].right = b) := fun b h => hid h
        cases hr : edits[j].right with
        | false =>
          have HR := HP _ hr
          rw [hr] at HED
          have hf : res = false := by
            rw [HRS.out]
            have : edits.all E.right = false := by
              rw [List.all_eq_false]
              exact ⟨edits[j], List.getElem_mem hjl, by rw [hr]; simp⟩
            rw [this]
            simp
          have HF := hid hf
          clear hr HP HR hf
          unfold eagg E.cells at HED
          go_wp2_with (go_at_call 39; refine (HED.out _).mono ?_; rintro e w1 ⟨rfl, f⟩; have F1 := hid (FR.out.trans f (fun _ h _ => h)); clear f)
          go_ret
          exact ⟨ret_bool HF.out.symm, F0.out.trans F1.out (fun _ h _ => h)⟩
        | true =>
          have HR := HP _ hr
          rw [hr] at HED
          clear hr HP
          unfold eagg E.cells at HED
          go_wp2_with (go_at_call 39; refine (HED.out _).mono ?_; rintro e w1 ⟨rfl, f⟩; have F1 := hid (FR.out.trans f (fun _ h _ => h)); clear f)
          go_roundw
          case rel => exact ⟨j + 1, by omega, by go_num, fun i hi hr => by
            by_cases hij : i = j
            · subst hij; exact HR.out
            · exact HA.out i (by omega) hr, F1.out⟩
          case measure => simp [intOf]; omega
      · obtain rfl : j = edits.length := by omega
        have hea : edits.all E.right = true := by
          rw [List.all_eq_true]
          intro x hx
          obtain ⟨i, hi, rfl⟩ := List.getElem_of_mem hx
          exact HA.out i hi hi
        have HRT : Hid (res = ((xids.all fun x => decide (3 ≤ x) && decide (x ≤ 127)) && row old && row new)) := hid (by rw [HRS.out, hea]; simp)
        clear hea HA HRS HEX
        have FZ := hid FR.out
        go_wp2_with (fail)
        clear q5
        go_loopw [5] (fun i wr => ∃ j : Nat, j ≤ xids.length ∧ i = .int .i64 j ∧ (∀ i (hi : i < j) (hr : i < xids.length), (decide (3 ≤ xids[i]) && decide (xids[i] ≤ 127)) = true) ∧ Fr (fun _ => False) wc wr) (fun i _ => xids.length - (intOf i).toNat)
        case atStart => exact ⟨0, by omega, rfl, fun i hi => by omega, FZ.out⟩
        case round =>
          obtain ⟨j, hj, rfl, hall, fr⟩ := hrel
          have FR := hid fr
          have HA := hid hall
          have q6 : wr.cell? ⟨d, 6, none⟩ = some (.slice a4 xids.length c4) := (HBW.out wr fr).cell 6
          clear hall
          have i1 : (0 : Int) ≤ (j : Int) := by omega
          by_cases hjl : j < xids.length
          · obtain ⟨g, o, rfl, hg, hcx⟩ := sl_cell1 (f := icell) icell_len (HXX.out _ (F0.out.trans FR.out (fun _ h _ => h))) (fun h => by subst h; cases hjl)
            have p0 := hcx j hjl
            have i2 : (j : Int) < xids.length := by omega
            simp only [icell, List.getElem?_cons_zero] at p0
            clear hcx fr
            have HIN := hid (List.getElem_mem hjl)
            have HXJ := hid (rfl : xids[j] = xids[j])
            obtain ⟨x, hx⟩ : ∃ x, x = xids[j] := ⟨_, rfl⟩
            rw [← hx] at p0
            have HX := hid hx
            clear hx HXJ
            by_cases h3 : x < 3
            · have hf : res = false := by
                rw [HRT.out]
                have : (xids.all fun x => decide (3 ≤ x) && decide (x ≤ 127)) = false := by
                  rw [List.all_eq_false]
                  exact ⟨xids[j], HIN.out, by rw [← HX.out]; simp; omega⟩
                rw [this]
                simp
              have HF := hid hf
              clear hf
              go_wp2_with (fail)
              go_ret
              exact ⟨ret_bool HF.out.symm, F0.out.trans FR.out (fun _ h _ => h)⟩
            · by_cases h4 : 127 < x
              · have hf : res = false := by
                  rw [HRT.out]
                  have : (xids.all fun x => decide (3 ≤ x) && decide (x ≤ 127)) = false := by
                    rw [List.all_eq_false]
                    exact ⟨xids[j], HIN.out, by rw [← HX.out]; simp; omega⟩
                  rw [this]
                  simp
                have HF := hid hf
                clear hf
                go_wp2_with (fail)
                go_ret
                exact ⟨ret_bool HF.out.symm, F0.out.trans FR.out (fun _ h _ => h)⟩
              · have HXO := hid (show (decide (3 ≤ x) && decide (x ≤ 127)) = true by rw [decide_eq_true (by omega), decide_eq_true (by omega)]; rfl)
                go_wp2_with (fail)
                go_roundw
                case rel => exact ⟨j + 1, by omega, by go_num, fun i hi hr => by
                  by_cases hij : i = j
                  · subst hij; rw [← HX.out]; exact HXO.out
                  · exact HA.out i (by omega) hr, FR.out⟩
                case measure => simp [intOf]; omega
          · obtain rfl : j = xids.length := by omega
            have hxa : (xids.all fun x => decide (3 ≤ x) && decide (x ≤ 127)) = true := by
              rw [List.all_eq_true]
              intro x hx
              obtain ⟨i, hi, rfl⟩ := List.getElem_of_mem hx
              exact HA.out i hi hi
            have HRU : Hid (res = (row old && row new)) := hid (by rw [HRT.out, hxa]; simp)
            clear hxa HA HRT HXX
            have q3 : wr.cell? ⟨d, 3, none⟩ = some (.slice a1 old.length c1) := (HBW.out wr fr).cell 3
            have q4 : wr.cell? ⟨d, 4, none⟩ = some (.slice a2 new.length c2) := (HBW.out wr fr).cell 4
            clear fr
            have FW := hid (F0.out.trans FR.out (fun _ h _ => h))
            generalize row old = bo at *
            generalize row new = bn at *
            go_wp2_with (first | (go_at_call 29; (with_reducible refine (HO.out _ FW.out).mono ?_); rintro e w1 ⟨rfl, f1⟩; have q4 : w1.cell? ⟨d, 4, none⟩ = some (.slice a2 new.length c2) := (HBW.out _ (FR.out.trans f1 (fun _ h _ => h))).cell 4; replace FW := hid (FW.out.trans f1 (fun _ h _ => h)); clear f1) | (go_at_call 29; (with_reducible refine (HN.out _ FW.out).mono ?_); rintro e w1 ⟨rfl, f1⟩; replace FW := hid (FW.out.trans f1 (fun _ h _ => h)); clear f1))
            all_goals (go_ret; exact ⟨by rw [HRU.out]; exact ret_bool (by simp_all), FW.out⟩)
end Go.Proofs.Ytfhkmiifndhacaa
/- The reference: the bytes of a record, a frame. -/
namespace Go.Proofs.Ytfhkmiifndhacaa
open Go.RowKit Go.VB Go.VB.Oct Go.VB.Rec
theorem Six.six {w : World} {d : Nat} {a b c e f g x y : Value} (h : Blk w d [a, b, c, e, f, g, x, y] 27) : Six w d a b c e f g := ⟨h.cell 0, h.cell 1, h.cell 2, h.cell 3, h.cell 4, h.cell 5⟩
theorem add_is_run {k l m : List UInt8} (h : k = l ++ m) (hl : l.length + m.length ≤ 9223372036854775807) (w : World) : (Op.stringOp .add (bs l) (bs m)).run Try.prog w = .ok (.string (bs k)) w := by
  subst h
  exact run_add_bs w l m hl
/-- an edit's cells and the slice that holds it -/
structure EdS (w : World) (g o d : Nat) (p s : Int) (item : List UInt8) (v : Value) : Prop where
  c0 : w.cell? ⟨g, o, none⟩ = some (.int .i64 p)
  c1 : w.cell? ⟨g, o + 1, none⟩ = some (.int .i64 s)
  c2 : w.cell? ⟨g, o + 2, none⟩ = some (.string (bs item))
  v : w.cell? ⟨d, 5, none⟩ = some v
theorem EdS.fre {w w' : World} {g o d : Nat} {p s : Int} {item : List UInt8} {v : Value} (h : EdS w g o d p s item v) (k : Fr (fun _ => False) w w') : EdS w' g o d p s item v :=
  ⟨cell_fr h.c0 k (fun h => h), cell_fr h.c1 k (fun h => h), cell_fr h.c2 k (fun h => h), cell_fr h.v k (fun h => h)⟩
set_option maxRecDepth 20000 in
set_option maxHeartbeats 8000000 in
theorem r4Bytes_go {P : Nat → Prop} {w : World} {r : R} {vo vn ve vx : Value} (h : RV P w r vo vn ve vx) : Calls Try.prog 18 #[.agg (rv r vo vn ve vx).toArray] w fun e w' => e = .returned (.string (bs r.bytes)) ∧ Fr (fun _ => False) w w' := by
  obtain ⟨a1, c1, a2, c2, a3, c3, a4, c4, rfl, rfl, rfl, rfl⟩ := h.slices
  have HV := hid h
  have HRR := hid (fun w' (f : Fr (fun _ => False) w w') => r4Right_go (h.fre f))
  clear h
  have B0 := hid (Blk.new w (rv r (.slice a1 r.old.length c1) (.slice a2 r.new.length c2) (.slice a3 r.edits.length c3) (.slice a4 r.xids.length c4)) 27)
  have F0 := hid ((Fr.refl (fun _ => False) w).alloc (.cells (rv r (.slice a1 r.old.length c1) (.slice a2 r.new.length c2) (.slice a3 r.edits.length c3) (.slice a4 r.xids.length c4)).toArray 27))
  have HRR0 := hid (HRR.out _ F0.out)
  unfold R.bytes
  cases hr : r.right with
  | false =>
    rw [hr] at HRR0
    clear hr
    unfold rv at *
    go_enter Try.func18, Try.ntmps18
    go_wp2_with (go_at_call 16; refine HRR0.out.mono ?_; rintro e w1 ⟨rfl, f1⟩; have F2 := hid (F0.out.trans f1 (fun _ h _ => h)))
    go_ret
    exact ⟨rfl, F2.out⟩
  | true =>
    rw [hr] at HRR0
    have HR := hid hr
    clear hr
    rw [if_pos rfl]
    go_enter Try.func18, Try.ntmps18
    unfold rv
    go_upto_region 3 with (go_at_call 16; refine HRR0.out.mono ?_; rintro e w1 ⟨rfl, f1⟩; have F2 := hid (F0.out.trans f1 (fun _ h _ => h)); have B2 := hid (B0.out.fr f1 (fun h => h)); clear f1)
    obtain ⟨kn, xn, tn, hk, hx, ht, hk1, hx1, ht1, hle, hall, hxl, hxa, hnl⟩ := right_parts HR.out
    have HHL := hid (head_le r)
    clear HRR HRR0 F0 B0 HR
    obtain ⟨kind, xid, table, old, new, edits, xids, note⟩ := r
    dsimp only at hk hx ht hle hall hxl hxa hnl
    subst hk hx ht
    have HALL := hid hall
    have HXA := hid hxa
    have HS1 : Hid (Six w1.drew w.heap.size (.int .i64 kn) (.int .i64 xn) (.int .i64 tn) (.slice a1 old.length c1) (.slice a2 new.length c2) (.slice a3 edits.length c3)) := hid (Six.fre (Six.six B2.out) (Fr.refl _ _).drew)
    have HBW := hid (fun wr (f : Fr (fun _ => False) w1 wr) => (Blk.fr B2.out f (fun h => h)))
    clear hall hxa B2
    generalize hd : w.heap.size = d at *
    have HD := hid hd
    clear hd
    have HVO := hid (fun w' (f : Fr (fun _ => False) w w') => r2Bytes_go (HV.out.fre f).o HV.out.lo)
    have HVN := hid (fun w' (f : Fr (fun _ => False) w w') => r2Bytes_go (HV.out.fre f).n HV.out.ln)
    have hro := rowBytes_le old
    have hrn := rowBytes_le new
    have HHEAD := hid (show R.head ⟨kn, xn, tn, old, new, edits, xids, note⟩ = be 1 kn ++ be 1 xn ++ be 2 tn ++ text (rowBytes old) ++ text (rowBytes new) ++ be 1 edits.length from rfl)
    have HRAW := hid (show R.raw ⟨kn, xn, tn, old, new, edits, xids, note⟩ = R.head ⟨kn, xn, tn, old, new, edits, xids, note⟩ ++ edits.flatMap E.bytes ++ be 1 xids.length ++ (xids.flatMap fun x => be 1 x.toNat) ++ text note from rfl)
    dsimp only at HVO HVN
    have hto := text_len (rowBytes old)
    have htn := text_len (rowBytes new)
    have hb1 := be_length 1 kn (by omega)
    have hb2 := be_length 1 xn (by omega)
    have hb3 := be_length 2 tn (by omega)
    have hb4 := be_length 1 edits.length (by omega)
    have hb5 := be_length 1 xids.length (by omega)
    have HN1 := hid (fun w => rNum_go kn 1 (by omega) (by omega) w)
    have HN2 := hid (fun w => rNum_go xn 1 (by omega) (by omega) w)
    have HN3 := hid (fun w => rNum_go tn 2 (by omega) (by omega) w)
    have HN4 := hid (fun w => rNum_go edits.length 1 (by omega) (by omega) w)
    have HN5 := hid (fun w => rNum_go xids.length 1 (by omega) (by omega) w)
    have HTO := hid (fun w => rtext_go (rowBytes old) (by omega) w)
    have HTN := hid (fun w => rtext_go (rowBytes new) (by omega) w)
    have HTT := hid (fun w => rtext_go note (by omega) w)
    have htt := text_len note
    generalize R.head ⟨kn, xn, tn, old, new, edits, xids, note⟩ = lh at *
    generalize rowBytes old = lo at *
    generalize rowBytes new = ln at *
    generalize text lo = tlo at *
    generalize text ln = tln at *
    generalize text note = tno at *
    generalize be 1 kn = b1 at *
    generalize be 1 xn = b2 at *
    generalize be 2 tn = b3 at *
    generalize be 1 edits.length = b4 at *
    generalize be 1 xids.length = b5 at *
    obtain ⟨m1, hm1, hl1, hadd1⟩ := add_is b1 b2 (by omega)
    obtain ⟨m2, hm2, hl2, hadd2⟩ := add_is m1 b3 (by omega)
    obtain ⟨m3, hm3, hl3, hadd3⟩ := add_is m2 tlo (by omega)
    obtain ⟨m4, hm4, hl4, hadd4⟩ := add_is m3 tln (by omega)
    obtain ⟨m5, hm5, hl5, hadd5⟩ := add_is m4 b4 (by omega)
    have hm5l : m5 = lh := by rw [HHEAD.out, hm5.out, hm4.out, hm3.out, hm2.out, hm1.out]
    subst hm5l
    have HHB := hid (show m5.length ≤ 600 from HHL.out)
    have HBL := hid (show b5.length = 1 ∧ tno.length = note.length + 2 from ⟨hb5, htt⟩)
    clear hto htn hb1 hb2 hb3 hb4 hb5 htt hl1 hl2 hl3 hl4 hl5 hro hrn HHEAD HHL
    refine wp_region_scr (.take 0 (.take 1 (.take 3 (.take 4 (.take 7 (.take 8 (.take 11 (.take 12 (.take 16 (.take 17 (.take 21 (.take 22 (.take 23 (.op 2 (.op 5 (.take 6 (.op 9 (.take 10 (.op 13 (.op 14 (.take 15 (.op 18 (.op 19 (.take 20 (.op 24 (.take 25 (.take 26 .done))))))))))))))))))))))))))) (fun kz w => (kz ≤ 26 → Six w d (.int .i64 kn) (.int .i64 xn) (.int .i64 tn) (.slice a1 old.length c1) (.slice a2 new.length c2) (.slice a3 edits.length c3)) ∧ True) (by kernel_rfl) (by kernel_rfl) (by intro c a d v w h; cases d <;> exact h) ?_
    repeat
      first
      | (refine wpT_pure rfl rfl rfl ?_; apply Exists.intro; refine ⟨?_, ?_⟩; intro w; (first | (obtain ⟨z0, z1, z2, z3, z4, z5⟩ := qa; go_simp <;> rfl) | (go_simp <;> rfl)); simp only [Act.put, List.setIfInBounds_toArray, List.set_cons_zero, List.set_cons_succ])
      | (refine wpT_take 26 rfl rfl (by decide +kernel) ⟨fun _ => HS1.out, trivial⟩ ?_; apply Exists.intro; refine ⟨?_, ?_⟩; intro w hw; (have qa := hw.1 (Nat.le_refl _); have qb := hw.2); (first | (obtain ⟨z0, z1, z2, z3, z4, z5⟩ := qa; go_simp <;> rfl) | (go_simp <;> rfl)); simp only [Act.put, List.setIfInBounds_toArray, List.set_cons_zero, List.set_cons_succ])
      | (refine wpT_skip rfl rfl ?_; simp only [Act.put, List.setIfInBounds_toArray, List.set_cons_zero, List.set_cons_succ])
    have G1 := hid F2.out.drew
    have J1 := hid ((Fr.refl (fun _ => False) w1).drew)
    refine wpT_op rfl ?_
    go_wp2_with ((go_at_call 45; refine (HN1.out _).mono ?_; rintro e w2 ⟨rfl, f⟩; have G2 := hid (G1.out.trans f (fun _ h _ => h)); have J2 := hid (J1.out.trans f (fun _ h _ => h)); have HS2 := hid (Six.fre HS1.out f); clear f))
    (refine ⟨?_, ?_⟩; focus (intro kz hk hk2 hh; first | (exfalso; simp at hk2; omega) | exact hh | exact (fun h => absurd h (by omega)) | obtain ⟨qa, qb⟩ := hh; first | exact ⟨qa, qb⟩ | (refine ⟨fun h => absurd h (by omega), ?_⟩; first | exact qb | (exact HS2.out)) | (refine ⟨fun h => ?_, ?_⟩; (have qa := qa h); all_goals (first | exact qa | exact qb | (exact HS2.out)))))
    repeat
      first
      | (refine wpT_pure rfl rfl rfl ?_; apply Exists.intro; refine ⟨?_, ?_⟩; intro w; (first | (obtain ⟨z0, z1, z2, z3, z4, z5⟩ := qa; go_simp <;> rfl) | (go_simp <;> rfl)); simp only [Act.put, List.setIfInBounds_toArray, List.set_cons_zero, List.set_cons_succ])
      | (refine wpT_take 26 rfl rfl (by decide +kernel) ⟨fun _ => HS2.out, trivial⟩ ?_; apply Exists.intro; refine ⟨?_, ?_⟩; intro w hw; (have qa := hw.1 (Nat.le_refl _); have qb := hw.2); (first | (obtain ⟨z0, z1, z2, z3, z4, z5⟩ := qa; go_simp <;> rfl) | (go_simp <;> rfl)); simp only [Act.put, List.setIfInBounds_toArray, List.set_cons_zero, List.set_cons_succ])
      | (refine wpT_skip rfl rfl ?_; simp only [Act.put, List.setIfInBounds_toArray, List.set_cons_zero, List.set_cons_succ])
    refine wpT_op rfl ?_
    go_wp2_with ((go_at_call 45; refine (HN2.out _).mono ?_; rintro e w3 ⟨rfl, f⟩; have G3 := hid (G2.out.trans f (fun _ h _ => h)); have J3 := hid (J2.out.trans f (fun _ h _ => h)); have HS3 := hid (Six.fre HS2.out f); clear f))
    (refine ⟨?_, ?_⟩; focus (intro kz hk hk2 hh; first | (exfalso; simp at hk2; omega) | exact hh | exact (fun h => absurd h (by omega)) | obtain ⟨qa, qb⟩ := hh; first | exact ⟨qa, qb⟩ | (refine ⟨fun h => absurd h (by omega), ?_⟩; first | exact qb | (exact HS3.out)) | (refine ⟨fun h => ?_, ?_⟩; (have qa := qa h); all_goals (first | exact qa | exact qb | (exact HS3.out)))))
    repeat
      first
      | (refine wpT_pure rfl rfl rfl ?_; apply Exists.intro; refine ⟨?_, ?_⟩; intro w; (first | (obtain ⟨z0, z1, z2, z3, z4, z5⟩ := qa; go_simp <;> rfl) | (go_simp <;> rfl)); simp only [Act.put, List.setIfInBounds_toArray, List.set_cons_zero, List.set_cons_succ])
      | (refine wpT_take 26 rfl rfl (by decide +kernel) ⟨fun _ => HS3.out, trivial⟩ ?_; apply Exists.intro; refine ⟨?_, ?_⟩; intro w hw; (have qa := hw.1 (Nat.le_refl _); have qb := hw.2); (first | (obtain ⟨z0, z1, z2, z3, z4, z5⟩ := qa; go_simp <;> rfl) | (go_simp <;> rfl)); simp only [Act.put, List.setIfInBounds_toArray, List.set_cons_zero, List.set_cons_succ])
      | (refine wpT_skip rfl rfl ?_; simp only [Act.put, List.setIfInBounds_toArray, List.set_cons_zero, List.set_cons_succ])
    refine wpT_op rfl ?_
    go_wp2_with ((go_at_call 45; refine (HN3.out _).mono ?_; rintro e w4 ⟨rfl, f⟩; have G4 := hid (G3.out.trans f (fun _ h _ => h)); have J4 := hid (J3.out.trans f (fun _ h _ => h)); have HS4 := hid (Six.fre HS3.out f); clear f))
    (refine ⟨?_, ?_⟩; focus (intro kz hk hk2 hh; first | (exfalso; simp at hk2; omega) | exact hh | exact (fun h => absurd h (by omega)) | obtain ⟨qa, qb⟩ := hh; first | exact ⟨qa, qb⟩ | (refine ⟨fun h => absurd h (by omega), ?_⟩; first | exact qb | (exact HS4.out)) | (refine ⟨fun h => ?_, ?_⟩; (have qa := qa h); all_goals (first | exact qa | exact qb | (exact HS4.out)))))
    repeat
      first
      | (refine wpT_pure rfl rfl rfl ?_; apply Exists.intro; refine ⟨?_, ?_⟩; intro w; (first | (obtain ⟨z0, z1, z2, z3, z4, z5⟩ := qa; go_simp <;> rfl) | (go_simp <;> rfl)); simp only [Act.put, List.setIfInBounds_toArray, List.set_cons_zero, List.set_cons_succ])
      | (refine wpT_take 26 rfl rfl (by decide +kernel) ⟨fun _ => HS4.out, trivial⟩ ?_; apply Exists.intro; refine ⟨?_, ?_⟩; intro w hw; (have qa := hw.1 (Nat.le_refl _); have qb := hw.2); (first | (obtain ⟨z0, z1, z2, z3, z4, z5⟩ := qa; go_simp <;> rfl) | (go_simp <;> rfl)); simp only [Act.put, List.setIfInBounds_toArray, List.set_cons_zero, List.set_cons_succ])
      | (refine wpT_skip rfl rfl ?_; simp only [Act.put, List.setIfInBounds_toArray, List.set_cons_zero, List.set_cons_succ])
    refine wpT_op rfl ?_
    go_wp2_with ((go_at_call 47; refine (HVO.out _ G4.out).mono ?_; rintro e w5 ⟨rfl, f⟩; have G5 := hid (G4.out.trans f (fun _ h _ => h)); have J5 := hid (J4.out.trans f (fun _ h _ => h)); have HS5 := hid (Six.fre HS4.out f); clear f))
    (refine ⟨?_, ?_⟩; focus (intro kz hk hk2 hh; first | (exfalso; simp at hk2; omega) | exact hh | exact (fun h => absurd h (by omega)) | obtain ⟨qa, qb⟩ := hh; first | exact ⟨qa, qb⟩ | (refine ⟨fun h => absurd h (by omega), ?_⟩; first | exact qb | (exact HS5.out)) | (refine ⟨fun h => ?_, ?_⟩; (have qa := qa h); all_goals (first | exact qa | exact qb | (exact HS5.out)))))
    repeat
      first
      | (refine wpT_pure rfl rfl rfl ?_; apply Exists.intro; refine ⟨?_, ?_⟩; intro w; (first | (obtain ⟨z0, z1, z2, z3, z4, z5⟩ := qa; go_simp <;> rfl) | (go_simp <;> rfl)); simp only [Act.put, List.setIfInBounds_toArray, List.set_cons_zero, List.set_cons_succ])
      | (refine wpT_take 26 rfl rfl (by decide +kernel) ⟨fun _ => HS5.out, trivial⟩ ?_; apply Exists.intro; refine ⟨?_, ?_⟩; intro w hw; (have qa := hw.1 (Nat.le_refl _); have qb := hw.2); (first | (obtain ⟨z0, z1, z2, z3, z4, z5⟩ := qa; go_simp <;> rfl) | (go_simp <;> rfl)); simp only [Act.put, List.setIfInBounds_toArray, List.set_cons_zero, List.set_cons_succ])
      | (refine wpT_skip rfl rfl ?_; simp only [Act.put, List.setIfInBounds_toArray, List.set_cons_zero, List.set_cons_succ])
    refine wpT_op rfl ?_
    go_wp2_with ((go_at_call 46; refine (HTO.out _).mono ?_; rintro e w6 ⟨rfl, f⟩; have G6 := hid (G5.out.trans f (fun _ h _ => h)); have J6 := hid (J5.out.trans f (fun _ h _ => h)); have HS6 := hid (Six.fre HS5.out f); clear f))
    (refine ⟨?_, ?_⟩; focus (intro kz hk hk2 hh; first | (exfalso; simp at hk2; omega) | exact hh | exact (fun h => absurd h (by omega)) | obtain ⟨qa, qb⟩ := hh; first | exact ⟨qa, qb⟩ | (refine ⟨fun h => absurd h (by omega), ?_⟩; first | exact qb | (exact HS6.out)) | (refine ⟨fun h => ?_, ?_⟩; (have qa := qa h); all_goals (first | exact qa | exact qb | (exact HS6.out)))))
    repeat
      first
      | (refine wpT_pure rfl rfl rfl ?_; apply Exists.intro; refine ⟨?_, ?_⟩; intro w; (first | (obtain ⟨z0, z1, z2, z3, z4, z5⟩ := qa; go_simp <;> rfl) | (go_simp <;> rfl)); simp only [Act.put, List.setIfInBounds_toArray, List.set_cons_zero, List.set_cons_succ])
      | (refine wpT_take 26 rfl rfl (by decide +kernel) ⟨fun _ => HS6.out, trivial⟩ ?_; apply Exists.intro; refine ⟨?_, ?_⟩; intro w hw; (have qa := hw.1 (Nat.le_refl _); have qb := hw.2); (first | (obtain ⟨z0, z1, z2, z3, z4, z5⟩ := qa; go_simp <;> rfl) | (go_simp <;> rfl)); simp only [Act.put, List.setIfInBounds_toArray, List.set_cons_zero, List.set_cons_succ])
      | (refine wpT_skip rfl rfl ?_; simp only [Act.put, List.setIfInBounds_toArray, List.set_cons_zero, List.set_cons_succ])
    refine wpT_op rfl ?_
    go_wp2_with ((go_at_call 47; refine (HVN.out _ G6.out).mono ?_; rintro e w7 ⟨rfl, f⟩; have G7 := hid (G6.out.trans f (fun _ h _ => h)); have J7 := hid (J6.out.trans f (fun _ h _ => h)); have HS7 := hid (Six.fre HS6.out f); clear f))
    (refine ⟨?_, ?_⟩; focus (intro kz hk hk2 hh; first | (exfalso; simp at hk2; omega) | exact hh | exact (fun h => absurd h (by omega)) | obtain ⟨qa, qb⟩ := hh; first | exact ⟨qa, qb⟩ | (refine ⟨fun h => absurd h (by omega), ?_⟩; first | exact qb | (exact HS7.out)) | (refine ⟨fun h => ?_, ?_⟩; (have qa := qa h); all_goals (first | exact qa | exact qb | (exact HS7.out)))))
    repeat
      first
      | (refine wpT_pure rfl rfl rfl ?_; apply Exists.intro; refine ⟨?_, ?_⟩; intro w; (first | (obtain ⟨z0, z1, z2, z3, z4, z5⟩ := qa; go_simp <;> rfl) | (go_simp <;> rfl)); simp only [Act.put, List.setIfInBounds_toArray, List.set_cons_zero, List.set_cons_succ])
      | (refine wpT_take 26 rfl rfl (by decide +kernel) ⟨fun _ => HS7.out, trivial⟩ ?_; apply Exists.intro; refine ⟨?_, ?_⟩; intro w hw; (have qa := hw.1 (Nat.le_refl _); have qb := hw.2); (first | (obtain ⟨z0, z1, z2, z3, z4, z5⟩ := qa; go_simp <;> rfl) | (go_simp <;> rfl)); simp only [Act.put, List.setIfInBounds_toArray, List.set_cons_zero, List.set_cons_succ])
      | (refine wpT_skip rfl rfl ?_; simp only [Act.put, List.setIfInBounds_toArray, List.set_cons_zero, List.set_cons_succ])
    refine wpT_op rfl ?_
    go_wp2_with ((go_at_call 46; refine (HTN.out _).mono ?_; rintro e w8 ⟨rfl, f⟩; have G8 := hid (G7.out.trans f (fun _ h _ => h)); have J8 := hid (J7.out.trans f (fun _ h _ => h)); have HS8 := hid (Six.fre HS7.out f); clear f))
    (refine ⟨?_, ?_⟩; focus (intro kz hk hk2 hh; first | (exfalso; simp at hk2; omega) | exact hh | exact (fun h => absurd h (by omega)) | obtain ⟨qa, qb⟩ := hh; first | exact ⟨qa, qb⟩ | (refine ⟨fun h => absurd h (by omega), ?_⟩; first | exact qb | (exact HS8.out)) | (refine ⟨fun h => ?_, ?_⟩; (have qa := qa h); all_goals (first | exact qa | exact qb | (exact HS8.out)))))
    repeat
      first
      | (refine wpT_pure rfl rfl rfl ?_; apply Exists.intro; refine ⟨?_, ?_⟩; intro w; (first | (obtain ⟨z0, z1, z2, z3, z4, z5⟩ := qa; go_simp <;> rfl) | (go_simp <;> rfl)); simp only [Act.put, List.setIfInBounds_toArray, List.set_cons_zero, List.set_cons_succ])
      | (refine wpT_take 26 rfl rfl (by decide +kernel) ⟨fun _ => HS8.out, trivial⟩ ?_; apply Exists.intro; refine ⟨?_, ?_⟩; intro w hw; (have qa := hw.1 (Nat.le_refl _); have qb := hw.2); (first | (obtain ⟨z0, z1, z2, z3, z4, z5⟩ := qa; go_simp <;> rfl) | (go_simp <;> rfl)); simp only [Act.put, List.setIfInBounds_toArray, List.set_cons_zero, List.set_cons_succ])
      | (refine wpT_skip rfl rfl ?_; simp only [Act.put, List.setIfInBounds_toArray, List.set_cons_zero, List.set_cons_succ])
    refine wpT_op rfl ?_
    go_wp2_with ((go_at_call 45; refine (HN4.out _).mono ?_; rintro e w9 ⟨rfl, f⟩; have G9 := hid (G8.out.trans f (fun _ h _ => h)); have J9 := hid (J8.out.trans f (fun _ h _ => h)); have HS9 := hid (Six.fre HS8.out f); clear f))
    (refine ⟨?_, ?_⟩; focus (intro kz hk hk2 hh; first | (exfalso; simp at hk2; omega) | exact hh | exact (fun h => absurd h (by omega)) | obtain ⟨qa, qb⟩ := hh; first | exact ⟨qa, qb⟩ | (refine ⟨fun h => absurd h (by omega), ?_⟩; first | exact qb | (exact HS9.out)) | (refine ⟨fun h => ?_, ?_⟩; (have qa := qa h); all_goals (first | exact qa | exact qb | (exact HS9.out)))))
    repeat
      first
      | (refine wpT_pure rfl rfl rfl ?_; apply Exists.intro; refine ⟨?_, ?_⟩; intro w; (first | (obtain ⟨z0, z1, z2, z3, z4, z5⟩ := qa; go_simp <;> rfl) | (go_simp <;> rfl)); simp only [Act.put, List.setIfInBounds_toArray, List.set_cons_zero, List.set_cons_succ])
      | (refine wpT_take 26 rfl rfl (by decide +kernel) ⟨fun _ => HS9.out, trivial⟩ ?_; apply Exists.intro; refine ⟨?_, ?_⟩; intro w hw; (have qa := hw.1 (Nat.le_refl _); have qb := hw.2); (first | (obtain ⟨z0, z1, z2, z3, z4, z5⟩ := qa; go_simp <;> rfl) | (go_simp <;> rfl)); simp only [Act.put, List.setIfInBounds_toArray, List.set_cons_zero, List.set_cons_succ])
      | (refine wpT_skip rfl rfl ?_; simp only [Act.put, List.setIfInBounds_toArray, List.set_cons_zero, List.set_cons_succ])
    refine wpT_nil ?_
    clear G2 HS2 J2
    clear G3 HS3 J3
    clear G4 HS4 J4
    clear G5 HS5 J5
    clear G6 HS6 J6
    clear G7 HS7 J7
    clear G8 HS8 J8
    clear HS1 HS9 HN1 HN2 HN3 HN4 HVO HVN HTO HTN G1 J1 hadd1 hadd2 hadd3 hadd4 hadd5 hm1 hm2 hm3 hm4 hm5
    have q5 : w9.cell? ⟨d, 5, none⟩ = some (.slice a3 edits.length c3) := (HBW.out _ J9.out).cell 5
    go_wp2_with (fail)
    go_loopw [3, 4] (fun s i wr => ∃ j : Nat, j ≤ edits.length ∧ s = .string (bs (m5 ++ (edits.take j).flatMap E.bytes)) ∧ i = .int .i64 j ∧ Fr (fun _ => False) w9 wr) (fun _ i _ => edits.length - (intOf i).toNat)
    case atStart => exact ⟨0, by omega, by simp, rfl, Fr.refl _ _⟩
    case round =>
      obtain ⟨j, hj, rfl, rfl, fr⟩ := hrel
      have FR := hid fr
      have q5 : wr.cell? ⟨d, 5, none⟩ = some (.slice a3 edits.length c3) := (HBW.out _ (J9.out.trans fr (fun _ h _ => h))).cell 5
      clear fr
      have HLA := hid (show ((edits.take j).flatMap E.bytes).length ≤ 405 * edits.length from Nat.le_trans (flat_le E.bytes 405 _ (fun x hx => ebytes_le x (HALL.out x (List.mem_of_mem_take hx)))) (Nat.mul_le_mul_left _ (by rw [List.length_take]; omega)))
      by_cases hjl : j < edits.length
      · obtain ⟨g, o, rfl, hg, q0, q1, q2⟩ := sl_three (f := E.cells) ecells_len (HV.out.fre (G9.out.trans FR.out (fun _ h _ => h))).e hjl
        have HT := hid (take_flat edits E.bytes j hjl)
        have hright := HALL.out edits[j] (List.getElem_mem hjl)
        obtain ⟨pn, sn, hp, hs, hp1, hs1, hil⟩ := edit_parts hright
        obtain ⟨x, hx⟩ : ∃ x, x = edits[j] := ⟨_, rfl⟩
        rw [← hx] at hp hs hil q0 q1 q2 HT
        clear hx hright
        obtain ⟨page, slot, item⟩ := x
        dsimp only at hp hs hil
        subst hp hs
        simp only [E.cells, List.getElem?_cons_zero, List.getElem?_cons_succ] at q0 q1 q2
        have i1 : (0 : Int) ≤ (j : Int) := by omega
        have i2 : (j : Int) < edits.length := by omega
        have s1 : (0 : Int) ≤ sn := by omega
        have s2 : (sn : Int) ≤ 24 := by omega
        have HEB := hid (show E.bytes ⟨pn, (sn : Int) - 1, item⟩ = be 2 pn ++ be 1 sn ++ text item from by
          unfold E.bytes
          dsimp only
          rw [show ((sn : Int) - 1 + 1).toNat = sn by omega, Int.toNat_natCast])
        have HES := hid (show EdS wr.drew g (o + j * 3) d pn ((sn : Int) - 1) item (.slice (some ⟨g, o, none⟩) edits.length c3) from EdS.fre ⟨q0, q1, q2, q5⟩ (Fr.refl _ _).drew)
        have hla := HLA.out
        have hb := HHB.out
        obtain ⟨l0, hl0⟩ : ∃ l0, l0 = m5 ++ (edits.take j).flatMap E.bytes := ⟨_, rfl⟩
        have hll : l0.length ≤ 30000 := by rw [hl0, List.length_append]; omega
        rw [← hl0]
        have HL0 := hid hl0
        have hbp := be_length 2 pn (by omega)
        have hbs := be_length 1 sn (by omega)
        have hti := text_len item
        have HNP := hid (fun w => rNum_go pn 2 (by omega) (by omega) w)
        have HNS := hid (fun w => rNum_go sn 1 (by omega) (by omega) w)
        have HTI := hid (fun w => rtext_go item (by omega) w)
        generalize be 2 pn = bp at *
        generalize be 1 sn = bz at *
        generalize text item = ti at *
        obtain ⟨n1, hn1, hk1, hadd1⟩ := add_is l0 bp (by omega)
        obtain ⟨n2, hn2, hk2, hadd2⟩ := add_is n1 bz (by omega)
        obtain ⟨n3, hn3, hk3, hadd3⟩ := add_is n2 ti (by omega)
        have HN3 := hid (show n3 = m5 ++ (List.take (j + 1) edits).flatMap E.bytes from by rw [HT.out, HEB.out, hn3.out, hn2.out, hn1.out, HL0.out]; simp only [List.append_assoc])
        clear hl0 hla hb hk1 hk2 hk3 hbp hbs hti hll hn1 hn2 hn3 HT HEB HL0 q0 q1 q2
        go_upto_region 7 with fail
        clear q5
        have FD := hid FR.out.drew
        refine wp_region_scr (.take 0 (.take 1 (.take 2 (.take 3 (.take 4 (.take 5 (.take 6 (.take 9 (.take 10 (.take 11 (.take 12 (.take 13 (.take 14 (.take 15 (.take 18 (.take 19 (.take 20 (.take 21 (.take 22 (.take 23 (.op 7 (.take 8 (.op 16 (.take 17 (.op 24 (.take 25 (.take 26 .done))))))))))))))))))))))))))) (fun kz w => (kz ≤ 26 → EdS w g (o + j * 3) d pn ((sn : Int) - 1) item (.slice (some ⟨g, o, none⟩) edits.length c3)) ∧ True) (by kernel_rfl) (by kernel_rfl) (by intro c a d v w h; cases d <;> exact h) ?_
        repeat
          first
          | (refine wpT_pure rfl rfl rfl ?_; apply Exists.intro; refine ⟨?_, ?_⟩; intro w; (first | (obtain ⟨z0, z1, z2, z3⟩ := qa; go_simp <;> rfl) | (go_simp <;> rfl)); simp only [Act.put, List.setIfInBounds_toArray, List.set_cons_zero, List.set_cons_succ])
          | (refine wpT_take 26 rfl rfl (by decide +kernel) ⟨fun _ => HES.out, trivial⟩ ?_; apply Exists.intro; refine ⟨?_, ?_⟩; intro w hw; (have qa := hw.1 (Nat.le_refl _); have qb := hw.2); (first | (obtain ⟨z0, z1, z2, z3⟩ := qa; go_simp <;> rfl) | (go_simp <;> rfl)); simp only [Act.put, List.setIfInBounds_toArray, List.set_cons_zero, List.set_cons_succ])
          | (refine wpT_skip rfl rfl ?_; simp only [Act.put, List.setIfInBounds_toArray, List.set_cons_zero, List.set_cons_succ])
        refine wpT_op rfl ?_
        go_wp2_with ((go_at_call 45; refine (HNP.out _).mono ?_; rintro e w2 ⟨rfl, f⟩; have FD2 := hid (FD.out.trans f (fun _ h _ => h)); have HES2 := hid (EdS.fre HES.out f); clear f))
        (refine ⟨?_, ?_⟩; focus (intro kz hk hk2 hh; first | (exfalso; simp at hk2; omega) | exact hh | exact (fun h => absurd h (by omega)) | obtain ⟨qa, qb⟩ := hh; first | exact ⟨qa, qb⟩ | (refine ⟨fun h => absurd h (by omega), ?_⟩; first | exact qb | (exact HES2.out)) | (refine ⟨fun h => ?_, ?_⟩; (have qa := qa h); all_goals (first | exact qa | exact qb | (exact HES2.out)))))
        repeat
          first
          | (refine wpT_pure rfl rfl rfl ?_; apply Exists.intro; refine ⟨?_, ?_⟩; intro w; (first | (obtain ⟨z0, z1, z2, z3⟩ := qa; go_simp <;> rfl) | (go_simp <;> rfl)); simp only [Act.put, List.setIfInBounds_toArray, List.set_cons_zero, List.set_cons_succ])
          | (refine wpT_take 26 rfl rfl (by decide +kernel) ⟨fun _ => HES2.out, trivial⟩ ?_; apply Exists.intro; refine ⟨?_, ?_⟩; intro w hw; (have qa := hw.1 (Nat.le_refl _); have qb := hw.2); (first | (obtain ⟨z0, z1, z2, z3⟩ := qa; go_simp <;> rfl) | (go_simp <;> rfl)); simp only [Act.put, List.setIfInBounds_toArray, List.set_cons_zero, List.set_cons_succ])
          | (refine wpT_skip rfl rfl ?_; simp only [Act.put, List.setIfInBounds_toArray, List.set_cons_zero, List.set_cons_succ])
        refine wpT_op rfl ?_
        go_wp2_with ((go_at_call 45; refine (HNS.out _).mono ?_; rintro e w3 ⟨rfl, f⟩; have FD3 := hid (FD2.out.trans f (fun _ h _ => h)); have HES3 := hid (EdS.fre HES2.out f); clear f))
        (refine ⟨?_, ?_⟩; focus (intro kz hk hk2 hh; first | (exfalso; simp at hk2; omega) | exact hh | exact (fun h => absurd h (by omega)) | obtain ⟨qa, qb⟩ := hh; first | exact ⟨qa, qb⟩ | (refine ⟨fun h => absurd h (by omega), ?_⟩; first | exact qb | (exact HES3.out)) | (refine ⟨fun h => ?_, ?_⟩; (have qa := qa h); all_goals (first | exact qa | exact qb | (exact HES3.out)))))
        repeat
          first
          | (refine wpT_pure rfl rfl rfl ?_; apply Exists.intro; refine ⟨?_, ?_⟩; intro w; (first | (obtain ⟨z0, z1, z2, z3⟩ := qa; go_simp <;> rfl) | (go_simp <;> rfl)); simp only [Act.put, List.setIfInBounds_toArray, List.set_cons_zero, List.set_cons_succ])
          | (refine wpT_take 26 rfl rfl (by decide +kernel) ⟨fun _ => HES3.out, trivial⟩ ?_; apply Exists.intro; refine ⟨?_, ?_⟩; intro w hw; (have qa := hw.1 (Nat.le_refl _); have qb := hw.2); (first | (obtain ⟨z0, z1, z2, z3⟩ := qa; go_simp <;> rfl) | (go_simp <;> rfl)); simp only [Act.put, List.setIfInBounds_toArray, List.set_cons_zero, List.set_cons_succ])
          | (refine wpT_skip rfl rfl ?_; simp only [Act.put, List.setIfInBounds_toArray, List.set_cons_zero, List.set_cons_succ])
        refine wpT_op rfl ?_
        go_wp2_with ((go_at_call 46; refine (HTI.out _).mono ?_; rintro e w4 ⟨rfl, f⟩; have FD4 := hid (FD3.out.trans f (fun _ h _ => h)); have HES4 := hid (EdS.fre HES3.out f); clear f))
        (refine ⟨?_, ?_⟩; focus (intro kz hk hk2 hh; first | (exfalso; simp at hk2; omega) | exact hh | exact (fun h => absurd h (by omega)) | obtain ⟨qa, qb⟩ := hh; first | exact ⟨qa, qb⟩ | (refine ⟨fun h => absurd h (by omega), ?_⟩; first | exact qb | (exact HES4.out)) | (refine ⟨fun h => ?_, ?_⟩; (have qa := qa h); all_goals (first | exact qa | exact qb | (exact HES4.out)))))
        repeat
          first
          | (refine wpT_pure rfl rfl rfl ?_; apply Exists.intro; refine ⟨?_, ?_⟩; intro w; (first | (obtain ⟨z0, z1, z2, z3⟩ := qa; go_simp <;> rfl) | (go_simp <;> rfl)); simp only [Act.put, List.setIfInBounds_toArray, List.set_cons_zero, List.set_cons_succ])
          | (refine wpT_take 26 rfl rfl (by decide +kernel) ⟨fun _ => HES4.out, trivial⟩ ?_; apply Exists.intro; refine ⟨?_, ?_⟩; intro w hw; (have qa := hw.1 (Nat.le_refl _); have qb := hw.2); (first | (obtain ⟨z0, z1, z2, z3⟩ := qa; go_simp <;> rfl) | (go_simp <;> rfl)); simp only [Act.put, List.setIfInBounds_toArray, List.set_cons_zero, List.set_cons_succ])
          | (refine wpT_skip rfl rfl ?_; simp only [Act.put, List.setIfInBounds_toArray, List.set_cons_zero, List.set_cons_succ])
        refine wpT_nil ?_
        clear HES HES2 HES3 HES4
        go_wp2_with (fail)
        go_roundw
        case rel => exact ⟨j + 1, by omega, by rw [HN3.out], by go_num, FD4.out⟩
        case measure => simp [intOf]; omega
      · obtain rfl : j = edits.length := by omega
        rw [List.take_length] at HLA ⊢
        have hla := HLA.out
        have hb := HHB.out
        have hbl := HBL.out
        obtain ⟨l0, hl0⟩ : ∃ l0, l0 = m5 ++ edits.flatMap E.bytes := ⟨_, rfl⟩
        have hll : l0.length ≤ 30000 := by rw [hl0, List.length_append]; omega
        rw [← hl0]
        have HL0 := hid hl0
        obtain ⟨l1, hl1, hk1, hadd1⟩ := add_is l0 b5 (by omega)
        have HLL1 := hid (show l1.length ≤ 30001 from by omega)
        have q6 : wr.cell? ⟨d, 6, none⟩ = some (.slice a4 xids.length c4) := (HBW.out _ (J9.out.trans FR.out (fun _ h _ => h))).cell 6
        clear hl0 hla hb hbl hll hk1 HALL HLA
        have HNX := HN5
        go_wp2_with (go_at_call 45; refine (HNX.out _).mono ?_; rintro e w3 ⟨rfl, f⟩; have J3 := hid ((J9.out.trans FR.out (fun _ h _ => h)).trans f (fun _ h _ => h)); clear f)
        clear q5 q6 FR
        go_loopw [3, 5] (fun s i wr => ∃ j : Nat, j ≤ xids.length ∧ s = .string (bs (l1 ++ (xids.take j).flatMap fun x => be 1 x.toNat)) ∧ i = .int .i64 j ∧ Fr (fun _ => False) w1 wr) (fun _ i _ => xids.length - (intOf i).toNat)
        case atStart => exact ⟨0, by omega, by simp, rfl, J3.out⟩
        case round =>
          obtain ⟨j, hj, rfl, rfl, fr⟩ := hrel
          have FR := hid fr
          have q6 : wr.cell? ⟨d, 6, none⟩ = some (.slice a4 xids.length c4) := (HBW.out _ fr).cell 6
          have q7 : wr.cell? ⟨d, 7, none⟩ = some (.string (bs note)) := (HBW.out _ fr).cell 7
          clear fr
          have hla : ((xids.take j).flatMap fun x => be 1 x.toNat).length ≤ 1 * xids.length := Nat.le_trans (flat_le (fun x : Int => be 1 x.toNat) 1 _ (fun x _ => Nat.le_of_eq (be_length _ _ (by omega)))) (Nat.mul_le_mul_left _ (by rw [List.length_take]; omega))
          have hll := HLL1.out
          by_cases hjl : j < xids.length
          · clear q7
            obtain ⟨g, o, rfl, hg, hcell⟩ := sl_cell1 (f := icell) icell_len (HV.out.fre (F2.out.trans FR.out (fun _ h _ => h))).x (fun h => by subst h; cases hjl)
            have q0 := hcell j hjl
            have HT := hid (take_flat xids (fun x => be 1 x.toNat) j hjl)
            obtain ⟨hx1, hx2⟩ := HXA.out xids[j] (List.getElem_mem hjl)
            obtain ⟨xn, hxn⟩ : ∃ xn : Nat, xids[j] = xn := ⟨xids[j].toNat, by omega⟩
            rw [hxn] at q0 HT hx1 hx2
            simp only [icell, List.getElem?_cons_zero] at q0
            have i1 : (0 : Int) ≤ (j : Int) := by omega
            have i2 : (j : Int) < xids.length := by omega
            rw [Int.toNat_natCast] at HT
            clear hcell hxn
            have HNY := hid (fun w => rNum_go xn 1 (by omega) (by omega) w)
            have hbx := be_length 1 xn (by omega)
            generalize be 1 xn = bx at *
            obtain ⟨l2, hl2⟩ : ∃ l2, l2 = l1 ++ (xids.take j).flatMap (fun x : Int => be 1 x.toNat) := ⟨_, rfl⟩
            have hl2l : l2.length ≤ 30100 := by rw [hl2, List.length_append]; omega
            rw [← hl2]
            obtain ⟨l3, hl3, hk3, hadd3⟩ := add_is l2 bx (by omega)
            have HL3 := hid (show l3 = l1 ++ (List.take (j + 1) xids).flatMap (fun x : Int => be 1 x.toNat) from by rw [HT.out, hl3.out, hl2, List.append_assoc])
            clear hl2 hl3 hk3 HT hla hll hbx hl2l hadd1
            go_wp2_with (go_at_call 45; refine (HNY.out _).mono ?_; rintro e w4 ⟨rfl, f⟩; have FY := hid (FR.out.trans f (fun _ h _ => h)); clear f)
            go_roundw
            case rel => exact ⟨j + 1, by omega, by rw [HL3.out], by go_num, FY.out⟩
            case measure => simp [intOf]; omega
          · obtain rfl : j = xids.length := by omega
            rw [List.take_length] at hla ⊢
            obtain ⟨l2, hl2⟩ : ∃ l2, l2 = l1 ++ xids.flatMap (fun x : Int => be 1 x.toNat) := ⟨_, rfl⟩
            have hl2l : l2.length ≤ 30100 := by rw [hl2, List.length_append]; omega
            have hbl := HBL.out
            rw [← hl2]
            obtain ⟨l3, hl3, hk3, hadd3⟩ := add_is l2 tno (by omega)
            have HFIN := hid (show l3 = R.raw ⟨kn, xn, tn, old, new, edits, xids, note⟩ from by rw [HRAW.out, hl3.out, hl2, hl1.out, HL0.out])
            clear hl2 hl3 hk3 hla hll hl2l hadd1 hbl
            go_wp2_with (go_at_call 46; refine (HTT.out _).mono ?_; rintro e w4 ⟨rfl, f⟩; have FY := hid (FR.out.trans f (fun _ h _ => h)); clear f)
            go_ret
            exact ⟨by rw [← HFIN.out]; rfl, F2.out.trans FY.out (fun _ h _ => h)⟩
set_option maxRecDepth 20000 in
theorem r4Frame_go {P : Nat → Prop} {w : World} {r : R} {vo vn ve vx : Value} (h : RV P w r vo vn ve vx) : Calls Try.prog 20 #[.agg (rv r vo vn ve vx).toArray] w fun e w' => e = .returned (.string (bs (frame r))) ∧ Fr (fun _ => False) w w' := by
  obtain ⟨a1, c1, a2, c2, a3, c3, a4, c4, rfl, rfl, rfl, rfl⟩ := h.slices
  have HRR := hid (fun w' (f : Fr (fun _ => False) w w') => r4Right_go (h.fre f))
  have HRB := hid (fun w' (f : Fr (fun _ => False) w w') => r4Bytes_go (h.fre f))
  clear h
  have B0 := hid (Blk.new w (rv r (.slice a1 r.old.length c1) (.slice a2 r.new.length c2) (.slice a3 r.edits.length c3) (.slice a4 r.xids.length c4)) 27)
  have F0 := hid ((Fr.refl (fun _ => False) w).alloc (.cells (rv r (.slice a1 r.old.length c1) (.slice a2 r.new.length c2) (.slice a3 r.edits.length c3) (.slice a4 r.xids.length c4)).toArray 27))
  unfold frame
  unfold R.bytes at HRB
  cases hr : r.right with
  | false =>
    rw [hr] at HRR
    clear hr HRB
    unfold rv at *
    go_enter Try.func20, Try.ntmps20
    go_wp2_with (go_at_call 16; refine (HRR.out _ F0.out).mono ?_; rintro e w1 ⟨rfl, f1⟩; have F2 := hid (F0.out.trans f1 (fun _ h _ => h)))
    go_ret
    exact ⟨rfl, F2.out⟩
  | true =>
    have hle := raw_le hr
    rw [hr] at HRR HRB
    rw [if_pos rfl] at HRB
    rw [if_pos rfl]
    clear hr
    have hsl := sum_lt (R.raw r)
    generalize R.raw r = l at *
    have e1 := bs_size l
    unfold rv at *
    have s1 : (0 : Int) ≤ sum l := by omega
    have s2 : (sum l : Int) < 4294967296 := by omega
    have HSU := hid (fun w => rSum_go l (by omega) w)
    have HPS : Hid (∀ w, Calls Try.prog 45 #[.int .i64 ((sum l : Nat) : Int), .int .i64 4] w fun e w' => e = .returned (.string (bs (be 4 (sum l)))) ∧ Fr (fun _ => False) w w') := hid (fun w => rNum_go (sum l) 4 (by omega) (by omega) w)
    have HPL : Hid (∀ w, Calls Try.prog 45 #[.int .i64 ((l.length : Nat) : Int), .int .i64 4] w fun e w' => e = .returned (.string (bs (be 4 l.length))) ∧ Fr (fun _ => False) w w') := hid (fun w => rNum_go l.length 4 (by omega) (by omega) w)
    have hb1 := be_length 4 l.length (by omega)
    have hb2 := be_length 4 (sum l) (by omega)
    generalize sum l = sm at *
    obtain ⟨bl, hbl⟩ : ∃ bl, bl = be 4 l.length := ⟨_, rfl⟩
    obtain ⟨bm, hbm⟩ : ∃ bm, bm = be 4 sm := ⟨_, rfl⟩
    rw [← hbl] at HPL hb1 ⊢
    rw [← hbm] at HPS hb2 ⊢
    clear hbl hbm
    obtain ⟨m1, hm1, hl1, hadd1⟩ := add_is bl bm (by omega)
    obtain ⟨m2, hm2, hl2, hadd2⟩ := add_is m1 l (by omega)
    clear hl1 hl2 hb1 hb2
    go_enter Try.func20, Try.ntmps20
    go_wp2_with (first
      | (go_at_call 16; refine (HRR.out _ F0.out).mono ?_; rintro e w1 ⟨rfl, f1⟩; have F2 := hid (F0.out.trans f1 (fun _ h _ => h)); have B2 := hid (B0.out.fr f1 (fun h => h)); clear f1; have q0 := B2.out.cell 0; have q1 := B2.out.cell 1; have q2 := B2.out.cell 2; have q3 := B2.out.cell 3; have q4 := B2.out.cell 4; have q5 := B2.out.cell 5; have q6 := B2.out.cell 6; have q7 := B2.out.cell 7)
      | (go_at_call 18; refine (HRB.out _ F2.out).mono ?_; rintro e w3 ⟨rfl, f3⟩; have F3 := hid (F2.out.trans f3 (fun _ h _ => h)); clear f3)
      | (go_at_call 45; (with_reducible refine (HPS.out _).mono ?_); rintro e w6 ⟨rfl, f6⟩; have F6 := hid (F5.out.trans f6 (fun _ h _ => h)); clear f6)
      | (go_at_call 45; (with_reducible refine (HPL.out _).mono ?_); rintro e w4 ⟨rfl, f4⟩; have F4 := hid (F3.out.trans f4 (fun _ h _ => h)); clear f4)
      | (go_at_call 50; refine (HSU.out _).mono ?_; rintro e w5 ⟨rfl, f5⟩; have F5 := hid (F4.out.trans f5 (fun _ h _ => h)); clear f5))
    go_ret
    exact ⟨by rw [← hm1.out, ← hm2.out]; rfl, F6.out⟩
end Go.Proofs.Ytfhkmiifndhacaa
