import Derived.Test.YtknpncpoojjbfaaDoorVR
/- The reference's Key. -/
set_option linter.unusedVariables false
namespace Go.VB.Rec
open Go.VB.Oct
theorem be8_list (n : Nat) : be8 n = [UInt8.ofNat (n / 72057594037927936), UInt8.ofNat (n / 281474976710656), UInt8.ofNat (n / 1099511627776), UInt8.ofNat (n / 4294967296), UInt8.ofNat (n / 16777216), UInt8.ofNat (n / 65536), UInt8.ofNat (n / 256), UInt8.ofNat (n / 1)] := rfl
/-- the highest bit turned -/
theorem be8_top (x : Nat) (hx : x < 18446744073709551616) : ∃ (z : Nat) (t : List UInt8), z < 256 ∧ t.length = 7 ∧ be8 x = UInt8.ofNat z :: t ∧ be8 ((x + 9223372036854775808) % 18446744073709551616) = UInt8.ofNat (z ^^^ 128) :: t := by
  have hx128 : ∀ z : Nat, z < 256 → z ^^^ 128 = (z + 128) % 256 := by decide +kernel
  have key : ∀ a b : Nat, a % 256 = b % 256 → UInt8.ofNat a = UInt8.ofNat b := fun a b h => by
    apply UInt8.toNat_inj.1
    rw [UInt8.toNat_ofNat', UInt8.toNat_ofNat']
    exact h
  rw [be8_list, be8_list]
  refine ⟨x / 72057594037927936, _, by omega, rfl, rfl, ?_⟩
  rw [hx128 _ (by omega)]
  simp only [List.cons.injEq, and_true]
  refine ⟨key _ _ (by omega), key _ _ (by omega), key _ _ (by omega), key _ _ (by omega), key _ _ (by omega), key _ _ (by omega), key _ _ (by omega), key _ _ (by omega)⟩
theorem xor128 : ∀ z : Nat, z < 256 → bits .xor .i64 (z : Int) 128 = ((z ^^^ 128 : Nat) : Int) ∧ z ^^^ 128 < 256 := by decide +kernel
end Go.VB.Rec
namespace Go.Proofs.YtknpncpoojjbfaaDoor
open Go.RowKit Go.VB Go.VB.Oct Go.VB.Rec
set_option maxRecDepth 20000 in
set_option maxHeartbeats 4000000 in
theorem r2Key_go {R : Nat → Prop} {w : World} {va : Value} {r : List V} (h : Sl R w va r.length (r.flatMap V.cells)) (hn : r.length ≤ 1099511627776) : Calls Tryd.prog 21 #[va] w fun e w' => e = .returned (.string (bs (rowKey r))) ∧ Fr (fun _ => False) w w' := by
  have HRR := hid (RightRow_go h hn)
  obtain ⟨a, c, rfl, hc, hx⟩ := h
  have HX := hid (show Sl R w (.slice a r.length c) r.length (r.flatMap V.cells) from ⟨a, c, rfl, hc, hx⟩)
  clear hx
  unfold rowKey
  cases hr : row r with
  | false =>
    rw [hr] at HRR
    clear hr
    go_enter Tryd.func21, Tryd.ntmps21
    go_wp2_with (go_at_call 42; refine HRR.out.mono ?_; rintro e w1 ⟨rfl, f⟩)
    go_ret
    exact ⟨rfl, f⟩
  | true =>
    rw [hr] at HRR
    have HR := hid hr
    clear hr
    rw [if_pos rfl]
    have hl6 := (row_parts HR.out).1
    go_enter Tryd.func21, Tryd.ntmps21
    go_wp2_with (go_at_call 42; refine HRR.out.mono ?_; rintro e w1 ⟨rfl, f⟩; have F1 := hid f; clear f)
    clear HRR
    go_loopw [3, 4] (fun s3 i wr => ∃ j : Nat, j ≤ r.length ∧ s3 = .string (bs ((r.take j).flatMap V.key)) ∧ i = .int .i64 j ∧ Fr (fun _ => False) w wr) (fun _ i _ => r.length - (intOf i).toNat)
    case atStart => exact ⟨0, by omega, by rfl, rfl, F1.out⟩
    case round =>
      obtain ⟨j, hj, rfl, rfl, fr⟩ := hrel
      have FR := hid fr
      clear fr
      have HLA := hid (show ((r.take j).flatMap V.key).length ≤ 498 from ksum_le _ (fun x hx => by
        obtain ⟨i, hi, rfl⟩ := List.getElem_of_mem (List.mem_of_mem_take hx)
        exact row_right HR.out hi) (by rw [List.length_take]; omega))
      by_cases hjl : j < r.length
      · obtain ⟨g, o, rfl, hg, q0, q1, q2⟩ := sl_three (f := V.cells) vcells_len (HX.out.fr FR.out (fun _ _ h => h)) hjl
        have HT := hid (take_flat r V.key j hjl)
        have hright := row_right HR.out hjl
        obtain ⟨v, hv⟩ : ∃ v, v = r[j] := ⟨_, rfl⟩
        rw [← hv] at q0 q1 q2 HT hright
        clear hv
        obtain ⟨k, n, s⟩ := v
        have hlj := HLA.out
        generalize (r.take j).flatMap V.key = L at *
        simp only [V.cells, List.getElem?_cons_zero, List.getElem?_cons_succ] at q0 q1 q2
        have i1 : (0 : Int) ≤ (j : Int) := by omega
        have i2 : (j : Int) < r.length := by omega
        rcases right_kind hright with hk | hk | ⟨hk, hs⟩
        · dsimp only at hk
          subst hk
          have HB := hid (show V.key ⟨0, n, s⟩ = [1] from rfl)
          have HO0 : Hid (∀ w, Calls Tryd.prog 43 #[.int .i64 1] w fun e w' => e = .returned (.string (bs [1])) ∧ Fr (fun _ => False) w w') := hid (fun w => rone_go 1 (by omega) w)
          obtain ⟨m1, hm1, hl1, hadd1⟩ := add_is L [1] (by simp; omega)
          clear hl1 hlj hright hc
          go_wp2_with (go_at_call 43; refine (HO0.out _).mono ?_; rintro e w3 ⟨rfl, f⟩; have F3 := hid (FR.out.trans f (fun _ h _ => h)); have q0 := cell_fr q0 f (fun h => h); clear f)
          go_roundw
          case rel => exact ⟨j + 1, by omega, by rw [HT.out, HB.out, hm1.out], by simp, F3.out⟩
          case measure => simp [intOf]; omega
        · dsimp only at hk
          subst hk
          obtain ⟨z, t, hz, ht, hb1, hb2⟩ := be8_top (word n) (word_lt n)
          obtain ⟨hx1, hx2⟩ := xor128 z hz
          have HB := hid (show V.key ⟨1, n, s⟩ = [2] ++ (UInt8.ofNat (z ^^^ 128) :: t) from by unfold V.key; simp [hb2])
          have HO0 : Hid (∀ w, Calls Tryd.prog 43 #[.int .i64 2] w fun e w' => e = .returned (.string (bs [2])) ∧ Fr (fun _ => False) w w') := hid (fun w => rone_go 2 (by omega) w)
          have HO1 := hid (fun w => rone_go (z ^^^ 128) hx2 w)
          have HW := hid (fun w => rwhole_go n w)
          obtain ⟨l8, hl8⟩ : ∃ l8, l8 = UInt8.ofNat z :: t := ⟨_, rfl⟩
          rw [hb1, ← hl8] at HW
          have hsz : (bs l8).size = 8 := by rw [bs_size, hl8]; simp [ht]
          have hz0 : ((bs l8)[0]'(by rw [hsz]; decide)).toNat = z := by
            subst hl8
            exact bs_get (UInt8.ofNat z :: t) (j := 0) (by simp) (k := z) (by simp; omega)
          have hex : (bs l8).extract 1 8 = bs t := by
            rw [hl8]
            apply ByteArray.ext
            simp [bs, List.take_of_length_le (Nat.le_of_eq ht)]
          clear hb1 hb2 hl8
          generalize z ^^^ 128 = y at *
          have HX1 := hid hx1
          have HWZ := hid (show IntKind.i64.wrap (z : Int) = (z : Int) from by rw [IntKind.wrap_i64]; omega)
          clear hx1
          obtain ⟨m1, hm1, hl1, hadd1⟩ := add_is L [2] (by simp; omega)
          obtain ⟨m2, hm2, hl2, hadd2⟩ := add_is m1 [UInt8.ofNat y] (by rw [hl1]; simp; omega)
          obtain ⟨m3, hm3, hl3, hadd3⟩ := add_is m2 t (by rw [hl2, hl1, ht]; simp; omega)
          clear hl1 hl2 hl3 hlj hright hc
          go_upto_region 10 with (first
            | (go_at_call 43; refine (HO0.out _).mono ?_; rintro e w3 ⟨rfl, f⟩; have F3 := hid (FR.out.trans f (fun _ h _ => h)); have q0 := cell_fr q0 f (fun h => h); have q1 := cell_fr q1 f (fun h => h); clear f)
            | (go_at_call 44; refine (HW.out _).mono ?_; rintro e w4 ⟨rfl, f⟩; have F4 := hid (F3.out.trans f (fun _ h _ => h)); have q0 := cell_fr q0 f (fun h => h); clear f))
          have HQ0 := hid q0
          clear q0 q1 q2
          refine wp_region_scr (.take 0 (.take 1 (.take 2 (.take 3 (.take 4 (.take 7 (.take 8 (.op 5 (.take 6 (.take 9 (.take 10 .done))))))))))) (fun kz w => (kz ≤ 11 → True) ∧ True) (by kernel_rfl) (by kernel_rfl) (by intro c a d v w h; cases d <;> exact h) ?_
          repeat
            first
            | (refine wpT_pure rfl rfl rfl ?_; apply Exists.intro; refine ⟨?_, ?_⟩; intro w; (first | (first | (refine Eq.trans (b := Result.ok (Next.value (.int .i64 (z : Int))) w) ?_ rfl; go_simp; first | done | exact HWZ.out | rw [HWZ.out]) | (refine Eq.trans (b := Result.ok (Next.value (.int .i64 (y : Int))) w) ?_ rfl; go_simp; first | done | exact HX1.out | rw [HX1.out]) | (go_simp <;> rfl)) | (go_simp <;> rfl)); simp only [Act.put, List.setIfInBounds_toArray, List.set_cons_zero, List.set_cons_succ])
            | (refine wpT_take 11 rfl rfl (by decide +kernel) ⟨fun _ => trivial, trivial⟩ ?_; apply Exists.intro; refine ⟨?_, ?_⟩; intro w hw; (have qa := hw.1 (Nat.le_refl _); have qb := hw.2); (first | (first | (refine Eq.trans (b := Result.ok (Next.value (.int .i64 (z : Int))) w) ?_ rfl; go_simp; first | done | exact HWZ.out | rw [HWZ.out]) | (refine Eq.trans (b := Result.ok (Next.value (.int .i64 (y : Int))) w) ?_ rfl; go_simp; first | done | exact HX1.out | rw [HX1.out]) | (go_simp <;> rfl)) | (go_simp <;> rfl)); simp only [Act.put, List.setIfInBounds_toArray, List.set_cons_zero, List.set_cons_succ])
            | (refine wpT_skip rfl rfl ?_; simp only [Act.put, List.setIfInBounds_toArray, List.set_cons_zero, List.set_cons_succ])
          refine wpT_op rfl ?_
          go_wp2_with ((go_at_call 43; refine (HO1.out _).mono ?_; rintro e w5 ⟨rfl, f⟩; have F5 := hid (F4.out.drew.trans f (fun _ h _ => h)); have q0 := cell_fr HQ0.out (((Fr.refl (fun _ => False) w4).drew).trans f (fun _ h _ => h)) (fun h => h); clear f))
          (refine ⟨?_, ?_⟩; focus (intro kz hk hk2 hh; first | (exfalso; simp at hk2; omega) | exact hh | exact (fun h => absurd h (by omega)) | obtain ⟨qa, qb⟩ := hh; first | exact ⟨qa, qb⟩ | (refine ⟨fun h => absurd h (by omega), ?_⟩; first | exact qb | (trivial)) | (refine ⟨fun h => ?_, ?_⟩; (have qa := qa h); all_goals (first | exact qa | exact qb | (trivial)))))
          repeat
            first
            | (refine wpT_pure rfl rfl rfl ?_; apply Exists.intro; refine ⟨?_, ?_⟩; intro w; ((go_simp <;> rfl)); simp only [Act.put, List.setIfInBounds_toArray, List.set_cons_zero, List.set_cons_succ])
            | (refine wpT_take 11 rfl rfl (by decide +kernel) ⟨fun _ => trivial, trivial⟩ ?_; apply Exists.intro; refine ⟨?_, ?_⟩; intro w hw; (have qa := hw.1 (Nat.le_refl _); have qb := hw.2); ((go_simp <;> rfl)); simp only [Act.put, List.setIfInBounds_toArray, List.set_cons_zero, List.set_cons_succ])
            | (refine wpT_skip rfl rfl ?_; simp only [Act.put, List.setIfInBounds_toArray, List.set_cons_zero, List.set_cons_succ])
          refine wpT_nil ?_
          go_wp2_with (fail)
          go_roundw
          case rel => exact ⟨j + 1, by omega, by rw [HT.out, HB.out, hm3.out, hm2.out, hm1.out]; simp, by simp, F5.out⟩
          case measure => simp [intOf]; omega
        · dsimp only at hk hs
          subst hk
          have HB := hid (show V.key ⟨2, n, s⟩ = [3] ++ esc 0 [0, 255] s ++ [0, 1] from by unfold V.key; simp)
          have HO0 : Hid (∀ w, Calls Tryd.prog 43 #[.int .i64 3] w fun e w' => e = .returned (.string (bs [3])) ∧ Fr (fun _ => False) w w') := hid (fun w => rone_go 3 (by omega) w)
          have HOF : Hid (∀ w, Calls Tryd.prog 43 #[.int .i64 255] w fun e w' => e = .returned (.string (bs [255])) ∧ Fr (fun _ => False) w w') := hid (fun w => rone_go 255 (by omega) w)
          have HOZ : Hid (∀ w, Calls Tryd.prog 43 #[.int .i64 0] w fun e w' => e = .returned (.string (bs [0])) ∧ Fr (fun _ => False) w w') := hid (fun w => rone_go 0 (by omega) w)
          have HOE : Hid (∀ w, Calls Tryd.prog 43 #[.int .i64 1] w fun e w' => e = .returned (.string (bs [1])) ∧ Fr (fun _ => False) w w') := hid (fun w => rone_go 1 (by omega) w)
          have e1 := bs_size s
          obtain ⟨m1, hm1, hl1, hadd1⟩ := add_is L [3] (by simp; omega)
          have hm1l : m1.length ≤ 600 := by rw [hl1]; simp; omega
          clear hl1 hlj hright hc
          go_upto_region 12 with (go_at_call 43; refine (HO0.out _).mono ?_; rintro e w3 ⟨rfl, f⟩; have F3 := hid (FR.out.trans f (fun _ h _ => h)); have Q2 := hid (cell_fr q2 f (fun h => h)); have q0 := cell_fr q0 f (fun h => h); clear f)
          have HQ0 := hid q0
          clear q0 q1 q2 hadd1
          go_wp2_with (fail)
          obtain ⟨wo, rfl⟩ : ∃ wo : World, wo = w3 := ⟨_, rfl⟩
          go_loopw [3, 6] (fun s3 i wr => ∃ k : Nat, k ≤ s.length ∧ s3 = .string (bs (m1 ++ esc 0 [0, 255] (s.take k))) ∧ i = .int .i64 k ∧ Fr (fun _ => False) wo wr) (fun _ i _ => s.length - (intOf i).toNat)
          case atStart => exact ⟨0, by omega, by simp [esc], rfl, Fr.refl _ _⟩
          case round =>
            obtain ⟨k, hk, rfl, rfl, fr⟩ := hrel
            have FY := hid fr
            clear fr
            have HES := hid (esc_len 0 [0, 255] (by simp) (s.take k))
            have hq2 : wr.cell? ⟨g, o + j * 3 + 2, none⟩ = some (.string (bs s)) := cell_fr Q2.out FY.out (fun h => h)
            have hel : (esc 0 [0, 255] (s.take k)).length ≤ 80 := by have := HES.out; rw [List.length_take] at this; omega
            by_cases hks : k < s.length
            · have i3 : (0 : Int) ≤ (k : Int) := by omega
              have i4 : (k : Int) < (s.length : Int) := by omega
              have i5 : (k : Int) + 1 ≤ (s.length : Int) := by omega
              have HTK := hid (show s.take (k + 1) = s.take k ++ [s[k]] from by rw [List.take_succ_eq_append_getElem hks])
              obtain ⟨x, hx⟩ : ∃ x : Nat, s[k].toNat = x := ⟨_, rfl⟩
              have hbx := bs_get s hks hx
              have hex : (bs s).extract k (k + 1) = bs [s[k]] := by
                have h1 : (s.drop k).take 1 = [s[k]] := by rw [List.drop_eq_getElem_cons hks]; rfl
                apply ByteArray.ext
                apply Array.toList_inj.1
                simp [bs, h1]
              have HX := hid hx
              generalize s[k] = cx at *
              obtain ⟨E, hE⟩ : ∃ E, esc 0 [0, 255] (s.take k) = E := ⟨_, rfl⟩
              rw [hE] at hel
              have HE := hid hE
              rw [hE]
              clear hE hx
              obtain ⟨m2, hm2, hl2, hadd2⟩ := add_is (m1 ++ E) [cx] (by simp; omega)
              by_cases hx0 : x = 0
              · have hxb : ((x : Int) == 0) = true := by rw [hx0]; rfl
                have hx1 : (x : Int) = 0 := by omega
                have hcx : cx = 0 := UInt8.toNat_inj.1 (by rw [HX.out, hx0]; rfl)
                have HCX := hid hcx
                clear HX hx0 hcx
                obtain ⟨m3, hm3, hl3, hadd3⟩ := add_is m2 [255] (by rw [hl2]; simp; omega)
                clear hl2 hl3
                go_wp2_with (go_at_call 43; refine (HOF.out _).mono ?_; rintro e w4 ⟨rfl, f⟩; have F4 := hid (FY.out.trans f (fun _ h _ => h)); clear f)
                go_roundw
                case rel => exact ⟨k + 1, by omega, by rw [HTK.out, esc_append, HE.out, hm3.out, hm2.out, HCX.out]; simp [esc], by simp, F4.out⟩
                case measure => simp [intOf]; omega
              · have hxb : ((x : Int) == 0) = false := by rw [beq_eq_false_iff_ne]; omega
                have hcx : ¬ cx = 0 := fun h => hx0 (by rw [← HX.out, h]; rfl)
                clear hl2
                go_wp2_with (fail)
                go_roundw
                case rel => exact ⟨k + 1, by omega, by rw [HTK.out, esc_append, HE.out, hm2.out]; simp [esc, hcx], by simp, FY.out⟩
                case measure => simp [intOf]; omega
            · obtain rfl : k = s.length := by omega
              rw [List.take_length] at *
              obtain ⟨E, hE⟩ : ∃ E, esc 0 [0, 255] s = E := ⟨_, rfl⟩
              rw [hE] at hel HB ⊢
              clear hE
              obtain ⟨m2, hm2, hl2, hadd2⟩ := add_is (m1 ++ E) [0] (by simp; omega)
              obtain ⟨m3, hm3, hl3, hadd3⟩ := add_is m2 [1] (by rw [hl2]; simp; omega)
              have i4 : ¬ (s.length : Int) < (s.length : Int) := by omega
              clear hl2 hl3
              go_wp2_with (first
                | (go_at_call 43; ((with_reducible refine (HOZ.out _).mono ?_); rintro e w4 ⟨rfl, f⟩; have F4 := hid (FY.out.trans f (fun _ h _ => h)); clear f))
                | (go_at_call 43; ((with_reducible refine (HOE.out _).mono ?_); rintro e w5 ⟨rfl, f⟩; have F5 := hid (F4.out.trans f (fun _ h _ => h)); clear f)))
              go_roundw
              case rel => exact ⟨j + 1, by omega, by rw [HT.out, HB.out, hm3.out, hm2.out, hm1.out]; simp, by simp, F3.out.trans F5.out (fun _ h _ => h)⟩
              case measure => simp [intOf]; omega
      · obtain rfl : j = r.length := by omega
        rw [List.take_length]
        go_wp2_with (fail)
        go_ret
        exact ⟨rfl, FR.out⟩
end Go.Proofs.YtknpncpoojjbfaaDoor
