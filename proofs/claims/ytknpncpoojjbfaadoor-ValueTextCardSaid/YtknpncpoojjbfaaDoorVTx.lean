import Derived.Test.YtknpncpoojjbfaaDoorVDg
/- The reference's Text. -/
set_option linter.unusedVariables false
namespace Go.Proofs.YtknpncpoojjbfaaDoor
open Go.RowKit Go.VB Go.VB.Oct Go.VB.Rec
theorem Digits_is (n : Int) (h0 : -9223372036854775808 ≤ n) (h1 : n ≤ 9223372036854775807) (w : World) : Calls Tryd.prog 57 #[.int .i64 n] w fun e w' => e = .returned (.string (bs (Lib.itoa n))) ∧ Fr (fun _ => False) w w' := by
  unfold Lib.itoa
  by_cases hn : n < 0
  · rw [if_pos hn]
    have h := DigitsN_go n.natAbs (by omega) (by omega) w
    rw [show -(n.natAbs : Int) = n by omega] at h
    exact h
  · rw [if_neg hn]
    have h := DigitsP_go n.toNat (by omega) w
    rw [show (n.toNat : Int) = n by omega] at h
    exact h
set_option maxRecDepth 20000 in
set_option maxHeartbeats 2000000 in
theorem r2Text_go (v : V) (hs : v.s.length ≤ 65536) (h0 : -9223372036854775808 ≤ v.n) (h1 : v.n ≤ 9223372036854775807) (w : World) : Calls Tryd.prog 35 #[vagg v] w fun e w' => e = .returned (.string (bs v.text)) ∧ Fr (fun _ => False) w w' := by
  have FA := hid ((Fr.refl (fun _ => False) w).alloc (.cells v.cells.toArray 28))
  have BA := hid (Blk.new w v.cells 28)
  have HD := hid (fun w => Digits_is v.n h0 h1 w)
  have htx : v.text = (if v.k = 0 then [110, 117, 108, 108] else if v.k = 1 then Lib.itoa v.n else if v.k = 2 then 39 :: esc 39 [39, 39] v.s ++ [39] else []) := rfl
  rw [htx]
  obtain ⟨k, n, s⟩ := v
  unfold vagg V.cells at *
  dsimp only at *
  clear htx
  by_cases k0 : k = 0
  · subst k0
    go_enter Tryd.func35, Tryd.ntmps35
    go_wp2_with (fail)
    go_ret
    exact ⟨rfl, FA.out⟩
  · by_cases k1 : k = 1
    · subst k1
      go_enter Tryd.func35, Tryd.ntmps35
      go_wp2_with (go_at_call 57; refine (HD.out _).mono ?_; rintro e w1 ⟨rfl, f⟩; have F1 := hid f; clear f)
      go_ret
      exact ⟨rfl, FA.out.trans F1.out (fun _ h _ => h)⟩
    · by_cases k2 : k = 2
      · subst k2
        rw [if_neg (by decide), if_neg (by decide), if_pos rfl]
        obtain ⟨z, hz⟩ : ∃ z, 39 :: esc 39 [39, 39] s ++ [39] = z := ⟨_, rfl⟩
        rw [hz]
        have HZ := hid hz
        clear hz
        have e1 := bs_size s
        clear k0 k1 HD
        go_enter Tryd.func35, Tryd.ntmps35
        go_upto_region 8 with fail
        generalize hp : w.heap.size = p at *
        have HP := hid hp
        clear hp
        generalize w.alloc _ = w1 at *
        go_wp2_with (fail)
        go_loopw [3, 4] (fun s3 i wr => ∃ k : Nat, k ≤ s.length ∧ s3 = .string (bs (39 :: esc 39 [39, 39] (s.take k))) ∧ i = .int .i64 k ∧ Fr (fun _ => False) w1 wr) (fun _ i _ => s.length - (intOf i).toNat)
        case atStart => exact ⟨0, by omega, by simp [esc, bs], rfl, Fr.refl _ _⟩
        case round =>
          obtain ⟨k, hk, rfl, rfl, fr⟩ := hrel
          have FY := hid fr
          clear fr
          have HES := hid (esc_len 39 [39, 39] (by simp) (s.take k))
          have hq2 : wr.cell? ⟨p, 2, none⟩ = some (.string (bs s)) := cell_fr (BA.out.cell 2) FY.out (fun h => h)
          have hel : (esc 39 [39, 39] (s.take k)).length ≤ 131072 := by have := HES.out; rw [List.length_take] at this; omega
          by_cases hks : k < s.length
          · have i3 : (0 : Int) ≤ (k : Int) := by omega
            have i4 : (k : Int) < (s.length : Int) := by omega
            have i5 : (k : Int) + 1 ≤ (s.length : Int) := by omega
            have HTK := hid (show s.take (k + 1) = s.take k ++ [s[k]] from by rw [List.take_succ_eq_append_getElem hks])
            obtain ⟨x, hx⟩ : ∃ x : Nat, s[k].toNat = x := ⟨_, rfl⟩
            have hbx := bs_get s hks hx
            have hex : (bs s).extract k (k + 1) = bs [s[k]] := by
              have h1 : (s.drop k).take 1 = [s[k]] := by rw [List.drop_eq_getElem_cons hks]; rfl
              apply ByteArray.ext
              apply Array.toList_inj.1
              simp [bs, h1]
            have HX := hid hx
            generalize s[k] = cx at *
            obtain ⟨E, hE⟩ : ∃ E, 39 :: esc 39 [39, 39] (s.take k) = E := ⟨_, rfl⟩
            have hEl : E.length ≤ 131073 := by rw [← hE, List.length_cons]; omega
            have HE := hid hE
            rw [hE]
            clear hE hx hel
            obtain ⟨m2, hm2, hl2, hadd2⟩ := add_is E [cx] (by simp; omega)
            by_cases hx0 : x = 39
            · have hxb : ((x : Int) == 39) = true := by rw [hx0]; rfl
              have hx1 : (x : Int) = 39 := by omega
              have hcx : cx = 39 := UInt8.toNat_inj.1 (by rw [HX.out, hx0]; rfl)
              have HCX := hid hcx
              have hadd3 : ∀ w : World, (Op.stringOp .add (bs m2) ⟨#[39]⟩).run Tryd.prog w = .ok (.string (bs (m2 ++ [39]))) w := fun w => run_add_bs (P := Tryd.prog) w m2 [39] (by rw [hl2]; simp; omega)
              clear HX hx0 hcx hl2
              go_wp2_with (fail)
              go_roundw
              case rel => exact ⟨k + 1, by omega, by rw [HTK.out, esc_append, ← List.cons_append, HE.out, hm2.out, HCX.out]; simp [esc], by simp, FY.out⟩
              case measure => simp [intOf]; omega
            · have hxb : ((x : Int) == 39) = false := by rw [beq_eq_false_iff_ne]; omega
              have hx1 : ¬ (x : Int) = 39 := by omega
              have hcx : ¬ cx = 39 := fun h => hx0 (by rw [← HX.out, h]; rfl)
              have HCX := hid hcx
              clear hl2 hcx
              go_wp2_with (fail)
              go_roundw
              case rel => exact ⟨k + 1, by omega, by rw [HTK.out, esc_append, ← List.cons_append, HE.out, hm2.out]; simp [esc, HCX.out], by simp, FY.out⟩
              case measure => simp [intOf]; omega
          · obtain rfl : k = s.length := by omega
            rw [List.take_length] at *
            obtain ⟨E, hE⟩ : ∃ E, 39 :: esc 39 [39, 39] s = E := ⟨_, rfl⟩
            have hEl : E.length ≤ 131073 := by rw [← hE, List.length_cons]; omega
            rw [hE]
            have HE := hid hE
            clear hE hel HES
            have i4 : ¬ (s.length : Int) < (s.length : Int) := by omega
            have hadd3 : ∀ w : World, (Op.stringOp .add (bs E) ⟨#[39]⟩).run Tryd.prog w = .ok (.string (bs (E ++ [39]))) w := fun w => run_add_bs (P := Tryd.prog) w E [39] (by simp; omega)
            go_wp2_with (fail)
            go_ret
            exact ⟨ret_bs (by rw [← HZ.out, ← HE.out]), FA.out.trans FY.out (fun _ h _ => h)⟩
      · have e0 : (k == 0) = false := by simpa using k0
        have e1 : (k == 1) = false := by simpa using k1
        have e2 : (k == 2) = false := by simpa using k2
        rw [if_neg k0, if_neg k1, if_neg k2]
        go_enter Tryd.func35, Tryd.ntmps35
        go_wp2_with (fail)
        go_ret
        exact ⟨rfl, FA.out⟩
end Go.Proofs.YtknpncpoojjbfaaDoor
