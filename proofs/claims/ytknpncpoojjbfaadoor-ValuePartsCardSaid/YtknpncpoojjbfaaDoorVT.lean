import Derived.Test.YtknpncpoojjbfaaDoorVK
import Derived.Lib.AppendIntMem
/- value.Text, value.Cut, value.Fits. -/
set_option linter.unusedVariables false
namespace Go.Proofs.YtknpncpoojjbfaaDoor
open Go.RowKit Go.VB Go.VB.Oct Go.VB.Rec
/-- the library's table of powers of ten -/
def Tb (w : World) : Prop := Lib.TabIs Tryd.prog w "internal/strconv.uint64pow10" .u64 Lib.pow10Tab
theorem pow_glob : Tryd.prog.globalNamed "internal/strconv.uint64pow10" = some 1 := by kernel_rfl
theorem Tb.fr {S : Nat → Prop} {w w' : World} (h : Tb w) (f : Fr S w w') (hS : ¬ S 1) : Tb w' := by
  unfold Tb Lib.TabIs World.var? at h ⊢
  rw [pow_glob] at h ⊢
  simp only [Option.bind_some] at h ⊢
  have hlt : 1 < w.heap.size := by
    cases hh : w.heap[1]? with
    | none => rw [hh] at h; cases h
    | some o => exact (Array.getElem?_eq_some_iff.1 hh).1
  rw [f.blk _ hlt hS]
  exact h
theorem Tb.fre {w w' : World} (h : Tb w) (f : Fr (fun _ => False) w w') : Tb w' := h.fr f (fun h => h)
theorem Format_go (n : Int) (h0 : -9223372036854775808 ≤ n) (h1 : n ≤ 9223372036854775807) {w : World} (T : Tb w) : Calls Tryd.prog 56 #[.int .i64 n, .int .i64 10] w fun e w' => e = .returned (.string (bs (Lib.itoa n))) ∧ Fr (fun _ => False) w w' := by
  refine (Tryd.strconv_FormatInt_10 n h0 h1 w T).mono ?_
  rintro e w' ⟨rfl, k, os, rfl⟩
  exact ⟨rfl, Fr.of_below (Lib.below_grow w.heap.size w (Nat.le_refl _) k os)⟩
set_option maxRecDepth 20000 in
theorem VText_go (v : V) (hs : v.s.length ≤ 65536) (h0 : -9223372036854775808 ≤ v.n) (h1 : v.n ≤ 9223372036854775807) {w : World} (T : Tb w) (M : Ml w) : Calls Tryd.prog 34 #[vagg v] w fun e w' => e = .returned (.string (bs v.text)) ∧ Fr (fun _ => False) w w' := by
  have FA := hid ((Fr.refl (fun _ => False) w).alloc (.cells v.cells.toArray 28))
  have HF := hid (Format_go v.n h0 h1 (T.fre FA.out))
  have HR := hid (Repl_go v.s hs 39 [39, 39] rfl (by simp) (M.fre FA.out))
  have HLE := hid (esc_len 39 [39, 39] (by simp) v.s)
  have htx : v.text = (if v.k = 0 then [110, 117, 108, 108] else if v.k = 1 then Lib.itoa v.n else if v.k = 2 then 39 :: esc 39 [39, 39] v.s ++ [39] else []) := rfl
  rw [htx]
  obtain ⟨k, n, s⟩ := v
  unfold vagg V.cells at *
  dsimp only at *
  clear htx
  by_cases k0 : k = 0
  · subst k0
    go_enter Tryd.func34, Tryd.ntmps34
    go_wp2_with (fail)
    go_ret
    exact ⟨rfl, FA.out⟩
  · by_cases k1 : k = 1
    · subst k1
      go_enter Tryd.func34, Tryd.ntmps34
      go_wp2_with (go_at_call 56; refine HF.out.mono ?_; rintro e w1 ⟨rfl, f⟩; have F1 := hid f; clear f)
      go_ret
      exact ⟨rfl, FA.out.trans F1.out (fun _ h _ => h)⟩
    · by_cases k2 : k = 2
      · subst k2
        generalize hes : esc 39 [39, 39] s = es at *
        have hle : es.length ≤ 131072 := by have := HLE.out; omega
        have hadd : ∀ w : World, (Op.stringOp .add ⟨#[39]⟩ (bs es)).run Tryd.prog w = .ok (.string (bs (39 :: es))) w := fun w => run_add_bs (P := Tryd.prog) w [39] es (by simp; omega)
        have hadd2 : ∀ w : World, (Op.stringOp .add (bs (39 :: es)) ⟨#[39]⟩).run Tryd.prog w = .ok (.string (bs (39 :: es ++ [39]))) w := fun w => run_add_bs (P := Tryd.prog) w (39 :: es) [39] (by simp; omega)
        clear hes
        go_enter Tryd.func34, Tryd.ntmps34
        go_wp2_with (go_at_call 50; refine HR.out.mono ?_; rintro e w1 ⟨rfl, f⟩; have F1 := hid f; clear f)
        go_ret
        exact ⟨rfl, FA.out.trans F1.out (fun _ h _ => h)⟩
      · have e0 : (k == 0) = false := by simpa using k0
        have e1 : (k == 1) = false := by simpa using k1
        have e2 : (k == 2) = false := by simpa using k2
        rw [if_neg k0, if_neg k1, if_neg k2]
        go_enter Tryd.func34, Tryd.ntmps34
        go_wp2_with (fail)
        go_ret
        exact ⟨rfl, FA.out⟩
theorem VCut_go (s : List UInt8) (hs : s.length ≤ 1099511627776) (w : World) : Calls Tryd.prog 25 #[.string (bs s)] w fun e w' => e = .returned (.string (bs (s.take 16))) ∧ Fr (fun _ => False) w w' := by
  have e1 := bs_size s
  have hq : ∃ q : Nat, min (s.length : Int) 16 = (q : Int) ∧ (if (16 : Int) < (s.length : Int) then 16 else (s.length : Int)) = (q : Int) ∧ (q : Int) ≤ s.length ∧ (bs s).extract 0 q = bs (s.take 16) := by
    refine ⟨min 16 s.length, by omega, by split <;> omega, by omega, ?_⟩
    apply ByteArray.ext
    simp [bs]
  obtain ⟨q, h1, h2, h3, h4⟩ := hq
  have h5 : (0 : Int) ≤ (q : Int) := by omega
  go_enter Tryd.func25, Tryd.ntmps25
  go_wp2_with (fail)
  go_ret
  exact ⟨rfl, Fr.refl _ _⟩
theorem rank3 {k : Int} (h : ¬ (0 ≤ k ∧ k ≤ 2)) : rank k = 3 := by unfold rank; rw [if_neg h]
theorem rank_in {k : Int} (h : 0 ≤ k ∧ k ≤ 2) : rank k = k := by unfold rank; rw [if_pos h]
set_option maxRecDepth 20000 in
set_option maxHeartbeats 1000000 in
theorem VFits_go (a : V) (op : Int) (b : V) {w : World} (K : Kn w) : Calls Tryd.prog 32 #[vagg a, .int .i64 op, vagg b] w fun e w' => e = .returned (.bool (a.fits op b)) ∧ Fr (fun _ => False) w w' := by
  have FA := hid (((Fr.refl (fun _ => False) w).alloc (.cells a.cells.toArray 28)).alloc (.cells b.cells.toArray 28))
  have HC := hid (VCompare_go a b (K.fre FA.out))
  have HKA := hid (fun w => known_go a.k w)
  have HKB := hid (fun w => known_go b.k w)
  obtain ⟨z, hz⟩ : ∃ z, a.fits op b = z := ⟨_, rfl⟩
  rw [hz]
  unfold V.fits at hz
  generalize hcc : V.cmp a b = c at *
  clear hcc K
  obtain ⟨ak, an, ax⟩ := a
  obtain ⟨bk, bn, bx⟩ := b
  unfold vagg V.cells at *
  dsimp only at *
  have HZ := hid hz
  clear hz
  by_cases ha0 : ak = 0
  · subst ha0
    go_enter Tryd.func32, Tryd.ntmps32
    go_wp2_with (fail)
    go_ret
    exact ⟨ret_bool (by rw [← HZ.out]; simp), FA.out⟩
  · have ea0 : (ak == 0) = false := by simpa using ha0
    by_cases hb0 : bk = 0
    · subst hb0
      go_enter Tryd.func32, Tryd.ntmps32
      go_wp2_with (fail)
      go_ret
      exact ⟨ret_bool (by rw [← HZ.out]; simp), FA.out⟩
    · have eb0 : (bk == 0) = false := by simpa using hb0
      by_cases hab : ak = bk
      · subst hab
        have hbb : (ak != ak) = false := bne_self_eq_false _
        by_cases hin : 0 ≤ ak ∧ ak ≤ 2
        · have hk1 : (decide (0 ≤ ak) && decide (ak ≤ 2)) = true := by simp [hin]
          rw [hk1] at HKA
          have HZ2 : Hid (z = opHolds op c) := hid (by rw [← HZ.out, if_neg (by rw [rank_in hin]; omega), if_neg (by simp)])
          clear hk1 hin
          by_cases h1 : op = 1
          · subst h1
            go_enter Tryd.func32, Tryd.ntmps32
            go_wp2_with (first
              | (go_at_call 36; refine (HKA.out _).mono ?_; rintro e w1 ⟨rfl, rfl⟩)
              | (go_at_call 17; refine HC.out.mono ?_; rintro e w1 ⟨rfl, f⟩; have F1 := hid f; clear f))
            go_ret
            exact ⟨ret_bool (by rw [HZ2.out]; simp [opHolds]), FA.out.trans F1.out (fun _ h _ => h)⟩
          · have e1 : (op == 1) = false := by simpa using h1
            by_cases h2 : op = 2
            · subst h2
              go_enter Tryd.func32, Tryd.ntmps32
              go_wp2_with (first
                | (go_at_call 36; (with_reducible refine (HKA.out _).mono ?_); rintro e w1 ⟨rfl, rfl⟩)
                | (go_at_call 17; refine HC.out.mono ?_; rintro e w1 ⟨rfl, f⟩; have F1 := hid f; clear f))
              go_ret
              exact ⟨ret_bool (by rw [HZ2.out]; simp [opHolds]), FA.out.trans F1.out (fun _ h _ => h)⟩
            · have e2 : (op == 2) = false := by simpa using h2
              by_cases h3 : op = 3
              · subst h3
                go_enter Tryd.func32, Tryd.ntmps32
                go_wp2_with (first
                  | (go_at_call 36; (with_reducible refine (HKA.out _).mono ?_); rintro e w1 ⟨rfl, rfl⟩)
                  | (go_at_call 17; refine HC.out.mono ?_; rintro e w1 ⟨rfl, f⟩; have F1 := hid f; clear f))
                go_ret
                exact ⟨ret_bool (by rw [HZ2.out]; simp [opHolds]), FA.out.trans F1.out (fun _ h _ => h)⟩
              · have e3 : (op == 3) = false := by simpa using h3
                by_cases h4 : op = 4
                · subst h4
                  go_enter Tryd.func32, Tryd.ntmps32
                  go_wp2_with (first
                    | (go_at_call 36; (with_reducible refine (HKA.out _).mono ?_); rintro e w1 ⟨rfl, rfl⟩)
                    | (go_at_call 17; refine HC.out.mono ?_; rintro e w1 ⟨rfl, f⟩; have F1 := hid f; clear f))
                  go_ret
                  exact ⟨ret_bool (by rw [HZ2.out]; simp [opHolds]), FA.out.trans F1.out (fun _ h _ => h)⟩
                · have e4 : (op == 4) = false := by simpa using h4
                  by_cases h5 : op = 5
                  · subst h5
                    go_enter Tryd.func32, Tryd.ntmps32
                    go_wp2_with (first
                      | (go_at_call 36; (with_reducible refine (HKA.out _).mono ?_); rintro e w1 ⟨rfl, rfl⟩)
                      | (go_at_call 17; refine HC.out.mono ?_; rintro e w1 ⟨rfl, f⟩; have F1 := hid f; clear f))
                    go_ret
                    exact ⟨ret_bool (by rw [HZ2.out]; simp [opHolds]), FA.out.trans F1.out (fun _ h _ => h)⟩
                  · have e5 : (op == 5) = false := by simpa using h5
                    by_cases h6 : op = 6
                    · subst h6
                      go_enter Tryd.func32, Tryd.ntmps32
                      go_wp2_with (first
                        | (go_at_call 36; (with_reducible refine (HKA.out _).mono ?_); rintro e w1 ⟨rfl, rfl⟩)
                        | (go_at_call 17; refine HC.out.mono ?_; rintro e w1 ⟨rfl, f⟩; have F1 := hid f; clear f))
                      go_ret
                      exact ⟨ret_bool (by rw [HZ2.out]; simp [opHolds]), FA.out.trans F1.out (fun _ h _ => h)⟩
                    · have e6 : (op == 6) = false := by simpa using h6
                      go_enter Tryd.func32, Tryd.ntmps32
                      go_wp2_with (first
                        | (go_at_call 36; (with_reducible refine (HKA.out _).mono ?_); rintro e w1 ⟨rfl, rfl⟩)
                        | (go_at_call 17; refine HC.out.mono ?_; rintro e w1 ⟨rfl, f⟩; have F1 := hid f; clear f))
                      go_ret
                      exact ⟨ret_bool (by rw [HZ2.out]; simp [opHolds, h1, h2, h3, h4, h5, h6]), FA.out.trans F1.out (fun _ h _ => h)⟩
        · have hk1 : (decide (0 ≤ ak) && decide (ak ≤ 2)) = false := by
            rw [Bool.and_eq_false_iff, decide_eq_false_iff_not, decide_eq_false_iff_not]; omega
          rw [hk1] at HKA
          have HZ2 : Hid (z = false) := hid (by rw [← HZ.out, if_pos (.inr (.inr (.inl (rank3 hin))))])
          clear hk1 hin
          go_enter Tryd.func32, Tryd.ntmps32
          go_wp2_with (go_at_call 36; refine (HKA.out _).mono ?_; rintro e w1 ⟨rfl, rfl⟩)
          go_ret
          exact ⟨ret_bool HZ2.out.symm, FA.out⟩
      · have hbb : (ak != bk) = true := by simpa using hab
        by_cases h2 : op = 2
        · subst h2
          by_cases hka : 0 ≤ ak ∧ ak ≤ 2
          · have hk1 : (decide (0 ≤ ak) && decide (ak ≤ 2)) = true := by simp [hka]
            rw [hk1] at HKA
            by_cases hkb : 0 ≤ bk ∧ bk ≤ 2
            · have hk2 : (decide (0 ≤ bk) && decide (bk ≤ 2)) = true := by simp [hkb]
              rw [hk2] at HKB
              have HZ2 : Hid (z = true) := hid (by rw [← HZ.out, if_neg (by rw [rank_in hka, rank_in hkb]; omega)]; simp [hab])
              clear hk1 hk2 hka hkb
              go_enter Tryd.func32, Tryd.ntmps32
              go_wp2_with (first
                | (go_at_call 36; (with_reducible refine (HKA.out _).mono ?_); rintro e w1 ⟨rfl, rfl⟩)
                | (go_at_call 36; (with_reducible refine (HKB.out _).mono ?_); rintro e w1 ⟨rfl, rfl⟩))
              go_ret
              exact ⟨ret_bool HZ2.out.symm, FA.out⟩
            · have hk2 : (decide (0 ≤ bk) && decide (bk ≤ 2)) = false := by
                rw [Bool.and_eq_false_iff, decide_eq_false_iff_not, decide_eq_false_iff_not]; omega
              rw [hk2] at HKB
              have HZ2 : Hid (z = false) := hid (by rw [← HZ.out, if_pos (.inr (.inr (.inr (rank3 hkb))))])
              clear hk1 hk2 hka hkb
              go_enter Tryd.func32, Tryd.ntmps32
              go_wp2_with (first
                | (go_at_call 36; (with_reducible refine (HKA.out _).mono ?_); rintro e w1 ⟨rfl, rfl⟩)
                | (go_at_call 36; (with_reducible refine (HKB.out _).mono ?_); rintro e w1 ⟨rfl, rfl⟩))
              go_ret
              exact ⟨ret_bool HZ2.out.symm, FA.out⟩
          · have hk1 : (decide (0 ≤ ak) && decide (ak ≤ 2)) = false := by
              rw [Bool.and_eq_false_iff, decide_eq_false_iff_not, decide_eq_false_iff_not]; omega
            rw [hk1] at HKA
            have HZ2 : Hid (z = false) := hid (by rw [← HZ.out, if_pos (.inr (.inr (.inl (rank3 hka))))])
            clear hk1 hka
            go_enter Tryd.func32, Tryd.ntmps32
            go_wp2_with (go_at_call 36; refine (HKA.out _).mono ?_; rintro e w1 ⟨rfl, rfl⟩)
            go_ret
            exact ⟨ret_bool HZ2.out.symm, FA.out⟩
        · have e2 : (op == 2) = false := by simpa using h2
          have HZ2 : Hid (z = false) := hid (by rw [← HZ.out]; split <;> simp [h2])
          go_enter Tryd.func32, Tryd.ntmps32
          go_wp2_with (fail)
          go_ret
          exact ⟨ret_bool HZ2.out.symm, FA.out⟩
end Go.Proofs.YtknpncpoojjbfaaDoor
