import Derived.Test.YtgkfdlpijefgkaaDoorCtAr
/- The reference of the values: comparing. -/
set_option linter.unusedVariables false
namespace Go.VB.Rec
theorem cmpB_step : ∀ (a b : List UInt8) (j : Nat) (h1 : j < a.length) (h2 : j < b.length), Lib.compareBytes (a.drop j) (b.drop j) = if a[j] < b[j] then -1 else if b[j] < a[j] then 1 else Lib.compareBytes (a.drop (j + 1)) (b.drop (j + 1)) := by
  intro a b j h1 h2
  rw [List.drop_eq_getElem_cons h1, List.drop_eq_getElem_cons h2]
  rfl
theorem cmpB_end (a b : List UInt8) (j : Nat) (h : a.length ≤ j ∨ b.length ≤ j) (hj : j ≤ a.length) (hk : j ≤ b.length) : Lib.compareBytes (a.drop j) (b.drop j) = Lib.compareInt a.length b.length := by
  unfold Lib.compareInt
  rcases (by omega : a.length = b.length ∨ a.length < b.length ∨ b.length < a.length) with e | e | e
  · rw [List.drop_of_length_le (by omega), List.drop_of_length_le (by omega), if_neg (by omega), if_neg (by omega)]; rfl
  · obtain ⟨x, t, ht⟩ : ∃ x t, b.drop j = x :: t := by
      cases hh : b.drop j with
      | nil => have := congrArg List.length hh; rw [List.length_drop] at this; simp at this; omega
      | cons x t => exact ⟨x, t, rfl⟩
    rw [List.drop_of_length_le (by omega), ht, if_pos (by omega)]; rfl
  · obtain ⟨x, t, ht⟩ : ∃ x t, a.drop j = x :: t := by
      cases hh : a.drop j with
      | nil => have := congrArg List.length hh; rw [List.length_drop] at this; simp at this; omega
      | cons x t => exact ⟨x, t, rfl⟩
    rw [List.drop_of_length_le (l := b) (by omega), ht, if_neg (by omega), if_pos (by omega)]; rfl
end Go.VB.Rec
namespace Go.Proofs.YtgkfdlpijefgkaaDoor
open Go.RowKit Go.VB Go.VB.Oct Go.VB.Rec
theorem rank_in {k : Int} (h : 0 ≤ k ∧ k ≤ 2) : rank k = k := if_pos h
theorem rank3 {k : Int} (h : ¬ (0 ≤ k ∧ k ≤ 2)) : rank k = 3 := if_neg h
theorem bs_get (s : List UInt8) {j : Nat} (h : j < s.length) {k : Nat} (hk : s[j].toNat = k) : ((bs s)[j]'(by rw [bs_size]; exact h)).toNat = k := by
  have : (bs s)[j]'(by rw [bs_size]; exact h) = s[j] := by simp [bs]; rfl
  rw [this, hk]
theorem place_go (k : Int) (w : World) : Calls Tryd.prog 60 #[.int .i64 k] w fun e w' => e = .returned (.int .i64 (rank k)) ∧ w' = w := by
  rcases (by omega : k < 0 ∨ (0 ≤ k ∧ k ≤ 2) ∨ 2 < k) with h | h | h
  · have hr : rank k = 3 := rank3 (by omega)
    rw [hr]
    go_enter Tryd.func60, Tryd.ntmps60
    go_wp2
    go_ret
    exact ⟨rfl, rfl⟩
  · have hr : rank k = k := rank_in h
    obtain ⟨h1, h2⟩ := h
    have h3 : ¬ k < 0 := by omega
    have h4 : ¬ 2 < k := by omega
    rw [hr]
    clear hr
    go_enter Tryd.func60, Tryd.ntmps60
    go_wp2
    go_ret
    exact ⟨rfl, rfl⟩
  · have hr : rank k = 3 := rank3 (by omega)
    have h3 : ¬ k < 0 := by omega
    rw [hr]
    go_enter Tryd.func60, Tryd.ntmps60
    go_wp2
    go_ret
    exact ⟨rfl, rfl⟩
def ord (x y : Bool) : Int := if x then -1 else if y then 1 else 0
theorem order_go (x y : Bool) (w : World) : Calls Tryd.prog 61 #[.bool x, .bool y] w fun e w' => e = .returned (.int .i64 (ord x y)) ∧ w' = w := by
  cases x <;> cases y <;> (go_enter Tryd.func61, Tryd.ntmps61; go_wp2; go_ret; exact ⟨rfl, rfl⟩)
theorem ord_int (x y : Int) : ord (decide (x < y)) (decide (y < x)) = Lib.compareInt x y := by
  unfold ord Lib.compareInt
  by_cases h : x < y
  · simp [h]
  · by_cases k : y < x <;> simp [h, k]
theorem orderI_go (x y : Int) (w : World) : Calls Tryd.prog 61 #[.bool (decide (x < y)), .bool (decide (y < x))] w fun e w' => e = .returned (.int .i64 (Lib.compareInt x y)) ∧ w' = w := ord_int x y ▸ order_go _ _ w
theorem orderN_go (x y : Nat) (w : World) : Calls Tryd.prog 61 #[.bool (decide (x < y)), .bool (decide (y < x))] w fun e w' => e = .returned (.int .i64 (Lib.compareInt x y)) ∧ w' = w := by
  have h := orderI_go (x : Int) (y : Int) w
  simp only [Int.ofNat_lt] at h
  exact h
set_option maxRecDepth 20000 in
set_option maxHeartbeats 1000000 in
theorem Texts_go (a b : List UInt8) (ha : a.length ≤ 9223372036854775807) (hb : b.length ≤ 9223372036854775807) (w : World) : Calls Tryd.prog 62 #[.string (bs a), .string (bs b)] w fun e w' => e = .returned (.int .i64 (Lib.compareBytes a b)) ∧ Fr (fun _ => False) w w' := by
  have F0 := hid (Fr.refl (fun _ => False) w)
  have e1 := bs_size a
  have e2 := bs_size b
  obtain ⟨z, hz⟩ : ∃ z, Lib.compareBytes a b = z := ⟨_, rfl⟩
  rw [hz]
  have HZ := hid hz
  clear hz
  go_enter Tryd.func62, Tryd.ntmps62
  go_wp2_with (fail)
  go_loopw [5] (fun i wr => ∃ j : Nat, j ≤ a.length ∧ j ≤ b.length ∧ i = .int .i64 j ∧ Lib.compareBytes (a.drop j) (b.drop j) = z ∧ Fr (fun _ => False) w wr) (fun i _ => a.length - (intOf i).toNat)
  case atStart => exact ⟨0, by omega, by omega, rfl, HZ.out, F0.out⟩
  case round =>
    obtain ⟨j, hj, hk, rfl, hall, fr⟩ := hrel
    have FR := hid fr
    have HA := hid hall
    clear fr hall
    by_cases hjn : j < a.length ∧ j < b.length
    · obtain ⟨hja, hjb⟩ := hjn
      have HST := hid (cmpB_step a b j hja hjb)
      have i1 : (0 : Int) ≤ (j : Int) := by omega
      have i2 : (j : Int) < (a.length : Int) := by omega
      have i3 : (j : Int) < (b.length : Int) := by omega
      obtain ⟨x, hx⟩ : ∃ x : Nat, a[j].toNat = x := ⟨_, rfl⟩
      obtain ⟨y, hy⟩ : ∃ y : Nat, b[j].toNat = y := ⟨_, rfl⟩
      have hxa := bs_get a hja hx
      have hyb := bs_get b hjb hy
      have HXL := hid (show (a[j] < b[j] ↔ x < y) ∧ (b[j] < a[j] ↔ y < x) from by rw [UInt8.lt_iff_toNat_lt, UInt8.lt_iff_toNat_lt, hx, hy]; exact ⟨Iff.rfl, Iff.rfl⟩)
      clear hx hy
      go_upto_region 4 with fail
      refine wp_region_scr (.take 0 (.take 1 (.take 2 (.take 3 (.take 4 (.take 5 (.take 6 .done))))))) (fun kz w => (kz ≤ 7 → True) ∧ True) (by kernel_rfl) (by kernel_rfl) (by intro c a d v w h; cases d <;> exact h) ?_
      repeat
        first
        | (refine wpT_pure rfl rfl rfl ?_; apply Exists.intro; refine ⟨?_, ?_⟩; intro w; ((go_simp <;> rfl)); simp only [Act.put, List.setIfInBounds_toArray, List.set_cons_zero, List.set_cons_succ])
        | (refine wpT_take 7 rfl rfl (by decide +kernel) ⟨fun _ => trivial, trivial⟩ ?_; apply Exists.intro; refine ⟨?_, ?_⟩; intro w hw; (have qa := hw.1 (Nat.le_refl _); have qb := hw.2); ((go_simp <;> rfl)); simp only [Act.put, List.setIfInBounds_toArray, List.set_cons_zero, List.set_cons_succ])
        | (refine wpT_skip rfl rfl ?_; simp only [Act.put, List.setIfInBounds_toArray, List.set_cons_zero, List.set_cons_succ])
      refine wpT_nil ?_
      rcases (by omega : x < y ∨ x = y ∨ y < x) with hxy | hxy | hxy
      · have hne : ((x : Int) != (y : Int)) = true := by simp; omega
        have d1 : decide (x < y) = true := by simp; omega
        have d2 : decide (y < x) = false := by simp; omega
        have hzz : z = -1 := by rw [← HA.out, HST.out]; rw [if_pos (HXL.out.1.2 hxy)]
        have HZ2 := hid hzz
        clear hzz
        go_upto_region 5 with fail
        refine wp_region_scr (.take 0 (.take 1 (.take 2 (.take 3 (.take 4 (.take 5 (.take 6 (.take 7 (.take 8 (.take 9 (.take 10 (.take 11 (.take 12 (.take 13 (.op 14 (.take 15 .done)))))))))))))))) (fun kz w => (kz ≤ 16 → True) ∧ True) (by kernel_rfl) (by kernel_rfl) (by intro c a d v w h; cases d <;> exact h) ?_
        repeat
          first
          | (refine wpT_pure rfl rfl rfl ?_; apply Exists.intro; refine ⟨?_, ?_⟩; intro w; ((go_simp <;> rfl)); simp only [Act.put, List.setIfInBounds_toArray, List.set_cons_zero, List.set_cons_succ])
          | (refine wpT_take 16 rfl rfl (by decide +kernel) ⟨fun _ => trivial, trivial⟩ ?_; apply Exists.intro; refine ⟨?_, ?_⟩; intro w hw; (have qa := hw.1 (Nat.le_refl _); have qb := hw.2); ((go_simp <;> rfl)); simp only [Act.put, List.setIfInBounds_toArray, List.set_cons_zero, List.set_cons_succ])
          | (refine wpT_skip rfl rfl ?_; simp only [Act.put, List.setIfInBounds_toArray, List.set_cons_zero, List.set_cons_succ])
        refine wpT_op rfl ?_
        go_wp2_with ((go_at_call 61; refine (order_go true false _).mono ?_; rintro e w1 ⟨rfl, rfl⟩))
        (refine ⟨?_, ?_⟩; focus (intro kz hk hk2 hh; first | (exfalso; simp at hk2; omega) | exact hh | exact (fun h => absurd h (by omega)) | obtain ⟨qa, qb⟩ := hh; first | exact ⟨qa, qb⟩ | (refine ⟨fun h => absurd h (by omega), ?_⟩; first | exact qb | (trivial)) | (refine ⟨fun h => ?_, ?_⟩; (have qa := qa h); all_goals (first | exact qa | exact qb | (trivial)))))
        repeat
          first
          | (refine wpT_pure rfl rfl rfl ?_; apply Exists.intro; refine ⟨?_, ?_⟩; intro w; ((go_simp <;> rfl)); simp only [Act.put, List.setIfInBounds_toArray, List.set_cons_zero, List.set_cons_succ])
          | (refine wpT_take 16 rfl rfl (by decide +kernel) ⟨fun _ => trivial, trivial⟩ ?_; apply Exists.intro; refine ⟨?_, ?_⟩; intro w hw; (have qa := hw.1 (Nat.le_refl _); have qb := hw.2); ((go_simp <;> rfl)); simp only [Act.put, List.setIfInBounds_toArray, List.set_cons_zero, List.set_cons_succ])
          | (refine wpT_skip rfl rfl ?_; simp only [Act.put, List.setIfInBounds_toArray, List.set_cons_zero, List.set_cons_succ])
        refine wpT_nil ?_
        go_wp2_with (fail)
        go_ret
        exact ⟨ret_int (by rw [HZ2.out]; rfl), FR.out.drew.drew⟩
      · subst hxy
        have hzz : Lib.compareBytes (a.drop (j + 1)) (b.drop (j + 1)) = z := by
          rw [← HA.out, HST.out, if_neg (fun h => by have := HXL.out.1.1 h; omega), if_neg (fun h => by have := HXL.out.2.1 h; omega)]
        have HZ2 := hid hzz
        clear hzz
        go_wp2_with (fail)
        go_roundw
        case rel => exact ⟨j + 1, by omega, by omega, by simp, HZ2.out, FR.out.drew⟩
        case measure => simp [intOf]; omega
      · have hne : ((x : Int) != (y : Int)) = true := by simp; omega
        have d1 : decide (x < y) = false := by simp; omega
        have d2 : decide (y < x) = true := by simp; omega
        have hzz : z = 1 := by rw [← HA.out, HST.out]; rw [if_neg (fun h => by have := HXL.out.1.1 h; omega), if_pos (HXL.out.2.2 hxy)]
        have HZ2 := hid hzz
        clear hzz
        go_upto_region 5 with fail
        refine wp_region_scr (.take 0 (.take 1 (.take 2 (.take 3 (.take 4 (.take 5 (.take 6 (.take 7 (.take 8 (.take 9 (.take 10 (.take 11 (.take 12 (.take 13 (.op 14 (.take 15 .done)))))))))))))))) (fun kz w => (kz ≤ 16 → True) ∧ True) (by kernel_rfl) (by kernel_rfl) (by intro c a d v w h; cases d <;> exact h) ?_
        repeat
          first
          | (refine wpT_pure rfl rfl rfl ?_; apply Exists.intro; refine ⟨?_, ?_⟩; intro w; ((go_simp <;> rfl)); simp only [Act.put, List.setIfInBounds_toArray, List.set_cons_zero, List.set_cons_succ])
          | (refine wpT_take 16 rfl rfl (by decide +kernel) ⟨fun _ => trivial, trivial⟩ ?_; apply Exists.intro; refine ⟨?_, ?_⟩; intro w hw; (have qa := hw.1 (Nat.le_refl _); have qb := hw.2); ((go_simp <;> rfl)); simp only [Act.put, List.setIfInBounds_toArray, List.set_cons_zero, List.set_cons_succ])
          | (refine wpT_skip rfl rfl ?_; simp only [Act.put, List.setIfInBounds_toArray, List.set_cons_zero, List.set_cons_succ])
        refine wpT_op rfl ?_
        go_wp2_with ((go_at_call 61; refine (order_go false true _).mono ?_; rintro e w1 ⟨rfl, rfl⟩))
        (refine ⟨?_, ?_⟩; focus (intro kz hk hk2 hh; first | (exfalso; simp at hk2; omega) | exact hh | exact (fun h => absurd h (by omega)) | obtain ⟨qa, qb⟩ := hh; first | exact ⟨qa, qb⟩ | (refine ⟨fun h => absurd h (by omega), ?_⟩; first | exact qb | (trivial)) | (refine ⟨fun h => ?_, ?_⟩; (have qa := qa h); all_goals (first | exact qa | exact qb | (trivial)))))
        repeat
          first
          | (refine wpT_pure rfl rfl rfl ?_; apply Exists.intro; refine ⟨?_, ?_⟩; intro w; ((go_simp <;> rfl)); simp only [Act.put, List.setIfInBounds_toArray, List.set_cons_zero, List.set_cons_succ])
          | (refine wpT_take 16 rfl rfl (by decide +kernel) ⟨fun _ => trivial, trivial⟩ ?_; apply Exists.intro; refine ⟨?_, ?_⟩; intro w hw; (have qa := hw.1 (Nat.le_refl _); have qb := hw.2); ((go_simp <;> rfl)); simp only [Act.put, List.setIfInBounds_toArray, List.set_cons_zero, List.set_cons_succ])
          | (refine wpT_skip rfl rfl ?_; simp only [Act.put, List.setIfInBounds_toArray, List.set_cons_zero, List.set_cons_succ])
        refine wpT_nil ?_
        go_wp2_with (fail)
        go_ret
        exact ⟨ret_int (by rw [HZ2.out]; rfl), FR.out.drew.drew⟩
    · have hend := cmpB_end a b j (by omega) hj hk
      have HE := hid hend
      clear hend
      have HO := hid (fun w => orderN_go a.length b.length w)
      have hor : (a.length : Int) ≤ (j : Int) ∨ (b.length : Int) ≤ (j : Int) := by omega
      clear hjn
      rcases hor with h12 | h12
      all_goals
        go_wp2_with (go_at_call 61; refine (HO.out _).mono ?_; rintro e w1 ⟨rfl, rfl⟩)
        all_goals (go_ret; exact ⟨ret_int (by rw [← HE.out, HA.out]), FR.out⟩)
set_option maxRecDepth 20000 in
set_option maxHeartbeats 1000000 in
theorem r2Compare_go (a b : V) (ha : a.s.length ≤ 9223372036854775807) (hb : b.s.length ≤ 9223372036854775807) (w : World) : Calls Tryd.prog 34 #[vagg a, vagg b] w fun e w' => e = .returned (.int .i64 (V.cmp a b)) ∧ Fr (fun _ => False) w w' := by
  have FA := hid (((Fr.refl (fun _ => False) w).alloc (.cells a.cells.toArray 77)).alloc (.cells b.cells.toArray 77))
  have HA := hid (fun w => place_go a.k w)
  have HB := hid (fun w => place_go b.k w)
  have HO := hid (fun w => orderI_go (rank a.k) (rank b.k) w)
  have HN := hid (fun w => orderI_go a.n b.n w)
  have HT := hid (fun w => Texts_go a.s b.s ha hb w)
  obtain ⟨z, hz⟩ : ∃ z, V.cmp a b = z := ⟨_, rfl⟩
  rw [hz]
  have hrk : ∀ k : Int, (rank k = k ∧ 0 ≤ k ∧ k ≤ 2) ∨ (rank k = 3 ∧ ¬ (0 ≤ k ∧ k ≤ 2)) := fun k => by
    by_cases h : 0 ≤ k ∧ k ≤ 2
    · exact .inl ⟨rank_in h, h⟩
    · exact .inr ⟨rank3 h, h⟩
  have HRA := hid (hrk a.k)
  unfold V.cmp at hz
  obtain ⟨ak, an, ax⟩ := a
  obtain ⟨bk, bn, bx⟩ := b
  unfold vagg V.cells at *
  dsimp only at *
  clear hrk
  generalize hra : rank ak = ra at *
  generalize hrb : rank bk = rb at *
  have HZ := hid hz
  clear hz hra hrb
  by_cases hne : ra = rb
  · subst hne
    have hbb : (ra != ra) = false := bne_self_eq_false _
    by_cases h1 : ra = 1
    · subst h1
      have HZ2 : Hid (z = Lib.compareInt an bn) := hid (by rw [← HZ.out]; have := HRA.out; have h : ak = 1 := (by omega); simp [h])
      go_enter Tryd.func34, Tryd.ntmps34
      go_wp2_with (first
        | (go_at_call 60; (with_reducible refine (HA.out _).mono ?_); rintro e w1 ⟨rfl, rfl⟩)
        | (go_at_call 60; (with_reducible refine (HB.out _).mono ?_); rintro e w1 ⟨rfl, rfl⟩)
        | (go_at_call 61; refine (HN.out _).mono ?_; rintro e w1 ⟨rfl, rfl⟩))
      go_ret
      exact ⟨ret_int HZ2.out.symm, FA.out⟩
    · have e1 : (ra == 1) = false := by simpa using h1
      by_cases h2 : ra = 2
      · subst h2
        have HZ2 : Hid (z = Lib.compareBytes ax bx) := hid (by rw [← HZ.out]; have := HRA.out; have h : ak = 2 := (by omega); simp [h])
        go_enter Tryd.func34, Tryd.ntmps34
        go_wp2_with (first
          | (go_at_call 60; (with_reducible refine (HA.out _).mono ?_); rintro e w1 ⟨rfl, rfl⟩)
          | (go_at_call 60; (with_reducible refine (HB.out _).mono ?_); rintro e w1 ⟨rfl, rfl⟩)
          | (go_at_call 62; refine (HT.out _).mono ?_; rintro e w1 ⟨rfl, f⟩; have F1 := hid f; clear f))
        go_ret
        exact ⟨ret_int HZ2.out.symm, FA.out.trans F1.out (fun _ h _ => h)⟩
      · have e2 : (ra == 2) = false := by simpa using h2
        have HZ2 : Hid (z = 0) := hid (by rw [← HZ.out]; have := HRA.out; have g1 : ¬ ak = 1 := (by omega); have g2 : ¬ ak = 2 := (by omega); simp [g1, g2])
        go_enter Tryd.func34, Tryd.ntmps34
        go_wp2_with (first
          | (go_at_call 60; (with_reducible refine (HA.out _).mono ?_); rintro e w1 ⟨rfl, rfl⟩)
          | (go_at_call 60; (with_reducible refine (HB.out _).mono ?_); rintro e w1 ⟨rfl, rfl⟩))
        go_ret
        exact ⟨ret_int HZ2.out.symm, FA.out⟩
  · have hbb : (ra != rb) = true := by simpa using hne
    have HZ2 : Hid (z = Lib.compareInt ra rb) := hid (by rw [← HZ.out, if_pos hne])
    go_enter Tryd.func34, Tryd.ntmps34
    go_wp2_with (first
      | (go_at_call 60; (with_reducible refine (HA.out _).mono ?_); rintro e w1 ⟨rfl, rfl⟩)
      | (go_at_call 60; (with_reducible refine (HB.out _).mono ?_); rintro e w1 ⟨rfl, rfl⟩)
      | (go_at_call 61; refine (HO.out _).mono ?_; rintro e w1 ⟨rfl, rfl⟩))
    go_ret
    exact ⟨ret_int HZ2.out.symm, FA.out⟩
theorem rfRight_go (v : V) (w : World) : Calls Tryd.prog 36 #[vagg v] w fun e w' => e = .returned (.bool v.right) ∧ Fr (fun _ => False) w w' := by
  obtain ⟨k, n, s⟩ := v
  have e1 := bs_size s
  unfold vagg V.cells V.right
  dsimp only
  rcases (by omega : k = 0 ∨ k = 1 ∨ k = 2 ∨ (k < 0 ∨ 2 < k)) with rfl | rfl | rfl | hk
  focus
    go_enter Tryd.func36, Tryd.ntmps36
    go_wp2
    all_goals (go_ret; exact ⟨ret_bool (by simp_all <;> omega), (Fr.refl _ w).alloc _⟩)
  focus
    go_enter Tryd.func36, Tryd.ntmps36
    go_wp2
    all_goals (go_ret; exact ⟨ret_bool (by simp_all <;> omega), (Fr.refl _ w).alloc _⟩)
  focus
    go_enter Tryd.func36, Tryd.ntmps36
    go_wp2
    all_goals (go_ret; exact ⟨ret_bool (by simp_all <;> omega), (Fr.refl _ w).alloc _⟩)
  have h0 : (k == 0) = false := by simp; omega
  have h1 : (k == 1) = false := by simp; omega
  have h2 : (k == 2) = false := by simp; omega
  have hd : (decide (0 ≤ k) && decide (k ≤ 2) && (decide (k ≠ 2) || decide (s.length ≤ 40))) = false := by
    rcases hk with hk | hk
    · rw [decide_eq_false (by omega : ¬ 0 ≤ k)]; rfl
    · rw [decide_eq_false (by omega : ¬ k ≤ 2), Bool.and_false]; rfl
  rw [hd]
  clear hd hk
  go_enter Tryd.func36, Tryd.ntmps36
  go_wp2
  all_goals (go_ret; exact ⟨rfl, (Fr.refl _ w).alloc _⟩)
end Go.Proofs.YtgkfdlpijefgkaaDoor
