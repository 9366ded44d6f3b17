import Derived.Test.YtknpncpoojjbfaaDoorVT
import Derived.Test.YtknpncpoojjbfaaDoorVH
/- The reference of the values: comparing. -/
set_option linter.unusedVariables false
namespace Go.VB.Rec
theorem cmpB_step : ∀ (a b : List UInt8) (j : Nat) (h1 : j < a.length) (h2 : j < b.length), Lib.compareBytes (a.drop j) (b.drop j) = if a[j] < b[j] then -1 else if b[j] < a[j] then 1 else Lib.compareBytes (a.drop (j + 1)) (b.drop (j + 1)) := by
  intro a b j h1 h2
  rw [List.drop_eq_getElem_cons h1, List.drop_eq_getElem_cons h2]
  rfl
theorem cmpB_end (a b : List UInt8) (j : Nat) (h : a.length ≤ j ∨ b.length ≤ j) (hj : j ≤ a.length) (hk : j ≤ b.length) : Lib.compareBytes (a.drop j) (b.drop j) = Lib.compareInt a.length b.length := by
  unfold Lib.compareInt
  rcases (by omega : a.length = b.length ∨ a.length < b.length ∨ b.length < a.length) with e | e | e
  · rw [List.drop_of_length_le (by omega), List.drop_of_length_le (by omega), if_neg (by omega), if_neg (by omega)]; rfl
  · obtain ⟨x, t, ht⟩ : ∃ x t, b.drop j = x :: t := by
      cases hh : b.drop j with
      | nil => have := congrArg List.length hh; rw [List.length_drop] at this; simp at this; omega
      | cons x t => exact ⟨x, t, rfl⟩
    rw [List.drop_of_length_le (by omega), ht, if_pos (by omega)]; rfl
  · obtain ⟨x, t, ht⟩ : ∃ x t, a.drop j = x :: t := by
      cases hh : a.drop j with
      | nil => have := congrArg List.length hh; rw [List.length_drop] at this; simp at this; omega
      | cons x t => exact ⟨x, t, rfl⟩
    rw [List.drop_of_length_le (l := b) (by omega), ht, if_neg (by omega), if_pos (by omega)]; rfl
end Go.VB.Rec
namespace Go.Proofs.YtknpncpoojjbfaaDoor
open Go.RowKit Go.VB Go.VB.Oct Go.VB.Rec
theorem place_go (k : Int) (w : World) : Calls Tryd.prog 39 #[.int .i64 k] w fun e w' => e = .returned (.int .i64 (rank k)) ∧ w' = w := by
  rcases (by omega : k < 0 ∨ (0 ≤ k ∧ k ≤ 2) ∨ 2 < k) with h | h | h
  · have hr : rank k = 3 := rank3 (by omega)
    rw [hr]
    go_enter Tryd.func39, Tryd.ntmps39
    go_wp2
    go_ret
    exact ⟨rfl, rfl⟩
  · have hr : rank k = k := rank_in h
    obtain ⟨h1, h2⟩ := h
    have h3 : ¬ k < 0 := by omega
    have h4 : ¬ 2 < k := by omega
    rw [hr]
    clear hr
    go_enter Tryd.func39, Tryd.ntmps39
    go_wp2
    go_ret
    exact ⟨rfl, rfl⟩
  · have hr : rank k = 3 := rank3 (by omega)
    have h3 : ¬ k < 0 := by omega
    rw [hr]
    go_enter Tryd.func39, Tryd.ntmps39
    go_wp2
    go_ret
    exact ⟨rfl, rfl⟩
def ord (x y : Bool) : Int := if x then -1 else if y then 1 else 0
theorem order_go (x y : Bool) (w : World) : Calls Tryd.prog 40 #[.bool x, .bool y] w fun e w' => e = .returned (.int .i64 (ord x y)) ∧ w' = w := by
  cases x <;> cases y <;> (go_enter Tryd.func40, Tryd.ntmps40; go_wp2; go_ret; exact ⟨rfl, rfl⟩)
theorem ord_int (x y : Int) : ord (decide (x < y)) (decide (y < x)) = Lib.compareInt x y := by
  unfold ord Lib.compareInt
  by_cases h : x < y
  · simp [h]
  · by_cases k : y < x <;> simp [h, k]
theorem orderI_go (x y : Int) (w : World) : Calls Tryd.prog 40 #[.bool (decide (x < y)), .bool (decide (y < x))] w fun e w' => e = .returned (.int .i64 (Lib.compareInt x y)) ∧ w' = w := ord_int x y ▸ order_go _ _ w
theorem orderN_go (x y : Nat) (w : World) : Calls Tryd.prog 40 #[.bool (decide (x < y)), .bool (decide (y < x))] w fun e w' => e = .returned (.int .i64 (Lib.compareInt x y)) ∧ w' = w := by
  have h := orderI_go (x : Int) (y : Int) w
  simp only [Int.ofNat_lt] at h
  exact h
set_option maxRecDepth 20000 in
set_option maxHeartbeats 1000000 in
theorem Texts_go (a b : List UInt8) (ha : a.length ≤ 1099511627776) (hb : b.length ≤ 1099511627776) (w : World) : Calls Tryd.prog 41 #[.string (bs a), .string (bs b)] w fun e w' => e = .returned (.int .i64 (Lib.compareBytes a b)) ∧ Fr (fun _ => False) w w' := by
  have F0 := hid (Fr.refl (fun _ => False) w)
  have e1 := bs_size a
  have e2 := bs_size b
  obtain ⟨z, hz⟩ : ∃ z, Lib.compareBytes a b = z := ⟨_, rfl⟩
  rw [hz]
  have HZ := hid hz
  clear hz
  go_enter Tryd.func41, Tryd.ntmps41
  go_wp2_with (fail)
  go_loopw [5] (fun i wr => ∃ j : Nat, j ≤ a.length ∧ j ≤ b.length ∧ i = .int .i64 j ∧ Lib.compareBytes (a.drop j) (b.drop j) = z ∧ Fr (fun _ => False) w wr) (fun i _ => a.length - (intOf i).toNat)
  case atStart => exact ⟨0, by omega, by omega, rfl, HZ.out, F0.out⟩
  case round =>
    obtain ⟨j, hj, hk, rfl, hall, fr⟩ := hrel
    have FR := hid fr
    have HA := hid hall
    clear fr hall
    by_cases hjn : j < a.length ∧ j < b.length
    · obtain ⟨hja, hjb⟩ := hjn
      have HST := hid (cmpB_step a b j hja hjb)
      have i1 : (0 : Int) ≤ (j : Int) := by omega
      have i2 : (j : Int) < (a.length : Int) := by omega
      have i3 : (j : Int) < (b.length : Int) := by omega
      obtain ⟨x, hx⟩ : ∃ x : Nat, a[j].toNat = x := ⟨_, rfl⟩
      obtain ⟨y, hy⟩ : ∃ y : Nat, b[j].toNat = y := ⟨_, rfl⟩
      have hxa := bs_get a hja hx
      have hyb := bs_get b hjb hy
      have HXL := hid (show (a[j] < b[j] ↔ x < y) ∧ (b[j] < a[j] ↔ y < x) from by rw [UInt8.lt_iff_toNat_lt, UInt8.lt_iff_toNat_lt, hx, hy]; exact ⟨Iff.rfl, Iff.rfl⟩)
      clear hx hy
      go_upto_region 4 with fail
      refine wp_region_scr (.take 0 (.take 1 (.take 2 (.take 3 (.take 4 (.take 5 (.take 6 .done))))))) (fun kz w => (kz ≤ 7 → True) ∧ True) (by kernel_rfl) (by kernel_rfl) (by intro c a d v w h; cases d <;> exact h) ?_
      repeat
        first
        | (refine wpT_pure rfl rfl rfl ?_; apply Exists.intro; refine ⟨?_, ?_⟩; intro w; ((go_simp <;> rfl)); simp only [Act.put, List.setIfInBounds_toArray, List.set_cons_zero, List.set_cons_succ])
        | (refine wpT_take 7 rfl rfl (by decide +kernel) ⟨fun _ => trivial, trivial⟩ ?_; apply Exists.intro; refine ⟨?_, ?_⟩; intro w hw; (have qa := hw.1 (Nat.le_refl _); have qb := hw.2); ((go_simp <;> rfl)); simp only [Act.put, List.setIfInBounds_toArray, List.set_cons_zero, List.set_cons_succ])
        | (refine wpT_skip rfl rfl ?_; simp only [Act.put, List.setIfInBounds_toArray, List.set_cons_zero, List.set_cons_succ])
      refine wpT_nil ?_
      rcases (by omega : x < y ∨ x = y ∨ y < x) with hxy | hxy | hxy
      · have hne : ((x : Int) != (y : Int)) = true := by simp; omega
        have d1 : decide (x < y) = true := by simp; omega
        have d2 : decide (y < x) = false := by simp; omega
        have hzz : z = -1 := by rw [← HA.out, HST.out]; rw [if_pos (HXL.out.1.2 hxy)]
        have HZ2 := hid hzz
        clear hzz
        go_upto_region 5 with fail
        refine wp_region_scr (.take 0 (.take 1 (.take 2 (.take 3 (.take 4 (.take 5 (.take 6 (.take 7 (.take 8 (.take 9 (.take 10 (.take 11 (.take 12 (.take 13 (.op 14 (.take 15 .done)))))))))))))))) (fun kz w => (kz ≤ 16 → True) ∧ True) (by kernel_rfl) (by kernel_rfl) (by intro c a d v w h; cases d <;> exact h) ?_
        repeat
          first
          | (refine wpT_pure rfl rfl rfl ?_; apply Exists.intro; refine ⟨?_, ?_⟩; intro w; ((go_simp <;> rfl)); simp only [Act.put, List.setIfInBounds_toArray, List.set_cons_zero, List.set_cons_succ])
          | (refine wpT_take 16 rfl rfl (by decide +kernel) ⟨fun _ => trivial, trivial⟩ ?_; apply Exists.intro; refine ⟨?_, ?_⟩; intro w hw; (have qa := hw.1 (Nat.le_refl _); have qb := hw.2); ((go_simp <;> rfl)); simp only [Act.put, List.setIfInBounds_toArray, List.set_cons_zero, List.set_cons_succ])
          | (refine wpT_skip rfl rfl ?_; simp only [Act.put, List.setIfInBounds_toArray, List.set_cons_zero, List.set_cons_succ])
        refine wpT_op rfl ?_
        go_wp2_with ((go_at_call 40; refine (order_go true false _).mono ?_; rintro e w1 ⟨rfl, rfl⟩))
        (refine ⟨?_, ?_⟩; focus (intro kz hk hk2 hh; first | (exfalso; simp at hk2; omega) | exact hh | exact (fun h => absurd h (by omega)) | obtain ⟨qa, qb⟩ := hh; first | exact ⟨qa, qb⟩ | (refine ⟨fun h => absurd h (by omega), ?_⟩; first | exact qb | (trivial)) | (refine ⟨fun h => ?_, ?_⟩; (have qa := qa h); all_goals (first | exact qa | exact qb | (trivial)))))
        repeat
          first
          | (refine wpT_pure rfl rfl rfl ?_; apply Exists.intro; refine ⟨?_, ?_⟩; intro w; ((go_simp <;> rfl)); simp only [Act.put, List.setIfInBounds_toArray, List.set_cons_zero, List.set_cons_succ])
          | (refine wpT_take 16 rfl rfl (by decide +kernel) ⟨fun _ => trivial, trivial⟩ ?_; apply Exists.intro; refine ⟨?_, ?_⟩; intro w hw; (have qa := hw.1 (Nat.le_refl _); have qb := hw.2); ((go_simp <;> rfl)); simp only [Act.put, List.setIfInBounds_toArray, List.set_cons_zero, List.set_cons_succ])
          | (refine wpT_skip rfl rfl ?_; simp only [Act.put, List.setIfInBounds_toArray, List.set_cons_zero, List.set_cons_succ])
        refine wpT_nil ?_
        go_wp2_with (fail)
        go_ret
        exact ⟨ret_int (by rw [HZ2.out]; rfl), FR.out.drew.drew⟩
      · subst hxy
        have hzz : Lib.compareBytes (a.drop (j + 1)) (b.drop (j + 1)) = z := by
          rw [← HA.out, HST.out, if_neg (fun h => by have := HXL.out.1.1 h; omega), if_neg (fun h => by have := HXL.out.2.1 h; omega)]
        have HZ2 := hid hzz
        clear hzz
        go_wp2_with (fail)
        go_roundw
        case rel => exact ⟨j + 1, by omega, by omega, by simp, HZ2.out, FR.out.drew⟩
        case measure => simp [intOf]; omega
      · have hne : ((x : Int) != (y : Int)) = true := by simp; omega
        have d1 : decide (x < y) = false := by simp; omega
        have d2 : decide (y < x) = true := by simp; omega
        have hzz : z = 1 := by rw [← HA.out, HST.out]; rw [if_neg (fun h => by have := HXL.out.1.1 h; omega), if_pos (HXL.out.2.2 hxy)]
        have HZ2 := hid hzz
        clear hzz
        go_upto_region 5 with fail
        refine wp_region_scr (.take 0 (.take 1 (.take 2 (.take 3 (.take 4 (.take 5 (.take 6 (.take 7 (.take 8 (.take 9 (.take 10 (.take 11 (.take 12 (.take 13 (.op 14 (.take 15 .done)))))))))))))))) (fun kz w => (kz ≤ 16 → True) ∧ True) (by kernel_rfl) (by kernel_rfl) (by intro c a d v w h; cases d <;> exact h) ?_
        repeat
          first
          | (refine wpT_pure rfl rfl rfl ?_; apply Exists.intro; refine ⟨?_, ?_⟩; intro w; ((go_simp <;> rfl)); simp only [Act.put, List.setIfInBounds_toArray, List.set_cons_zero, List.set_cons_succ])
          | (refine wpT_take 16 rfl rfl (by decide +kernel) ⟨fun _ => trivial, trivial⟩ ?_; apply Exists.intro; refine ⟨?_, ?_⟩; intro w hw; (have qa := hw.1 (Nat.le_refl _); have qb := hw.2); ((go_simp <;> rfl)); simp only [Act.put, List.setIfInBounds_toArray, List.set_cons_zero, List.set_cons_succ])
          | (refine wpT_skip rfl rfl ?_; simp only [Act.put, List.setIfInBounds_toArray, List.set_cons_zero, List.set_cons_succ])
        refine wpT_op rfl ?_
        go_wp2_with ((go_at_call 40; refine (order_go false true _).mono ?_; rintro e w1 ⟨rfl, rfl⟩))
        (refine ⟨?_, ?_⟩; focus (intro kz hk hk2 hh; first | (exfalso; simp at hk2; omega) | exact hh | exact (fun h => absurd h (by omega)) | obtain ⟨qa, qb⟩ := hh; first | exact ⟨qa, qb⟩ | (refine ⟨fun h => absurd h (by omega), ?_⟩; first | exact qb | (trivial)) | (refine ⟨fun h => ?_, ?_⟩; (have qa := qa h); all_goals (first | exact qa | exact qb | (trivial)))))
        repeat
          first
          | (refine wpT_pure rfl rfl rfl ?_; apply Exists.intro; refine ⟨?_, ?_⟩; intro w; ((go_simp <;> rfl)); simp only [Act.put, List.setIfInBounds_toArray, List.set_cons_zero, List.set_cons_succ])
          | (refine wpT_take 16 rfl rfl (by decide +kernel) ⟨fun _ => trivial, trivial⟩ ?_; apply Exists.intro; refine ⟨?_, ?_⟩; intro w hw; (have qa := hw.1 (Nat.le_refl _); have qb := hw.2); ((go_simp <;> rfl)); simp only [Act.put, List.setIfInBounds_toArray, List.set_cons_zero, List.set_cons_succ])
          | (refine wpT_skip rfl rfl ?_; simp only [Act.put, List.setIfInBounds_toArray, List.set_cons_zero, List.set_cons_succ])
        refine wpT_nil ?_
        go_wp2_with (fail)
        go_ret
        exact ⟨ret_int (by rw [HZ2.out]; rfl), FR.out.drew.drew⟩
    · have hend := cmpB_end a b j (by omega) hj hk
      have HE := hid hend
      clear hend
      have HO := hid (fun w => orderN_go a.length b.length w)
      have hor : (a.length : Int) ≤ (j : Int) ∨ (b.length : Int) ≤ (j : Int) := by omega
      clear hjn
      rcases hor with h12 | h12
      all_goals
        go_wp2_with (go_at_call 40; refine (HO.out _).mono ?_; rintro e w1 ⟨rfl, rfl⟩)
        all_goals (go_ret; exact ⟨ret_int (by rw [← HE.out, HA.out]), FR.out⟩)
theorem r2Cut_go (s : List UInt8) (hs : s.length ≤ 1099511627776) (w : World) : Calls Tryd.prog 26 #[.string (bs s)] w fun e w' => e = .returned (.string (bs (s.take 16))) ∧ Fr (fun _ => False) w w' := by
  have e1 := bs_size s
  by_cases h : 16 < s.length
  · have h1 : (16 : Int) < (s.length : Int) := by omega
    have h2 : (16 : Int) ≤ (s.length : Int) := by omega
    have hex : (bs s).extract 0 16 = bs (s.take 16) := by apply ByteArray.ext; simp [bs]
    go_enter Tryd.func26, Tryd.ntmps26
    go_wp2_with (fail)
    go_ret
    exact ⟨rfl, Fr.refl _ _⟩
  · have h1 : ¬ (16 : Int) < (s.length : Int) := by omega
    rw [List.take_of_length_le (by omega)]
    go_enter Tryd.func26, Tryd.ntmps26
    go_wp2_with (fail)
    go_ret
    exact ⟨rfl, Fr.refl _ _⟩
set_option maxRecDepth 20000 in
set_option maxHeartbeats 1000000 in
theorem r2Compare_go (a b : V) (ha : a.s.length ≤ 1099511627776) (hb : b.s.length ≤ 1099511627776) (w : World) : Calls Tryd.prog 18 #[vagg a, vagg b] w fun e w' => e = .returned (.int .i64 (V.cmp a b)) ∧ Fr (fun _ => False) w w' := by
  have FA := hid (((Fr.refl (fun _ => False) w).alloc (.cells a.cells.toArray 28)).alloc (.cells b.cells.toArray 28))
  have HA := hid (fun w => place_go a.k w)
  have HB := hid (fun w => place_go b.k w)
  have HO := hid (fun w => orderI_go (rank a.k) (rank b.k) w)
  have HN := hid (fun w => orderI_go a.n b.n w)
  have HT := hid (fun w => Texts_go a.s b.s ha hb w)
  obtain ⟨z, hz⟩ : ∃ z, V.cmp a b = z := ⟨_, rfl⟩
  rw [hz]
  have hrk : ∀ k : Int, (rank k = k ∧ 0 ≤ k ∧ k ≤ 2) ∨ (rank k = 3 ∧ ¬ (0 ≤ k ∧ k ≤ 2)) := fun k => by
    by_cases h : 0 ≤ k ∧ k ≤ 2
    · exact .inl ⟨rank_in h, h⟩
    · exact .inr ⟨rank3 h, h⟩
  have HRA := hid (hrk a.k)
  unfold V.cmp at hz
  obtain ⟨ak, an, ax⟩ := a
  obtain ⟨bk, bn, bx⟩ := b
  unfold vagg V.cells at *
  dsimp only at *
  clear hrk
  generalize hra : rank ak = ra at *
  generalize hrb : rank bk = rb at *
  have HZ := hid hz
  clear hz hra hrb
  by_cases hne : ra = rb
  · subst hne
    have hbb : (ra != ra) = false := bne_self_eq_false _
    by_cases h1 : ra = 1
    · subst h1
      have HZ2 : Hid (z = Lib.compareInt an bn) := hid (by rw [← HZ.out]; have := HRA.out; have h : ak = 1 := (by omega); simp [h])
      go_enter Tryd.func18, Tryd.ntmps18
      go_wp2_with (first
        | (go_at_call 39; (with_reducible refine (HA.out _).mono ?_); rintro e w1 ⟨rfl, rfl⟩)
        | (go_at_call 39; (with_reducible refine (HB.out _).mono ?_); rintro e w1 ⟨rfl, rfl⟩)
        | (go_at_call 40; refine (HN.out _).mono ?_; rintro e w1 ⟨rfl, rfl⟩))
      go_ret
      exact ⟨ret_int HZ2.out.symm, FA.out⟩
    · have e1 : (ra == 1) = false := by simpa using h1
      by_cases h2 : ra = 2
      · subst h2
        have HZ2 : Hid (z = Lib.compareBytes ax bx) := hid (by rw [← HZ.out]; have := HRA.out; have h : ak = 2 := (by omega); simp [h])
        go_enter Tryd.func18, Tryd.ntmps18
        go_wp2_with (first
          | (go_at_call 39; (with_reducible refine (HA.out _).mono ?_); rintro e w1 ⟨rfl, rfl⟩)
          | (go_at_call 39; (with_reducible refine (HB.out _).mono ?_); rintro e w1 ⟨rfl, rfl⟩)
          | (go_at_call 41; refine (HT.out _).mono ?_; rintro e w1 ⟨rfl, f⟩; have F1 := hid f; clear f))
        go_ret
        exact ⟨ret_int HZ2.out.symm, FA.out.trans F1.out (fun _ h _ => h)⟩
      · have e2 : (ra == 2) = false := by simpa using h2
        have HZ2 : Hid (z = 0) := hid (by rw [← HZ.out]; have := HRA.out; have g1 : ¬ ak = 1 := (by omega); have g2 : ¬ ak = 2 := (by omega); simp [g1, g2])
        go_enter Tryd.func18, Tryd.ntmps18
        go_wp2_with (first
          | (go_at_call 39; (with_reducible refine (HA.out _).mono ?_); rintro e w1 ⟨rfl, rfl⟩)
          | (go_at_call 39; (with_reducible refine (HB.out _).mono ?_); rintro e w1 ⟨rfl, rfl⟩))
        go_ret
        exact ⟨ret_int HZ2.out.symm, FA.out⟩
  · have hbb : (ra != rb) = true := by simpa using hne
    have HZ2 : Hid (z = Lib.compareInt ra rb) := hid (by rw [← HZ.out, if_pos hne])
    go_enter Tryd.func18, Tryd.ntmps18
    go_wp2_with (first
      | (go_at_call 39; (with_reducible refine (HA.out _).mono ?_); rintro e w1 ⟨rfl, rfl⟩)
      | (go_at_call 39; (with_reducible refine (HB.out _).mono ?_); rintro e w1 ⟨rfl, rfl⟩)
      | (go_at_call 40; refine (HO.out _).mono ?_; rintro e w1 ⟨rfl, rfl⟩))
    go_ret
    exact ⟨ret_int HZ2.out.symm, FA.out⟩
set_option maxRecDepth 20000 in
set_option maxHeartbeats 1000000 in
theorem r2Rows_go {R R' : Nat → Prop} {w : World} {va vb : Value} {l m : List V} (h : Sl R w va l.length (l.flatMap V.cells)) (k : Sl R' w vb m.length (m.flatMap V.cells)) (hn : l.length ≤ 1099511627776) (hm : m.length ≤ 1099511627776) (hl : ∀ x ∈ l, x.s.length ≤ 1099511627776) (hr : ∀ x ∈ m, x.s.length ≤ 1099511627776) :
    Calls Tryd.prog 20 #[va, vb] w fun e w' => e = .returned (.int .i64 (rowsCmp l m)) ∧ Fr (fun _ => False) w w' := by
  obtain ⟨a, c, rfl, hc, hx⟩ := h
  obtain ⟨b, d, rfl, hd, hy⟩ := k
  have HX := hid (show Sl R w (.slice a l.length c) l.length (l.flatMap V.cells) from ⟨a, c, rfl, hc, hx⟩)
  have HY := hid (show Sl R' w (.slice b m.length d) m.length (m.flatMap V.cells) from ⟨b, d, rfl, hd, hy⟩)
  have HL := hid hl
  have HM := hid hr
  have F0 := hid (Fr.refl (fun _ => False) w)
  obtain ⟨z, hz⟩ : ∃ z, rowsCmp l m = z := ⟨_, rfl⟩
  rw [hz]
  have HZ := hid hz
  clear hx hy hz hl hr
  go_enter Tryd.func20, Tryd.ntmps20
  go_wp2_with (fail)
  go_loopw [5] (fun i wr => ∃ j : Nat, j ≤ l.length ∧ j ≤ m.length ∧ i = .int .i64 j ∧ rowsCmp (l.drop j) (m.drop j) = z ∧ Fr (fun _ => False) w wr) (fun i _ => l.length - (intOf i).toNat)
  case atStart => exact ⟨0, by omega, by omega, rfl, HZ.out, F0.out⟩
  case round =>
    obtain ⟨j, hj, hk, rfl, hall, fr⟩ := hrel
    have FR := hid fr
    have HA := hid hall
    clear fr hall
    by_cases hjn : j < l.length ∧ j < m.length
    · obtain ⟨hjl, hjm⟩ := hjn
      obtain ⟨g, o, rfl, hg, q0, q1, q2⟩ := sl_three (f := V.cells) vcells_len (HX.out.fr FR.out (fun _ _ h => h)) hjl
      obtain ⟨g', o', rfl, hg', r0, r1, r2⟩ := sl_three (f := V.cells) vcells_len (HY.out.fr FR.out (fun _ _ h => h)) hjm
      have i1 : (0 : Int) ≤ (j : Int) := by omega
      have i2 : (j : Int) < l.length := by omega
      have i3 : (j : Int) < m.length := by omega
      simp only [V.cells, List.getElem?_cons_zero, List.getElem?_cons_succ] at q0 q1 q2 r0 r1 r2
      have HST := hid (rowsCmp_step l m j hjl hjm)
      have HVC := hid (fun w => r2Compare_go l[j] m[j] (HL.out _ (List.getElem_mem hjl)) (HM.out _ (List.getElem_mem hjm)) w)
      generalize l[j] = x at *
      generalize m[j] = y at *
      have RX := hid (fun i u hu => cell_fr (range3 q0 q1 q2 i u hu) ((Fr.refl (fun _ => False) wr).drew) (fun h => h) : wr.drew.rangeAt g (o + j * 3) (V.cells x))
      have RY := hid (fun i u hu => cell_fr (range3 r0 r1 r2 i u hu) ((Fr.refl (fun _ => False) wr).drew) (fun h => h) : wr.drew.rangeAt g' (o' + j * 3) (V.cells y))
      clear q0 q1 q2 r0 r1 r2
      obtain ⟨cc, hcc⟩ : ∃ cc, V.cmp x y = cc := ⟨_, rfl⟩
      rw [hcc] at HST HVC
      clear hcc
      go_upto_region 4 with fail
      refine wp_region_scr (.take 0 (.take 1 (.take 2 (.take 3 (.take 4 (.take 5 (.take 6 (.take 7 (.op 8 (.take 9 .done)))))))))) (fun kz w => (kz ≤ 9 → w.rangeAt g (o + j * 3) (V.cells x) ∧ w.rangeAt g' (o' + j * 3) (V.cells y)) ∧ True) (by kernel_rfl) (by kernel_rfl) (by intro c a d v w h; cases d <;> exact h) ?_
      repeat
        first
        | (refine wpT_pure rfl rfl rfl ?_; apply Exists.intro; refine ⟨?_, ?_⟩; intro w; (first | (first | exact run_load_mid _ _ rfl g _ rfl _ _ qa.1 Tryd.underlying28 rfl size_V | exact run_load_mid _ _ rfl g' _ rfl _ _ qa.2 Tryd.underlying28 rfl size_V | (go_simp; rw [if_pos ⟨i1, i2⟩]; done) | (go_simp; rw [if_pos ⟨i1, i3⟩]; done)) | (go_simp <;> rfl)); simp only [Act.put, List.setIfInBounds_toArray, List.set_cons_zero, List.set_cons_succ])
        | (refine wpT_take 9 rfl rfl (by decide +kernel) ⟨fun _ => ⟨RX.out, RY.out⟩, trivial⟩ ?_; apply Exists.intro; refine ⟨?_, ?_⟩; intro w hw; (have qa := hw.1 (Nat.le_refl _); have qb := hw.2); (first | (first | exact run_load_mid _ _ rfl g _ rfl _ _ qa.1 Tryd.underlying28 rfl size_V | exact run_load_mid _ _ rfl g' _ rfl _ _ qa.2 Tryd.underlying28 rfl size_V | (go_simp; rw [if_pos ⟨i1, i2⟩]; done) | (go_simp; rw [if_pos ⟨i1, i3⟩]; done)) | (go_simp <;> rfl)); simp only [Act.put, List.setIfInBounds_toArray, List.set_cons_zero, List.set_cons_succ])
        | (refine wpT_skip rfl rfl ?_; simp only [Act.put, List.setIfInBounds_toArray, List.set_cons_zero, List.set_cons_succ])
      refine wpT_op rfl ?_
      go_wp2_with ((go_at_call 18; refine (HVC.out _).mono ?_; rintro e w8 ⟨rfl, f⟩; have F8 := hid (FR.out.trans (((Fr.refl (fun _ => False) wr).drew).trans f (fun _ h _ => h)) (fun _ h _ => h)); have R2 := hid (fun i u hu => cell_fr (RX.out i u hu) f (fun h => h) : w8.rangeAt g (o + j * 3) (V.cells x)); have R3 := hid (fun i u hu => cell_fr (RY.out i u hu) f (fun h => h) : w8.rangeAt g' (o' + j * 3) (V.cells y)); clear f))
      (refine ⟨?_, ?_⟩; focus (intro kz hk hk2 hh; first | (exfalso; simp at hk2; omega) | exact hh | exact (fun h => absurd h (by omega)) | obtain ⟨qa, qb⟩ := hh; first | exact ⟨qa, qb⟩ | (refine ⟨fun h => absurd h (by omega), ?_⟩; first | exact qb | (exact ⟨R2.out, R3.out⟩)) | (refine ⟨fun h => ?_, ?_⟩; (have qa := qa h); all_goals (first | exact qa | exact qb | (exact ⟨R2.out, R3.out⟩)))))
      repeat
        first
        | (refine wpT_pure rfl rfl rfl ?_; apply Exists.intro; refine ⟨?_, ?_⟩; intro w; ((go_simp <;> rfl)); simp only [Act.put, List.setIfInBounds_toArray, List.set_cons_zero, List.set_cons_succ])
        | (refine wpT_take 9 rfl rfl (by decide +kernel) ⟨fun _ => ⟨R2.out, R3.out⟩, trivial⟩ ?_; apply Exists.intro; refine ⟨?_, ?_⟩; intro w hw; (have qa := hw.1 (Nat.le_refl _); have qb := hw.2); ((go_simp <;> rfl)); simp only [Act.put, List.setIfInBounds_toArray, List.set_cons_zero, List.set_cons_succ])
        | (refine wpT_skip rfl rfl ?_; simp only [Act.put, List.setIfInBounds_toArray, List.set_cons_zero, List.set_cons_succ])
      refine wpT_nil ?_
      by_cases hc0 : cc = 0
      · subst hc0
        go_wp2_with (fail)
        go_roundw
        case rel => exact ⟨j + 1, by omega, by omega, by simp, by rw [← HA.out, HST.out]; simp, F8.out⟩
        case measure => simp [intOf]; omega
      · have hcb : (cc != 0) = true := by simpa using hc0
        go_wp2_with (fail)
        go_ret
        exact ⟨ret_int (by rw [← HA.out, HST.out, if_pos hc0]), F8.out⟩
    · have hend := rowsCmp_end l m j (by omega) hj hk
      have HE := hid hend
      clear hend
      have HO := hid (fun w => orderN_go l.length m.length w)
      have hor : (l.length : Int) ≤ (j : Int) ∨ (m.length : Int) ≤ (j : Int) := by omega
      clear hjn
      rcases hor with h12 | h12
      all_goals
        go_wp2_with (go_at_call 40; refine (HO.out _).mono ?_; rintro e w1 ⟨rfl, rfl⟩)
        all_goals (go_ret; exact ⟨ret_int (by rw [← HE.out, HA.out]), FR.out⟩)
end Go.Proofs.YtknpncpoojjbfaaDoor
