import Derived.Test.YtgkfdlpijefgkaaGreatDoorCtV
/- slices.CompactFunc of values: how long what it hands back is. -/
set_option linter.unusedVariables false
namespace Go.VB.Cat
open Go.VB.Oct Go.VB.Rec
theorem ac_two {α : Type} (p : α → α → Bool) (y z : α) : ∀ l : List α, ac p (l ++ [y, z]) = ac p (l ++ [y]) + (if p z y = true then 0 else 1)
  | [] => by show ac p [z] + _ = ac p [y] + _; rfl
  | [x] => by
    show ac p [y, z] + _ = ac p [y] + (if p y x = true then 0 else 1) + _
    have : ac p [y, z] = 1 + (if p z y = true then 0 else 1) := rfl
    have h2 : ac p [y] = 1 := rfl
    rw [this, h2]
    show 1 + _ + (if p y x = true then 0 else 1) = _
    omega
  | x :: x' :: l => by
    have ih := ac_two p y z (x' :: l)
    show ac p (x' :: (l ++ [y, z])) + (if p x' x = true then 0 else 1) = ac p (x' :: (l ++ [y])) + (if p x' x = true then 0 else 1) + _
    have e1 : x' :: (l ++ [y, z]) = (x' :: l) ++ [y, z] := rfl
    have e2 : x' :: (l ++ [y]) = (x' :: l) ++ [y] := rfl
    rw [e1, e2, ih]
    omega
theorem ac_take {α : Type} (p : α → α → Bool) {l : List α} {j : Nat} (h : j + 1 < l.length) : ac p (l.take (j + 2)) = ac p (l.take (j + 1)) + (if p l[j + 1] l[j] = true then 0 else 1) := by
  rw [List.take_succ_eq_append_getElem h, List.take_succ_eq_append_getElem (show j < l.length by omega), List.append_assoc]
  exact ac_two p l[j] l[j + 1] (l.take j)
theorem ac_le {α : Type} (p : α → α → Bool) : ∀ l : List α, ac p l ≤ l.length
  | [] => Nat.le_refl _
  | [_] => Nat.le_refl _
  | x :: y :: l => by
    have := ac_le p (y :: l)
    unfold ac
    rw [List.length_cons]
    split <;> omega
theorem ac_one {α : Type} (p : α → α → Bool) {l : List α} (h : 0 < l.length) : ac p (l.take 1) = 1 := by
  cases l with
  | nil => simp at h
  | cons x l => rfl
end Go.VB.Cat
namespace Go.Proofs.YtgkfdlpijefgkaaGreatDoor
open Go.RowKit Go.VB Go.VB.Oct Go.VB.Cat Go.VB.Rec
theorem put_get {lg vs : List Value} {a o : Nat} (h : a + vs.length ≤ lg.length) (ho : a + vs.length ≤ o) : (lg.take a ++ vs ++ lg.drop (a + vs.length))[o]? = lg[o]? := by
  rw [List.getElem?_append_right (by rw [List.length_append, List.length_take]; omega), List.getElem?_drop, List.length_append, List.length_take]
  congr 1
  omega
theorem eqC_go (a b : V) {w : World} (K : Kn w) : Calls Tryz.prog 63 #[vagg a, vagg b] w fun e w' => e = .returned (.bool (eqV a b)) ∧ Fr (fun _ => False) w w' := by
  have F1 := hid (((Fr.refl (fun _ => False) w).alloc (.cells a.cells.toArray 46)).alloc (.cells b.cells.toArray 46))
  have HC := hid (VCompare_go a b (K.fre F1.out))
  have HE := hid (show (V.cmp a b == 0) = eqV a b from rfl)
  generalize V.cmp a b = z at *
  obtain ⟨k, n, s⟩ := a
  obtain ⟨k', n', s'⟩ := b
  unfold vagg V.cells at *
  dsimp only at *
  go_enter Tryz.func63, Tryz.ntmps63
  go_wp2_with (go_at_call 40; refine HC.out.mono ?_; rintro e w1 ⟨rfl, f⟩; have F2 := hid (F1.out.trans f (fun _ h _ => h)); clear f)
  go_ret
  exact ⟨ret_bool HE.out, F2.out⟩
/-- 'clear' of a slice of structs -/
theorem run_clear_k {P : Program} (w : World) (t e ty : TypeId) (z : Value) (ht : P.underlying t = some (.slice e)) (hv : ∀ w, (zeroValue e).run P w = .ok z w) (h1 : ∀ v ∈ z.cells, v.oneCell' = true) (b o n c : Nat) (hn : 0 < n)
    (hc : ∀ j, j < n * z.cells.size → (w.cell? ⟨b, o + j, none⟩).isSome = true) (hf : ∀ j, j < n * z.cells.size → w.frozen? ⟨b, o + j, none⟩ = false) :
    (Builtin.clear_ #[t] ty #[.slice (some ⟨b, o, none⟩) n c]).run P w = .ok (.tuple #[]) (w.setCells b o (Builtin.zeroCells z.cells n).toList) := by
  have hl : (Builtin.zeroCells z.cells n).toList.length = n * z.cells.size := by simp [Builtin.zeroCells]
  have hst := run_storeCells_cells (P := P) b o (Builtin.zeroCells z.cells n).toList 0 w (by rw [hl]; simpa using hc) (by rw [hl]; simpa using hf) (by
    intro v hv'
    unfold Builtin.zeroCells at hv'
    rw [Array.toList_map, List.mem_map] at hv'
    obtain ⟨i, hi, rfl⟩ := hv'
    have hi : i < n * z.cells.size := by simpa using hi
    have hp : 0 < z.cells.size := Nat.pos_of_ne_zero fun h => by rw [h] at hi; omega
    have hm := Nat.mod_lt i hp
    rw [getElem!_pos z.cells _ hm]
    exact h1 _ (Array.getElem_mem hm))
  simp only [Nat.add_zero] at hst
  obtain ⟨m, rfl⟩ : ∃ m, n = m + 1 := ⟨n - 1, by omega⟩
  simp [Builtin.clear_, run_underlying ht, hv, hst]
theorem zero_val (w : World) : (zeroValue 46).run Tryz.prog w = .ok (.agg #[.int .i64 0, .int .i64 0, .string .empty]) w := by kernel_rfl
theorem val_at {B n cap g : Nat} {W : World} {l : List V} (h : Row 46 3 B W (.slice (some ⟨g, 0, none⟩) n cap) n (l.flatMap V.cells)) (hl : l.length = n) {i : Nat} (hi : i < l.length) : W.rangeAt g (i * 3) (V.cells l[i]) := by
  obtain ⟨g', h1, _, h3⟩ := row_cells h (by
    intro e
    have := congrArg List.length e
    rw [flat_len (k := 3) (fun _ => rfl)] at this
    simp at this
    omega)
  cases h1
  intro j u hu
  have hj : j < 3 := (List.getElem?_eq_some_iff.1 hu).1
  exact h3 _ u (by rw [flatK (k := 3) V.cells (fun _ => rfl) l i hi j hj]; exact hu)
set_option maxRecDepth 20000 in
set_option maxHeartbeats 4000000 in
theorem CompactV_go {B n : Nat} {w : World} {v : Value} {l : List V} (h : Row 46 3 B w v n (l.flatMap V.cells)) (hn : l.length = n) (K : Kn w) (hB : 0 < B) (hsz : n ≤ 1048576) :
    Calls Tryz.prog 62 #[v, .func (.func 63) #[] #[]] w fun e w' => ∃ a c, e = .returned (.slice a (ac eqV l) c) ∧ Fr (fun k => v.ownBlock = some k) w w' := by
  subst hn
  obtain ⟨a, cap, rfl, hcap⟩ := h.slice
  have HB := hid hB
  have HK := hid K
  have HR := hid h
  have HAL := hid (ac_le eqV l)
  clear h hB K
  by_cases h2 : l.length < 2
  · have HE := hid (show ac eqV l = l.length from by
      match l, h2 with
      | [], _ => rfl
      | [x], _ => rfl
      | x :: y :: l, h => exact absurd h (by simp))
    have i1 : (l.length : Int) < 2 := by omega
    go_enter Tryz.func62, Tryz.ntmps62
    go_wp2_with (fail)
    go_ret
    rw [HE.out]
    exact ⟨_, _, rfl, Fr.refl _ _⟩
  · obtain ⟨g, rfl, hgB, -⟩ := row_range HR.out (by
      cases l with
      | nil => simp at h2
      | cons x l => simp [V.cells])
    have i1 : ¬ (l.length : Int) < 2 := by omega
    have HONE := hid (ac_one eqV (l := l) (by omega))
    obtain ⟨N, hN⟩ : ∃ N, N = l.length := ⟨_, rfl⟩
    have HTK := hid (fun j (h : j + 1 < l.length) => ac_take eqV h)
    rw [← hN] at HR HAL h2 i1 hsz hcap ⊢
    have HNL := hid hN
    clear hN
    have hkg : 0 ≠ g := by have := HB.out; omega
    have HKG := hid hkg
    clear hkg
    go_enter Tryz.func62, Tryz.ntmps62
    go_upto_region 4 with fail
    go_wp2_with (fail)
    go_loopw [5] (fun s wr => ∃ j : Nat, j + 1 ≤ N ∧ s = .int .i64 ((j : Int) + 1) ∧ ac eqV (l.take (j + 1)) = j + 1 ∧ Fr (fun _ => False) w wr) (fun s _ => N - (intOf s).toNat)
    case atStart => exact ⟨0, by omega, by rfl, HONE.out, Fr.refl _ _⟩
    case round =>
      obtain ⟨j, hj, rfl, hac, fr⟩ := hrel
      have HAC := hid hac
      have FR := hid fr
      clear hac fr
      by_cases hjn : j + 1 < N
      · have hjl : j + 1 < l.length := by have := HNL.out; omega
        have i2 : (j : Int) + 1 < (N : Int) := by omega
        have i3 : (j : Int) < (N : Int) := by omega
        have i4 : IntKind.i64.wrap (j : Int) = (j : Int) := IntWalk.i64_in _ (by omega)
        have i5 : (0 : Int) ≤ (j : Int) + 1 := by omega
        have i6 : ((j : Int) + 1).toNat = j + 1 := by omega
        have RW := hid (HR.out.fre (FR.out.trans ((Fr.refl (fun _ => False) wr).drew) (fun _ h _ => h)))
        have RY := hid (val_at RW.out HNL.out.symm hjl)
        have RX := hid (val_at RW.out HNL.out.symm (show j < l.length by omega))
        have HT1 := hid (HTK.out j hjl)
        have HK1 := hid (HK.out.fre (FR.out.trans ((Fr.refl (fun _ => False) wr).drew) (fun _ h _ => h)))
        have FR1 := hid (FR.out.trans ((Fr.refl (fun _ => False) wr).drew) (fun _ h _ => h))
        obtain ⟨y, hy⟩ : ∃ y, y = l[j + 1] := ⟨_, rfl⟩
        obtain ⟨x, hx⟩ : ∃ x, x = l[j] := ⟨_, rfl⟩
        rw [← hy, ← hx] at HT1
        rw [← hy] at RY
        rw [← hx] at RX
        clear hy hx
        obtain ⟨yk, yn, ys⟩ := y
        obtain ⟨xk, xn, xs⟩ := x
        have HEQ := hid (eqC_go ⟨yk, yn, ys⟩ ⟨xk, xn, xs⟩ HK1.out)
        unfold vagg at HEQ
        obtain ⟨q, hq⟩ : ∃ q, eqV ⟨yk, yn, ys⟩ ⟨xk, xn, xs⟩ = q := ⟨_, rfl⟩
        rw [hq] at HEQ HT1
        clear hq
        unfold V.cells at HEQ RY RX
        dsimp only at HEQ RY RX
        go_upto_region 6 with fail
        refine wp_region_scr (.take 0 (.take 1 (.take 2 (.take 3 (.take 4 (.take 5 (.take 6 (.take 7 (.take 8 (.take 9 (.op 10 .done))))))))))) (fun kz w => (kz ≤ 11 → w.rangeAt g ((j + 1) * 3) [.int .i64 yk, .int .i64 yn, .string (bs ys)]) ∧ w.rangeAt g (j * 3) [.int .i64 xk, .int .i64 xn, .string (bs xs)]) (by kernel_rfl) (by kernel_rfl) (by intro c a d v w h; cases d <;> exact h) ?_
        repeat
          first
          | (refine wpT_pure rfl rfl rfl ?_; apply Exists.intro; refine ⟨?_, ?_⟩; intro w; (first | (first | exact run_load_mid _ _ rfl g _ rfl _ _ qa Tryz.underlying46 rfl size_V3 | exact run_load_mid _ _ rfl g _ rfl _ _ qb Tryz.underlying46 rfl size_V3 | (go_simp <;> rfl)) | (go_simp <;> rfl)); simp only [Act.put, List.setIfInBounds_toArray, List.set_cons_zero, List.set_cons_succ])
          | (refine wpT_take 11 rfl rfl (by decide +kernel) ⟨fun _ => RY.out, RX.out⟩ ?_; apply Exists.intro; refine ⟨?_, ?_⟩; intro w hw; (have qa := hw.1 (Nat.le_refl _); have qb := hw.2); (first | (first | exact run_load_mid _ _ rfl g _ rfl _ _ qa Tryz.underlying46 rfl size_V3 | exact run_load_mid _ _ rfl g _ rfl _ _ qb Tryz.underlying46 rfl size_V3 | (go_simp <;> rfl)) | (go_simp <;> rfl)); simp only [Act.put, List.setIfInBounds_toArray, List.set_cons_zero, List.set_cons_succ])
          | (refine wpT_skip rfl rfl ?_; simp only [Act.put, List.setIfInBounds_toArray, List.set_cons_zero, List.set_cons_succ])
        generalize wr.drew = W1 at *
        refine wpT_op rfl ?_
        go_wp2_with ((go_at_call 63; refine HEQ.out.mono ?_; rintro e w9 ⟨rfl, f⟩; have F9 := hid (FR1.out.trans f (fun _ h _ => h)); have RY9 := hid (fun i u hu => cell_fr (RY.out i u hu) f (fun h => h) : w9.rangeAt g ((j + 1) * 3) [.int .i64 yk, .int .i64 yn, .string (bs ys)]); have RX9 := hid (fun i u hu => cell_fr (RX.out i u hu) f (fun h => h) : w9.rangeAt g (j * 3) [.int .i64 xk, .int .i64 xn, .string (bs xs)]); clear f))
        (refine ⟨?_, ?_⟩; focus (intro kz hk hk2 hh; first | (exfalso; simp at hk2; omega) | exact hh | exact (fun h => absurd h (by omega)) | obtain ⟨qa, qb⟩ := hh; first | exact ⟨qa, qb⟩ | (refine ⟨fun h => absurd h (by omega), ?_⟩; first | exact qb | (first | exact RY9.out | exact RX9.out)) | (refine ⟨fun h => ?_, ?_⟩; (have qa := qa h); all_goals (first | exact qa | exact qb | (first | exact RY9.out | exact RX9.out)))))
        refine wpT_nil ?_
        clear RY RX RY9 RX9 HEQ RW HK1 FR1 FR
        cases q with
        | false =>
          have HAC2 := hid (show ac eqV (l.take (j + 1 + 1)) = j + 1 + 1 from by rw [HT1.out, HAC.out]; rfl)
          go_wp2_with (fail)
          go_roundw
          case rel => exact ⟨j + 1, by omega, by go_num, HAC2.out, F9.out⟩
          case measure => simp [intOf]; omega
        | true =>
          have HAC2 := hid (show ac eqV (l.take (j + 1 + 1)) = j + 1 from by rw [HT1.out, HAC.out]; rfl)
          go_upto_region 8 with fail
          have HRX := hid (HR.out.fre F9.out)
          obtain ⟨lg, hlg⟩ := row_blk HRX.out (k := g) rfl
          have HLG := hid hlg
          have HLN := hid (show N * 3 ≤ lg.length from by
            rcases HRX.out.own.2 with ⟨h1, _⟩ | ⟨g', cap', cur, h1, hb, hgg, e2, e3, e4, e5⟩
            · cases h1
            · cases h1
              have hu := hlg.uniq (l' := cur.toList) (t' := 46) (by unfold Blk; simpa using hgg)
              rw [hu.1, Array.length_toList, e4]
              exact Nat.mul_le_mul_right 3 e2)
          have HV0 := hid (fun i (hi : j + 1 ≤ i) (hl : i < l.length) => val_at HRX.out HNL.out.symm hl)
          clear hlg HRX
          go_wp2_with (fail)
          go_loopw [5, 7] (fun s5 s7 wr => ∃ (m k : Nat) (lg : List Value), j + 1 + m + 1 ≤ N ∧ s5 = .int .i64 k ∧ s7 = .int .i64 ((m : Int) + 1) ∧ ac eqV (l.take (j + 1 + m + 1)) = k ∧ k ≤ j + 1 + m ∧ Blk wr g lg 46 ∧ N * 3 ≤ lg.length ∧
            (∀ i (hi : j + 1 + m ≤ i) (hl : i < l.length), wr.rangeAt g (i * 3) (V.cells l[i])) ∧ Fr (fun k => k = g) w wr) (fun _ s7 _ => (N - (j + 1)) - (intOf s7).toNat)
          case atStart => exact ⟨0, j + 1, lg, by omega, by push_cast; rfl, by rfl, HAC2.out, by omega, HLG.out, HLN.out, fun i hi hl => HV0.out i (by omega) hl, F9.out.mono (fun _ h _ => h.elim)⟩
          case round =>
            obtain ⟨m, k, lg, hm, rfl, rfl, hac, hkm, hlg, hln, hv, fr⟩ := hrel
            have HAC3 := hid hac
            have HLG3 := hid hlg
            have HV3 := hid hv
            have FR3 := hid fr
            clear hac hlg hv fr HLG HLN HV0 F9
            by_cases hmn : j + 1 + m + 1 < N
            · have hml : j + 1 + m + 1 < l.length := by have := HNL.out; omega
              have b1 : (m : Int) + 1 < ((N - (j + 1) : Nat) : Int) := by omega
              have b2 : (m : Int) < ((N - (j + 1) : Nat) : Int) := by omega
              have b3 : IntKind.i64.wrap (m : Int) = (m : Int) := IntWalk.i64_in _ (by omega)
              have b4 : (0 : Int) ≤ (m : Int) + 1 := by omega
              have b5 : ((m : Int) + 1).toNat = m + 1 := by omega
              have fd := (Fr.refl (fun _ => False) wr).drew
              have RY := hid (fun i u hu => cell_fr (HV3.out (j + 1 + m + 1) (by omega) hml i u hu) fd (fun h => h))
              have hml0 : j + 1 + m < l.length := by omega
              have RX := hid (fun i u hu => cell_fr (HV3.out (j + 1 + m) (Nat.le_refl _) hml0 i u hu) fd (fun h => h))
              rw [show (j + 1 + m + 1) * 3 = (j + 1) * 3 + (m + 1) * 3 by omega] at RY
              rw [show (j + 1 + m) * 3 = (j + 1) * 3 + m * 3 by omega] at RX
              replace RY := hid (show wr.drew.rangeAt g ((j + 1) * 3 + (m + 1) * 3) (V.cells l[j + 1 + m + 1]) from RY.out)
              replace RX := hid (show wr.drew.rangeAt g ((j + 1) * 3 + m * 3) (V.cells l[j + 1 + m]) from RX.out)
              have HT3 := hid (HTK.out (j + 1 + m) hml)
              have FR4 := hid (FR3.out.trans fd (fun _ h _ => h.elim))
              have HK3 := hid (HK.out.fr FR4.out (fun e => HKG.out e))
              have HLG4 := hid (Blk.fr HLG3.out fd (fun h => h))
              have HV4 := hid (fun i (hi : j + 1 + m ≤ i) (hl : i < l.length) => (fun q u hu => cell_fr (HV3.out i hi hl q u hu) fd (fun h => h) : wr.drew.rangeAt g (i * 3) (V.cells l[i])))
              clear fd HLG3 HV3 FR3
              obtain ⟨y, hy⟩ : ∃ y, y = l[j + 1 + m + 1] := ⟨_, rfl⟩
              obtain ⟨x, hx⟩ : ∃ x, x = l[j + 1 + m] := ⟨_, rfl⟩
              rw [← hy, ← hx] at HT3
              rw [← hy] at RY
              rw [← hx] at RX
              clear hy hx
              obtain ⟨yk, yn, ys⟩ := y
              obtain ⟨xk, xn, xs⟩ := x
              have HEQ := hid (eqC_go ⟨yk, yn, ys⟩ ⟨xk, xn, xs⟩ HK3.out)
              unfold vagg at HEQ
              obtain ⟨q, hq⟩ : ∃ q, eqV ⟨yk, yn, ys⟩ ⟨xk, xn, xs⟩ = q := ⟨_, rfl⟩
              rw [hq] at HEQ HT3
              clear hq
              unfold V.cells at HEQ RY RX
              dsimp only at HEQ RY RX
              go_upto_region 11 with fail
              refine wp_region_scr (.take 0 (.take 1 (.take 2 (.take 3 (.take 4 (.take 5 (.take 6 (.take 7 (.take 8 (.take 9 (.op 10 (.take 11 .done)))))))))))) (fun kz w => (kz ≤ 12 → w.rangeAt g ((j + 1) * 3 + (m + 1) * 3) [.int .i64 yk, .int .i64 yn, .string (bs ys)]) ∧ w.rangeAt g ((j + 1) * 3 + m * 3) [.int .i64 xk, .int .i64 xn, .string (bs xs)]) (by kernel_rfl) (by kernel_rfl) (by intro c a d v w h; cases d <;> exact h) ?_
              repeat
                first
                | (refine wpT_pure rfl rfl rfl ?_; apply Exists.intro; refine ⟨?_, ?_⟩; intro w; (first | (first | exact run_load_mid _ _ rfl g _ rfl _ _ qa Tryz.underlying46 rfl size_V3 | exact run_load_mid _ _ rfl g _ rfl _ _ qb Tryz.underlying46 rfl size_V3 | (go_simp <;> rfl)) | (go_simp <;> rfl)); simp only [Act.put, List.setIfInBounds_toArray, List.set_cons_zero, List.set_cons_succ])
                | (refine wpT_take 12 rfl rfl (by decide +kernel) ⟨fun _ => RY.out, RX.out⟩ ?_; apply Exists.intro; refine ⟨?_, ?_⟩; intro w hw; (have qa := hw.1 (Nat.le_refl _); have qb := hw.2); (first | (first | exact run_load_mid _ _ rfl g _ rfl _ _ qa Tryz.underlying46 rfl size_V3 | exact run_load_mid _ _ rfl g _ rfl _ _ qb Tryz.underlying46 rfl size_V3 | (go_simp <;> rfl)) | (go_simp <;> rfl)); simp only [Act.put, List.setIfInBounds_toArray, List.set_cons_zero, List.set_cons_succ])
                | (refine wpT_skip rfl rfl ?_; simp only [Act.put, List.setIfInBounds_toArray, List.set_cons_zero, List.set_cons_succ])
              generalize wr.drew = W2 at *
              refine wpT_op rfl ?_
              go_wp2_with ((go_at_call 63; refine HEQ.out.mono ?_; rintro e w10 ⟨rfl, f⟩; have F10 := hid (FR4.out.trans f (fun _ h _ => h.elim)); have RY9 := hid (fun i u hu => cell_fr (RY.out i u hu) f (fun h => h) : w10.rangeAt g ((j + 1) * 3 + (m + 1) * 3) [.int .i64 yk, .int .i64 yn, .string (bs ys)]); have RX9 := hid (fun i u hu => cell_fr (RX.out i u hu) f (fun h => h) : w10.rangeAt g ((j + 1) * 3 + m * 3) [.int .i64 xk, .int .i64 xn, .string (bs xs)]); have HLG9 := hid (Blk.fr HLG4.out f (fun h => h)); have HV9 := hid (fun i (hi : j + 1 + m ≤ i) (hl : i < l.length) => (fun q u hu => cell_fr (HV4.out i hi hl q u hu) f (fun h => h) : w10.rangeAt g (i * 3) (V.cells l[i]))); clear f))
              (refine ⟨?_, ?_⟩; focus (intro kz hk hk2 hh; first | (exfalso; simp at hk2; omega) | exact hh | exact (fun h => absurd h (by omega)) | obtain ⟨qa, qb⟩ := hh; first | exact ⟨qa, qb⟩ | (refine ⟨fun h => absurd h (by omega), ?_⟩; first | exact qb | (first | exact RY9.out | exact RX9.out)) | (refine ⟨fun h => ?_, ?_⟩; (have qa := qa h); all_goals (first | exact qa | exact qb | (first | exact RY9.out | exact RX9.out)))))
              clear RY RX HEQ HK3 FR4 HLG4 HV4
              repeat
                first
                | (refine wpT_pure rfl rfl rfl ?_; apply Exists.intro; refine ⟨?_, ?_⟩; intro w; ((go_simp <;> rfl)); simp only [Act.put, List.setIfInBounds_toArray, List.set_cons_zero, List.set_cons_succ])
                | (refine wpT_take 12 rfl rfl (by decide +kernel) ⟨fun _ => RY9.out, RX9.out⟩ ?_; apply Exists.intro; refine ⟨?_, ?_⟩; intro w hw; (have qa := hw.1 (Nat.le_refl _); have qb := hw.2); ((go_simp <;> rfl)); simp only [Act.put, List.setIfInBounds_toArray, List.set_cons_zero, List.set_cons_succ])
                | (refine wpT_skip rfl rfl ?_; simp only [Act.put, List.setIfInBounds_toArray, List.set_cons_zero, List.set_cons_succ])
              refine wpT_nil ?_
              cases q with
              | true =>
                have HAC4 := hid (show ac eqV (l.take (j + 1 + (m + 1) + 1)) = k from by
                  have := HT3.out
                  rw [HAC3.out] at this
                  exact this)
                go_wp2_with (fail)
                go_roundw
                case rel => exact ⟨m + 1, k, lg, by omega, rfl, by go_num, HAC4.out, by omega, HLG9.out, hln, fun i hi hl => HV9.out i (by omega) hl, F10.out⟩
                case measure => simp [intOf]; omega
              | false =>
                have HAC4 := hid (show ac eqV (l.take (j + 1 + (m + 1) + 1)) = k + 1 from by
                  have := HT3.out
                  rw [HAC3.out] at this
                  exact this)
                have b6 : (k : Int) < (N : Int) := by omega
                have b7 : (0 : Int) ≤ (k : Int) := by omega
                have hth := HLG9.out.there (k * 3) 3 (by omega)
                have HTH := hid hth
                clear hth RX9
                have HLA := hid (HLG9.out.put (k * 3) [.int .i64 yk, .int .i64 yn, .string (bs ys)] (by simp; omega))
                have HVA := hid (fun i (hi : j + 1 + (m + 1) ≤ i) (hl : i < l.length) => (fun q u hu => by
                  rw [HLA.out.cell, put_get (by simp; omega) (by simp; omega), ← HLG9.out.cell]
                  exact HV9.out i (by omega) hl q u hu : (w10.setCells g (k * 3) [.int .i64 yk, .int .i64 yn, .string (bs ys)]).rangeAt g (i * 3) (V.cells l[i])))
                have HLNA := hid (show N * 3 ≤ (lg.take (k * 3) ++ [Value.int .i64 yk, .int .i64 yn, .string (bs ys)] ++ lg.drop (k * 3 + [Value.int .i64 yk, .int .i64 yn, .string (bs ys)].length)).length from by
                  simp only [List.length_append, List.length_take, List.length_drop, List.length_cons, List.length_nil]
                  omega)
                have FRA := hid (F10.out.trans ((Fr.refl (fun k => k = g) w10).put g (k * 3) [.int .i64 yk, .int .i64 yn, .string (bs ys)] (fun _ => rfl)) (fun _ h _ => h))
                go_wp2_with (first
                  | (refine wpList_load_mid rfl 46 (.tmp 54) rfl g ((j + 1) * 3 + (m + 1) * 3) rfl [.int .i64 yk, .int .i64 yn, .string (bs ys)] _ RY9.out Tryz.underlying46 rfl size_V3 ?_)
                  | (refine wpList_store_mid rfl 46 (.tmp 56) (.tmp 55) rfl g (k * 3) #[.int .i64 yk, .int .i64 yn, .string (bs ys)] rfl rfl HTH.out size_V3 (by simp [Value.oneCell']) ?_))
                go_roundw
                case rel => exact ⟨m + 1, k + 1, _, by omega, by go_num, by go_num, HAC4.out, by omega, HLA.out, HLNA.out, HVA.out, FRA.out⟩
                case measure => simp [intOf]; omega
            · obtain rfl : N = j + 1 + m + 1 := by omega
              have HAC4 := hid (show ac eqV l = k from by
                have := HAC3.out
                rw [List.take_of_length_le (by have := HNL.out; omega)] at this
                exact this)
              have b1 : ¬ ((m : Int) + 1 < ((j + 1 + m + 1 - (j + 1) : Nat) : Int)) := by omega
              have hcl : ∀ ty, (Builtin.clear_ #[23] ty #[.slice (some ⟨g, k * 3, none⟩) (j + 1 + m + 1 - k) (cap - k)]).run Tryz.prog wr = .ok (.tuple #[]) (wr.setCells g (k * 3) (Builtin.zeroCells (Value.agg #[.int .i64 0, .int .i64 0, .string .empty]).cells (j + 1 + m + 1 - k)).toList) :=
                fun ty => run_clear_k wr 23 46 ty _ Tryz.underlying23 zero_val (by simp [Value.cells, Value.oneCell']) g (k * 3) _ _ (by omega)
                  (fun q hq => by
                    have hq : q < (j + 1 + m + 1 - k) * 3 := hq
                    rw [HLG3.out.cell, List.getElem?_eq_getElem (by omega)]; rfl) (fun q hq => HLG3.out.frozen _)
              have FRA := hid (FR3.out.trans ((Fr.refl (fun k => k = g) wr).put g (k * 3) (Builtin.zeroCells (Value.agg #[.int .i64 0, .int .i64 0, .string .empty]).cells (j + 1 + m + 1 - k)).toList (fun _ => rfl)) (fun _ h _ => h))
              generalize (Builtin.zeroCells (Value.agg #[.int .i64 0, .int .i64 0, .string .empty]).cells (j + 1 + m + 1 - k)).toList = Z at *
              have b6 : (k : Int) ≤ ((j + 1 + m + 1 : Nat) : Int) := by omega
              have b7 : (0 : Int) ≤ (k : Int) := by omega
              have HFF := hid (FRA.mono (T := fun q => (Value.slice (some ⟨g, 0, none⟩) (j + 1 + m + 1) cap).ownBlock = some q) (fun q hq _ => by rw [hq]; rfl))
              clear FRA
              go_wp2_with (fail)
              go_ret
              exact ⟨⟨_, _, by rw [HAC4.out]; rfl⟩, HFF.out⟩
      · obtain rfl : N = j + 1 := by omega
        have HAC4 := hid (show ac eqV l = j + 1 from by
          have := HAC.out
          rw [List.take_of_length_le (by have := HNL.out; omega)] at this
          exact this)
        have HFF := hid (FR.out.mono (T := fun q => (Value.slice (some ⟨g, 0, none⟩) (j + 1) cap).ownBlock = some q) (fun q hq _ => hq.elim))
        have b1 : ¬ ((j : Int) + 1 < ((j + 1 : Nat) : Int)) := by omega
        go_wp2_with (fail)
        go_ret
        exact ⟨⟨_, _, by rw [HAC4.out]; rfl⟩, HFF.out⟩
end Go.Proofs.YtgkfdlpijefgkaaGreatDoor
