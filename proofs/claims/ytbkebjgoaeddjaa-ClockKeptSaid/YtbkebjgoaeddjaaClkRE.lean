import Derived.Test.YtbkebjgoaeddjaaClkRD
/- The reference's clock: End. -/
set_option linter.unusedVariables false
namespace Go.Proofs.Ytbkebjgoaeddjaa
open Go.RowKit Go.VB Go.VB.Clk
variable {w : World} {c : Nat} {m : CM}
theorem rends_st {W : World} {l : List Nat} {s : Int} {y : Nat} (h : RRep W c (CM.ends m l s)) (hy : y < 128) : W.cell? ⟨c, 2 + y, none⟩ = some (.int .i64 (endS l s m.st y)) := RRep.st h hy
theorem nv_one (l : List Nat) : ∀ u ∈ nv l, u.oneCell' = true := by
  intro u hu
  simp only [nv, List.mem_map] at hu
  obtain ⟨c, _, rfl⟩ := hu
  rfl
set_option maxRecDepth 20000 in
set_option maxHeartbeats 4000000 in
theorem rEnd_go (h : RRep w c m) (ok : m.Ok) (x s : Int) : Calls Try.prog 61 #[.pointer (some ⟨c, 0, none⟩), .int .i64 x, .int .i64 s] w fun e w' => e = .returned (.int .i64 (m.end_ x s).2) ∧ RRep w' c (m.end_ x s).1 ∧ Fr (fun k => k = c) w w' := by
  have HH := hid h
  unfold CM.end_
  have HK := hid (fun (b : Bool) (hb : m.knows x = b) => rknows_is h ok x hb)
  by_cases h1 : 2 ≤ s ∧ s ≤ 4
  case neg =>
    rw [if_neg (by unfold CM.mayE; simp only [Bool.and_eq_true, decide_eq_true_eq]; omega)]
    have HK := hid (HK.out _ rfl)
    clear h
    generalize m.knows x = b at *
    rcases (show s < 2 ∨ 4 < s by omega) with h2 | h2
    all_goals
      clear h1
      go_enter Try.func61, Try.ntmps61
      go_wp2_with (go_at_call 70; refine HK.out.mono ?_; rintro e w' ⟨rfl, f⟩)
      go_ret
      exact ⟨rfl, RRep.fr HH.out f (fun h => h), f.mono (fun _ h _ => h.elim)⟩
  obtain ⟨s1, s2⟩ := h1
  cases hk : m.knows x with
  | false =>
    rw [if_neg (by unfold CM.mayE; simp [hk])]
    have HK := hid (HK.out _ hk)
    clear h hk
    go_enter Try.func61, Try.ntmps61
    go_wp2_with (go_at_call 70; refine HK.out.mono ?_; rintro e w' ⟨rfl, f⟩)
    go_ret
    exact ⟨rfl, RRep.fr HH.out f (fun h => h), f.mono (fun _ h _ => h.elim)⟩
  | true =>
    have HK := hid (HK.out _ hk)
    have HKK := hid hk
    obtain ⟨k, rfl, k1, k2, k3⟩ := m.knows_nat hk
    have l0 := h.st (x := k) (by omega)
    have i1 : (0 : Int) ≤ (k : Int) := by omega
    have i2 : (k : Int) < 128 := by omega
    by_cases hm : m.mayE k s = true
    case neg =>
      rw [if_neg hm]
      have hm : m.mayE k s = false := by simpa using hm
      simp only [CM.mayE, hk, s1, s2, decide_true, Bool.true_and, Bool.and_eq_false_iff, decide_eq_false_iff_not, Int.toNat_natCast, CM.live, Decidable.not_not] at hm
      have hc : (m.st k != 1) = true ∧ (m.st k != 4) = true ∨ m.st k = s ∧ (s = 1 ∨ s = 4) := by
        rcases hm with hm | hm
        · refine .inl ?_
          simp only [liveS, Bool.or_eq_false_iff, decide_eq_false_iff_not] at hm
          simpa using hm
        · by_cases h1 : m.st k = 1
          · exact .inr ⟨hm, .inl (by omega)⟩
          · by_cases h4 : m.st k = 4
            · exact .inr ⟨hm, .inr (by omega)⟩
            · exact .inl (by simp [h1, h4])
      clear hm hk h
      rcases hc with ⟨h1, h4⟩ | ⟨he, hs⟩
      · generalize m.st k = sv at *
        go_enter Try.func61, Try.ntmps61
        go_wp2_with (fail)
        refine HK.out.mono ?_
        rintro e w1 ⟨rfl, f⟩
        have l0 := cell_fr l0 f (fun h => h)
        go_wp2_with (fail)
        go_ret
        exact ⟨rfl, RRep.fr HH.out f (fun h => h), f.mono (fun _ h _ => h.elim)⟩
      · rw [he] at l0
        rcases hs with rfl | rfl
        all_goals
          clear he
          go_enter Try.func61, Try.ntmps61
          go_wp2_with (fail)
          refine HK.out.mono ?_
          rintro e w1 ⟨rfl, f⟩
          have l0 := cell_fr l0 f (fun h => h)
          go_wp2_with (fail)
          go_ret
          exact ⟨rfl, RRep.fr HH.out f (fun h => h), f.mono (fun _ h _ => h.elim)⟩
    case pos =>
      rw [if_pos hm, Int.toNat_natCast]
      simp only [CM.mayE, hk, s1, s2, decide_true, Bool.true_and, Bool.and_eq_true, decide_eq_true_eq, Int.toNat_natCast, CM.live] at hm
      obtain ⟨hlv, hne⟩ := hm
      have hd : (m.st k == s) = false := by simpa using hne
      have hbl := m.below_le k
      have hfar := ok.far
      have hp : ∃ W : World, Hid (RRep W c m ∧ Fr (fun _ => False) w W) := ⟨w, hid ⟨h, Fr.refl _ _⟩⟩
      have HBL := hid (fun (W : World) (hc : RRep W c m) => rBelow_go hc ok k)
      have hmem := hid (fun y (hy : y ∈ k :: m.below k) => show y < 128 by
        rcases List.mem_cons.1 hy with hy | hy
        · omega
        · have := CM.knows_iff.1 (m.below_mem ok hy)
          omega)
      have hll : (k :: m.below k).length = 1 + (m.below k).length := by simp; omega
      have HLL := hid hll
      have hL : (k :: m.below k).length ≤ 61 := by omega
      have hnv : nv (k :: m.below k) = [Value.int .i64 k] ++ nv (m.below k) := rfl
      have HNV := hid hnv
      clear h hk hne hp hll hnv
      go_enter Try.func61, Try.ntmps61
      go_wp2_with (fail)
      refine HK.out.mono ?_
      rintro e w1 ⟨rfl, f⟩
      have l1 := cell_fr l0 f (fun h => h)
      rcases liveS_cases hlv with h1 | h1
      all_goals
        rw [h1] at l1 hd
        have R1 := hid (RRep.fr HH.out f (fun h => h))
        have F1 := hid f
        clear l0 hlv h1 f
        go_upto_region 7 with (fail)
        have fa := (Fr.refl (fun _ => False) w1).alloc (.cells [Value.int .i64 k].toArray 3)
        have ra := Row.built (e := 3) (size := 1) (n := 1) (B := w1.heap.size) w1 (l := [Value.int .i64 k]) rfl (by unfold maxLen; omega) (Nat.le_refl _)
        have HFA := hid fa
        have HRA := hid ra
        have hBC := HBL.out _ (RRep.fr R1.out fa (fun h => h))
        clear fa ra l1
        go_wp2_with (fail)
        refine hBC.mono ?_
        rintro e w2 ⟨v, rfl, row, f2⟩
        clear hBC
        have R2 := hid (RRep.fr (RRep.fr R1.out HFA.out (fun h => h)) f2 (fun h => h))
        have F2 := hid ((F1.out.trans HFA.out (fun _ h _ => h)).trans f2 (fun _ h _ => h))
        have rowA := HRA.out.fre f2
        have hs2 := f2.size
        have hs1 := HFA.out.size
        have hsrc := row.src (P := Try.prog) (nv_one _)
        have HRB := hid row
        have HR1 := hid rowA
        have hw1 : w1.heap.size ≤ w2.heap.size := by omega
        clear row rowA f2
        go_wp2_with (first
          | (refine wpList_appS rfl (s := .tmp 42) (x := .tmp 45) (t := 26) (tx := 26) rfl Try.underlying26 Try.underlying26 (.inr ⟨_, rfl⟩) Try.info_int rfl rfl rfl HR1.out hw1 hsrc (by omega) (by omega) ?_; intro ab ac wg APP))
        have R3 := hid (RRep.fr R2.out APP.fr (fun hk => by have h1 := HR1.out.new c hk; have h2 := Blk.lt HH.out; have h3 := F1.out.size; omega))
        have F3 := hid (APP.frB HR1.out F2.out F1.out.size)
        have hro := APP.row
        rw [← HNV.out] at hro
        rw [← HLL.out] at hro ⊢
        have hoff : ∀ k', (Value.slice ab (k :: m.below k).length ac).ownBlock = some k' → k' ≠ c := fun k' hk' e => by
          have h1 := hro.new k' hk'; have h2 := Blk.lt HH.out; have h3 := F1.out.size; omega
        obtain ⟨g, rfl, hg, hr⟩ := row_cells hro (by simp [nv])
        have hgc : g ≠ c := by have h2 := Blk.lt HH.out; have h3 := F1.out.size; omega
        have HR := hid hr
        clear hro hr APP hsrc HRB HR1 HRA HFA R2 F2 R1 HBL HNV HLL hoff
        generalize hLe : k :: m.below k = L at *
        have HLE := hid hLe
        clear hLe
        have hst0 := hid (show RRep wg c (CM.ends m [] s) by unfold CM.ends; rw [endS_nil]; exact R3.out)
        clear hbl hd
        go_loopw [10] (fun i wr => ∃ j : Nat, j ≤ L.length ∧ i = .int .i64 j ∧ RRep wr c (CM.ends m (L.take j) s) ∧ Fr (fun k => k = c) wg wr) (fun i _ => L.length - (intOf i).toNat)
        case atStart => exact ⟨0, by omega, rfl, by rw [List.take_zero]; exact hst0.out, Fr.refl _ _⟩
        case round =>
          obtain ⟨j, hj, rfl, hc, fr⟩ := hrel
          clear hst0
          by_cases hjl : j < L.length
          · have hkc : wr.cell? ⟨g, j, none⟩ = some (.int .i64 (L[j] : Nat)) := cell_fr (HR.out j (.int .i64 (L[j] : Nat)) (by simp [nv, hjl])) fr (fun h => hgc h)
            have hy := hmem.out _ (List.getElem_mem hjl)
            have htk : L.take (j + 1) = L.take j ++ [L[j]] := by rw [List.take_add_one, List.getElem?_eq_getElem hjl]; rfl
            have HT := hid htk
            have i3 : (0 : Int) ≤ (j : Int) := by omega
            have i4 : (j : Int) < L.length := by omega
            clear htk
            generalize L[j] = y at *
            have y1 : (0 : Int) ≤ (y : Int) := by omega
            have y2 : (y : Int) < 128 := by omega
            have hz := Blk.frozen hc (2 + y)
            have hst := rends_st hc hy
            have HCC := hid hc
            have FRR := hid fr
            by_cases hlv : liveS (endS (L.take j) s m.st y) = true
            · have HNO := hid (show put (endS (L.take j) s m.st) y s = endS (L.take (j + 1)) s m.st by rw [HT.out]; exact endS_yes hlv)
              have hB := Blk.set hc (2 + y) (.int .i64 s)
              rw [rcells_setst _ y hy] at hB
              have HB := hid hB
              have F9 := hid (fr.setCell ⟨c, 2 + y, none⟩ (.int .i64 s) (fun _ => rfl))
              have hlc := liveS_cases hlv
              clear hlv hc fr hB
              generalize endS (L.take j) s m.st y = sv at *
              rcases hlc with rfl | rfl
              · go_wp2_with (fail)
                refine wp_region_scr (.take 0 (.take 1 (.take 2 (.take 3 (.take 4 (.take 5 (.take 6 (.take 7 (.take 8 (.take 9 (.take 10 (.take 11 (.take 12 (.take 13 (.take 14 (.take 15 (.take 16 (.take 17 (.take 18 (.take 19 (.take 20 (.take 21 .done)))))))))))))))))))))) (fun kz w => (kz ≤ 22 → w.cell? ⟨g, j, none⟩ = some (.int .i64 y) ∧ w.cell? ⟨c, 2 + y, none⟩ = some (.int .i64 1)) ∧ True) (by kernel_rfl) (by kernel_rfl) (by intro c a d v w h; cases d <;> exact h) ?_
                repeat
                  first
                  | (refine wpT_pure rfl rfl rfl ?_; apply Exists.intro; refine ⟨?_, ?_⟩; intro w; ((go_simp <;> rfl)); simp only [Act.put, List.setIfInBounds_toArray, List.set_cons_zero, List.set_cons_succ])
                  | (refine wpT_take 22 rfl rfl (by decide +kernel) ⟨fun _ => ⟨hkc, hst⟩, trivial⟩ ?_; apply Exists.intro; refine ⟨?_, ?_⟩; intro w hw; (have qa := hw.1 (Nat.le_refl _); have qb := hw.2); ((go_simp <;> rfl)); simp only [Act.put, List.setIfInBounds_toArray, List.set_cons_zero, List.set_cons_succ])
                  | (refine wpT_skip rfl rfl ?_; simp only [Act.put, List.setIfInBounds_toArray, List.set_cons_zero, List.set_cons_succ])
                refine wpT_nil ?_
                go_wp2_with (fail)
                have HB2 := hid (show RRep _ c (CM.ends m (L.take (j + 1)) s) from by unfold CM.ends at HB ⊢; rw [← HNO.out]; exact HB.out.drew.drew)
                have F92 := hid (F9.out.drew.drew)
                refine wp_region_scr (.take 0 (.take 1 (.take 2 (.take 3 (.take 4 (.take 5 (.take 6 (.take 7 (.take 8 (.op 9 .done)))))))))) (fun kz w => (kz ≤ 9 → w.cell? ⟨g, j, none⟩ = some (.int .i64 y)) ∧ True) (by kernel_rfl) (by kernel_rfl) (by intro c a d v w h; cases d <;> exact h) ?_
                repeat
                  first
                  | (refine wpT_pure rfl rfl rfl ?_; apply Exists.intro; refine ⟨?_, ?_⟩; intro w; ((go_simp <;> rfl)); simp only [Act.put, List.setIfInBounds_toArray, List.set_cons_zero, List.set_cons_succ])
                  | (refine wpT_take 9 rfl rfl (by decide +kernel) ⟨fun _ => hkc, trivial⟩ ?_; apply Exists.intro; refine ⟨?_, ?_⟩; intro w hw; (have qa := hw.1 (Nat.le_refl _); have qb := hw.2); ((go_simp <;> rfl)); simp only [Act.put, List.setIfInBounds_toArray, List.set_cons_zero, List.set_cons_succ])
                  | (refine wpT_skip rfl rfl ?_; simp only [Act.put, List.setIfInBounds_toArray, List.set_cons_zero, List.set_cons_succ])
                refine wpT_op rfl ?_
                go_wp2_with (fail)
                (refine ⟨?_, ?_⟩; focus (intro kz hk hk2; rintro ⟨qa, qb⟩; first | (exfalso; simp at hk2; omega) | exact ⟨qa, qb⟩ | (refine ⟨fun h => absurd h (by omega), ?_⟩; first | exact qb | (exact qa)) | (refine ⟨fun h => ?_, ?_⟩; (have qa := qa h); all_goals (first | exact qa | exact qb | (exact qa)))))
                refine wpT_nil ?_
                go_wp2_with (fail)
                go_roundw
                case rel => exact ⟨j + 1, by omega, by go_num, HB2.out, F92.out⟩
                case measure => simp [intOf]; omega
              
              · go_wp2_with (fail)
                refine wp_region_scr (.take 0 (.take 1 (.take 2 (.take 3 (.take 4 (.take 5 (.take 6 (.take 7 (.take 8 (.take 9 (.take 10 (.take 11 (.take 12 (.take 13 (.take 14 (.take 15 (.take 16 (.take 17 (.take 18 (.take 19 (.take 20 (.take 21 .done)))))))))))))))))))))) (fun kz w => (kz ≤ 22 → w.cell? ⟨g, j, none⟩ = some (.int .i64 y) ∧ w.cell? ⟨c, 2 + y, none⟩ = some (.int .i64 4)) ∧ True) (by kernel_rfl) (by kernel_rfl) (by intro c a d v w h; cases d <;> exact h) ?_
                repeat
                  first
                  | (refine wpT_pure rfl rfl rfl ?_; apply Exists.intro; refine ⟨?_, ?_⟩; intro w; ((go_simp <;> rfl)); simp only [Act.put, List.setIfInBounds_toArray, List.set_cons_zero, List.set_cons_succ])
                  | (refine wpT_take 22 rfl rfl (by decide +kernel) ⟨fun _ => ⟨hkc, hst⟩, trivial⟩ ?_; apply Exists.intro; refine ⟨?_, ?_⟩; intro w hw; (have qa := hw.1 (Nat.le_refl _); have qb := hw.2); ((go_simp <;> rfl)); simp only [Act.put, List.setIfInBounds_toArray, List.set_cons_zero, List.set_cons_succ])
                  | (refine wpT_skip rfl rfl ?_; simp only [Act.put, List.setIfInBounds_toArray, List.set_cons_zero, List.set_cons_succ])
                refine wpT_nil ?_
                go_wp2_with (fail)
                have HB2 := hid (show RRep _ c (CM.ends m (L.take (j + 1)) s) from by unfold CM.ends at HB ⊢; rw [← HNO.out]; exact HB.out.drew.drew)
                have F92 := hid (F9.out.drew.drew)
                refine wp_region_scr (.take 0 (.take 1 (.take 2 (.take 3 (.take 4 (.take 5 (.take 6 (.take 7 (.take 8 (.op 9 .done)))))))))) (fun kz w => (kz ≤ 9 → w.cell? ⟨g, j, none⟩ = some (.int .i64 y)) ∧ True) (by kernel_rfl) (by kernel_rfl) (by intro c a d v w h; cases d <;> exact h) ?_
                repeat
                  first
                  | (refine wpT_pure rfl rfl rfl ?_; apply Exists.intro; refine ⟨?_, ?_⟩; intro w; ((go_simp <;> rfl)); simp only [Act.put, List.setIfInBounds_toArray, List.set_cons_zero, List.set_cons_succ])
                  | (refine wpT_take 9 rfl rfl (by decide +kernel) ⟨fun _ => hkc, trivial⟩ ?_; apply Exists.intro; refine ⟨?_, ?_⟩; intro w hw; (have qa := hw.1 (Nat.le_refl _); have qb := hw.2); ((go_simp <;> rfl)); simp only [Act.put, List.setIfInBounds_toArray, List.set_cons_zero, List.set_cons_succ])
                  | (refine wpT_skip rfl rfl ?_; simp only [Act.put, List.setIfInBounds_toArray, List.set_cons_zero, List.set_cons_succ])
                refine wpT_op rfl ?_
                go_wp2_with (fail)
                (refine ⟨?_, ?_⟩; focus (intro kz hk hk2; rintro ⟨qa, qb⟩; first | (exfalso; simp at hk2; omega) | exact ⟨qa, qb⟩ | (refine ⟨fun h => absurd h (by omega), ?_⟩; first | exact qb | (exact qa)) | (refine ⟨fun h => ?_, ?_⟩; (have qa := qa h); all_goals (first | exact qa | exact qb | (exact qa)))))
                refine wpT_nil ?_
                go_wp2_with (fail)
                go_roundw
                case rel => exact ⟨j + 1, by omega, by go_num, HB2.out, F92.out⟩
                case measure => simp [intOf]; omega
              
            · have hl2 : liveS (endS (L.take j) s m.st y) = false := by simpa using hlv
              have HNO := hid (show endS (L.take j) s m.st = endS (L.take (j + 1)) s m.st by rw [HT.out]; exact endS_no hl2)
              have hq : (endS (L.take j) s m.st y == 1) = false ∧ (endS (L.take j) s m.st y == 4) = false := by
                simp only [liveS, Bool.or_eq_false_iff, decide_eq_false_iff_not] at hl2
                simpa using hl2
              obtain ⟨q1, q2⟩ := hq
              clear hlv hl2 hc fr hz
              generalize endS (L.take j) s m.st y = sv at *
              go_wp2_with (fail)
              refine wp_region_scr (.take 0 (.take 1 (.take 2 (.take 3 (.take 4 (.take 5 (.take 6 (.take 7 (.take 8 (.take 9 (.take 10 (.take 11 (.take 12 (.take 13 (.take 14 (.take 15 (.take 16 (.take 17 (.take 18 (.take 19 (.take 20 (.take 21 .done)))))))))))))))))))))) (fun kz w => (kz ≤ 22 → w.cell? ⟨g, j, none⟩ = some (.int .i64 y) ∧ w.cell? ⟨c, 2 + y, none⟩ = some (.int .i64 sv)) ∧ True) (by kernel_rfl) (by kernel_rfl) (by intro c a d v w h; cases d <;> exact h) ?_
              repeat
                first
                | (refine wpT_pure rfl rfl rfl ?_; apply Exists.intro; refine ⟨?_, ?_⟩; intro w; ((go_simp <;> rfl)); simp only [Act.put, List.setIfInBounds_toArray, List.set_cons_zero, List.set_cons_succ])
                | (refine wpT_take 22 rfl rfl (by decide +kernel) ⟨fun _ => ⟨hkc, hst⟩, trivial⟩ ?_; apply Exists.intro; refine ⟨?_, ?_⟩; intro w hw; (have qa := hw.1 (Nat.le_refl _); have qb := hw.2); ((go_simp <;> rfl)); simp only [Act.put, List.setIfInBounds_toArray, List.set_cons_zero, List.set_cons_succ])
                | (refine wpT_skip rfl rfl ?_; simp only [Act.put, List.setIfInBounds_toArray, List.set_cons_zero, List.set_cons_succ])
              refine wpT_nil ?_
              go_wp2_with (fail)
              go_roundw
              case rel => exact ⟨j + 1, by omega, by go_num, by unfold CM.ends; rw [← HNO.out]; exact HCC.out.drew, FRR.out.drew⟩
              case measure => simp [intOf]; omega
          · obtain rfl : j = L.length := by omega
            rw [List.take_length] at hc
            go_wp2_with (fail)
            go_ret
            exact ⟨rfl, by rw [HLE.out]; exact hc, F3.out.mono (fun _ h _ => h.elim) |>.trans fr (fun _ h _ => h)⟩
end Go.Proofs.Ytbkebjgoaeddjaa
