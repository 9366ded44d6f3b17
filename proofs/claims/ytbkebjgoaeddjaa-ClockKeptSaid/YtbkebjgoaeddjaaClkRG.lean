import Derived.Test.YtbkebjgoaeddjaaClkRF
import Derived.Test.YtbkebjgoaeddjaaClkRdM
/- The reference's clock: Read. -/
set_option linter.unusedVariables false
namespace Go.VB.Clk
open Go.RowKit
theorem bs_get (l : List UInt8) (i : Nat) (h : i < (bs l).size) : ((bs l)[i]'h).toNat = byt l i := by
  have h' : i < l.length := by rwa [bs_size] at h
  rw [byt_at h']
  rfl
theorem read_head {l : List UInt8} (h : rdHead l = false) : CM.read l = none := by unfold CM.read; rw [h]; rfl
theorem read_len {l : List UInt8} (h : rdLen l = false) : CM.read l = none := by unfold CM.read; rw [h, Bool.and_false]; rfl
theorem read_at {l : List UInt8} {i : Nat} (hi : i < steps (byt l 1) (byt l 0)) (h : okAt (byt l 1) l i = false) : CM.read l = none := by
  unfold CM.read
  rw [if_neg]
  simp only [Bool.and_eq_true, List.all_eq_true, List.mem_range]
  rintro ⟨-, h2⟩
  rw [h2 i hi] at h
  cases h
theorem read_yes {l : List UInt8} (h0 : rdHead l = true) (h1 : rdLen l = true) (h : ∀ i, i < steps (byt l 1) (byt l 0) → okAt (byt l 1) l i = true) : CM.read l = some (CM.fill l (byt l 1) (byt l 0) (steps (byt l 1) (byt l 0))) := by
  unfold CM.read
  rw [if_pos]
  simp only [h0, h1, Bool.true_and, List.all_eq_true, List.mem_range]
  exact h
end Go.VB.Clk
namespace Go.Proofs.Ytbkebjgoaeddjaa
open Go.RowKit Go.VB Go.VB.Clk
/-- what Read of the reference leaves -/
def RdR (l : List UInt8) (w : World) (e : Ending) (w' : World) : Prop :=
  (CM.read l = none ∧ e = .returned (.pointer none) ∧ Fr (fun _ => False) w w') ∨
  (∃ d m, CM.read l = some m ∧ e = .returned (.pointer (some ⟨d, 0, none⟩)) ∧ w.heap.size ≤ d ∧ RRep w' d m ∧ Fr (fun _ => False) w w')
theorem zr2 (a b : Nat) : (Try.zeroCells56.setIfInBounds 0 (.int .i64 a)).setIfInBounds 1 (.int .i64 b) = (rcells (CM.raw a b)).toArray := by
  have h : Try.zeroCells56.toList = rcells ⟨0, 0, fun _ => 0, fun _ => 0⟩ := by kernel_rfl
  apply Array.toList_inj.1
  rw [Array.toList_setIfInBounds, Array.toList_setIfInBounds, h]
  rfl
set_option maxRecDepth 20000 in
set_option maxHeartbeats 8000000 in
theorem rRead_go (l : List UInt8) (w : World) (hlen : l.length ≤ 1000000) : Calls Try.prog 44 #[.string (bs l)] w (RdR l w) := by
  have e1 := bs_size l
  have HB := hid (bs_get l)
  have hb0 := byt_lt l 0
  have hb1 := byt_lt l 1
  by_cases h2 : 2 ≤ l.length
  case neg =>
    have HN := hid (read_head (l := l) (by simp [rdHead, h2]))
    go_enter Try.func44, Try.ntmps44
    go_wp2_with (fail)
    go_ret
    exact .inl ⟨HN.out, rfl, Fr.refl _ _⟩
  have g0 : ((bs l)[0]'(by omega)).toNat = byt l 0 := HB.out 0 (by omega)
  have g1 : ((bs l)[1]'(by omega)).toNat = byt l 1 := HB.out 1 (by omega)
  have HO0 := hid (fun w => rOn_go (byt l 0 : Nat) w)
  have HO1 := hid (fun w => rOn_go (byt l 1 : Nat) w)
  have hrn : on (byt l 0 : Nat) = false ∨ on (byt l 1 : Nat) = false → CM.read l = none := fun h => read_head (by unfold rdHead; rcases h with h | h <;> simp [h])
  have hry : on (byt l 0 : Nat) = true → on (byt l 1 : Nat) = true → rdHead l = true := fun h h' => by unfold rdHead; simp [h, h', h2]
  have HRN := hid hrn
  have HRY := hid hry
  have HRL := hid (fun (h : rdLen l = false) => read_len h)
  have HRA := hid (fun i hi h => read_at (l := l) (i := i) hi h)
  have HYES := hid (fun h0 h1 h => read_yes (l := l) h0 h1 h)
  have hon0 := fun h => on_iff (k := byt l 0) |>.1 h
  have hon1 := fun h => on_iff (k := byt l 1) |>.1 h
  have HRD : Hid (rdLen l = (decide (steps (byt l 1) (byt l 0) ≤ 60) && decide (l.length = 2 + 2 * steps (byt l 1) (byt l 0)))) := hid rfl
  clear hrn hry
  cases h0 : on (byt l 0 : Nat) with
  | false =>
    have HN := hid (HRN.out (.inl h0))
    rw [h0] at HO0
    clear h0 hon0 hon1 HRN HRY
    generalize byt l 0 = next at *
    generalize byt l 1 = low at *
    generalize on (low : Int) = bl at *
    go_enter Try.func44, Try.ntmps44
    go_wp2_with (first
      | (go_at_call 53; ((with_reducible refine (HO0.out _).mono ?_); rintro e w' ⟨rfl, rfl⟩))
      | (go_at_call 53; ((with_reducible refine (HO1.out _).mono ?_); rintro e w' ⟨rfl, rfl⟩)))
    go_ret
    exact .inl ⟨HN.out, rfl, Fr.refl _ _⟩
  | true =>
    cases h1 : on (byt l 1 : Nat) with
    | false =>
      have HN := hid (HRN.out (.inr h1))
      rw [h0] at HO0
      rw [h1] at HO1
      clear h0 h1 hon0 hon1 HRN HRY
      generalize byt l 0 = next at *
      generalize byt l 1 = low at *
      go_enter Try.func44, Try.ntmps44
      go_wp2_with (first
        | (go_at_call 53; ((with_reducible refine (HO0.out _).mono ?_); rintro e w' ⟨rfl, rfl⟩))
        | (go_at_call 53; ((with_reducible refine (HO1.out _).mono ?_); rintro e w' ⟨rfl, rfl⟩)))
      go_ret
      exact .inl ⟨HN.out, rfl, Fr.refl _ _⟩
    | true =>
      have HHD := hid (HRY.out h0 h1)
      have n0 := hon0 h0
      have n1 := hon1 h1
      rw [h0] at HO0
      rw [h1] at HO1
      clear h0 h1 hon0 hon1 HRN HRY
      generalize byt l 0 = next at *
      generalize byt l 1 = low at *
      have HST := hid (fun w => rSteps_go low next w n1 n0)
      have hz := zr2 low next
      have i0 : (0 : Int) ≤ next := by omega
      have i1 : (next : Int) < 256 := by omega
      have i2 : (0 : Int) ≤ low := by omega
      have i3 : (low : Int) < 256 := by omega
      have i4 : (1 : Int) < (l.length : Int) := by omega
      have i5 : (0 : Int) < (l.length : Int) := by omega
      have i6 : 1 < l.length := by omega
      have i7 : 0 < l.length := by omega
      go_enter Try.func44, Try.ntmps44
      go_wp2_with (first
        | (go_at_call 53; ((with_reducible refine (HO0.out _).mono ?_); rintro e w' ⟨rfl, rfl⟩))
        | (go_at_call 53; ((with_reducible refine (HO1.out _).mono ?_); rintro e w' ⟨rfl, rfl⟩)))
      have w0 : IntKind.i64.wrap (next : Int) = next := IntWalk.i64_in _ (by omega)
      have w1 : IntKind.i64.wrap (low : Int) = low := IntWalk.i64_in _ (by omega)
      refine wp_region_scr (.take 0 (.take 1 (.take 2 (.take 3 (.take 4 (.take 5 (.op 6 (.op 7 (.take 8 .done))))))))) (fun kz w => (kz ≤ 9 → True) ∧ True) (by kernel_rfl) (by kernel_rfl) (by intro c a d v w h; cases d <;> exact h) ?_
      repeat
        first
        | (refine wpT_pure rfl rfl rfl ?_; apply Exists.intro; refine ⟨?_, ?_⟩; intro w; ((go_simp <;> rfl)); simp only [Act.put, List.setIfInBounds_toArray, List.set_cons_zero, List.set_cons_succ])
        | (refine wpT_take 9 rfl rfl (by decide +kernel) ⟨fun _ => trivial, trivial⟩ ?_; apply Exists.intro; refine ⟨?_, ?_⟩; intro w hw; (have qa := hw.1 (Nat.le_refl _); have qb := hw.2); ((go_simp <;> rfl)); simp only [Act.put, List.setIfInBounds_toArray, List.set_cons_zero, List.set_cons_succ])
        | (refine wpT_skip rfl rfl ?_; simp only [Act.put, List.setIfInBounds_toArray, List.set_cons_zero, List.set_cons_succ])
      refine wpT_op rfl ?_
      go_wp2_with (fail)
      (refine ⟨?_, ?_⟩; focus (intro kz hk hk2 hh; first | (exfalso; simp at hk2; omega) | exact hh | exact (fun h => absurd h (by omega)) | obtain ⟨qa, qb⟩ := hh; first | exact ⟨qa, qb⟩ | (refine ⟨fun h => absurd h (by omega), ?_⟩; first | exact qb | (exact qa)) | (refine ⟨fun h => ?_, ?_⟩; (have qa := qa h); all_goals (first | exact qa | exact qb | (exact qa)))))
      refine wpT_op rfl ?_
      go_wp2_with (fail)
      (refine ⟨?_, ?_⟩; focus (intro kz hk hk2 hh; first | (exfalso; simp at hk2; omega) | exact hh | exact (fun h => absurd h (by omega)) | obtain ⟨qa, qb⟩ := hh; first | exact ⟨qa, qb⟩ | (refine ⟨fun h => absurd h (by omega), ?_⟩; first | exact qb | (exact qa)) | (refine ⟨fun h => ?_, ?_⟩; (have qa := qa h); all_goals (first | exact qa | exact qb | (exact qa)))))
      repeat
        first
        | (refine wpT_pure rfl rfl rfl ?_; apply Exists.intro; refine ⟨?_, ?_⟩; intro w; ((go_simp <;> rfl)); simp only [Act.put, List.setIfInBounds_toArray, List.set_cons_zero, List.set_cons_succ])
        | (refine wpT_take 9 rfl rfl (by decide +kernel) ⟨fun _ => trivial, trivial⟩ ?_; apply Exists.intro; refine ⟨?_, ?_⟩; intro w hw; (have qa := hw.1 (Nat.le_refl _); have qb := hw.2); ((go_simp <;> rfl)); simp only [Act.put, List.setIfInBounds_toArray, List.set_cons_zero, List.set_cons_succ])
        | (refine wpT_skip rfl rfl ?_; simp only [Act.put, List.setIfInBounds_toArray, List.set_cons_zero, List.set_cons_succ])
      refine wpT_nil ?_
      clear w0 w1 hz i4 i5 i6 i7
      have RA := hid (show RRep (w.alloc (.cells (rcells (CM.raw low next)).toArray 56)).drew w.heap.size (CM.raw low next) from (Blk.new w (rcells (CM.raw low next)) 56).drew)
      have FA := hid ((Fr.refl (fun _ => False) w).alloc (.cells (rcells (CM.raw low next)).toArray 56)).drew
      have FA : Hid (Fr (fun _ => False) w (w.alloc (.cells (rcells (CM.raw low next)).toArray 56)).drew) := hid (((Fr.refl (fun _ => False) w).alloc (.cells (rcells (CM.raw low next)).toArray 56)).drew)
      generalize (w.alloc (.cells (rcells (CM.raw low next)).toArray 56)).drew = W at *
      obtain ⟨d, hd⟩ : ∃ d, d = w.heap.size := ⟨_, rfl⟩
      rw [← hd] at RA ⊢
      have HD := hid hd
      have l0 : W.cell? ⟨d, 0, none⟩ = some (.int .i64 low) := RRep.low RA.out
      have l1 : W.cell? ⟨d, 1, none⟩ = some (.int .i64 next) := RRep.next RA.out
      clear hd
      go_wp2_with (fail)
      refine wp_region_scr (.take 0 (.take 1 (.take 2 (.take 3 (.take 4 (.take 5 (.take 6 (.take 7 (.op 8 (.take 9 .done)))))))))) (fun kz w => (kz ≤ 10 → w.cell? ⟨d, 0, none⟩ = some (.int .i64 low) ∧ w.cell? ⟨d, 1, none⟩ = some (.int .i64 next)) ∧ True) (by kernel_rfl) (by kernel_rfl) (by intro c a d v w h; cases d <;> exact h) ?_
      repeat
        first
        | (refine wpT_pure rfl rfl rfl ?_; apply Exists.intro; refine ⟨?_, ?_⟩; intro w; ((go_simp <;> rfl)); simp only [Act.put, List.setIfInBounds_toArray, List.set_cons_zero, List.set_cons_succ])
        | (refine wpT_take 10 rfl rfl (by decide +kernel) ⟨fun _ => ⟨l0, l1⟩, trivial⟩ ?_; apply Exists.intro; refine ⟨?_, ?_⟩; intro w hw; (have qa := hw.1 (Nat.le_refl _); have qb := hw.2); ((go_simp <;> rfl)); simp only [Act.put, List.setIfInBounds_toArray, List.set_cons_zero, List.set_cons_succ])
        | (refine wpT_skip rfl rfl ?_; simp only [Act.put, List.setIfInBounds_toArray, List.set_cons_zero, List.set_cons_succ])
      refine wpT_op rfl ?_
      go_wp2_with ((go_at_call 55; refine (HST.out _).mono ?_; rintro e w' ⟨rfl, rfl⟩))
      (refine ⟨?_, ?_⟩; focus (intro kz hk hk2 hh; first | (exfalso; simp at hk2; omega) | exact hh | exact (fun h => absurd h (by omega)) | obtain ⟨qa, qb⟩ := hh; first | exact ⟨qa, qb⟩ | (refine ⟨fun h => absurd h (by omega), ?_⟩; first | exact qb | (exact qa)) | (refine ⟨fun h => ?_, ?_⟩; (have qa := qa h); all_goals (first | exact qa | exact qb | (exact qa)))))
      repeat
        first
        | (refine wpT_pure rfl rfl rfl ?_; apply Exists.intro; refine ⟨?_, ?_⟩; intro w; ((go_simp <;> rfl)); simp only [Act.put, List.setIfInBounds_toArray, List.set_cons_zero, List.set_cons_succ])
        | (refine wpT_take 10 rfl rfl (by decide +kernel) ⟨fun _ => ⟨l0, l1⟩, trivial⟩ ?_; apply Exists.intro; refine ⟨?_, ?_⟩; intro w hw; (have qa := hw.1 (Nat.le_refl _); have qb := hw.2); ((go_simp <;> rfl)); simp only [Act.put, List.setIfInBounds_toArray, List.set_cons_zero, List.set_cons_succ])
        | (refine wpT_skip rfl rfl ?_; simp only [Act.put, List.setIfInBounds_toArray, List.set_cons_zero, List.set_cons_succ])
      refine wpT_nil ?_
      have RA2 := hid (Blk.drew RA.out)
      have FA2 := hid (FA.out.drew)
      clear RA FA l0 l1
      generalize W.drew = W at *
      have hsteps : steps low next = (CM.raw low next).n := rfl
      generalize hn : steps low next = n at *
      cases hrl : rdLen l with
      | false =>
        have HN := hid (HRL.out hrl)
        rw [hrl] at HRD
        have hrd : ¬ (n ≤ 60 ∧ l.length = 2 + 2 * n) := by have := HRD.out; simpa using this.symm
        clear hrl HRL hsteps
        have hc : 60 < n ∨ (n ≤ 60 ∧ ((l.length : Int) != 2 + 2 * (n : Int)) = true) := by
          by_cases h : n ≤ 60
          · refine .inr ⟨h, ?_⟩
            simp only [bne_iff_ne, ne_eq]
            omega
          · exact .inl (by omega)
        clear hrd
        rcases hc with h | ⟨h, h'⟩
        all_goals
          go_wp2_with (fail)
          go_ret
          exact .inl ⟨HN.out, rfl, FA2.out⟩
      | true =>
        rw [hrl] at HRD
        have hrd : n ≤ 60 ∧ l.length = 2 + 2 * n := by have := HRD.out; simpa using this.symm
        obtain ⟨hn60, hln⟩ := hrd
        have HLN := hid hln
        have hne : ((l.length : Int) != 2 + 2 * (n : Int)) = false := by simp only [bne_eq_false_iff_eq]; omega
        have h3 : 2 + 2 * n ≤ l.length := by omega
        have h4 : l.length ≤ 2 + 2 * n := by omega
        have HYES := hid (HYES.out HHD.out hrl)
        have HKN := hid (rKnown_rng RA2.out n1 n0 (by rw [← hsteps]; exact hn60))
        rw [← hsteps] at HKN
        have HXN := hid hsteps
        have HNN := hid hn
        have hkl : (CM.raw low next).known.length = n := by rw [CM.known_length, ← hsteps]
        have HKG := hid (fun i (h : i < (CM.raw low next).known.length) => show (CM.raw low next).known[i] = xat low i from CM.known_get _ i h)
        clear hrl HRL hsteps hln hn HHD HRD
        generalize (CM.raw low next).known = K at *
        go_wp2_with (fail)
        refine HKN.out.mono ?_
        rintro e w2 ⟨v, rfl, row, f2⟩
        obtain ⟨la, lc, rfl, hlc⟩ := row.slice
        have hs0 := FA2.out.size
        have hd2 := Blk.lt RA2.out
        have HL := hid (fun i (hi : i < n) => show ∃ g, la = some ⟨g, 0, none⟩ ∧ g ≠ d ∧ w2.cell? ⟨g, i, none⟩ = some (.int .i64 (xat low i : Nat)) by
          obtain ⟨g, rfl, hg, hr⟩ := row_cells row (by intro e; have := nv_length K; rw [e, hkl] at this; simp at this; omega)
          have := hr i (.int .i64 (xat low i : Nat)) (by simp only [nv, List.getElem?_map]; rw [List.getElem?_eq_getElem (by omega), HKG.out i (by omega)]; rfl)
          exact ⟨g, rfl, by omega, this⟩)
        have RA3 := hid (RRep.fr RA2.out f2 (fun h => h))
        have FA3 := hid (FA2.out.trans f2 (fun _ h _ => h))
        clear HKN row f2 RA2 FA2 HKG hkl
        go_wp2_with (fail)
        go_loopw [8] (fun i wr => ∃ j : Nat, j ≤ n ∧ i = .int .i64 j ∧ RRep wr d (CM.fill l low next j) ∧ Fr (fun k => k = d) w2 wr ∧ Hid (∀ i, i < j → okAt low l i = true)) (fun i _ => n - (intOf i).toNat)
        case atStart => exact ⟨0, by omega, rfl, RA3.out, Fr.refl _ _, hid (fun i hi => absurd hi (by omega))⟩
        case round =>
          obtain ⟨j, hj, rfl, hR, fr, hok⟩ := hrel
          clear RA3
          have HF := hid (FA3.out.trans fr (fun k hk hl => by have := HD.out; omega))
          by_cases hjn : j < n
          · obtain ⟨g, rfl, hgd, hc⟩ := HL.out j hjn
            have g2 : ((bs l)[2 + 2 * j]'(by omega)).toNat = byt l (2 + 2 * j) := HB.out _ (by omega)
            have g3 : ((bs l)[3 + 2 * j]'(by omega)).toNat = byt l (3 + 2 * j) := HB.out _ (by omega)
            have b2 := byt_lt l (2 + 2 * j)
            have b3 := byt_lt l (3 + 2 * j)
            have q0 := cell_fr hc fr hgd
            have HOK := hok
            have hdef : okAt low l j = (decide (1 ≤ byt l (2 + 2 * j)) && decide (byt l (2 + 2 * j) ≤ 4) && fineB low (byt l (3 + 2 * j)) j) := rfl
            have HRAJ := hid (HRA.out j hjn)
            rw [hdef] at HRAJ
            have HYJ := hid (fun h => show ∀ i, i < j + 1 → okAt low l i = true from fun i hi => by
              by_cases e : i = j
              · rw [e, hdef]; exact h
              · exact hok.out i (by omega))
            have hfill : CM.fill l low next (j + 1) = { CM.fill l low next j with st := put (CM.fill l low next j).st (xat low j) (byt l (2 + 2 * j)), ab := putN (CM.fill l low next j).ab (xat low j) (byt l (3 + 2 * j)) } := rfl
            have HFI := hid hfill
            have hon := xat_on low j
            have i4 : (0 : Int) ≤ (j : Int) := by omega
            have i5 : (j : Int) < n := by omega
            have HFR := hid fr
            have HRR := hid hR
            clear hok hdef hfill fr hR hc
            generalize byt l (2 + 2 * j) = sv at *
            generalize byt l (3 + 2 * j) = av at *
            have j1 : (0 : Int) ≤ sv := by omega
            have j2 : (sv : Int) < 256 := by omega
            have j3 : (0 : Int) ≤ av := by omega
            have j4 : (av : Int) < 256 := by omega
            have HF0 := hid (fineB_zero low av)
            have HFS := hid (fun k (hk : k < j) => fineB_succ (a := av) n1 (k := k) (by omega))
            have HCT := hid (fun k (hk : k < j) => show wr.cell? ⟨g, k, none⟩ = some (.int .i64 (xat low k : Nat)) by
              obtain ⟨g', hg1, -, hc⟩ := HL.out k (by omega)
              obtain rfl : g = g' := by simpa using hg1
              exact cell_fr hc HFR.out hgd)
            go_wp2_with (fail)
            obtain ⟨wo, rfl⟩ : ∃ wo : World, wo = wr := ⟨_, rfl⟩
            go_loop [11, 12] (fun f k => ∃ t : Nat, t ≤ j ∧ k = .int .i64 t ∧ f = .bool (fineB low av t)) (fun _ k => j - (intOf k).toNat)
            case atStart => exact ⟨0, by omega, rfl, by rw [HF0.out]; congr 1; rw [Bool.eq_iff_iff]; simp⟩
            case round =>
              obtain ⟨t, ht, rfl, rfl⟩ := hrel
              by_cases htj : t < j
              · have hct := HCT.out t htj
                have hfs := HFS.out t htj
                have i6 : (0 : Int) ≤ (t : Int) := by omega
                have i7 : (t : Int) < n := by omega
                have i8 : (t : Int) < j := by omega
                generalize xat low t = y at *
                generalize fineB low av t = f at *
                cases f with
                | true =>
                  rw [Bool.true_or] at hfs
                  have HFS2 := hid hfs
                  clear hfs hct
                  go_wp2_with (fail)
                  go_round
                  case rel => exact ⟨t + 1, by omega, by go_num, by rw [HFS2.out]⟩
                  case measure => simp [intOf]; omega
                | false =>
                  rw [Bool.false_or] at hfs
                  have HFS2 := hid hfs
                  clear hfs
                  go_wp2_with (fail)
                  go_round
                  case rel => exact ⟨t + 1, by omega, by go_num, by rw [HFS2.out]; congr 1; rw [Bool.eq_iff_iff]; simp; omega⟩
                  case measure => simp [intOf]; omega
              · obtain rfl : t = j := by omega
                clear HCT HFS HF0 HL
                generalize fineB low av t = f at *
                by_cases hall : (decide (1 ≤ sv) && decide (sv ≤ 4) && f) = true
                case neg =>
                  have HN := hid (HRAJ.out (by simpa using hall))
                  have hc : sv < 1 ∨ 4 < sv ∨ (1 ≤ sv ∧ sv ≤ 4 ∧ f = false) := by
                    cases f <;> simp at hall ⊢ <;> omega
                  clear hall HRAJ HYJ
                  rcases hc with hc | hc | ⟨hc1, hc2, rfl⟩
                  all_goals
                    go_wp2_with (fail)
                    go_ret
                    exact .inl ⟨HN.out, rfl, HF.out⟩
                case pos =>
                  have HYK := hid (HYJ.out hall)
                  obtain ⟨hc1, hc2, rfl⟩ : 1 ≤ sv ∧ sv ≤ 4 ∧ f = true := by simpa [and_assoc] using hall
                  clear hall HRAJ
                  have B1 := hid (Blk.set HRR.out (2 + xat low t) (.int .i64 sv))
                  rw [rcells_setst _ _ (by omega)] at B1
                  have F1 := hid ((HFR.out).setCell ⟨d, 2 + xat low t, none⟩ (.int .i64 sv) (fun _ => rfl))
                  have s1 := RRep.st HRR.out (x := xat low t) (by omega)
                  have z1 := Blk.frozen HRR.out (2 + xat low t)
                  have y1 : (0 : Int) ≤ ((xat low t : Nat) : Int) := by omega
                  have y2 : ((xat low t : Nat) : Int) < 128 := by omega
                  have q1 : (wo.setCell ⟨d, 2 + xat low t, none⟩ (.int .i64 sv)).cell? ⟨g, t, none⟩ = some (.int .i64 (xat low t : Nat)) := cell_fr q0 ((Fr.refl (fun k => k = d) wo).setCell ⟨d, 2 + xat low t, none⟩ (.int .i64 sv) (fun _ => rfl)) hgd
                  generalize hy : xat low t = y at *
                  have HY := hid hy
                  clear hy HRR HFR
                  go_upto_region 24 with (fail)
                  refine wp_region_scr (.take 0 (.take 1 (.take 2 (.take 3 (.take 4 (.take 5 (.take 6 (.take 7 (.take 8 (.op 9 .done)))))))))) (fun kz w => (kz ≤ 9 → w.cell? ⟨g, t, none⟩ = some (.int .i64 y)) ∧ True) (by kernel_rfl) (by kernel_rfl) (by intro c a d v w h; cases d <;> exact h) ?_
                  repeat
                    first
                    | (refine wpT_pure rfl rfl rfl ?_; apply Exists.intro; refine ⟨?_, ?_⟩; intro w; ((go_simp <;> rfl)); simp only [Act.put, List.setIfInBounds_toArray, List.set_cons_zero, List.set_cons_succ])
                    | (refine wpT_take 9 rfl rfl (by decide +kernel) ⟨fun _ => q0, trivial⟩ ?_; apply Exists.intro; refine ⟨?_, ?_⟩; intro w hw; (have qa := hw.1 (Nat.le_refl _); have qb := hw.2); ((go_simp <;> rfl)); simp only [Act.put, List.setIfInBounds_toArray, List.set_cons_zero, List.set_cons_succ])
                    | (refine wpT_skip rfl rfl ?_; simp only [Act.put, List.setIfInBounds_toArray, List.set_cons_zero, List.set_cons_succ])
                  refine wpT_op rfl ?_
                  go_wp2_with (fail)
                  (refine ⟨?_, ?_⟩; focus (intro kz hk hk2 hh; first | (exfalso; simp at hk2; omega) | exact hh | exact (fun h => absurd h (by omega)) | obtain ⟨qa, qb⟩ := hh; first | exact ⟨qa, qb⟩ | (refine ⟨fun h => absurd h (by omega), ?_⟩; first | exact qb | (exact qa)) | (refine ⟨fun h => ?_, ?_⟩; (have qa := qa h); all_goals (first | exact qa | exact qb | (exact qa)))))
                  refine wpT_nil ?_
                  go_upto_region 25 with (fail)
                  have B2 := hid (Blk.drew B1.out)
                  have F2 := hid (F1.out.drew)
                  have q2 : (wo.setCell ⟨d, 2 + y, none⟩ (.int .i64 sv)).drew.cell? ⟨g, t, none⟩ = some (.int .i64 y) := q1
                  clear q1 B1 F1 s1 z1 q0
                  generalize (wo.setCell ⟨d, 2 + y, none⟩ (.int .i64 sv)).drew = W5 at *
                  have B3 := hid (Blk.set B2.out (130 + y) (.int .i64 av))
                  rw [rcells_setab _ _ (by omega)] at B3
                  have F3 := hid ((F2.out).setCell ⟨d, 130 + y, none⟩ (.int .i64 av) (fun _ => rfl))
                  have s2 := RRep.ab B2.out (x := y) (by omega)
                  have z2 := Blk.frozen B2.out (130 + y)
                  refine wp_region_scr (.take 0 (.take 1 (.take 2 (.take 3 (.take 4 (.take 5 (.take 6 (.take 7 (.take 8 (.op 9 .done)))))))))) (fun kz w => (kz ≤ 9 → w.cell? ⟨g, t, none⟩ = some (.int .i64 y)) ∧ True) (by kernel_rfl) (by kernel_rfl) (by intro c a d v w h; cases d <;> exact h) ?_
                  repeat
                    first
                    | (refine wpT_pure rfl rfl rfl ?_; apply Exists.intro; refine ⟨?_, ?_⟩; intro w; ((go_simp <;> rfl)); simp only [Act.put, List.setIfInBounds_toArray, List.set_cons_zero, List.set_cons_succ])
                    | (refine wpT_take 9 rfl rfl (by decide +kernel) ⟨fun _ => q2, trivial⟩ ?_; apply Exists.intro; refine ⟨?_, ?_⟩; intro w hw; (have qa := hw.1 (Nat.le_refl _); have qb := hw.2); ((go_simp <;> rfl)); simp only [Act.put, List.setIfInBounds_toArray, List.set_cons_zero, List.set_cons_succ])
                    | (refine wpT_skip rfl rfl ?_; simp only [Act.put, List.setIfInBounds_toArray, List.set_cons_zero, List.set_cons_succ])
                  refine wpT_op rfl ?_
                  go_wp2_with (fail)
                  (refine ⟨?_, ?_⟩; focus (intro kz hk hk2 hh; first | (exfalso; simp at hk2; omega) | exact hh | exact (fun h => absurd h (by omega)) | obtain ⟨qa, qb⟩ := hh; first | exact ⟨qa, qb⟩ | (refine ⟨fun h => absurd h (by omega), ?_⟩; first | exact qb | (exact qa)) | (refine ⟨fun h => ?_, ?_⟩; (have qa := qa h); all_goals (first | exact qa | exact qb | (exact qa)))))
                  refine wpT_nil ?_
                  have B4 := hid (Blk.drew B3.out)
                  have F4 := hid (F3.out.drew)
                  clear s2 z2 q2 B2 F2 B3 F3
                  go_wp2_with (fail)
                  go_roundw
                  case rel => exact ⟨t + 1, by omega, by go_num, by rw [HFI.out]; exact B4.out, F4.out, HYK⟩
                  case measure => simp [intOf]; omega
          · obtain rfl : j = n := by omega
            have hy := hid (HYES.out hok.out)
            have HRR := hid hR
            clear hR hok fr
            go_wp2_with (fail)
            go_ret
            exact .inr ⟨d, _, hy.out, rfl, by have := HD.out; omega, HRR.out, HF.out⟩
end Go.Proofs.Ytbkebjgoaeddjaa
