import Derived.Test.YtbkebjgoaeddjaaClkF
/- The clock under test: End, Reach, Freeze. -/
set_option linter.unusedVariables false
namespace Go.VB.Clk
theorem endS_yes {L : List Nat} {s : Int} {st : Nat → Int} {y : Nat} (h : liveS (endS L s st y) = true) : put (endS L s st) y s = endS (L ++ [y]) s st := by
  funext z
  unfold put
  by_cases hz : z = y
  · subst hz
    rw [if_pos rfl]
    unfold endS at *
    by_cases hl : liveS (st z) = true
    · rw [if_pos ⟨by simp, hl⟩]
    · rw [if_neg (fun h => hl h.2)] at h
      exact absurd h hl
  · rw [if_neg hz]
    unfold endS
    simp [hz]
theorem endS_no {L : List Nat} {s : Int} {st : Nat → Int} {y : Nat} (h : liveS (endS L s st y) = false) : endS L s st = endS (L ++ [y]) s st := by
  funext z
  by_cases hz : z = y
  · subst hz
    unfold endS at *
    by_cases hl : liveS (st z) = true
    · by_cases hm : z ∈ L
      · rw [if_pos ⟨hm, hl⟩, if_pos ⟨by simp, hl⟩]
      · rw [if_neg (fun h => hm h.1), hl] at h
        cases h
    · rw [if_neg (fun h => hl h.2), if_neg (fun h => hl h.2)]
  · unfold endS
    simp [hz]
theorem endS_nil (s : Int) (st : Nat → Int) : endS [] s st = st := by funext z; simp [endS]
theorem endS_perm (l : List Nat) (x : Nat) (s : Int) (st : Nat → Int) : endS (l ++ [x]) s st = endS (x :: l) s st := by
  funext z
  unfold endS
  simp [or_comm]
theorem CM.below_mem {m : CM} (ok : m.Ok) {x : Int} {y : Nat} (h : y ∈ m.below x) : m.knows y = true := by
  unfold CM.below at h
  split at h
  · exact (m.known_mem ok).1 (List.mem_filter.1 h).1
  · cases h
theorem CM.below_le (m : CM) (x : Int) : (m.below x).length ≤ m.n := by
  unfold CM.below
  split
  · exact Nat.le_trans (List.length_filter_le _ _) (Nat.le_of_eq m.known_length)
  · simp
end Go.VB.Clk
namespace Go.Proofs.Ytbkebjgoaeddjaa
open Go.RowKit Go.VB Go.VB.Clk
variable {w : World} {c : Nat} {m : CM}
def CM.ends (m : CM) (l : List Nat) (s : Int) : CM := { m with st := endS l s m.st }
set_option maxRecDepth 20000 in
set_option maxHeartbeats 2000000 in
theorem End_go (h : CRep w c m) (ok : m.Ok) (x s : Int) : Calls Try.prog 24 #[.pointer (some ⟨c, 0, none⟩), .int .i64 x, .int .i64 s] w fun e w' => e = .returned (.int .i64 (m.end_ x s).2) ∧ CRep w' c (m.end_ x s).1 ∧ Fr (fun k => k = c) w w' := by
  have HH := hid h
  have HK := hid (fun (b : Bool) (hb : m.knows x = b) => knows_is h ok x hb)
  unfold CM.end_
  by_cases h1 : 2 ≤ s ∧ s ≤ 4
  case neg =>
    rw [if_neg (by unfold CM.mayE; simp only [Bool.and_eq_true, decide_eq_true_eq]; omega)]
    clear h
    rcases (show s < 2 ∨ 4 < s by omega) with h2 | h2
    all_goals
      clear h1
      go_enter Try.func24, Try.ntmps24
      go_wp2_with (fail)
      go_ret
      exact ⟨rfl, HH.out, Fr.refl _ _⟩
  obtain ⟨s1, s2⟩ := h1
  cases hk : m.knows x with
  | false =>
    rw [if_neg (by unfold CM.mayE; simp [hk])]
    have HK := hid (HK.out _ hk)
    clear h hk
    go_enter Try.func24, Try.ntmps24
    go_wp2_with (first | (go_at_call 56; refine HK.out.mono ?_; rintro e w' ⟨rfl, f⟩))
    go_ret
    exact ⟨rfl, HH.out.fr f (fun h => h), f.mono (fun _ h _ => h.elim)⟩
  | true =>
    have HK := hid (HK.out _ hk)
    obtain ⟨k, rfl, k1, k2, k3⟩ := m.knows_nat hk
    cases hl : m.live k with
    | false =>
      rw [if_neg (by unfold CM.mayE; simp [hl])]
      clear h hk
      go_enter Try.func24, Try.ntmps24
      go_wp2_with (fail)
      refine HK.out.mono ?_
      rintro e w1 ⟨rfl, f⟩
      have HL := hid (live_is (CRep.fr HH.out f (fun h => h)) (x := k) (by omega) hl)
      clear hl
      go_wp2_with (first | (go_at_call 59; refine HL.out.mono ?_; rintro e w' ⟨rfl, rfl⟩))
      go_ret
      exact ⟨rfl, HH.out.fr f (fun h => h), f.mono (fun _ h _ => h.elim)⟩
    | true =>
      by_cases he : m.st k = s
      · rw [if_neg (by unfold CM.mayE; simp [he])]
        have l0 := h.st (x := k) (by omega)
        have hd : (m.st k == s) = true := by simpa using he
        clear h hk he
        go_enter Try.func24, Try.ntmps24
        go_wp2_with (fail)
        refine HK.out.mono ?_
        rintro e w1 ⟨rfl, f⟩
        have HL := hid (live_is (CRep.fr HH.out f (fun h => h)) (x := k) (by omega) hl)
        have l0 := cell_fr l0 f (fun h => h)
        clear hl
        go_wp2_with (first | (go_at_call 59; refine HL.out.mono ?_; rintro e w' ⟨rfl, rfl⟩))
        go_ret
        exact ⟨rfl, HH.out.fr f (fun h => h), f.mono (fun _ h _ => h.elim)⟩
      · rw [if_pos (by unfold CM.mayE; simp [hk, hl, he, s1, s2]), Int.toNat_natCast]
        have l0 := h.st (x := k) (by omega)
        have hd : (m.st k == s) = false := by simpa using he
        have hbl := m.below_le k
        have hfar := ok.far
        clear h hk he
        go_enter Try.func24, Try.ntmps24
        go_wp2_with (fail)
        refine HK.out.mono ?_
        rintro e w1 ⟨rfl, f⟩
        have HL := hid (live_is (CRep.fr HH.out f (fun h => h)) (x := k) (by omega) hl)
        have l0 := cell_fr l0 f (fun h => h)
        clear hl
        go_wp2_with (first | (go_at_call 59; refine HL.out.mono ?_; rintro e w' ⟨rfl, rfl⟩) | fail)
        refine (Below_go (CRep.fr HH.out f (fun h => h)) ok k).mono ?_
        rintro e w2 ⟨v, rfl, row, f2⟩
        have F2 := hid (f.trans f2 (fun _ h _ => h))
        have hs2 := f2.size
        have hs1 := f.size
        obtain ⟨va, vc, rfl, hvc⟩ := own_slice row.own
        have F3 := hid ((Fr.refl (fun _ => False) w2).alloc (.cells #[Value.int .i64 k] 3))
        have hsrc : Src Try.prog (w2.alloc (.cells #[Value.int .i64 k] 3)) 1 (.slice (some ⟨w2.heap.size, 0, none⟩) 1 1) 1 [Value.int .i64 k] := Src.slice (by simp) (by simp [Value.oneCell']) (Blk.new w2 [Value.int .i64 k] 3).all
        have ho := own_fr row.own F3.out (fun _ _ h => h)
        have ROW := hid row
        clear row l0 f f2
        go_wp2_with (first
          | (refine wpList_append rfl (s := .tmp 40) (x := .tmp 42) (t := 26) (tx := 26) rfl Try.underlying26 Try.underlying26 (.inr ⟨_, rfl⟩) Try.info_int rfl rfl rfl ho hsrc (by omega) (by omega) ?_
             intro ab ac wg hown hg hat
             have hg : World.grownBy _ wg (Value.slice va (m.below k).length vc).ownBlock := hg
             have hat : ∀ k', (Value.slice ab ((m.below k).length + 1) ac).ownBlock = some k' → (Value.slice va (m.below k).length vc).ownBlock = some k' ∨ k' = _ := hat
             obtain ⟨row', fg⟩ := NumRow.app ROW.out F3.out (by simp; omega) hg hown hat
             have ROW2 := hid row'
             have FG := hid fg
             clear hg hown hat row' fg ho hsrc))
        have F4 := hid ((F2.out.mono (T := fun j => j = c) (fun _ h _ => h.elim)).trans FG.out (fun j hj hlt => by have := ROW.out.new j hj; omega))
        have HC := hid ((CRep.fr HH.out F2.out (fun h => h)).fr FG.out (fun hj => by have := ROW.out.new c hj; have := Blk.lt HH.out; omega))
        have hmem := hid (fun y (hy : y ∈ m.below k ++ [k]) => show y < 128 by
          rcases List.mem_append.1 hy with hy | hy
          · have := CM.knows_iff.1 (m.below_mem ok hy)
            omega
          · have : y = k := by simpa using hy
            omega)
        have hperm := hid (endS_perm (m.below k) k s m.st)
        have hll : (m.below k ++ [k]).length = (m.below k).length + 1 := by simp
        obtain ⟨sa, sc, hsv, hsc, hrg⟩ := own_sl (R := fun j => j ≠ c) ROW2.out.own (fun j hj he => by
          subst he
          exact ownsRow_ne HC.out (by decide) ROW2.out.own _ hj rfl)
        obtain ⟨rfl, rfl⟩ : ab = sa ∧ ac = sc := by
          rw [hll] at hsv
          simpa using hsv
        obtain ⟨g, o, rfl, hgc, hrg⟩ := hrg (by simp [nv])
        have hLl : (m.below k ++ [k]).length ≤ 1000 := by omega
        have hle1 : (m.below k).length + 1 ≤ (m.below k ++ [k]).length := Nat.le_of_eq hll.symm
        have hle2 : (m.below k ++ [k]).length ≤ (m.below k).length + 1 := Nat.le_of_eq hll
        clear ROW ROW2 F3 FG F2 HH HK HL hsv
        clear hll
        generalize m.below k ++ [k] = L at *
        have HRG := hid hrg
        clear hrg hd
        have hst0 := hid (show CRep wg c (CM.ends m [] s) by unfold CM.ends; rw [endS_nil]; exact HC.out)
        clear hbl hvc hsc
        go_loopw [45] (fun i wr => ∃ j : Nat, j ≤ L.length ∧ i = .int .i64 j ∧ CRep wr c (CM.ends m (L.take j) s) ∧ Fr (fun k => k = c) wg wr) (fun i _ => L.length - (intOf i).toNat)
        case atStart => exact ⟨0, by omega, rfl, by rw [List.take_zero]; exact hst0.out, Fr.refl _ _⟩
        case round =>
          obtain ⟨j, hj, rfl, hc, fr⟩ := hrel
          clear hst0
          by_cases hjl : j < L.length
          · have hkc : wr.cell? ⟨g, o + j, none⟩ = some (.int .i64 (L[j] : Nat)) := by
              have := HRG.out j (.int .i64 (L[j] : Nat)) (by simp [nv, hjl])
              exact cell_fr this fr (fun h => hgc h)
            have hy := hmem.out _ (List.getElem_mem hjl)
            have htk : L.take (j + 1) = L.take j ++ [L[j]] := by rw [List.take_add_one, List.getElem?_eq_getElem hjl]; rfl
            have HT := hid htk
            clear htk
            generalize L[j] = y at *
            have hz := Blk.frozen hc (2 + y * 2)
            have hst := hc.st hy
            have HCC := hid hc
            have FRR := hid fr
            cases hlv : (CM.ends m (L.take j) s).live y with
            | false =>
              have HL := hid (live_is hc hy hlv)
              have hno : endS (L.take j) s m.st = endS (L.take (j + 1)) s m.st := by rw [HT.out]; exact endS_no hlv
              have HNO := hid hno
              clear hlv hc fr hno hst hz
              go_wp2_with (fail)
              refine HL.out.mono ?_
              rintro e w5 ⟨rfl, rfl⟩
              go_wp2_with (fail)
              go_roundw
              case rel => exact ⟨j + 1, by omega, by go_num, by unfold CM.ends; rw [← HNO.out]; exact HCC.out, FRR.out⟩
              case measure => simp [intOf]; omega
            | true =>
              have HL := hid (live_is hc hy hlv)
              have hno : put (endS (L.take j) s m.st) y s = endS (L.take (j + 1)) s m.st := by rw [HT.out]; exact endS_yes hlv
              have HNO := hid hno
              have hB := Blk.set hc (2 + y * 2) (.int .i64 s)
              rw [ccells_setst _ y hy] at hB
              have HB := hid hB
              have F9 := hid (fr.setCell ⟨c, 2 + y * 2, none⟩ (.int .i64 s) (fun _ => rfl))
              clear hlv hc fr hno hB
              go_wp2_with (fail)
              refine HL.out.mono ?_
              rintro e w5 ⟨rfl, rfl⟩
              go_wp2_with (fail)
              go_roundw
              case rel => exact ⟨j + 1, by omega, by go_num, by unfold CM.ends at HB ⊢; rw [← HNO.out]; exact HB.out, F9.out⟩
              case measure => simp [intOf]; omega
          · obtain rfl : j = L.length := by omega
            rw [List.take_length] at hc
            go_wp2_with (fail)
            go_ret
            exact ⟨rfl, by unfold CM.ends at hc; rw [hperm.out] at hc; exact hc, F4.out.trans fr (fun _ h _ => h)⟩
end Go.Proofs.Ytbkebjgoaeddjaa
