import Derived.Test.YtbkebjgoaeddjaaClkRA
import Derived.Test.YtbkebjgoaeddjaaClkN
import Derived.Test.YtbkebjgoaeddjaaRow
/- The reference's clock: Known, under, Below, State, Top. -/
set_option linter.unusedVariables false
namespace Go.Proofs.Ytbkebjgoaeddjaa
open Go.RowKit Go.VB Go.VB.Clk
variable {w : World} {c : Nat} {m : CM}
theorem CRep'.of {w w' : World} {c : Nat} {m : CM} (h : RRep w c m) (f : Fr (fun _ => False) w w') : RRep w' c m := RRep.fr h f (fun h => h)
abbrev NRow (B : Nat) (W : World) (v : Value) (l : List Nat) : Prop := Row 3 1 B W v l.length (nv l)
theorem nv_snoc (l : List Nat) (x : Nat) : nv (l ++ [x]) = nv l ++ [.int .i64 x] := by rw [nv_append]; rfl
theorem NRow.snoc {B : Nat} {W : World} {v : Value} {l : List Nat} {x : Nat} (h : Row 3 1 B W v (l.length + 1) (nv l ++ [.int .i64 x])) : NRow B W v (l ++ [x]) := h.cast (by simp) (by rw [nv_snoc])
set_option maxRecDepth 20000 in
set_option maxHeartbeats 2000000 in
theorem rKnown_rng (h : RRep w c m) (hl : 3 ≤ m.low ∧ m.low ≤ 127) (hn : 3 ≤ m.next ∧ m.next ≤ 127) (hf : m.n ≤ 60) : Calls Try.prog 69 #[.pointer (some ⟨c, 0, none⟩)] w fun e w' => ∃ v, e = .returned v ∧ Row 3 1 w.heap.size w' v m.n (nv m.known) ∧ Fr (fun _ => False) w w' := by
  have l0 := h.low
  have hlt := Blk.lt h
  have HH := hid h
  have hsteps : ∀ i, i ≤ m.n → (xat m.low i = m.next ↔ i = m.n) := by
    intro i hi
    constructor
    · intro e
      have := steps_xat hl (i := i) (by omega)
      rw [e] at this
      exact this.symm
    · rintro rfl
      exact xat_steps hl hn
  have HST := hid hsteps
  have HX0 := hid (xat_zero hl)
  have HXS := hid (fun i => xat_succ hl i)
  have HKN := hid (fun i (h : i < m.n) => m.known_take i h)
  have HKL := hid m.known_length
  clear h hsteps
  go_enter Try.func69, Try.ntmps69
  go_wp2_with (fail)
  go_loopw [3, 4] (fun v x wr => ∃ i : Nat, i ≤ m.n ∧ x = .int .i64 (xat m.low i : Nat) ∧ Row 3 1 w.heap.size wr v i (nv (m.known.take i)) ∧ Fr (fun _ => False) w wr) (fun _ x _ => m.n - steps m.low (intOf x).toNat)
  case atStart => exact ⟨0, by omega, by rw [HX0.out], Row.nil, Fr.refl _ _⟩
  case round =>
    obtain ⟨i, hi, rfl, row, fr⟩ := hrel
    have l1 := cell_fr HH.out.next fr (fun h => h)
    have hon := xat_on m.low i
    have fsz := fr.size
    by_cases hin : i < m.n
    · have hne : ((xat m.low i : Int) != (m.next : Int)) = true := by
        have := mt (HST.out i hi).1 (by omega)
        simp; omega
      obtain ⟨va, vc, rfl, hvc⟩ := row.slice
      have HN := hid (fun w => rNext_nat (xat m.low i) w hon)
      have ROW := hid row
      have FR := hid fr
      clear row fr
      go_wp2_with (first
        | (refine wpList_app1 rfl (s := .tmp 17) (x := .tmp 19) (t := 26) rfl Try.underlying26 Try.info_int rfl rfl rfl ROW.out fsz rfl (by simp [Value.oneCell']) (by omega) (by omega) ?_; intro ab ac wg APP)
        | (go_at_call 16; refine (HN.out _).mono ?_; rintro e w' ⟨rfl, rfl⟩))
      have HS := hid (steps_xat hl (i := i) (by omega))
      have HS1 := hid (steps_xat hl (i := i + 1) (by omega))
      go_roundw
      case rel => exact ⟨i + 1, by omega, by rw [HXS.out], APP.row.cast rfl (by rw [HKN.out i hin, nv_snoc]), APP.frB ROW.out FR.out (Nat.le_refl _)⟩
      case measure => simp only [intOf]; rw [Int.toNat_natCast, Int.toNat_natCast, HS.out, ← HXS.out, HS1.out]; omega
    · obtain rfl : i = m.n := by omega
      have hne : ((xat m.low m.n : Int) != (m.next : Int)) = false := by
        have := (HST.out m.n hi).2 rfl
        simp [this]
      have ROW := hid row
      clear row
      go_wp2_with (fail)
      go_ret
      exact ⟨_, rfl, ROW.out.cast rfl (by rw [← HKL.out, List.take_length]), fr⟩
theorem rKnown_go (h : RRep w c m) (ok : m.Ok) : Calls Try.prog 69 #[.pointer (some ⟨c, 0, none⟩)] w fun e w' => ∃ v, e = .returned v ∧ Row 3 1 w.heap.size w' v m.n (nv m.known) ∧ Fr (fun _ => False) w w' := rKnown_rng h ok.lo ok.nx ok.far
theorem rState_go (h : RRep w c m) (ok : m.Ok) (x : Int) : Calls Try.prog 67 #[.pointer (some ⟨c, 0, none⟩), .int .i64 x] w fun e w' => e = .returned (.int .i64 (m.state x)) ∧ Fr (fun _ => False) w w' := by
  unfold CM.state
  by_cases h2 : x = 2
  · rw [if_pos h2]
    subst h2
    clear h
    go_enter Try.func67, Try.ntmps67
    go_wp2
    go_ret
    exact ⟨rfl, Fr.refl _ _⟩
  · rw [if_neg h2]
    have h2' : (x == 2) = false := by simpa using h2
    cases hk : m.knows x with
    | false =>
      have HK := hid (rknows_is h ok _ hk)
      rw [if_neg (by simp)]
      clear h hk
      go_enter Try.func67, Try.ntmps67
      go_wp2_with (go_at_call 70; refine HK.out.mono ?_; rintro e w' ⟨rfl, f⟩)
      go_ret
      exact ⟨rfl, f⟩
    | true =>
      have HK := hid (rknows_is h ok _ hk)
      rw [if_pos rfl]
      obtain ⟨k, rfl, k1, k2, -⟩ := m.knows_nat hk
      have l0 := h.st (x := k) (by omega)
      have HH := hid h
      rw [Int.toNat_natCast]
      clear h hk h2 h2'
      have h2 : ((k : Int) == 2) = false := by rw [Bool.eq_false_iff]; simp; omega
      go_enter Try.func67, Try.ntmps67
      go_wp2_with (fail)
      refine HK.out.mono ?_
      rintro e w' ⟨rfl, f⟩
      have l0 := cell_fr l0 f (fun h => h)
      go_wp2_with (fail)
      go_ret
      exact ⟨rfl, f⟩
set_option maxRecDepth 20000 in
set_option maxHeartbeats 2000000 in
theorem runder_go (h : RRep w c m) (ok : m.Ok) {x : Nat} (hx : x < 128) (t : Nat) : Calls Try.prog 80 #[.pointer (some ⟨c, 0, none⟩), .int .i64 x, .int .i64 t] w fun e w' => e = .returned (.bool (m.climb t 128 x)) ∧ Fr (fun _ => False) w w' := by
  have HH := hid h
  clear h
  go_enter Try.func80, Try.ntmps80
  go_wp2_with (fail)
  go_loopw [1, 7] (fun xx i wr => ∃ j y : Nat, j ≤ 128 ∧ y < 128 ∧ xx = .int .i64 y ∧ i = .int .i64 j ∧ Hid (m.climb t 128 x = m.climb t (128 - j) y) ∧ Fr (fun _ => False) w wr) (fun _ i _ => 128 - (intOf i).toNat)
  case atStart => exact ⟨0, x, by omega, hx, rfl, rfl, hid rfl, Fr.refl _ _⟩
  case round =>
    obtain ⟨j, y, hj, hy, rfl, rfl, hc, fr⟩ := hrel
    have HR := CRep'.of HH.out fr
    by_cases hj2 : j < 128
    · have l0 := HR.ab hy
      have hab := ok.ab y
      obtain ⟨f, hf⟩ : ∃ f, 128 - j = f + 1 := ⟨127 - j, by omega⟩
      have hf2 : 128 - (j + 1) = f := by omega
      have hcl : m.climb t (f + 1) y = (m.knows (m.ab y) && (decide (m.ab y = t) || m.climb t f (m.ab y))) := rfl
      rw [hf, hcl] at hc
      have HF2 := hid hf2
      generalize m.ab y = a at *
      cases hk : m.knows a with
      | false =>
        have HK := hid (rknows_is HR ok a hk)
        rw [hk, Bool.false_and] at hc
        clear hk HR hf hf2 hcl
        go_wp2_with (go_at_call 70; refine HK.out.mono ?_; rintro e w' ⟨rfl, g⟩)
        go_ret
        exact ⟨ret_bool hc.out.symm, fr.trans g (fun _ h _ => h)⟩
      | true =>
        have HK := hid (rknows_is HR ok a hk)
        rw [hk, Bool.true_and] at hc
        by_cases he : a = t
        · have he' : ((a : Int) == t) = true := by simp [he]
          rw [decide_eq_true he, Bool.true_or] at hc
          clear hk HR hf hf2 hcl he
          go_wp2_with (go_at_call 70; refine HK.out.mono ?_; rintro e w' ⟨rfl, g⟩)
          go_ret
          exact ⟨ret_bool hc.out.symm, fr.trans g (fun _ h _ => h)⟩
        · have he' : ((a : Int) == t) = false := by simp; omega
          rw [decide_eq_false he, Bool.false_or] at hc
          clear hk HR hf hf2 hcl he
          go_wp2_with (go_at_call 70; refine HK.out.mono ?_; rintro e w' ⟨rfl, g⟩)
          go_roundw
          case rel => exact ⟨j + 1, a, by omega, hab, rfl, by go_num, by rw [HF2.out]; exact hc, fr.trans g (fun _ h _ => h)⟩
          case measure => simp [intOf]; omega
    · obtain rfl : j = 128 := by omega
      clear HR
      go_wp2_with (fail)
      go_ret
      exact ⟨ret_bool hc.out.symm, fr⟩
set_option maxRecDepth 20000 in
set_option maxHeartbeats 2000000 in
theorem rTop_go (h : RRep w c m) (ok : m.Ok) (x : Int) : Calls Try.prog 68 #[.pointer (some ⟨c, 0, none⟩), .int .i64 x] w fun e w' => e = .returned (.int .i64 (m.top x)) ∧ Fr (fun _ => False) w w' := by
  have HH := hid h
  unfold CM.top
  cases hk : m.knows x with
  | false =>
    have HK := hid (rknows_is h ok _ hk)
    rw [if_neg (by simp)]
    clear h hk
    go_enter Try.func68, Try.ntmps68
    go_wp2_with (go_at_call 70; refine HK.out.mono ?_; rintro e w' ⟨rfl, f⟩)
    go_ret
    exact ⟨rfl, f⟩
  | true =>
    have HK := hid (rknows_is h ok _ hk)
    rw [if_pos rfl]
    obtain ⟨k, rfl, k1, k2, -⟩ := m.knows_nat hk
    rw [Int.toNat_natCast]
    clear h hk
    go_enter Try.func68, Try.ntmps68
    go_wp2_with (go_at_call 70; refine HK.out.mono ?_; rintro e w' ⟨rfl, f⟩)
    have s1 := f
    go_loopw [1, 6] (fun xx i wr => ∃ j y : Nat, j ≤ 128 ∧ y < 128 ∧ xx = .int .i64 y ∧ i = .int .i64 j ∧ Hid (m.topF 128 k = m.topF (128 - j) y) ∧ Fr (fun _ => False) w wr) (fun _ i _ => 128 - (intOf i).toNat)
    case atStart => exact ⟨0, k, by omega, by omega, rfl, rfl, hid rfl, s1⟩
    case round =>
      obtain ⟨j, y, hj, hy, rfl, rfl, hc, fr⟩ := hrel
      have HR := CRep'.of HH.out fr
      by_cases hj2 : j < 128
      · have l0 := HR.ab hy
        have hab := ok.ab y
        obtain ⟨f, hf⟩ : ∃ f, 128 - j = f + 1 := ⟨127 - j, by omega⟩
        have hf2 : 128 - (j + 1) = f := by omega
        have hcl : m.topF (f + 1) y = if m.knows (m.ab y) then m.topF f (m.ab y) else y := rfl
        rw [hf, hcl] at hc
        have HF2 := hid hf2
        generalize m.ab y = a at *
        cases hk : m.knows a with
        | false =>
          have HK := hid (rknows_is HR ok a hk)
          rw [hk, if_neg (by simp)] at hc
          clear hk HR hf hf2 hcl
          go_wp2_with (go_at_call 70; refine HK.out.mono ?_; rintro e w' ⟨rfl, g⟩)
          go_ret
          exact ⟨ret_int (by rw [hc.out]), fr.trans g (fun _ h _ => h)⟩
        | true =>
          have HK := hid (rknows_is HR ok a hk)
          rw [hk, if_pos rfl] at hc
          clear hk HR hf hf2 hcl
          go_wp2_with (go_at_call 70; refine HK.out.mono ?_; rintro e w' ⟨rfl, g⟩)
          go_roundw
          case rel => exact ⟨j + 1, a, by omega, hab, rfl, by go_num, by rw [HF2.out]; exact hc, fr.trans g (fun _ h _ => h)⟩
          case measure => simp [intOf]; omega
      · obtain rfl : j = 128 := by omega
        clear HR
        go_wp2_with (fail)
        go_ret
        exact ⟨ret_int (by rw [hc.out]; rfl), fr⟩
set_option maxRecDepth 20000 in
set_option maxHeartbeats 4000000 in
theorem rBelow_go (h : RRep w c m) (ok : m.Ok) (x : Int) : Calls Try.prog 66 #[.pointer (some ⟨c, 0, none⟩), .int .i64 x] w fun e w' => ∃ v, e = .returned v ∧ Row 3 1 w.heap.size w' v (m.below x).length (nv (m.below x)) ∧ Fr (fun _ => False) w w' := by
  have HH := hid h
  cases hk : m.knows x with
  | false =>
    have HK := hid (rknows_is h ok _ hk)
    have hb : m.below x = [] := by unfold CM.below; rw [hk]; rfl
    rw [hb]
    have HKN := hid (fun w' (f : Fr (fun _ => False) w w') => rKnown_go (CRep'.of HH.out f) ok)
    clear h hk hb
    go_enter Try.func66, Try.ntmps66
    go_wp2_with (fail)
    refine HK.out.mono ?_
    rintro e w1 ⟨rfl, f1⟩
    go_wp2_with (fail)
    refine (HKN.out w1 f1).mono ?_
    rintro e w2 ⟨v, rfl, row, f2⟩
    clear row
    go_wp2_with (fail)
    go_loopw [5, 8] (fun v i wr => v = .slice none 0 0 ∧ i = .int .i64 0 ∧ Fr (fun _ => False) w wr) (fun _ _ _ => 0)
    case atStart => exact ⟨rfl, rfl, f1.trans f2 (fun _ h _ => h)⟩
    case round =>
      obtain ⟨rfl, rfl, fr⟩ := hrel
      go_wp2_with (fail)
      go_ret
      exact ⟨_, rfl, Row.nil, fr⟩
  | true =>
    have HK := hid (rknows_is h ok _ hk)
    have HBA := hid (fun k => m.belowN_all k)
    have HBK := hid hk
    obtain ⟨k, rfl, k1, k2, k3⟩ := m.knows_nat hk
    have hf := ok.far
    have hkl := m.known_length
    have HKG := hid (fun i h => m.known_get i h)
    have HKN := hid (fun w' (f : Fr (fun _ => False) w w') => rKnown_go (CRep'.of HH.out f) ok)
    have HUN := hid (fun w' (f : Fr (fun _ => False) w w') i => runder_go (x := xat m.low i) (CRep'.of HH.out f) ok (by have := xat_on m.low i; omega) k)
    have HBS := hid (fun i h => m.belowN_succ k i h)
    have HBL := hid (fun i => m.belowN_le k i)
    clear h hk
    go_enter Try.func66, Try.ntmps66
    go_wp2_with (fail)
    refine HK.out.mono ?_
    rintro e w1 ⟨rfl, f1⟩
    go_wp2_with (fail)
    refine (HKN.out w1 f1).mono ?_
    rintro e w2 ⟨v, rfl, row, f2⟩
    obtain ⟨la, lc, rfl, hlc⟩ := row.slice
    obtain ⟨g, rfl, hg, hr⟩ := row_cells row (by intro e; have := nv_length m.known; rw [e, hkl] at this; simp at this; omega)
    have F2 := hid (f1.trans f2 (fun _ h _ => h))
    have HR := hid (fun i (hi : i < m.n) => show w2.cell? ⟨g, i, none⟩ = some (.int .i64 (xat m.low i : Nat)) from hr i _ (by simp only [nv, List.getElem?_map]; rw [List.getElem?_eq_getElem (by omega), m.known_get i (by omega)]; rfl))
    clear row hr f1 f2 HK HKN hkl
    go_wp2_with (fail)
    go_loopw [5, 8] (fun v i wr => ∃ j : Nat, j ≤ m.n ∧ i = .int .i64 j ∧ Row 3 1 w2.heap.size wr v (m.belowN k j).length (nv (m.belowN k j)) ∧ Fr (fun _ => False) w2 wr) (fun _ i _ => m.n - (intOf i).toNat)
    case atStart => exact ⟨0, by omega, rfl, Row.nil, Fr.refl _ _⟩
    case round =>
      obtain ⟨j, hj, rfl, row, fr⟩ := hrel
      obtain ⟨va, vc, rfl, hvc⟩ := row.slice
      by_cases hjn : j < m.n
      · have q0 := cell_fr (HR.out j hjn) fr (fun h => h)
        have hu := HUN.out wr (F2.out.trans fr (fun _ h _ => h)) j
        have hs := HBS.out j hjn
        have hle := HBL.out j
        have fsz := fr.size
        have ROW := hid row
        have FR := hid fr
        generalize m.climb k 128 (xat m.low j) = b at *
        have HU := hid hu
        clear row fr hu HBL
        cases b with
        | false =>
          rw [if_neg (by simp)] at hs
          have HS := hid hs
          clear hs
          generalize xat m.low j = xj at *
          go_wp2_with (first | (go_at_call 80; refine HU.out.mono ?_; rintro e w5 ⟨rfl, f5⟩))
          go_roundw
          case rel => exact ⟨j + 1, by omega, by go_num, by rw [HS.out]; exact ROW.out.fre f5, FR.out.trans f5 (fun _ h _ => h)⟩
          case measure => simp [intOf]; omega
        | true =>
          rw [if_pos rfl] at hs
          have HS := hid hs
          clear hs
          generalize m.belowN k j = l at *
          generalize xat m.low j = xj at *
          go_wp2_with (fail)
          refine HU.out.mono ?_
          rintro e w5 ⟨rfl, f5⟩
          have q5 := cell_fr q0 f5 (fun h => h)
          have ROW5 := hid (ROW.out.fre f5)
          have fsz5 : w2.heap.size ≤ w5.heap.size := Nat.le_trans fsz f5.size
          have FR5 := hid (FR.out.trans f5 (fun _ h _ => h))
          clear q0 fsz f5 ROW FR
          go_wp2_with (first
            | (refine wpList_app1 rfl (s := .tmp 32) (x := .tmp 37) (t := 26) rfl Try.underlying26 Try.info_int rfl rfl rfl ROW5.out fsz5 rfl (by simp [Value.oneCell']) (by omega) (by omega) ?_; intro ab ac wg APP))
          go_roundw
          case rel => exact ⟨j + 1, by omega, by go_num, APP.row.cast (by rw [HS.out]; simp) (by rw [HS.out, nv_snoc]), APP.frB ROW5.out FR5.out (Nat.le_refl _)⟩
          case measure => simp [intOf]; omega
      · obtain rfl : j = m.n := by omega
        have hba := HBA.out k HBK.out
        rw [hba] at row ⊢
        have ROW := hid row
        clear row hba
        go_wp2_with (fail)
        go_ret
        exact ⟨_, rfl, (ROW.out.low F2.out.size), F2.out.trans fr (fun _ h _ => h)⟩
end Go.Proofs.Ytbkebjgoaeddjaa
