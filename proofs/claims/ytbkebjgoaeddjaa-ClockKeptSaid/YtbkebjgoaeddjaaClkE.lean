import Derived.Test.YtbkebjgoaeddjaaClkD
import Derived.Test.YtbkebjgoaeddjaaClkN
import Derived.Test.YtbkebjgoaeddjaaEver
/- The clock under test: Oldest, Top, Begin. -/
set_option linter.unusedVariables false
namespace Go.Proofs.Ytbkebjgoaeddjaa
open Go.RowKit Go.VB Go.VB.Clk
variable {w : World} {c : Nat} {m : CM}
theorem run_snap_live (x : Value) (a : Option Addr) (n q : Nat) (w : World) : (Instr.field 37 (.agg #[x, .slice a n q]) 1).run Try.prog w = .ok (.slice a n q) w := by kernel_rfl
theorem run_snap_high (n : Int) (v : Value) (w : World) : (Instr.field 37 (.agg #[.int .i64 n, v]) 0).run Try.prog w = .ok (.int .i64 n) w := by kernel_rfl
theorem nv_range {w' : World} {v : Value} {l : List Nat} (h : NumRow w w' v l) : Sl (fun _ => True) w' v l.length (nv l) := own_sl h.own (fun _ _ => trivial)
set_option maxHeartbeats 1000000 in
set_option maxRecDepth 20000 in
theorem Oldest_go (h : CRep w c m) (ok : m.Ok) : Calls Try.prog 32 #[.pointer (some ⟨c, 0, none⟩)] w fun e w' => e = .returned (.int .i64 m.oldest) ∧ Fr (fun _ => False) w w' := by
  have hS := Snap_go h ok
  have HH := hid h
  clear h
  cases hl : m.lives with
  | nil =>
    have ho : m.oldest = m.next := by unfold CM.oldest; rw [hl]; rfl
    rw [ho]
    rw [hl] at hS
    clear ho hl
    go_enter Try.func32, Try.ntmps32
    go_wp2_with (fail)
    refine hS.mono ?_
    rintro e w1 ⟨v, rfl, row, f1⟩
    obtain ⟨a, q, rfl, hq⟩ := own_slice row.own
    clear hS row
    have HN := hid (Now_go (HH.out.fr f1 (fun h => h)))
    have kf := run_snap_live (.int .i64 m.next)
    go_wp2_with (fail)
    refine wp_loop_rounds 1 ?_
    rw [rounds_succ]
    go_wp2_with (fail)
    refine HN.out.mono ?_
    rintro e w2 ⟨rfl, rfl⟩
    go_wp2_with (fail)
    go_ret
    exact ⟨rfl, f1⟩
  | cons x l =>
    have ho : m.oldest = x := by unfold CM.oldest; rw [hl]; rfl
    rw [ho]
    rw [hl] at hS
    clear ho hl
    go_enter Try.func32, Try.ntmps32
    go_wp2_with (fail)
    refine hS.mono ?_
    rintro e w1 ⟨v, rfl, row, f1⟩
    obtain ⟨a, q, rfl, hq, hr⟩ := nv_range row
    obtain ⟨g, o, rfl, -, hr⟩ := hr (by simp [nv])
    have k0 : w1.cell? ⟨g, o, none⟩ = some (.int .i64 x) := hr 0 _ rfl
    have hl0 : 0 < (x :: l).length := by simp
    generalize (x :: l).length = n at *
    clear hS row hr
    have kf := run_snap_live (.int .i64 m.next)
    go_wp2_with (fail)
    refine wp_loop_rounds 1 ?_
    rw [rounds_succ]
    go_wp2_with (fail)
    go_ret
    exact ⟨rfl, f1⟩
theorem Top_go (h : CRep w c m) (ok : m.Ok) (x : Int) : Calls Try.prog 26 #[.pointer (some ⟨c, 0, none⟩), .int .i64 x] w fun e w' => e = .returned (.int .i64 (m.top x)) ∧ Fr (fun _ => False) w w' := by
  unfold CM.top
  cases hk : m.knows x with
  | false =>
    have HK := hid (knows_is h ok _ hk)
    rw [if_neg (by simp)]
    clear hk h
    go_enter Try.func26, Try.ntmps26
    go_wp2_with (first | (go_at_call 56; refine HK.out.mono ?_; rintro e w' ⟨rfl, f⟩))
    go_ret
    exact ⟨rfl, f⟩
  | true =>
    have HK := hid (knows_is h ok _ hk)
    rw [if_pos rfl]
    obtain ⟨k, rfl, k1, k2, k3⟩ := m.knows_nat hk
    rw [Int.toNat_natCast]
    have HH := hid h
    have HKK := hid hk
    have HB := hid (ok.ab)
    have ab_lt : ∀ x, m.above x < 128 := fun x => by unfold CM.above; split; exact HB.out x; omega
    have HAB := hid ab_lt
    clear hk h ab_lt
    go_enter Try.func26, Try.ntmps26
    go_wp2_with (fail)
    refine HK.out.mono ?_
    rintro e w1 ⟨rfl, f1⟩
    go_wp2_with (fail)
    refine (above_go (HH.out.fr f1 (fun h => h)) ok (x := k) (by omega)).mono ?_
    rintro e w2 ⟨rfl, f2⟩
    go_wp2_with (fail)
    go_loopw [1, 5] (fun y a wr => ∃ j : Nat, y = .int .i64 j ∧ a = .int .i64 (m.above j) ∧ m.knows j = true ∧ m.topF 128 j = m.topF 128 k ∧ Fr (fun _ => False) w wr) (fun y _ _ => steps m.low (intOf y).toNat)
    case atStart => exact ⟨k, rfl, rfl, HKK.out, rfl, f1.trans f2 (fun _ h _ => h)⟩
    case round =>
      obtain ⟨j, rfl, rfl, hj, ht, fr⟩ := hrel
      have hup := m.topF_up ok j hj
      have hh := CRep.fr HH.out fr (fun h => h)
      cases hp : m.knows (m.ab j) with
      | false =>
        have ha : m.above j = 0 := by unfold CM.above; rw [hp]; rfl
        rw [ha]
        rw [hp, if_neg (by simp)] at hup
        clear ha hp hj
        go_wp2_with (fail)
        go_ret
        exact ⟨ret_int (by rw [← ht, hup]), fr⟩
      | true =>
        have ha : m.above j = m.ab j := by unfold CM.above; rw [hp]; rfl
        rw [ha]
        obtain ⟨p1, p2, p3⟩ := CM.knows_iff.1 hp
        rw [hp, if_pos rfl, ht] at hup
        have hlt := m.par_lt ok hj hp
        have hA := above_go hh ok (x := m.ab j) (by omega)
        have HUP := hid hup
        have HP := hid hp
        clear ha hp hj hup ht
        generalize m.ab j = i at *
        go_wp2_with (fail)
        refine hA.mono ?_
        rintro e w3 ⟨rfl, f3⟩
        go_wp2_with (fail)
        go_roundw
        case rel => exact ⟨i, rfl, rfl, HP.out, HUP.out.symm, fr.trans f3 (fun _ h _ => h)⟩
        case measure => simp only [intOf]; rw [Int.toNat_natCast, Int.toNat_natCast]; exact hlt
theorem Try.size_stand : (Try.prog.info? 81).map (·.size) = some 2 := by kernel_rfl
theorem ccells_add (m : CM) (hx : m.next < 128) (a : Nat) : ((ccells m).take (2 + m.next * 2) ++ [Value.int .i64 1, Value.int .i64 a] ++ (ccells m).drop (2 + m.next * 2 + 2)).set 1 (.int .i64 (nxt m.next)) = ccells (m.add a) := by
  have hl := ccells_length m
  have e : (ccells m).take (2 + m.next * 2) ++ [.int .i64 1, .int .i64 a] ++ (ccells m).drop (2 + m.next * 2 + 2) = ((ccells m).set (2 + m.next * 2) (.int .i64 1)).set (2 + m.next * 2 + 1) (.int .i64 a) := by
    apply List.ext_getElem?
    intro j
    rw [List.getElem?_set, List.getElem?_set, List.length_set, hl]
    by_cases h1 : 2 + m.next * 2 + 1 = j
    · subst h1
      rw [if_pos rfl, if_pos (by omega), List.append_assoc, List.getElem?_append_right (by simp; omega)]
      rw [show 2 + m.next * 2 + 1 - ((ccells m).take (2 + m.next * 2)).length = 1 by rw [List.length_take, hl]; omega]
      rfl
    · rw [if_neg h1]
      by_cases h2 : 2 + m.next * 2 = j
      · subst h2
        rw [if_pos rfl, if_pos (by omega), List.append_assoc, List.getElem?_append_right (by simp; omega)]
        rw [show 2 + m.next * 2 - ((ccells m).take (2 + m.next * 2)).length = 0 by rw [List.length_take, hl]; omega]
        rfl
      · rw [if_neg h2, List.append_assoc]
        by_cases h3 : j < 2 + m.next * 2
        · rw [List.getElem?_append_left (by rw [List.length_take, hl]; omega), List.getElem?_take, if_pos h3]
        · rw [List.getElem?_append_right (by rw [List.length_take, hl]; omega), List.length_take, hl, Nat.min_eq_left (by omega), List.getElem?_append_right (by simp; omega), List.getElem?_drop]
          congr 1
          simp
          omega
  rw [e, ccells_setst m _ hx, ccells_setab _ _ hx, ccells_next]
  rfl
theorem ccells_add' (m : CM) (hx : m.next < 128) (a : Nat) (z : Int) (hz : z = a) : ((ccells m).take (2 + m.next * 2) ++ [Value.int .i64 1, Value.int .i64 z] ++ (ccells m).drop (2 + m.next * 2 + 2)).set 1 (.int .i64 (nxt m.next)) = ccells (m.add a) := by subst hz; exact ccells_add m hx a
set_option maxHeartbeats 2000000 in
theorem Begin_go (h : CRep w c m) (ok : m.Ok) (a : Int) : Calls Try.prog 22 #[.pointer (some ⟨c, 0, none⟩), .int .i64 a] w fun e w' => e = .returned (.tuple #[.int .i64 (m.begin_ a).2.1, .int .i64 (m.begin_ a).2.2]) ∧ CRep w' c (m.begin_ a).1 ∧ Fr (fun k => k = c) w w' := by
  have fF := Fr.refl (fun k => k = c) w
  have HH := hid h
  unfold CM.begin_
  cases hb : m.mayB a with
  | false =>
    rw [if_neg (by simp)]
    simp only [CM.mayB, Bool.or_eq_false_iff, Bool.and_eq_false_iff, decide_eq_false_iff_not] at hb
    obtain ⟨h0, h1⟩ := hb
    have h0' : (a != 0) = true := by simpa using h0
    cases hk : m.knows a with
    | false =>
      have HK := hid (knows_is h ok _ hk)
      clear hk h1 h h0
      go_enter Try.func22, Try.ntmps22
      go_wp2_with (first | (go_at_call 56; refine HK.out.mono ?_; rintro e w' ⟨rfl, f⟩))
      go_ret2
      exact ⟨rfl, HH.out.fr f (fun h => h), f.mono (fun _ h _ => h.elim)⟩
    | true =>
      have HK := hid (knows_is h ok _ hk)
      rw [hk] at h1
      obtain ⟨k, rfl, k1, k2, -⟩ := m.knows_nat hk
      have h1 : m.st k ≠ 1 := by simpa using h1
      have h1' : (m.st k != 1) = true := by simpa using h1
      have l0 := h.st (x := k) (by omega)
      clear hk h1 h h0
      go_enter Try.func22, Try.ntmps22
      go_wp2_with (first | (go_at_call 56; refine HK.out.mono ?_; rintro e w' ⟨rfl, f⟩; have l0 := cell_fr l0 f (fun h => h)))
      go_ret2
      exact ⟨rfl, HH.out.fr f (fun h => h), f.mono (fun _ h _ => h.elim)⟩
  | true =>
    rw [if_pos rfl]
    obtain ⟨k, rfl, hk⟩ := m.mayB_nat hb
    have hl := ok.lo
    have hx := ok.nx
    have HS := hid (fun w => steps_go m.low m.next w (by omega) (by omega) (by omega))
    rw [show m.n = steps m.low m.next from rfl, Int.toNat_natCast]
    have hnx := nextI_nat hx
    have HN := hid (fun w => hnx ▸ Next_go m.next w (by omega))
    clear hnx hb
    by_cases hf : 60 ≤ steps m.low m.next
    · have hd : decide (60 ≤ steps m.low m.next) = true := by simpa using hf
      rw [if_pos hf]
      rcases hk with rfl | ⟨hk, h1⟩
      · have l0 := CRep.low h
        have l1 := CRep.next h
        have HW := hid h
        have HF := hid fF
        clear h fF
        go_enter Try.func22, Try.ntmps22
        go_wp2_with (fail)
        refine wp_region_scriptE [(true, 0), (true, 1), (true, 2), (true, 3), (true, 4), (true, 5), (true, 6), (true, 7), (false, 8), (true, 9), (true, 10)] (fun kz w => (kz ≤ 11 → w.cell? ⟨c, 0, none⟩ = some (.int .i64 m.low) ∧ w.cell? ⟨c, 1, none⟩ = some (.int .i64 m.next)) ∧ True) (by kernel_rfl) (by kernel_rfl) (by intro c a d v w h; cases d <;> exact h) ?_
        repeat
          first
          | (refine wpS_pureE rfl rfl rfl ?_; apply Exists.intro; refine ⟨?_, ?_⟩; intro w; ((go_simp <;> rfl)); simp only [Act.put, List.setIfInBounds_toArray, List.set_cons_zero, List.set_cons_succ])
          | (refine wpS_takeE 11 rfl rfl (by decide +kernel) ⟨fun _ => ⟨l0, l1⟩, trivial⟩ ?_; apply Exists.intro; refine ⟨?_, ?_⟩; intro w hw; (have qa := (hw rfl).1 (Nat.le_refl _); have qb := (hw rfl).2); ((go_simp <;> rfl)); simp only [Act.put, List.setIfInBounds_toArray, List.set_cons_zero, List.set_cons_succ])
          | (refine wpS_skipE rfl rfl ?_; simp only [Act.put, List.setIfInBounds_toArray, List.set_cons_zero, List.set_cons_succ])
        refine wpS_opE rfl ?_
        go_wp2_with ((go_at_call 54; refine (HS.out _).mono ?_; rintro e w' ⟨rfl, rfl⟩))
        (refine ⟨?_, ?_⟩; focus (intro kz hk hk2; rintro ⟨qa, qb⟩; first | (exfalso; simp at hk2; omega) | exact ⟨qa, qb⟩ | (refine ⟨fun h => absurd h (by omega), ?_⟩; first | exact qb | (exact qa)) | (refine ⟨fun h => ?_, ?_⟩; (have qa := qa h); all_goals (first | exact qa | exact qb | (exact qa)))))
        repeat
          first
          | (refine wpS_pureE rfl rfl rfl ?_; apply Exists.intro; refine ⟨?_, ?_⟩; intro w; ((go_simp <;> rfl)); simp only [Act.put, List.setIfInBounds_toArray, List.set_cons_zero, List.set_cons_succ])
          | (refine wpS_takeE 11 rfl rfl (by decide +kernel) ⟨fun _ => ⟨l0, l1⟩, trivial⟩ ?_; apply Exists.intro; refine ⟨?_, ?_⟩; intro w hw; (have qa := (hw rfl).1 (Nat.le_refl _); have qb := (hw rfl).2); ((go_simp <;> rfl)); simp only [Act.put, List.setIfInBounds_toArray, List.set_cons_zero, List.set_cons_succ])
          | (refine wpS_skipE rfl rfl ?_; simp only [Act.put, List.setIfInBounds_toArray, List.set_cons_zero, List.set_cons_succ])
        refine wpS_nilE ?_
        go_wp2_with (fail)
        go_ret2
        exact ⟨rfl, HW.out, HF.out.drew⟩
      · have HK := hid (knows_is h ok _ hk)
        have k3 := CM.knows_iff.1 hk
        have h0' : ((k : Int) != 0) = true := by simp; omega
        have s0 : w.cell? ⟨c, 2 + k * 2, none⟩ = some (.int .i64 1) := by rw [CRep.st h (x := k) (by omega), h1]
        clear h hk fF h1
        go_enter Try.func22, Try.ntmps22
        go_wp2_with (fail)
        refine HK.out.mono ?_
        rintro e w1 ⟨rfl, f⟩
        have s0 := cell_fr s0 f (fun h => h)
        have HW := hid (CRep.fr HH.out f (fun h => h))
        have HF := hid (f.mono (T := fun k => k = c) (fun _ h _ => h.elim))
        have l0 := CRep.low HW.out
        have l1 := CRep.next HW.out
        clear f HH
        go_wp2_with (fail)
        refine wp_region_scriptE [(true, 0), (true, 1), (true, 2), (true, 3), (true, 4), (true, 5), (true, 6), (true, 7), (false, 8), (true, 9), (true, 10)] (fun kz w => (kz ≤ 11 → w.cell? ⟨c, 0, none⟩ = some (.int .i64 m.low) ∧ w.cell? ⟨c, 1, none⟩ = some (.int .i64 m.next)) ∧ True) (by kernel_rfl) (by kernel_rfl) (by intro c a d v w h; cases d <;> exact h) ?_
        repeat
          first
          | (refine wpS_pureE rfl rfl rfl ?_; apply Exists.intro; refine ⟨?_, ?_⟩; intro w; ((go_simp <;> rfl)); simp only [Act.put, List.setIfInBounds_toArray, List.set_cons_zero, List.set_cons_succ])
          | (refine wpS_takeE 11 rfl rfl (by decide +kernel) ⟨fun _ => ⟨l0, l1⟩, trivial⟩ ?_; apply Exists.intro; refine ⟨?_, ?_⟩; intro w hw; (have qa := (hw rfl).1 (Nat.le_refl _); have qb := (hw rfl).2); ((go_simp <;> rfl)); simp only [Act.put, List.setIfInBounds_toArray, List.set_cons_zero, List.set_cons_succ])
          | (refine wpS_skipE rfl rfl ?_; simp only [Act.put, List.setIfInBounds_toArray, List.set_cons_zero, List.set_cons_succ])
        refine wpS_opE rfl ?_
        go_wp2_with ((go_at_call 54; refine (HS.out _).mono ?_; rintro e w' ⟨rfl, rfl⟩))
        (refine ⟨?_, ?_⟩; focus (intro kz hk hk2; rintro ⟨qa, qb⟩; first | (exfalso; simp at hk2; omega) | exact ⟨qa, qb⟩ | (refine ⟨fun h => absurd h (by omega), ?_⟩; first | exact qb | (exact qa)) | (refine ⟨fun h => ?_, ?_⟩; (have qa := qa h); all_goals (first | exact qa | exact qb | (exact qa)))))
        repeat
          first
          | (refine wpS_pureE rfl rfl rfl ?_; apply Exists.intro; refine ⟨?_, ?_⟩; intro w; ((go_simp <;> rfl)); simp only [Act.put, List.setIfInBounds_toArray, List.set_cons_zero, List.set_cons_succ])
          | (refine wpS_takeE 11 rfl rfl (by decide +kernel) ⟨fun _ => ⟨l0, l1⟩, trivial⟩ ?_; apply Exists.intro; refine ⟨?_, ?_⟩; intro w hw; (have qa := (hw rfl).1 (Nat.le_refl _); have qb := (hw rfl).2); ((go_simp <;> rfl)); simp only [Act.put, List.setIfInBounds_toArray, List.set_cons_zero, List.set_cons_succ])
          | (refine wpS_skipE rfl rfl ?_; simp only [Act.put, List.setIfInBounds_toArray, List.set_cons_zero, List.set_cons_succ])
        refine wpS_nilE ?_
        go_wp2_with (fail)
        go_ret2
        exact ⟨rfl, HW.out, HF.out.drew⟩
    · have hd : decide (60 ≤ steps m.low m.next) = false := by simpa using hf
      rw [if_neg hf]
      rcases hk with rfl | ⟨hk, h1⟩
      · have l0 := CRep.low h
        have l1 := CRep.next h
        have HW := hid h
        have HF := hid fF
        clear h fF
        go_enter Try.func22, Try.ntmps22
        go_wp2_with (fail)
        refine wp_region_scriptE [(true, 0), (true, 1), (true, 2), (true, 3), (true, 4), (true, 5), (true, 6), (true, 7), (false, 8), (true, 9), (true, 10)] (fun kz w => (kz ≤ 11 → w.cell? ⟨c, 0, none⟩ = some (.int .i64 m.low) ∧ w.cell? ⟨c, 1, none⟩ = some (.int .i64 m.next)) ∧ True) (by kernel_rfl) (by kernel_rfl) (by intro c a d v w h; cases d <;> exact h) ?_
        repeat
          first
          | (refine wpS_pureE rfl rfl rfl ?_; apply Exists.intro; refine ⟨?_, ?_⟩; intro w; ((go_simp <;> rfl)); simp only [Act.put, List.setIfInBounds_toArray, List.set_cons_zero, List.set_cons_succ])
          | (refine wpS_takeE 11 rfl rfl (by decide +kernel) ⟨fun _ => ⟨l0, l1⟩, trivial⟩ ?_; apply Exists.intro; refine ⟨?_, ?_⟩; intro w hw; (have qa := (hw rfl).1 (Nat.le_refl _); have qb := (hw rfl).2); ((go_simp <;> rfl)); simp only [Act.put, List.setIfInBounds_toArray, List.set_cons_zero, List.set_cons_succ])
          | (refine wpS_skipE rfl rfl ?_; simp only [Act.put, List.setIfInBounds_toArray, List.set_cons_zero, List.set_cons_succ])
        refine wpS_opE rfl ?_
        go_wp2_with ((go_at_call 54; refine (HS.out _).mono ?_; rintro e w' ⟨rfl, rfl⟩))
        (refine ⟨?_, ?_⟩; focus (intro kz hk hk2; rintro ⟨qa, qb⟩; first | (exfalso; simp at hk2; omega) | exact ⟨qa, qb⟩ | (refine ⟨fun h => absurd h (by omega), ?_⟩; first | exact qb | (exact qa)) | (refine ⟨fun h => ?_, ?_⟩; (have qa := qa h); all_goals (first | exact qa | exact qb | (exact qa)))))
        repeat
          first
          | (refine wpS_pureE rfl rfl rfl ?_; apply Exists.intro; refine ⟨?_, ?_⟩; intro w; ((go_simp <;> rfl)); simp only [Act.put, List.setIfInBounds_toArray, List.set_cons_zero, List.set_cons_succ])
          | (refine wpS_takeE 11 rfl rfl (by decide +kernel) ⟨fun _ => ⟨l0, l1⟩, trivial⟩ ?_; apply Exists.intro; refine ⟨?_, ?_⟩; intro w hw; (have qa := (hw rfl).1 (Nat.le_refl _); have qb := (hw rfl).2); ((go_simp <;> rfl)); simp only [Act.put, List.setIfInBounds_toArray, List.set_cons_zero, List.set_cons_succ])
          | (refine wpS_skipE rfl rfl ?_; simp only [Act.put, List.setIfInBounds_toArray, List.set_cons_zero, List.set_cons_succ])
        refine wpS_nilE ?_
        have hT : w.drew.there c (2 + m.next * 2) 2 := Blk.there HW.out.drew _ _ (by rw [ccells_length]; omega)
        have B1 : Blk (w.drew.setCells c (2 + m.next * 2) [.int .i64 1, .int .i64 0]) c ((ccells m).take (2 + m.next * 2) ++ [.int .i64 1, .int .i64 0] ++ (ccells m).drop (2 + m.next * 2 + 2)) 84 := Blk.put (Blk.drew HW.out) (2 + m.next * 2) [.int .i64 1, .int .i64 0] (by rw [ccells_length]; simp; omega)
        have B2 := B1.set 1 (.int .i64 (nxt m.next))
        rw [ccells_add' m (by omega) 0 0 rfl] at B2
        have F1 := HF.out.drew.put c (2 + m.next * 2) [.int .i64 1, .int .i64 0] (fun _ => rfl)
        have F2 := F1.setCell ⟨c, 1, none⟩ (.int .i64 (nxt m.next)) (fun _ => rfl)
        have z1 := B1.frozen 1
        have c1 : ∃ u, (w.drew.setCells c (2 + m.next * 2) [.int .i64 1, .int .i64 0]).cell? ⟨c, 1, none⟩ = some u := ⟨_, by rw [B1.cell, List.append_assoc, List.getElem?_append_left (by rw [List.length_take, ccells_length]; omega), List.getElem?_take, if_pos (by omega)]; rfl⟩
        obtain ⟨u1, c1⟩ := c1
        have HB2 := hid B2
        have HF2 := hid F2
        clear B1 B2 F1 F2
        go_wp2_with (first
          | (go_at_call 15; refine (HN.out _).mono ?_; rintro e w' ⟨rfl, rfl⟩)
          | (refine wpList_store_mid rfl 81 _ _ rfl c (2 + m.next * 2) _ rfl rfl hT Try.size_stand (by simp [Value.oneCell']) ?_; rw [List.toList_toArray]))
        go_ret2
        exact ⟨rfl, HB2.out, HF2.out⟩
      · have HK := hid (knows_is h ok _ hk)
        have k3 := CM.knows_iff.1 hk
        have h0' : ((k : Int) != 0) = true := by simp; omega
        have s0 : w.cell? ⟨c, 2 + k * 2, none⟩ = some (.int .i64 1) := by rw [CRep.st h (x := k) (by omega), h1]
        clear h hk fF h1
        go_enter Try.func22, Try.ntmps22
        go_wp2_with (fail)
        refine HK.out.mono ?_
        rintro e w1 ⟨rfl, f⟩
        have s0 := cell_fr s0 f (fun h => h)
        have HW := hid (CRep.fr HH.out f (fun h => h))
        have HF := hid (f.mono (T := fun k => k = c) (fun _ h _ => h.elim))
        have l0 := CRep.low HW.out
        have l1 := CRep.next HW.out
        clear f HH
        go_wp2_with (fail)
        refine wp_region_scriptE [(true, 0), (true, 1), (true, 2), (true, 3), (true, 4), (true, 5), (true, 6), (true, 7), (false, 8), (true, 9), (true, 10)] (fun kz w => (kz ≤ 11 → w.cell? ⟨c, 0, none⟩ = some (.int .i64 m.low) ∧ w.cell? ⟨c, 1, none⟩ = some (.int .i64 m.next)) ∧ True) (by kernel_rfl) (by kernel_rfl) (by intro c a d v w h; cases d <;> exact h) ?_
        repeat
          first
          | (refine wpS_pureE rfl rfl rfl ?_; apply Exists.intro; refine ⟨?_, ?_⟩; intro w; ((go_simp <;> rfl)); simp only [Act.put, List.setIfInBounds_toArray, List.set_cons_zero, List.set_cons_succ])
          | (refine wpS_takeE 11 rfl rfl (by decide +kernel) ⟨fun _ => ⟨l0, l1⟩, trivial⟩ ?_; apply Exists.intro; refine ⟨?_, ?_⟩; intro w hw; (have qa := (hw rfl).1 (Nat.le_refl _); have qb := (hw rfl).2); ((go_simp <;> rfl)); simp only [Act.put, List.setIfInBounds_toArray, List.set_cons_zero, List.set_cons_succ])
          | (refine wpS_skipE rfl rfl ?_; simp only [Act.put, List.setIfInBounds_toArray, List.set_cons_zero, List.set_cons_succ])
        refine wpS_opE rfl ?_
        go_wp2_with ((go_at_call 54; refine (HS.out _).mono ?_; rintro e w' ⟨rfl, rfl⟩))
        (refine ⟨?_, ?_⟩; focus (intro kz hk hk2; rintro ⟨qa, qb⟩; first | (exfalso; simp at hk2; omega) | exact ⟨qa, qb⟩ | (refine ⟨fun h => absurd h (by omega), ?_⟩; first | exact qb | (exact qa)) | (refine ⟨fun h => ?_, ?_⟩; (have qa := qa h); all_goals (first | exact qa | exact qb | (exact qa)))))
        repeat
          first
          | (refine wpS_pureE rfl rfl rfl ?_; apply Exists.intro; refine ⟨?_, ?_⟩; intro w; ((go_simp <;> rfl)); simp only [Act.put, List.setIfInBounds_toArray, List.set_cons_zero, List.set_cons_succ])
          | (refine wpS_takeE 11 rfl rfl (by decide +kernel) ⟨fun _ => ⟨l0, l1⟩, trivial⟩ ?_; apply Exists.intro; refine ⟨?_, ?_⟩; intro w hw; (have qa := (hw rfl).1 (Nat.le_refl _); have qb := (hw rfl).2); ((go_simp <;> rfl)); simp only [Act.put, List.setIfInBounds_toArray, List.set_cons_zero, List.set_cons_succ])
          | (refine wpS_skipE rfl rfl ?_; simp only [Act.put, List.setIfInBounds_toArray, List.set_cons_zero, List.set_cons_succ])
        refine wpS_nilE ?_
        have hT : w1.drew.there c (2 + m.next * 2) 2 := Blk.there HW.out.drew _ _ (by rw [ccells_length]; omega)
        have B1 : Blk (w1.drew.setCells c (2 + m.next * 2) [.int .i64 1, .int .i64 k]) c ((ccells m).take (2 + m.next * 2) ++ [.int .i64 1, .int .i64 k] ++ (ccells m).drop (2 + m.next * 2 + 2)) 84 := Blk.put (Blk.drew HW.out) (2 + m.next * 2) [.int .i64 1, .int .i64 k] (by rw [ccells_length]; simp; omega)
        have B2 := B1.set 1 (.int .i64 (nxt m.next))
        rw [ccells_add' m (by omega) k k rfl] at B2
        have F1 := HF.out.drew.put c (2 + m.next * 2) [.int .i64 1, .int .i64 k] (fun _ => rfl)
        have F2 := F1.setCell ⟨c, 1, none⟩ (.int .i64 (nxt m.next)) (fun _ => rfl)
        have z1 := B1.frozen 1
        have c1 : ∃ u, (w1.drew.setCells c (2 + m.next * 2) [.int .i64 1, .int .i64 k]).cell? ⟨c, 1, none⟩ = some u := ⟨_, by rw [B1.cell, List.append_assoc, List.getElem?_append_left (by rw [List.length_take, ccells_length]; omega), List.getElem?_take, if_pos (by omega)]; rfl⟩
        obtain ⟨u1, c1⟩ := c1
        have HB2 := hid B2
        have HF2 := hid F2
        clear B1 B2 F1 F2
        go_wp2_with (first
          | (go_at_call 15; refine (HN.out _).mono ?_; rintro e w' ⟨rfl, rfl⟩)
          | (refine wpList_store_mid rfl 81 _ _ rfl c (2 + m.next * 2) _ rfl rfl hT Try.size_stand (by simp [Value.oneCell']) ?_; rw [List.toList_toArray]))
        go_ret2
        exact ⟨rfl, HB2.out, HF2.out⟩
end Go.Proofs.Ytbkebjgoaeddjaa
