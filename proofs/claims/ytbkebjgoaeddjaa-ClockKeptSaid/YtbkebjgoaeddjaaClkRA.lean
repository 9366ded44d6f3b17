import Derived.Test.YtbkebjgoaeddjaaClkEnd
import Derived.Test.YtbkebjgoaeddjaaClkJ
/- The reference's clock: how it lies in memory (the same model); New, knows, Known. -/
set_option linter.unusedVariables false
namespace Go.VB.Clk
open Go.RowKit Go.Proofs.Ytbkebjgoaeddjaa
theorem tabC_put (f : Nat → Int) (x : Nat) (hx : x < 128) (v : Int) : (tabC f).set x (.int .i64 v) = tabC (put f x v) := by
  apply List.ext_getElem?
  intro j
  rw [List.getElem?_set, tabC_length]
  by_cases h : x = j
  · subst h
    rw [if_pos rfl, if_pos hx, tabC_get _ hx]
    simp [put]
  · rw [if_neg h]
    by_cases hj : j < 128
    · rw [tabC_get _ hj, tabC_get _ hj]
      simp [put, Ne.symm h]
    · rw [List.getElem?_eq_none (by rw [tabC_length]; omega), List.getElem?_eq_none (by rw [tabC_length]; omega)]
def abI (ab : Nat → Nat) : Nat → Int := fun x => (ab x : Int)
theorem abI_put (ab : Nat → Nat) (x v : Nat) : put (abI ab) x v = abI (putN ab x v) := by
  funext y
  unfold put abI putN
  split <;> rfl
def rcells (m : CM) : List Value := [.int .i64 m.low, .int .i64 m.next] ++ (tabC m.st ++ tabC (abI m.ab))
theorem rcells_length (m : CM) : (rcells m).length = 258 := by simp [rcells, tabC_length]
theorem rcells_st (m : CM) (x : Nat) (hx : x < 128) : (rcells m)[2 + x]? = some (.int .i64 (m.st x)) := by
  unfold rcells
  rw [List.getElem?_append_right (by simp), show 2 + x - [Value.int .i64 m.low, Value.int .i64 m.next].length = x by simp, List.getElem?_append_left (by rw [tabC_length]; omega), tabC_get _ hx]
theorem rcells_ab (m : CM) (x : Nat) (hx : x < 128) : (rcells m)[130 + x]? = some (.int .i64 (m.ab x)) := by
  unfold rcells
  rw [List.getElem?_append_right (by simp; omega), show 130 + x - [Value.int .i64 m.low, Value.int .i64 m.next].length = 128 + x by simp; omega, List.getElem?_append_right (by rw [tabC_length]; omega), tabC_length, show 128 + x - 128 = x by omega, tabC_get _ hx]
  rfl
theorem rcells_setst (m : CM) (x : Nat) (hx : x < 128) (v : Int) : (rcells m).set (2 + x) (.int .i64 v) = rcells { m with st := put m.st x v } := by
  unfold rcells
  rw [List.set_append_right _ _ (by simp), show 2 + x - [Value.int .i64 m.low, Value.int .i64 m.next].length = x by simp, List.set_append_left _ _ (by rw [tabC_length]; omega), tabC_put _ x hx]
theorem rcells_setab (m : CM) (x : Nat) (hx : x < 128) (v : Nat) : (rcells m).set (130 + x) (.int .i64 v) = rcells { m with ab := putN m.ab x v } := by
  unfold rcells
  rw [List.set_append_right _ _ (by simp; omega), show 130 + x - [Value.int .i64 m.low, Value.int .i64 m.next].length = 128 + x by simp; omega, List.set_append_right _ _ (by rw [tabC_length]; omega), tabC_length, show 128 + x - 128 = x by omega, tabC_put _ x hx, abI_put]
theorem rcells_low (m : CM) (v : Nat) : (rcells m).set 0 (.int .i64 v) = rcells { m with low := v } := rfl
theorem rcells_next (m : CM) (v : Nat) : (rcells m).set 1 (.int .i64 v) = rcells { m with next := v } := rfl
end Go.VB.Clk
namespace Go.Proofs.Ytbkebjgoaeddjaa
open Go.RowKit Go.VB Go.VB.Clk
abbrev RRep (w : World) (c : Nat) (m : CM) : Prop := Blk w c (rcells m) 56
variable {w : World} {c : Nat} {m : CM}
theorem RRep.low (h : RRep w c m) : w.cell? ⟨c, 0, none⟩ = some (.int .i64 m.low) := h.cell 0
theorem RRep.next (h : RRep w c m) : w.cell? ⟨c, 1, none⟩ = some (.int .i64 m.next) := h.cell 1
theorem RRep.st (h : RRep w c m) {x : Nat} (hx : x < 128) : w.cell? ⟨c, 2 + x, none⟩ = some (.int .i64 (m.st x)) := by rw [Blk.cell h, rcells_st m x hx]
theorem RRep.ab (h : RRep w c m) {x : Nat} (hx : x < 128) : w.cell? ⟨c, 130 + x, none⟩ = some (.int .i64 (m.ab x)) := by rw [Blk.cell h, rcells_ab m x hx]
theorem RRep.fr {S : Nat → Prop} {w' : World} (h : RRep w c m) (f : Fr S w w') (hc : ¬ S c) : RRep w' c m := Blk.fr h f hc
theorem zr (n : Nat) : (Try.zeroCells56.setIfInBounds 0 (.int .i64 n)).setIfInBounds 1 (.int .i64 n) = (rcells ⟨n, n, fun _ => 0, fun _ => 0⟩).toArray := by
  have h : Try.zeroCells56.toList = rcells ⟨0, 0, fun _ => 0, fun _ => 0⟩ := by kernel_rfl
  apply Array.toList_inj.1
  rw [Array.toList_setIfInBounds, Array.toList_setIfInBounds, h]
  rfl
theorem zr' : (Try.zeroCells56.setIfInBounds 0 (.int .i64 3)).setIfInBounds 1 (.int .i64 3) = (rcells ⟨3, 3, fun _ => 0, fun _ => 0⟩).toArray := zr 3
theorem rNew_go (n : Int) (w : World) : Calls Try.prog 37 #[.int .i64 n] w fun e w' => e = .returned (.pointer (some ⟨w.heap.size, 0, none⟩)) ∧ RRep w' w.heap.size (CM.new n) ∧ Fr (fun _ => False) w w' := by
  cases hn : on n with
  | false =>
    have HN := hid (fun w => rOn_is n w hn)
    have hm : CM.new n = ⟨3, 3, fun _ => 0, fun _ => 0⟩ := by unfold CM.new; rw [hn]; rfl
    rw [hm]
    clear hn hm
    go_enter Try.func37, Try.ntmps37
    go_wp2_with (first | (go_at_call 53; refine (HN.out _).mono ?_; rintro e w' ⟨rfl, rfl⟩))
    rw [zr']
    go_ret
    exact ⟨rfl, Blk.new w _ _, (Fr.refl (fun _ => False) w).alloc _⟩
  | true =>
    have HN := hid (fun w => rOn_is n w hn)
    have hm : CM.new n = ⟨n.toNat, n.toNat, fun _ => 0, fun _ => 0⟩ := by unfold CM.new; rw [hn]; rfl
    rw [hm]
    obtain ⟨k, rfl, -, -⟩ := on_nat hn
    clear hn hm
    go_enter Try.func37, Try.ntmps37
    go_wp2_with (first | (go_at_call 53; refine (HN.out _).mono ?_; rintro e w' ⟨rfl, rfl⟩))
    rw [Int.toNat_natCast, zr]
    go_ret
    exact ⟨rfl, Blk.new w _ _, (Fr.refl (fun _ => False) w).alloc _⟩
set_option maxHeartbeats 1000000 in
theorem rknows_go (h : RRep w c m) (ok : m.Ok) (x : Int) : Calls Try.prog 70 #[.pointer (some ⟨c, 0, none⟩), .int .i64 x] w fun e w' => e = .returned (.bool (m.knows x)) ∧ Fr (fun _ => False) w w' := by
  have l0 := h.low
  have l1 := h.next
  have HO := hid (fun w => rOn_go x w)
  unfold CM.knows
  cases ho : on x with
  | false =>
    rw [ho] at HO
    rw [Bool.false_and]
    clear ho h
    go_enter Try.func70, Try.ntmps70
    go_wp2_with (first | (go_at_call 53; refine (HO.out _).mono ?_; rintro e w' ⟨rfl, rfl⟩))
    refine wp_region_scr (.take 0 (.take 1 (.take 2 (.take 3 (.take 4 (.take 5 (.take 6 (.take 8 (.take 9 (.take 10 (.take 11 (.take 12 (.take 13 (.take 14 (.take 15 (.op 7 (.op 16 (.take 17 (.take 18 (.take 19 .done)))))))))))))))))))) (fun kz w => (kz ≤ 19 → w.cell? ⟨c, 0, none⟩ = some (.int .i64 m.low) ∧ w.cell? ⟨c, 1, none⟩ = some (.int .i64 m.next)) ∧ True) (by kernel_rfl) (by kernel_rfl) (by intro c a d v w h; cases d <;> exact h) ?_
    repeat
      first
      | (refine wpT_pure rfl rfl rfl ?_; apply Exists.intro; refine ⟨?_, ?_⟩; intro w; ((go_simp <;> rfl)); simp only [Act.put, List.setIfInBounds_toArray, List.set_cons_zero, List.set_cons_succ])
      | (refine wpT_take 19 rfl rfl (by decide +kernel) ⟨fun _ => ⟨l0, l1⟩, trivial⟩ ?_; apply Exists.intro; refine ⟨?_, ?_⟩; intro w hw; (have qa := hw.1 (Nat.le_refl _); have qb := hw.2); ((go_simp <;> rfl)); simp only [Act.put, List.setIfInBounds_toArray, List.set_cons_zero, List.set_cons_succ])
      | (refine wpT_skip rfl rfl ?_; simp only [Act.put, List.setIfInBounds_toArray, List.set_cons_zero, List.set_cons_succ])
    refine wpT_op rfl ?_
    go_wp2_with (fail)
    (refine ⟨?_, ?_⟩; focus (intro kz hk hk2; rintro ⟨qa, qb⟩; first | (exfalso; simp at hk2; omega) | exact ⟨qa, qb⟩ | (refine ⟨fun h => absurd h (by omega), ?_⟩; first | exact qb | (exact qa)) | (refine ⟨fun h => ?_, ?_⟩; (have qa := qa h); all_goals (first | exact qa | exact qb | (exact qa)))))
    refine wpT_op rfl ?_
    go_wp2_with (fail)
    (refine ⟨?_, ?_⟩; focus (intro kz hk hk2; rintro ⟨qa, qb⟩; first | (exfalso; simp at hk2; omega) | exact ⟨qa, qb⟩ | (refine ⟨fun h => absurd h (by omega), ?_⟩; first | exact qb | (exact qa)) | (refine ⟨fun h => ?_, ?_⟩; (have qa := qa h); all_goals (first | exact qa | exact qb | (exact qa)))))
    repeat
      first
      | (refine wpT_pure rfl rfl rfl ?_; apply Exists.intro; refine ⟨?_, ?_⟩; intro w; ((go_simp <;> rfl)); simp only [Act.put, List.setIfInBounds_toArray, List.set_cons_zero, List.set_cons_succ])
      | (refine wpT_take 19 rfl rfl (by decide +kernel) ⟨fun _ => ⟨l0, l1⟩, trivial⟩ ?_; apply Exists.intro; refine ⟨?_, ?_⟩; intro w hw; (have qa := hw.1 (Nat.le_refl _); have qb := hw.2); ((go_simp <;> rfl)); simp only [Act.put, List.setIfInBounds_toArray, List.set_cons_zero, List.set_cons_succ])
      | (refine wpT_skip rfl rfl ?_; simp only [Act.put, List.setIfInBounds_toArray, List.set_cons_zero, List.set_cons_succ])
    refine wpT_nil ?_
    go_wp2
    go_ret
    exact ⟨rfl, (Fr.refl _ w).drew⟩
  | true =>
    rw [ho] at HO
    obtain ⟨k, rfl, k1, k2⟩ := on_nat ho
    have hl := ok.lo
    have hn := ok.nx
    have HS := hid (fun w => rSteps_go m.low k w (by omega) (by omega))
    have HT := hid (fun w => rSteps_go m.low m.next w (by omega) (by omega))
    rw [Bool.true_and, Int.toNat_natCast]
    rw [show m.n = steps m.low m.next from rfl]
    clear ho h
    go_enter Try.func70, Try.ntmps70
    go_wp2_with (first | (go_at_call 53; refine (HO.out _).mono ?_; rintro e w' ⟨rfl, rfl⟩))
    refine wp_region_scr (.take 0 (.take 1 (.take 2 (.take 3 (.take 4 (.take 5 (.take 6 (.take 8 (.take 9 (.take 10 (.take 11 (.take 12 (.take 13 (.take 14 (.take 15 (.op 7 (.op 16 (.take 17 (.take 18 (.take 19 .done)))))))))))))))))))) (fun kz w => (kz ≤ 19 → w.cell? ⟨c, 0, none⟩ = some (.int .i64 m.low) ∧ w.cell? ⟨c, 1, none⟩ = some (.int .i64 m.next)) ∧ True) (by kernel_rfl) (by kernel_rfl) (by intro c a d v w h; cases d <;> exact h) ?_
    repeat
      first
      | (refine wpT_pure rfl rfl rfl ?_; apply Exists.intro; refine ⟨?_, ?_⟩; intro w; ((go_simp <;> rfl)); simp only [Act.put, List.setIfInBounds_toArray, List.set_cons_zero, List.set_cons_succ])
      | (refine wpT_take 19 rfl rfl (by decide +kernel) ⟨fun _ => ⟨l0, l1⟩, trivial⟩ ?_; apply Exists.intro; refine ⟨?_, ?_⟩; intro w hw; (have qa := hw.1 (Nat.le_refl _); have qb := hw.2); ((go_simp <;> rfl)); simp only [Act.put, List.setIfInBounds_toArray, List.set_cons_zero, List.set_cons_succ])
      | (refine wpT_skip rfl rfl ?_; simp only [Act.put, List.setIfInBounds_toArray, List.set_cons_zero, List.set_cons_succ])
    refine wpT_op rfl ?_
    go_wp2_with ((go_at_call 55; refine (HS.out _).mono ?_; rintro e w' ⟨rfl, rfl⟩))
    (refine ⟨?_, ?_⟩; focus (intro kz hk hk2; rintro ⟨qa, qb⟩; first | (exfalso; simp at hk2; omega) | exact ⟨qa, qb⟩ | (refine ⟨fun h => absurd h (by omega), ?_⟩; first | exact qb | (exact qa)) | (refine ⟨fun h => ?_, ?_⟩; (have qa := qa h); all_goals (first | exact qa | exact qb | (exact qa)))))
    refine wpT_op rfl ?_
    go_wp2_with ((go_at_call 55; refine (HT.out _).mono ?_; rintro e w' ⟨rfl, rfl⟩))
    (refine ⟨?_, ?_⟩; focus (intro kz hk hk2; rintro ⟨qa, qb⟩; first | (exfalso; simp at hk2; omega) | exact ⟨qa, qb⟩ | (refine ⟨fun h => absurd h (by omega), ?_⟩; first | exact qb | (exact qa)) | (refine ⟨fun h => ?_, ?_⟩; (have qa := qa h); all_goals (first | exact qa | exact qb | (exact qa)))))
    repeat
      first
      | (refine wpT_pure rfl rfl rfl ?_; apply Exists.intro; refine ⟨?_, ?_⟩; intro w; ((go_simp <;> rfl)); simp only [Act.put, List.setIfInBounds_toArray, List.set_cons_zero, List.set_cons_succ])
      | (refine wpT_take 19 rfl rfl (by decide +kernel) ⟨fun _ => ⟨l0, l1⟩, trivial⟩ ?_; apply Exists.intro; refine ⟨?_, ?_⟩; intro w hw; (have qa := hw.1 (Nat.le_refl _); have qb := hw.2); ((go_simp <;> rfl)); simp only [Act.put, List.setIfInBounds_toArray, List.set_cons_zero, List.set_cons_succ])
      | (refine wpT_skip rfl rfl ?_; simp only [Act.put, List.setIfInBounds_toArray, List.set_cons_zero, List.set_cons_succ])
    refine wpT_nil ?_
    go_wp2
    go_ret
    exact ⟨ret_bool (by simp), (Fr.refl _ w).drew⟩
theorem rknows_is (h : RRep w c m) (ok : m.Ok) (x : Int) {b : Bool} (hb : m.knows x = b) : Calls Try.prog 70 #[.pointer (some ⟨c, 0, none⟩), .int .i64 x] w fun e w' => e = .returned (.bool b) ∧ Fr (fun _ => False) w w' := by rw [← hb]; exact rknows_go h ok x
end Go.Proofs.Ytbkebjgoaeddjaa
