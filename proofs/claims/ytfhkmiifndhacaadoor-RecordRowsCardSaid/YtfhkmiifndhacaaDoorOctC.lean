import Derived.Test.YtfhkmiifndhacaaDoorOctB
import Derived.Test.YtfhkmiifndhacaaDoorTree
/- octet's Reader. -/
set_option linter.unusedVariables false
namespace Go.VB.Oct
open Go.RowKit
structure RM where
  s : List UInt8
  at_ : Nat
  failed : Bool
def RM.left (r : RM) : Nat := r.s.length - r.at_
structure RM.Ok (r : RM) : Prop where
  le : r.at_ ≤ r.s.length
  len : r.s.length ≤ 1099511627776
def RM.bad (r : RM) (n : Nat) : Bool := r.failed || decide (r.left < n)
def RM.take (r : RM) (n : Nat) : RM × List UInt8 := if r.bad n then ({ r with failed := true }, []) else ({ r with at_ := r.at_ + n }, (r.s.drop r.at_).take n)
def RM.num (r : RM) (k : Nat) : RM × Nat := ((r.take k).1, Go.VB.Oct.num (r.take k).2)
def RM.text (r : RM) : RM × List UInt8 :=
  let r2 := ((r.num 2).1.take (r.num 2).2).1
  (if r2.failed then { r2 with at_ := r.at_ } else r2, ((r.num 2).1.take (r.num 2).2).2)
def RM.new (s : List UInt8) : RM := { s := s, at_ := 0, failed := false }
theorem RM.Ok.take {r : RM} (ok : r.Ok) (n : Nat) : (r.take n).1.Ok := by
  unfold RM.take
  split
  · exact ⟨ok.le, ok.len⟩
  · rename_i h
    have hl : ¬ (r.s.length - r.at_ < n) := fun hc => h (by show (r.failed || decide (r.s.length - r.at_ < n)) = true; simp [hc])
    have h2 := ok.le
    exact ⟨by show r.at_ + n ≤ r.s.length; omega, ok.len⟩
theorem RM.Ok.num {r : RM} (ok : r.Ok) (k : Nat) : (r.num k).1.Ok := ok.take k
theorem RM.take_s (r : RM) (n : Nat) : (r.take n).1.s = r.s := by unfold RM.take; split <;> rfl
theorem RM.Ok.text {r : RM} (ok : r.Ok) : r.text.1.Ok := by
  unfold RM.text
  dsimp only
  split
  · refine ⟨?_, ((ok.num 2).take _).len⟩
    show r.at_ ≤ ((r.num 2).1.take (r.num 2).2).1.s.length
    rw [RM.take_s]
    show r.at_ ≤ (r.take 2).1.s.length
    rw [RM.take_s]
    exact ok.le
  · exact (ok.num 2).take _
theorem RM.take_len (r : RM) (n : Nat) : (r.take n).2.length ≤ n := by
  unfold RM.take
  split
  · simp
  · exact List.length_take_le _ _
theorem RM.num_lt (r : RM) (k : Nat) : (r.num k).2 < 256 ^ k := by
  refine Nat.lt_of_lt_of_le (Go.VB.Oct.num_lt _) (Nat.pow_le_pow_right (by omega) (r.take_len k))
def rcells (r : RM) : List Value := [.string (bs r.s), .int .i64 r.at_, .bool r.failed]
end Go.VB.Oct
namespace Go.Proofs.YtfhkmiifndhacaaDoor
open Go.RowKit Go.VB Go.VB.Oct
abbrev RdRep (w : World) (p : Nat) (r : RM) : Prop := Blk w p (rcells r) 91
variable {w : World} {p : Nat} {r : RM}
theorem RdRep.fre {w' : World} (h : RdRep w p r) (f : Fr (fun _ => False) w w') : RdRep w' p r := Blk.fr h f (fun h => h)
theorem RdRep.c0 (h : RdRep w p r) : w.cell? ⟨p, 0, none⟩ = some (.string (bs r.s)) := h.cell 0
theorem RdRep.c1 (h : RdRep w p r) : w.cell? ⟨p, 1, none⟩ = some (.int .i64 r.at_) := h.cell 1
theorem RdRep.c2 (h : RdRep w p r) : w.cell? ⟨p, 2, none⟩ = some (.bool r.failed) := h.cell 2
theorem ORead_go (s : List UInt8) (w : World) : Calls Tryd.prog 19 #[.string (bs s)] w fun e w' => e = .returned (.pointer (some ⟨w.heap.size, 0, none⟩)) ∧ RdRep w' w.heap.size (RM.new s) ∧ Fr (fun _ => False) w w' := by
  go_enter Tryd.func19, Tryd.ntmps19
  go_wp2
  go_ret
  exact ⟨rfl, Blk.new w (rcells (RM.new s)) _, (Fr.refl (fun _ => False) w).alloc _⟩
theorem OAt_go (h : RdRep w p r) : Calls Tryd.prog 45 #[.pointer (some ⟨p, 0, none⟩)] w fun e w' => e = .returned (.int .i64 r.at_) ∧ w = w' := by
  have c1 := h.c1
  clear h
  go_enter Tryd.func45, Tryd.ntmps45
  go_wp2
  go_ret
  exact ⟨rfl, rfl⟩
theorem OFailed_go (h : RdRep w p r) : Calls Tryd.prog 22 #[.pointer (some ⟨p, 0, none⟩)] w fun e w' => e = .returned (.bool r.failed) ∧ w = w' := by
  have c2 := h.c2
  clear h
  go_enter Tryd.func22, Tryd.ntmps22
  go_wp2
  go_ret
  exact ⟨rfl, rfl⟩
theorem OLeft_go (h : RdRep w p r) (ok : r.Ok) : Calls Tryd.prog 24 #[.pointer (some ⟨p, 0, none⟩)] w fun e w' => e = .returned (.int .i64 r.left) ∧ Fr (fun _ => False) w w' := by
  have c0 := h.c0
  have c1 := h.c1
  have e1 := bs_size r.s
  have hle := ok.le
  have hln := ok.len
  have w1 : IntKind.i64.wrap ((r.s.length : Int) - r.at_) = ((r.left : Nat) : Int) := by rw [IntWalk.i64_in _ (by omega)]; unfold RM.left; omega
  clear h
  go_enter Tryd.func24, Tryd.ntmps24
  go_wp2_with (fail)
  refine wp_region_scr (.take 0 (.take 1 (.take 2 (.take 3 (.take 4 (.take 5 (.take 6 (.take 7 (.take 8 (.take 9 (.take 10 .done))))))))))) (fun kz w => (kz ≤ 11 → w.cell? ⟨p, 0, none⟩ = some (.string (bs r.s)) ∧ w.cell? ⟨p, 1, none⟩ = some (.int .i64 r.at_)) ∧ True) (by kernel_rfl) (by kernel_rfl) (by intro c a d v w h; cases d <;> exact h) ?_
  repeat
    first
    | (refine wpT_pure rfl rfl rfl ?_; apply Exists.intro; refine ⟨?_, ?_⟩; intro w; ((go_simp <;> rfl)); simp only [Act.put, List.setIfInBounds_toArray, List.set_cons_zero, List.set_cons_succ])
    | (refine wpT_take 11 rfl rfl (by decide +kernel) ⟨fun _ => ⟨c0, c1⟩, trivial⟩ ?_; apply Exists.intro; refine ⟨?_, ?_⟩; intro w hw; (have qa := hw.1 (Nat.le_refl _); have qb := hw.2); ((go_simp <;> rfl)); simp only [Act.put, List.setIfInBounds_toArray, List.set_cons_zero, List.set_cons_succ])
    | (refine wpT_skip rfl rfl ?_; simp only [Act.put, List.setIfInBounds_toArray, List.set_cons_zero, List.set_cons_succ])
  refine wpT_nil ?_
  clear w1 e1
  go_wp2_with (fail)
  go_ret
  exact ⟨rfl, (Fr.refl _ w).drew⟩
theorem ex_take (s : List UInt8) (a n : Nat) : (bs s).extract a (a + n) = bs ((s.drop a).take n) := by
  apply ByteArray.ext
  simp [bs, List.take_drop]
set_option maxRecDepth 20000 in
set_option maxHeartbeats 2000000 in
theorem OTake_go (h : RdRep w p r) (ok : r.Ok) (n : Nat) (hn : n ≤ 1099511627776) : Calls Tryd.prog 44 #[.pointer (some ⟨p, 0, none⟩), .int .i64 n] w fun e w' => e = .returned (.string (bs (r.take n).2)) ∧ RdRep w' p (r.take n).1 ∧ Fr (fun k => k = p) w w' := by
  have c0 := h.c0
  have c1 := h.c1
  have c2 := h.c2
  have n0 : (0 : Int) ≤ n := by omega
  have hle := ok.le
  have hln := ok.len
  have HL := hid (OLeft_go h ok)
  have HH := hid h
  have z2 := Blk.frozen h 2
  unfold RM.take
  cases hf : r.failed with
  | true =>
    rw [if_pos (by simp [RM.bad, hf])]
    rw [hf] at c2
    have HB := hid (Blk.set h 2 (.bool true))
    have HF := hid ((Fr.refl (fun k => k = p) w).setCell ⟨p, 2, none⟩ (.bool true) (fun _ => rfl))
    clear h hf
    go_enter Tryd.func44, Tryd.ntmps44
    go_wp2_with (fail)
    go_ret
    exact ⟨rfl, HB.out, HF.out⟩
  | false =>
    rw [hf] at c2
    by_cases hb : r.left < n
    · rw [if_pos (by simp [RM.bad, hf, hb])]
      have hd : decide (r.left < n) = true := by simp; omega
      clear h hf hb
      go_enter Tryd.func44, Tryd.ntmps44
      go_wp2_with (fail)
      refine HL.out.mono ?_
      rintro e w1 ⟨rfl, f1⟩
      have c2 := cell_fr c2 f1 (fun h => h)
      have HB := hid (Blk.set (RdRep.fre HH.out f1) 2 (.bool true))
      have z2 := Blk.frozen (RdRep.fre HH.out f1) 2
      have HF := hid ((f1.mono (T := fun k => k = p) (fun _ h _ => h.elim)).setCell ⟨p, 2, none⟩ (.bool true) (fun _ => rfl))
      clear f1
      go_wp2_with (fail)
      go_ret
      exact ⟨rfl, HB.out, HF.out⟩
    · rw [if_neg (by simp [RM.bad, hf]; omega)]
      have hd : decide (r.left < n) = false := by simp; omega
      have HQ : Hid ((rcells r).set 1 (.int .i64 ((r.at_ : Int) + n)) = rcells { s := r.s, at_ := r.at_ + n, failed := false }) := hid (by simp [rcells, hf])
      have hex := ex_take r.s r.at_ n
      have hfit : r.at_ + n ≤ r.s.length := by unfold RM.left at hb; omega
      have e1 := bs_size r.s
      have hfit2 : ((r.at_ : Int) + n) ≤ r.s.length := by omega
      clear h hb
      go_enter Tryd.func44, Tryd.ntmps44
      go_wp2_with (fail)
      refine HL.out.mono ?_
      rintro e w1 ⟨rfl, f1⟩
      have c0 := cell_fr c0 f1 (fun h => h)
      have c1 := cell_fr c1 f1 (fun h => h)
      have z1 := Blk.frozen (RdRep.fre HH.out f1) 1
      have HB := hid (Blk.set (RdRep.fre HH.out f1) 1 (.int .i64 ((r.at_ : Int) + n)))
      have HF := hid ((f1.mono (T := fun k => k = p) (fun _ h _ => h.elim)).setCell ⟨p, 1, none⟩ (.int .i64 ((r.at_ : Int) + n)) (fun _ => rfl))
      have d0 : (w1.setCell ⟨p, 1, none⟩ (.int .i64 ((r.at_ : Int) + n))).cell? ⟨p, 0, none⟩ = some (.string (bs r.s)) := HB.out.cell 0
      have d1 : (w1.setCell ⟨p, 1, none⟩ (.int .i64 ((r.at_ : Int) + n))).cell? ⟨p, 1, none⟩ = some (.int .i64 ((r.at_ : Int) + n)) := HB.out.cell 1
      clear f1 HL hf c2 z2
      go_upto_region 6 with (fail)
      generalize w1.setCell ⟨p, 1, none⟩ (.int .i64 ((r.at_ : Int) + n)) = W at *
      have q0 : (0 : Int) ≤ (r.at_ : Int) + n := by omega
      have q1 : (r.at_ : Int) ≤ (r.at_ : Int) + n := by omega
      have q2 : ((r.at_ : Int) + n).toNat = r.at_ + n := by omega
      have w1' : IntKind.i64.wrap (r.at_ : Int) = r.at_ := IntWalk.i64_in _ (by omega)
      refine wp_region_scr (.take 0 (.take 1 (.take 2 (.take 3 (.take 4 (.take 5 (.take 6 (.take 7 (.take 8 (.take 9 (.take 10 (.take 11 (.take 12 (.take 13 (.take 14 (.take 15 .done)))))))))))))))) (fun kz w => (kz ≤ 16 → w.cell? ⟨p, 0, none⟩ = some (.string (bs r.s)) ∧ w.cell? ⟨p, 1, none⟩ = some (.int .i64 ((r.at_ : Int) + n))) ∧ True) (by kernel_rfl) (by kernel_rfl) (by intro c a d v w h; cases d <;> exact h) ?_
      repeat
        first
        | (refine wpT_pure rfl rfl rfl ?_; apply Exists.intro; refine ⟨?_, ?_⟩; intro w; ((go_simp <;> rfl)); simp only [Act.put, List.setIfInBounds_toArray, List.set_cons_zero, List.set_cons_succ])
        | (refine wpT_take 16 rfl rfl (by decide +kernel) ⟨fun _ => ⟨d0, d1⟩, trivial⟩ ?_; apply Exists.intro; refine ⟨?_, ?_⟩; intro w hw; (have qa := hw.1 (Nat.le_refl _); have qb := hw.2); ((go_simp <;> rfl)); simp only [Act.put, List.setIfInBounds_toArray, List.set_cons_zero, List.set_cons_succ])
        | (refine wpT_skip rfl rfl ?_; simp only [Act.put, List.setIfInBounds_toArray, List.set_cons_zero, List.set_cons_succ])
      refine wpT_nil ?_
      clear w1' e1 hex q0 q1 q2
      go_wp2_with (fail)
      go_ret
      exact ⟨rfl, (HQ.out ▸ Blk.drew HB.out : Blk _ p (rcells { s := r.s, at_ := r.at_ + n, failed := false }) 91), HF.out.drew⟩
end Go.Proofs.YtfhkmiifndhacaaDoor
