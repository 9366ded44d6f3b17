import Derived.Test.YtfhkmiifndhacaaDoorRecD
/- record: Frame. -/
set_option linter.unusedVariables false
namespace Go.Proofs.YtfhkmiifndhacaaDoor
open Go.RowKit Go.VB Go.VB.Oct Go.VB.Rec
theorem raw_le {r : R} (h : r.right = true) : (R.raw r).length ≤ 100000 := by
  obtain ⟨kn, xn, tn, hk, hx, ht, hk1, hx1, ht1, hle, hall, hxl, hxa, hnl⟩ := right_parts h
  have h1 := head_le r
  have h2 := flat_le E.bytes 405 r.edits (fun x hx => ebytes_le x (hall x hx))
  have h3 := flat_le (fun x : Int => be 1 x.toNat) 1 r.xids (fun x _ => Nat.le_of_eq (be_length _ _ (by omega)))
  rw [show R.raw r = R.head r ++ r.edits.flatMap E.bytes ++ be 1 r.xids.length ++ (r.xids.flatMap fun x => be 1 x.toNat) ++ text r.note from rfl]
  simp only [List.length_append, text_len, be_length _ _ (show 1 ≤ 8 by omega)]
  omega
set_option maxRecDepth 20000 in
theorem RFrame_go {P : Nat → Prop} {w : World} {r : R} {vo vn ve vx : Value} (h : RV P w r vo vn ve vx) : Calls Tryd.prog 14 #[.agg (rv r vo vn ve vx).toArray] w fun e w' => e = .returned (.string (bs (frame r))) ∧ Fr (fun _ => False) w w' := by
  obtain ⟨a1, c1, a2, c2, a3, c3, a4, c4, rfl, rfl, rfl, rfl⟩ := h.slices
  have HRR := hid (fun w' (f : Fr (fun _ => False) w w') => RRight_go (h.fre f))
  have HRB := hid (fun w' (f : Fr (fun _ => False) w w') => RBytes_go (h.fre f))
  clear h
  have B0 := hid (Blk.new w (rv r (.slice a1 r.old.length c1) (.slice a2 r.new.length c2) (.slice a3 r.edits.length c3) (.slice a4 r.xids.length c4)) 28)
  have F0 := hid ((Fr.refl (fun _ => False) w).alloc (.cells (rv r (.slice a1 r.old.length c1) (.slice a2 r.new.length c2) (.slice a3 r.edits.length c3) (.slice a4 r.xids.length c4)).toArray 28))
  unfold frame
  unfold R.bytes at HRB
  cases hr : r.right with
  | false =>
    rw [hr] at HRR
    clear hr HRB
    unfold rv at *
    go_enter Tryd.func14, Tryd.ntmps14
    go_wp2_with (go_at_call 17; refine (HRR.out _ F0.out).mono ?_; rintro e w1 ⟨rfl, f1⟩; have F2 := hid (F0.out.trans f1 (fun _ h _ => h)))
    go_ret
    exact ⟨rfl, F2.out⟩
  | true =>
    have HLE := hid (raw_le hr)
    rw [hr] at HRR HRB
    rw [if_pos rfl] at HRB
    rw [if_pos rfl]
    clear hr
    have HSL := hid (sum_lt (R.raw r))
    have HFL := hid (show [be 4 (R.raw r).length, be 4 (sum (R.raw r)), R.raw r].flatten = be 4 (R.raw r).length ++ be 4 (sum (R.raw r)) ++ R.raw r by simp)
    generalize R.raw r = l at *
    have e1 := bs_size l
    have l1 := HLE.out
    have HA := hid (fun w3 : World => all_of (w := w3.alloc (.cells #[.string (bs (be 4 l.length)), .string (bs (be 4 (sum l))), .string (bs l)] 9)) (n := 3) (xs := [be 4 l.length, be 4 (sum l), l]) (Blk.new w3 _ 9) rfl (by omega) (by
      simp only [List.flatten_cons, List.flatten_nil, List.length_append, List.length_nil, be_length _ _ (show 4 ≤ 8 by omega)]
      omega))
    rw [HFL.out] at HA
    unfold rv at *
    have s1 : (0 : Int) ≤ sum l := by omega
    have s2 : (sum l : Int) < 4294967296 := by have := HSL.out; omega
    have HSU := hid (fun w => Sum_go l (by omega) w)
    have HPS : Hid (∀ w, Calls Tryd.prog 42 #[.int .i64 ((sum l : Nat) : Int), .int .i64 4] w fun e w' => e = .returned (.string (bs (be 4 (sum l)))) ∧ Fr (fun _ => False) w w') := hid (fun w => Put_go (sum l) 4 (by omega) (by omega) (by omega) w)
    have HPL : Hid (∀ w, Calls Tryd.prog 42 #[.int .i64 ((l.length : Nat) : Int), .int .i64 4] w fun e w' => e = .returned (.string (bs (be 4 l.length))) ∧ Fr (fun _ => False) w w') := hid (fun w => Put_go l.length 4 (by omega) (by omega) (by omega) w)
    generalize sum l = sm at *
    go_enter Tryd.func14, Tryd.ntmps14
    go_wp2_with (first
      | (go_at_call 17; refine (HRR.out _ F0.out).mono ?_; rintro e w1 ⟨rfl, f1⟩; have F2 := hid (F0.out.trans f1 (fun _ h _ => h)); have B2 := hid (B0.out.fr f1 (fun h => h)); clear f1; have q0 := B2.out.cell 0; have q1 := B2.out.cell 1; have q2 := B2.out.cell 2; have q3 := B2.out.cell 3; have q4 := B2.out.cell 4; have q5 := B2.out.cell 5; have q6 := B2.out.cell 6; have q7 := B2.out.cell 7)
      | (go_at_call 8; refine (HRB.out _ F2.out).mono ?_; rintro e w3 ⟨rfl, f3⟩; have F3 := hid (F2.out.trans f3 (fun _ h _ => h)); clear f3)
      | (go_at_call 42; with_reducible refine (HPS.out _).mono ?_; rintro e w6 ⟨rfl, f6⟩; have F6 := hid (F5.out.trans f6 (fun _ h _ => h)); clear f6)
      | (go_at_call 42; with_reducible refine (HPL.out _).mono ?_; rintro e w4 ⟨rfl, f4⟩; have F4 := hid (F3.out.trans f4 (fun _ h _ => h)); clear f4)
      | (go_at_call 43; refine (HSU.out _).mono ?_; rintro e w5 ⟨rfl, f5⟩; have F5 := hid (F4.out.trans f5 (fun _ h _ => h)); clear f5)
      | (go_at_call 25; refine (HA.out _).mono ?_; rintro e w7 ⟨rfl, f7⟩; have F7 := hid ((F6.out.alloc (.cells #[.string (bs (be 4 l.length)), .string (bs (be 4 sm)), .string (bs l)] 9)).trans f7 (fun _ h _ => h)); clear f7))
    go_ret
    exact ⟨rfl, F7.out⟩
end Go.Proofs.YtfhkmiifndhacaaDoor
