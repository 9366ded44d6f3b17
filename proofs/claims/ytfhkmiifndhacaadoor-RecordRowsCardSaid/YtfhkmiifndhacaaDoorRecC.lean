import Derived.Test.YtfhkmiifndhacaaDoorRecB
/- record: Right. -/
set_option linter.unusedVariables false
namespace Go.Proofs.YtfhkmiifndhacaaDoor
open Go.RowKit Go.VB Go.VB.Oct Go.VB.Rec
theorem right1_go (x : E) (w : World) : Calls Tryd.prog 51 #[eagg x] w fun e w' => e = .returned (.bool (!x.right)) ∧ Fr (fun _ => False) w w' := by
  have HV := hid (fun w => edit_go x w)
  obtain ⟨k, n, s⟩ := x
  have F0 := hid ((Fr.refl (fun _ => False) w).alloc (.cells #[.int .i64 k, .int .i64 n, .string (bs s)] 48))
  generalize E.right ⟨k, n, s⟩ = b at *
  unfold eagg E.cells at *
  dsimp only at *
  go_enter Tryd.func51, Tryd.ntmps51
  go_wp2_with (go_at_call 52; refine (HV.out _).mono ?_; rintro e w' ⟨rfl, f⟩; have F1 := hid (F0.out.trans f (fun _ h _ => h)); clear f)
  go_ret
  exact ⟨rfl, F1.out⟩
theorem any_not {α : Type} (p : α → Bool) (l : List α) : (l.any fun x => !p x) = !l.all p := by
  induction l with
  | nil => rfl
  | cons x l ih => rw [List.any_cons, List.all_cons, ih, Bool.not_and]
theorem row_go {R : Nat → Prop} {w : World} {va : Value} {r : List V} (h : Sl R w va r.length (r.flatMap V.cells)) (hR : ∀ k, R k → k < w.heap.size) (hn : r.length ≤ 1099511627776) : Calls Tryd.prog 55 #[va] w fun e w' => e = .returned (.bool (row r)) ∧ Fr (fun _ => False) w w' := by
  have HC := hid (ContainsFunc_val (p := fun v => !v.right) h hR hn (fun v _ w => row1_go v w))
  rw [any_not] at HC
  obtain ⟨a, c, rfl, hc, -⟩ := h
  unfold row
  generalize r.all V.right = b at *
  go_enter Tryd.func55, Tryd.ntmps55
  go_wp2_with (go_at_call 67; refine HC.out.mono ?_; rintro e w1 ⟨rfl, f1⟩)
  · go_ret
    exact ⟨ret_bool (by simp_all; intros; omega), f1⟩
  · go_ret
    exact ⟨ret_bool (by simp_all; intros; omega), Fr.refl _ _⟩
/-- a record as a value: four slices that lie where P holds -/
def rv (r : R) (vo vn ve vx : Value) : List Value := [.int .i64 r.kind, .int .i64 r.xid, .int .i64 r.table, vo, vn, ve, vx, .string (bs r.note)]
structure RV (P : Nat → Prop) (w : World) (r : R) (vo vn ve vx : Value) : Prop where
  o : Sl P w vo r.old.length (r.old.flatMap V.cells)
  n : Sl P w vn r.new.length (r.new.flatMap V.cells)
  e : Sl P w ve r.edits.length (r.edits.flatMap E.cells)
  x : Sl P w vx r.xids.length (r.xids.flatMap icell)
  lo : r.old.length ≤ 1099511627776
  ln : r.new.length ≤ 1099511627776
  le : r.edits.length ≤ 1099511627776
  lx : r.xids.length ≤ 1099511627776
  lt : ∀ k, P k → k < w.heap.size
namespace RV
variable {P : Nat → Prop} {w w' : World} {r : R} {vo vn ve vx : Value}
theorem fr {S : Nat → Prop} (h : RV P w r vo vn ve vx) (f : Fr S w w') (hS : ∀ k, P k → ¬ S k) : RV P w' r vo vn ve vx :=
  ⟨h.o.fr f hS, h.n.fr f hS, h.e.fr f hS, h.x.fr f hS, h.lo, h.ln, h.le, h.lx, fun k hk => Nat.lt_of_lt_of_le (h.lt k hk) f.size⟩
theorem fre (h : RV P w r vo vn ve vx) (f : Fr (fun _ => False) w w') : RV P w' r vo vn ve vx := h.fr f (fun _ _ h => h)
theorem slices (h : RV P w r vo vn ve vx) : ∃ a1 c1 a2 c2 a3 c3 a4 c4, vo = .slice a1 r.old.length c1 ∧ vn = .slice a2 r.new.length c2 ∧ ve = .slice a3 r.edits.length c3 ∧ vx = .slice a4 r.xids.length c4 := by
  obtain ⟨a1, c1, h1, -⟩ := h.o
  obtain ⟨a2, c2, h2, -⟩ := h.n
  obtain ⟨a3, c3, h3, -⟩ := h.e
  obtain ⟨a4, c4, h4, -⟩ := h.x
  exact ⟨a1, c1, a2, c2, a3, c3, a4, c4, h1, h2, h3, h4⟩
end RV
def win (n a b : Int) : Bool := decide (a ≤ n) && decide (n ≤ b)
theorem right_win (r : R) : r.right = (win r.kind 1 10 && win r.xid 0 127 && win r.table 0 65535 && (decide (r.edits.length ≤ 64) && r.edits.all E.right) && (decide (r.xids.length ≤ 32) && r.xids.all fun x => win x 3 127) && row r.old && row r.new && decide (r.note.length ≤ 60000)) := by
  unfold R.right win
  simp only [Bool.and_assoc]
set_option maxRecDepth 20000 in
set_option maxHeartbeats 1000000 in
theorem RRight_go {P : Nat → Prop} {w : World} {r : R} {vo vn ve vx : Value} (h : RV P w r vo vn ve vx) : Calls Tryd.prog 17 #[.agg (rv r vo vn ve vx).toArray] w fun e w' => e = .returned (.bool r.right) ∧ Fr (fun _ => False) w w' := by
  have HW : Hid (∀ n a b w, Calls Tryd.prog 49 #[.int .i64 n, .int .i64 a, .int .i64 b] w fun e w' => e = .returned (.bool (win n a b)) ∧ w = w') := hid (fun n a b w => within_go n a b w)
  have HE := hid (fun w' (f : Fr (fun _ => False) w w') => any_not E.right r.edits ▸ ContainsFunc_edit (p := fun x => !x.right) (h.fre f).e (h.fre f).lt h.le (fun x _ w => right1_go x w))
  have HX := hid (fun w' (f : Fr (fun _ => False) w w') => any_not (fun x => win x 3 127) r.xids ▸ ContainsFunc_int (p := fun x => !win x 3 127) (h.fre f).x (h.fre f).lt h.lx (fun x _ w => right2_go x w))
  have HO := hid (fun w' (f : Fr (fun _ => False) w w') => row_go (h.fre f).o (h.fre f).lt h.lo)
  have HN := hid (fun w' (f : Fr (fun _ => False) w w') => row_go (h.fre f).n (h.fre f).lt h.ln)
  have hnote := bs_size r.note
  rw [right_win]
  obtain ⟨a1, c1, a2, c2, a3, c3, a4, c4, rfl, rfl, rfl, rfl⟩ := h.slices
  obtain ⟨hle, hlx⟩ : r.edits.length ≤ 1099511627776 ∧ r.xids.length ≤ 1099511627776 := ⟨h.le, h.lx⟩
  clear h
  obtain ⟨kind, xid, table, old, new, edits, xids, note⟩ := r
  unfold rv
  dsimp only at *
  generalize edits.all E.right = be at *
  generalize (xids.all fun x => win x 3 127) = bx at *
  generalize row old = bo at *
  generalize row new = bn at *
  have W1 := hid (fun w => HW.out kind 1 10 w)
  have W2 := hid (fun w => HW.out xid 0 127 w)
  have W3 := hid (fun w => HW.out table 0 65535 w)
  clear HW
  generalize win kind 1 10 = b1 at *
  generalize win xid 0 127 = b2 at *
  generalize win table 0 65535 = b3 at *
  have B0 := hid (Blk.new w [.int .i64 kind, .int .i64 xid, .int .i64 table, .slice a1 old.length c1, .slice a2 new.length c2, .slice a3 edits.length c3, .slice a4 xids.length c4, .string (bs note)] 28)
  have F0 := hid ((Fr.refl (fun _ => False) w).alloc (.cells #[.int .i64 kind, .int .i64 xid, .int .i64 table, .slice a1 old.length c1, .slice a2 new.length c2, .slice a3 edits.length c3, .slice a4 xids.length c4, .string (bs note)] 28))
  go_enter Tryd.func17, Tryd.ntmps17
  go_upto_region 1 with fail
  go_cut [3] (fun s3 wx => s3 = .bool (b1 && b2 && b3) ∧ Blk wx w.heap.size [.int .i64 kind, .int .i64 xid, .int .i64 table, .slice a1 old.length c1, .slice a2 new.length c2, .slice a3 edits.length c3, .slice a4 xids.length c4, .string (bs note)] 28 ∧ Fr (fun _ => False) w wx)
  case first =>
    go_wp2_with (go_at_call 49; (first | with_reducible refine (W1.out _).mono ?_ | with_reducible refine (W2.out _).mono ?_ | with_reducible refine (W3.out _).mono ?_); rintro e w1 ⟨rfl, rfl⟩)
    all_goals (go_meet; exact ⟨by simp_all, B0.out, F0.out⟩)
  case rest =>
  obtain ⟨rfl, b5, f5⟩ := hcut
  replace B0 := hid b5
  replace F0 := hid f5
  clear b5 f5 W1 W2 W3
  have q5 := B0.out.cell 5
  have q6 := B0.out.cell 6
  go_upto_region 2 with fail
  go_cut [4] (fun s4 wx => s4 = .bool (decide (edits.length ≤ 64) && be) ∧ Blk wx w.heap.size [.int .i64 kind, .int .i64 xid, .int .i64 table, .slice a1 old.length c1, .slice a2 new.length c2, .slice a3 edits.length c3, .slice a4 xids.length c4, .string (bs note)] 28 ∧ Fr (fun _ => False) w wx)
  case first =>
    go_wp2_with (go_at_call 50; with_reducible refine (HE.out _ F0.out).mono ?_; rintro e w1 ⟨rfl, f1⟩; replace B0 := hid (B0.out.fr f1 (fun h => h)); replace F0 := hid (F0.out.trans f1 (fun _ h _ => h)); clear f1)
    all_goals (go_meet; exact ⟨by simp_all; intros; omega, B0.out, F0.out⟩)
  case rest =>
  obtain ⟨rfl, b5, f5⟩ := hcut
  replace B0 := hid b5
  replace F0 := hid f5
  clear b5 f5 HE
  have q5 := B0.out.cell 5
  have q6 := B0.out.cell 6
  go_upto_region 3 with fail
  go_cut [5] (fun s5 wx => s5 = .bool (decide (xids.length ≤ 32) && bx) ∧ Blk wx w.heap.size [.int .i64 kind, .int .i64 xid, .int .i64 table, .slice a1 old.length c1, .slice a2 new.length c2, .slice a3 edits.length c3, .slice a4 xids.length c4, .string (bs note)] 28 ∧ Fr (fun _ => False) w wx)
  case first =>
    go_wp2_with (go_at_call 53; with_reducible refine (HX.out _ F0.out).mono ?_; rintro e w1 ⟨rfl, f1⟩; replace B0 := hid (B0.out.fr f1 (fun h => h)); replace F0 := hid (F0.out.trans f1 (fun _ h _ => h)); clear f1)
    all_goals (go_meet; exact ⟨by simp_all; intros; omega, B0.out, F0.out⟩)
  case rest =>
  obtain ⟨rfl, b5, f5⟩ := hcut
  replace B0 := hid b5
  replace F0 := hid f5
  clear b5 f5 HX
  have q3 := B0.out.cell 3
  have q4 := B0.out.cell 4
  have q7 := B0.out.cell 7
  generalize hge : (decide (edits.length ≤ 64) && be) = ge at *
  generalize hgx : (decide (xids.length ≤ 32) && bx) = gx at *
  generalize hg : (b1 && b2 && b3) = g at *
  have HGE := hid hge
  have HGX := hid hgx
  have HG := hid hg
  clear hge hgx hg
  go_wp2_with (first
    | (go_at_call 55; (first | with_reducible refine (HO.out _ F0.out).mono ?_ | with_reducible refine (HN.out _ F0.out).mono ?_); rintro e w1 ⟨rfl, f1⟩; replace B0 := hid (B0.out.fr f1 (fun h => h)); replace F0 := hid (F0.out.trans f1 (fun _ h _ => h)); clear f1; have q4 := B0.out.cell 4; have q7 := B0.out.cell 7))
  all_goals (go_ret; exact ⟨ret_bool (by rw [HG.out, HGE.out, HGX.out]; simp_all <;> omega), F0.out⟩)
end Go.Proofs.YtfhkmiifndhacaaDoor
