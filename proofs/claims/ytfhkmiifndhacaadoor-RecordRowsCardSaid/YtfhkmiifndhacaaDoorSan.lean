import Derived.Test.YtfhkmiifndhacaaDoorScA
import Derived.Test.YtfhkmiifndhacaaDoorRecE
import Derived.Test.YtfhkmiifndhacaaDoorRecG
import Derived.Test.YtfhkmiifndhacaaDoorSanM
/- vintnerlaw04.sanity. -/
set_option linter.unusedVariables false
namespace Go.Proofs.YtfhkmiifndhacaaDoor
open Go.RowKit Go.VB Go.VB.Oct Go.VB.Rec
abbrev nilS : Value := .slice none 0 0
theorem r0_rv {w W : World} (b : Blk W w.heap.size [.int .i64 6] 3) (hlt : w.heap.size < W.heap.size) : RV (fun k => k = w.heap.size) W r0 nilS nilS nilS (.slice (some ⟨w.heap.size, 0, none⟩) 1 1) :=
  ⟨⟨none, 0, rfl, Nat.le_refl _, fun h => absurd rfl h⟩, ⟨none, 0, rfl, Nat.le_refl _, fun h => absurd rfl h⟩, ⟨none, 0, rfl, Nat.le_refl _, fun h => absurd rfl h⟩, ⟨_, 1, rfl, Nat.le_refl _, fun _ => ⟨_, 0, rfl, rfl, Blk.all _ b⟩⟩, by decide, by decide, by decide, by decide, fun k hk => by have : k = w.heap.size := hk; omega⟩
/-- the example record and its variable -/
structure SanA (w W : World) : Prop where
  b : Blk W (w.heap.size + 1) (rv r0 nilS nilS nilS (.slice (some ⟨w.heap.size, 0, none⟩) 1 1)) 28
  v : RV (fun k => k = w.heap.size) W r0 nilS nilS nilS (.slice (some ⟨w.heap.size, 0, none⟩) 1 1)
  fr : Fr (fun _ => False) w W
theorem SanA.fre {w W W' : World} (h : SanA w W) (f : Fr (fun _ => False) W W') : SanA w W' := ⟨Blk.fr h.b f (fun h => h), h.v.fre f, h.fr.trans f (fun _ h _ => h)⟩
def ReadIs (s : List UInt8) (r : R) (e : Int) : Prop := ∀ w : World, Calls Tryd.prog 7 #[.string (bs s)] w fun z w' => ∃ (a1 a2 a3 a4 : Option Addr) (c1 c2 c3 c4 : Nat), z = .returned (.tuple #[.agg #[.int .i64 r.kind, .int .i64 r.xid, .int .i64 r.table, .slice a1 r.old.length c1, .slice a2 r.new.length c2, .slice a3 r.edits.length c3, .slice a4 r.xids.length c4, .string (bs r.note)], .int .i64 e]) ∧
    RV (fun k => w.heap.size ≤ k ∧ k < w'.heap.size) w' r (.slice a1 r.old.length c1) (.slice a2 r.new.length c2) (.slice a3 r.edits.length c3) (.slice a4 r.xids.length c4) ∧ Fr (fun _ => False) w w'
theorem RRead_is {s : List UInt8} {r : R} {e : Int} (h : readR s = (r, e)) (hs : s.length ≤ 1099511627776) : ReadIs s r e := by
  intro w
  refine (RRead_go s hs w).mono ?_
  rw [h]
  rintro z w' ⟨vo, vn, ve, vx, rfl, hv, f⟩
  obtain ⟨a1, c1, a2, c2, a3, c3, a4, c4, rfl, rfl, rfl, rfl⟩ := hv.slices
  exact ⟨a1, a2, a3, a4, c1, c2, c3, c4, rfl, hv, f⟩
/-- and the record that was read back -/
structure SanB (w W : World) (d : Nat) (uo un ue ux : Value) : Prop where
  a : SanA w W
  b : Blk W d (rv r0 uo un ue ux) 28
  v : RV (fun k => k < W.heap.size) W r0 uo un ue ux
theorem SanB.fre {w W W' : World} {d : Nat} {uo un ue ux : Value} (h : SanB w W d uo un ue ux) (f : Fr (fun _ => False) W W') : SanB w W' d uo un ue ux :=
  ⟨h.a.fre f, Blk.fr h.b f (fun h => h), (h.v.fre f).mono (fun k hk => Nat.lt_of_lt_of_le hk f.size) (fun _ h => h)⟩
set_option maxRecDepth 20000 in
set_option maxHeartbeats 8000000 in
theorem sanity_go (w : World) : Calls Tryd.prog 4 #[] w fun e w' => e = .returned (.bool true) ∧ Fr (fun _ => False) w w' := by
  obtain ⟨S, S5, SX, T, TT, TM, hz, hSl, hTl, hcut, hadd1, hadd2, hadd3, HR1, HR2, HR3, HFR, HBY, HSC⟩ : ∃ S S5 SX T TT TM : List UInt8, bs S = ⟨#[5, 5, 0, 0, 0, 1, 0, 0, 1, 0, 0, 1, 6, 0, 0]⟩ ∧ ((bs S).size : Int) = 15 ∧ ((bs T).size : Int) = 23 ∧ (bs S).extract 0 5 = bs S5 ∧
      (∀ w, (Op.stringOp .add (bs S) ⟨#[120]⟩).run Tryd.prog w = .ok (.string (bs SX)) w) ∧ (∀ w, (Op.stringOp .add (bs T) (bs T)).run Tryd.prog w = .ok (.string (bs TT)) w) ∧ (∀ w, (Op.stringOp .add (bs TT) ⟨#[109, 111, 114, 101]⟩).run Tryd.prog w = .ok (.string (bs TM)) w) ∧
      Hid (ReadIs S r0 0) ∧ Hid (ReadIs S5 R.zero 10) ∧ Hid (ReadIs SX R.zero 11) ∧ Hid (frame r0 = T) ∧ Hid (r0.bytes = S) ∧ Hid (TM.length ≤ 1000 ∧ scan TM = ([r0, r0], [23, 46])) :=
    ⟨s0, s0.take 5, s0 ++ [120], t0, t0 ++ t0, t0 ++ t0 ++ [109, 111, 114, 101], rfl, rfl, rfl, rfl, fun w => run_add_bs w s0 [120] (by decide), fun w => run_add_bs w t0 t0 (by decide), fun w => run_add_bs w (t0 ++ t0) [109, 111, 114, 101] (by decide),
      hid (RRead_is s0_read (by decide)), hid (RRead_is s0_short (by decide)), hid (RRead_is s0_long (by decide)), hid r0_frame, hid r0_bytes, hid ⟨by decide, t0_scan⟩⟩
  have A0 : Hid (SanA w ((w.alloc (.cells #[.int .i64 6] 3)).alloc (.cells #[.int .i64 5, .int .i64 5, .int .i64 0, .slice none 0 0, .slice none 0 0, .slice none 0 0, .slice (some ⟨w.heap.size, 0, none⟩) 1 1, .string ⟨#[]⟩] 28))) := by
    have b1 := (Blk.new w [.int .i64 6] 3).alloc (.cells (rv r0 nilS nilS nilS (.slice (some ⟨w.heap.size, 0, none⟩) 1 1)).toArray 28)
    have b2 := Blk.new (w.alloc (.cells #[.int .i64 6] 3)) (rv r0 nilS nilS nilS (.slice (some ⟨w.heap.size, 0, none⟩) 1 1)) 28
    rw [World.size_alloc] at b2
    exact hid ⟨b2, r0_rv b1 (by rw [World.size_alloc, World.size_alloc]; omega), ((Fr.refl (fun _ => False) w).alloc _).alloc _⟩
  go_enter Tryd.func4, Tryd.ntmps4
  go_upto_region 3 with fail
  rw [← hz]
  clear hz
  generalize (w.alloc _).alloc _ = W at *
  go_upto_region 4 with (go_at_call 7; refine (HR1.out _).mono ?_; rintro e w1 ⟨a1, a2, a3, a4, c1, c2, c3, c4, rfl, hv, f⟩; have V1 := hid hv; have F1 := hid f; clear hv f)
  have B0 : Hid (SanB w (w1.alloc (.cells #[.int .i64 r0.kind, .int .i64 r0.xid, .int .i64 r0.table, .slice a1 r0.old.length c1, .slice a2 r0.new.length c2, .slice a3 r0.edits.length c3, .slice a4 r0.xids.length c4, .string (bs r0.note)] 28)) w1.heap.size (.slice a1 r0.old.length c1) (.slice a2 r0.new.length c2) (.slice a3 r0.edits.length c3) (.slice a4 r0.xids.length c4)) :=
    hid ⟨(A0.out.fre F1.out).fre ((Fr.refl _ w1).alloc _), Blk.new w1 (rv r0 (.slice a1 r0.old.length c1) (.slice a2 r0.new.length c2) (.slice a3 r0.edits.length c3) (.slice a4 r0.xids.length c4)) _, (V1.out.fre ((Fr.refl _ w1).alloc _)).mono (fun k hk => by rw [World.size_alloc]; omega) (fun _ h => h)⟩
  clear V1 F1 A0 HR1
  generalize w1.alloc _ = W1 at *
  generalize w1.heap.size = d at *
  go_upto_region 5 with (go_at_call 7; refine (HR2.out _).mono ?_; rintro e w2 ⟨b1, b2, b3, b4, d1, d2, d3, d4, rfl, _, f⟩; have F2 := hid f; clear f)
  have B1 := hid ((B0.out.fre F2.out).fre ((Fr.refl (fun _ => False) w2).alloc (.cells #[.int .i64 R.zero.kind, .int .i64 R.zero.xid, .int .i64 R.zero.table, .slice b1 R.zero.old.length d1, .slice b2 R.zero.new.length d2, .slice b3 R.zero.edits.length d3, .slice b4 R.zero.xids.length d4, .string (bs R.zero.note)] 28)))
  clear B0 F2 HR2 hcut
  generalize w2.alloc _ = W2 at *
  go_upto_region 6 with (go_at_call 7; refine (HR3.out _).mono ?_; rintro e w3 ⟨b1, b2, b3, b4, d1, d2, d3, d4, rfl, _, f⟩; have F2 := hid f; clear f)
  have B2 := hid ((B1.out.fre F2.out).fre ((Fr.refl (fun _ => False) w3).alloc (.cells #[.int .i64 R.zero.kind, .int .i64 R.zero.xid, .int .i64 R.zero.table, .slice b1 R.zero.old.length d1, .slice b2 R.zero.new.length d2, .slice b3 R.zero.edits.length d3, .slice b4 R.zero.xids.length d4, .string (bs R.zero.note)] 28)))
  clear B1 F2 HR3 hadd1
  generalize w3.alloc _ = W3 at *
  obtain ⟨k0, k1, k2, k3, k4, k5, k6, k7⟩ := rec_cells B2.out.a.b
  go_upto_region 7 with (go_at_call 14; refine (RFrame_go B2.out.a.v).mono ?_; rw [HFR.out]; rintro e w4 ⟨rfl, f⟩; have B3 := hid (B2.out.fre f); clear f)
  clear k0 k1 k2 k3 k4 k5 k6 k7 B2 HFR
  go_upto_region 8 with (go_at_call 15; refine (Scan_go TM (Nat.le_trans HSC.out.1 (by decide)) _).mono ?_; rw [HSC.out.2]; rintro e w5 ⟨p, rm, vl, va, qs, rfl, hq, hS⟩; have HQ := hid hq; have HS := hid hS; clear hq hS)
  have hq2 : qs.length = 2 := by have := congrArg List.length HQ.out; simpa using this
  have hl := HS.out.l.cast hq2 rfl
  obtain ⟨al, cl, rfl, _⟩ := hl.slice
  have ha : Row 3 1 w4.heap.size w5 va 2 [.int .i64 23, .int .i64 46] := HS.out.a
  obtain ⟨aa, ca, rfl, _⟩ := ha.slice
  obtain ⟨g, rfl, _, hc⟩ := row_cells ha (by simp)
  have B4 := hid (B3.out.fre HS.out.fr)
  have C1 := hid (hc 1 _ rfl)
  clear hl ha hc hq2 HQ HS B3
  obtain ⟨k0, k1, k2, k3, k4, k5, k6, k7⟩ := rec_cells B4.out.a.b
  go_wp2_with (first
    | (go_at_call 8; refine (RBytes_go B4.out.a.v).mono ?_; rw [HBY.out]; rintro e w6 ⟨rfl, f⟩; have B5 := hid (B4.out.fre f); have C2 := hid (cell_fr C1.out f (fun h => h)); clear f k0 k1 k2 k3 k4 k5 k6 k7 B4 C1; obtain ⟨k0, k1, k2, k3, k4, k5, k6, k7⟩ := rec_cells B5.out.a.b; obtain ⟨l0, l1, l2, l3, l4, l5, l6, l7⟩ := rec_cells B5.out.b)
    | (go_at_call 16; refine (RSame_go B5.out.v B5.out.a.v).mono ?_; rw [decide_eq_true rfl]; rintro e w7 ⟨rfl, f⟩; have B6 := hid (B5.out.fre f); have C3 := cell_fr C2.out f (fun h => h); clear f k0 k1 k2 k3 k4 k5 k6 k7 B5 C2 l0 l1 l2 l3 l4 l5 l6 l7; obtain ⟨k0, k1, k2, k3, k4, k5, k6, k7⟩ := rec_cells B6.out.a.b)
    | (go_at_call 17; refine (RRight_go B6.out.a.v).mono ?_; rw [r0_right]; rintro e w8 ⟨rfl, f⟩; have F8 := hid (B6.out.a.fr.trans f (fun _ h _ => h)); clear f k0 k1 k2 k3 k4 k5 k6 k7 B6 C3)
    | (go_at_call 17; refine (RRight_go (RV_zero (fun _ => False) _ (fun _ h => h.elim))).mono ?_; rw [zero_right]; rintro e w9 ⟨rfl, f⟩; have F9 := hid (F8.out.trans f (fun _ h _ => h)); clear f F8))
  go_ret
  exact ⟨rfl, F9.out⟩
end Go.Proofs.YtfhkmiifndhacaaDoor
