import Derived.Test.YtfhkmiifndhacaaMdC
import Derived.Test.YtfhkmiifndhacaaScN
import Derived.Test.YtfhkmiifndhacaaSl
/- vintnerlaw04.log: at most twelve records and their log. -/
set_option linter.unusedVariables false
namespace Go.Proofs.Ytfhkmiifndhacaa
open Go.RowKit Go.VB Go.VB.Oct Go.VB.Rec
/-- slices of integers as elements -/
abbrev Arg := Value × List Int
def acells (p : Arg) : List Value := [p.1]
structure LgS (w0 W : World) (vl : Value) (qs : List Q) : Prop where
  l : Row 27 8 w0.heap.size W vl qs.length (qs.flatMap Q.cells)
  q : ∀ q ∈ qs, q.RV (fun k => w0.heap.size ≤ k ∧ k < W.heap.size ∧ ¬ vl.ownBlock = some k) W
  g : ∀ q ∈ qs, GoodR q.r
  fr : Fr (fun _ => False) w0 W
namespace LgS
variable {w0 W W' wg : World} {vl v' : Value} {qs : List Q}
theorem fre (h : LgS w0 W vl qs) (f : Fr (fun _ => False) W W') : LgS w0 W' vl qs :=
  ⟨h.l.fre f, fun q hq => ((h.q q hq).fre f).mono (fun k hk => ⟨hk.1, Nat.lt_of_lt_of_le hk.2.1 f.size, hk.2.2⟩) (fun k hk => hk.2.1), h.g, h.fr.trans f (fun _ h _ => h)⟩
theorem grow (h : LgS w0 W vl qs) {x : Q} (hx : x.RV (fun k => w0.heap.size ≤ k ∧ k < W.heap.size ∧ ¬ vl.ownBlock = some k) W) (hgx : GoodR x.r) (hg : App 27 8 w0.heap.size W wg vl v' qs.length (qs.flatMap Q.cells) x.cells) : LgS w0 wg v' (qs ++ [x]) ∧ x.RV (fun k => w0.heap.size ≤ k ∧ k < wg.heap.size ∧ ¬ v'.ownBlock = some k) wg := by
  have hq : ∀ q : Q, q.RV (fun k => w0.heap.size ≤ k ∧ k < W.heap.size ∧ ¬ vl.ownBlock = some k) W → q.RV (fun k => w0.heap.size ≤ k ∧ k < wg.heap.size ∧ ¬ v'.ownBlock = some k) wg := fun q hq => (hq.fr hg.fr (fun k hk e => hk.2.2 e)).mono (fun k hk => ⟨hk.1, Nat.lt_of_lt_of_le hk.2.1 hg.fr.size, fun e => (hg.at_ k e).elim hk.2.2 (fun e => by have := hk.2.1; omega)⟩) (fun k hk => hk.2.1)
  exact ⟨⟨hg.row.cast (by simp) (by simp), fun q hm => (List.mem_append.1 hm).elim (fun hm => hq q (h.q q hm)) (fun hm => by obtain rfl := List.mem_singleton.1 hm; exact hq _ hx),
    fun q hm => (List.mem_append.1 hm).elim (h.g q) (fun hm => by obtain rfl := List.mem_singleton.1 hm; exact hgx), h.fr.trans hg.fr (fun k hk hl => by have := h.l.new k hk; omega)⟩, hq _ hx⟩
end LgS
theorem good_of {r : R} (h : r.right = true) (ho : Fine r.old) (hn : Fine r.new) : GoodR r := by
  refine ⟨h, ?_⟩
  rw [readR_raw h (fun v hv => (ho v hv).2.2) (fun v hv => (hn v hv).2.2)]
  have hp : ∀ l : List V, Fine l → l.map V.plain = l := fun l hl => by
    conv => rhs; rw [← List.map_id l]
    exact List.map_congr_left fun v hv => (hl v hv).2.1
  unfold R.plain
  rw [hp _ ho, hp _ hn]
theorem Made_is {P : Nat → Prop} {w : World} {va : Value} {L : List Int} (h : Sl P w va L.length (L.flatMap icell)) (hl : L.length ≤ 9223372036854775807) :
    Calls Try.prog 14 #[va] w fun e w' => ∃ (r : R) (a1 a2 a3 a4 : Option Addr) (c1 c2 c3 c4 : Nat), e = .returned (.agg #[.int .i64 r.kind, .int .i64 r.xid, .int .i64 r.table, .slice a1 r.old.length c1, .slice a2 r.new.length c2, .slice a3 r.edits.length c3, .slice a4 r.xids.length c4, .string (bs r.note)]) ∧
      Q.RV (fun k => w.heap.size ≤ k ∧ k < w'.heap.size) w' ⟨r, .slice a1 r.old.length c1, .slice a2 r.new.length c2, .slice a3 r.edits.length c3, .slice a4 r.xids.length c4⟩ ∧ GoodR r ∧ Fr (fun _ => False) w w' := by
  refine (Made_go h hl).mono ?_
  rintro e w' ⟨⟨r, vo, vn, ve, vx⟩, rfl, hv, h1, h2, h3, f⟩
  obtain ⟨a1, c1, a2, c2, a3, c3, a4, c4, h5, h6, h7, h8⟩ := hv.slices
  dsimp only at h5 h6 h7 h8
  subst h5 h6 h7 h8
  exact ⟨r, a1, a2, a3, a4, c1, c2, c3, c4, rfl, hv, good_of h1 h2 h3, f⟩
set_option maxRecDepth 20000 in
set_option maxHeartbeats 8000000 in
theorem log_go {P : Nat → Prop} {w : World} {va : Value} {L : List Arg} (h : Sl P w va L.length (L.flatMap acells)) (hi : ∀ p ∈ L, Sl P w p.1 p.2.length (p.2.flatMap icell) ∧ p.2.length ≤ 9223372036854775807) :
    Calls Try.prog 25 #[va] w fun e w' => ∃ (vl : Value) (qs : List Q), e = .returned (.tuple #[vl, .string (bs (frames (qs.map Q.r)))]) ∧ qs.length ≤ 12 ∧ LgS w w' vl qs := by
  obtain ⟨a, c, rfl, hc, hx⟩ := h
  have HX := hid (show Sl P w (.slice a L.length c) L.length (L.flatMap acells) from ⟨a, c, rfl, hc, hx⟩)
  have HI := hid hi
  clear hx hi
  have L0 : Hid (LgS w (w.alloc (.cells #[] 27)) (.slice (some ⟨w.heap.size, 0, none⟩) 0 0) []) := hid ⟨Row.built (e := 27) (n := 0) (size := 8) (B := w.heap.size) w (l := []) rfl (by decide) (Nat.le_refl _), fun q hq => by simp at hq, fun q hq => by simp at hq, (Fr.refl _ w).alloc _⟩
  go_enter Try.func25, Try.ntmps25
  go_wp2_with (fail)
  go_loopw [4, 5, 6] (fun v4 s5 i wr => ∃ (j : Nat) (qs : List Q), j ≤ 12 ∧ j ≤ L.length ∧ i = .int .i64 j ∧ s5 = .string (bs (frames (qs.map Q.r))) ∧ qs.length = j ∧ LgS w wr v4 qs) (fun _ _ i _ => 12 - (intOf i).toNat)
  case atStart => exact ⟨0, [], by omega, by omega, rfl, rfl, rfl, L0.out⟩
  case round =>
    obtain ⟨j, qs, hj, hjL, rfl, rfl, hql, hS⟩ := hrel
    have HS := hid hS
    have HQL := hid hql
    obtain ⟨al, cl, rfl, _⟩ := hS.l.slice
    clear hS hql L0
    have i1 : (0 : Int) ≤ (j : Int) := by omega
    by_cases hc12 : j < 12 ∧ j < L.length
    · obtain ⟨h12, hjl⟩ := hc12
      have i2 : (j : Int) < 12 := by omega
      have i3 : (j : Int) < L.length := by omega
      obtain ⟨g, o, rfl, hg, hcell⟩ := sl_cell1 (f := acells) (fun _ => rfl) (HX.out.fr HS.out.fr (fun _ _ h => h)) (fun hn => by rw [hn] at hjl; simp at hjl)
      have hcj : wr.cell? ⟨g, o + j, none⟩ = some L[j].1 := hcell j hjl
      have HIN := hid ((HI.out L[j] (List.getElem_mem hjl)).1.fr HS.out.fr (fun _ _ h => h))
      have HIL := hid (HI.out L[j] (List.getElem_mem hjl)).2
      clear hcell
      obtain ⟨p1, hp1⟩ : ∃ p1, L[j].1 = p1 := ⟨_, rfl⟩
      rw [hp1] at hcj HIN
      clear hp1
      go_upto_region 7 with (go_at_call 14; refine (Made_is HIN.out HIL.out).mono ?_; rintro e w2 ⟨r, a1, a2, a3, a4, c1, c2, c3, c4, rfl, hv, hgd, f⟩; have HV := hid hv; have HGD := hid hgd; have F2 := hid f; clear hv hgd f)
      have fa := (Fr.refl (fun _ => False) w2).alloc (.cells #[.int .i64 r.kind, .int .i64 r.xid, .int .i64 r.table, .slice a1 r.old.length c1, .slice a2 r.new.length c2, .slice a3 r.edits.length c3, .slice a4 r.xids.length c4, .string (bs r.note)] 27)
      have HS3 := hid ((HS.out.fre F2.out).fre fa)
      have HB3 : Hid (Blk (w2.alloc (.cells #[.int .i64 r.kind, .int .i64 r.xid, .int .i64 r.table, .slice a1 r.old.length c1, .slice a2 r.new.length c2, .slice a3 r.edits.length c3, .slice a4 r.xids.length c4, .string (bs r.note)] 27)) w2.heap.size (rv r (.slice a1 r.old.length c1) (.slice a2 r.new.length c2) (.slice a3 r.edits.length c3) (.slice a4 r.xids.length c4)) 27) := hid (Blk.new w2 (rv r (.slice a1 r.old.length c1) (.slice a2 r.new.length c2) (.slice a3 r.edits.length c3) (.slice a4 r.xids.length c4)) 27)
      have HV3 : Hid (Q.RV (fun k => w.heap.size ≤ k ∧ k < (w2.alloc (.cells #[.int .i64 r.kind, .int .i64 r.xid, .int .i64 r.table, .slice a1 r.old.length c1, .slice a2 r.new.length c2, .slice a3 r.edits.length c3, .slice a4 r.xids.length c4, .string (bs r.note)] 27)).heap.size ∧ ¬ (Value.slice al qs.length cl).ownBlock = some k) (w2.alloc (.cells #[.int .i64 r.kind, .int .i64 r.xid, .int .i64 r.table, .slice a1 r.old.length c1, .slice a2 r.new.length c2, .slice a3 r.edits.length c3, .slice a4 r.xids.length c4, .string (bs r.note)] 27)) ⟨r, .slice a1 r.old.length c1, .slice a2 r.new.length c2, .slice a3 r.edits.length c3, .slice a4 r.xids.length c4⟩) :=
        hid ((HV.out.fre fa).mono (fun k hk => ⟨by have := HS.out.fr.size; omega, by rw [World.size_alloc]; have := hk.2; omega, fun e => by have := HS.out.l.lt e; omega⟩) (fun k hk => hk.2.1))
      have HD3 := hid (show ∀ k, (Value.slice al qs.length cl).ownBlock = some k → k ≠ w2.heap.size from fun k hk => by have := HS.out.l.lt hk; have := F2.out.size; omega)
      clear fa HV HS F2
      generalize hwd : w2.heap.size = dd at *
      clear hwd
      generalize w2.alloc _ = w3 at *
      obtain ⟨k0, k1, k2, k3, k4, k5, k6, k7⟩ := rec_cells (k := r.kind) (x := r.xid) (t := r.table) (o := r.old) (n := r.new) (ed := r.edits) (xs := r.xids) (nt := r.note) HB3.out
      have hle := frames_le (l := qs.map Q.r) (fun x hx => by obtain ⟨q, hq, rfl⟩ := List.mem_map.1 hx; exact HS3.out.g q hq) (by have := HQL.out; simp; omega)
      have hfl := good_len HGD.out
      have hrl := raw_le HGD.out.right
      have hadd := fun w => run_add_bs (P := Try.prog) w (frames (qs.map Q.r)) (frame r) (by omega)
      clear hle hfl hrl
      go_wp2_with (first
        | (at_builtin; refine wpList_app1 rfl (s := .tmp 24) (x := .tmp 26) (t := 45) rfl Try.underlying45 info_rec rec_zcells rfl rfl HS3.out.l HS3.out.fr.size rfl (by simp [Value.oneCell']) (by have := HQL.out; omega) (by have := HQL.out; omega) ?_; intro ab ac wg APP; obtain ⟨hs4, hv4⟩ := HS3.out.grow HV3.out HGD.out APP; have HS4 := hid hs4; have HV4 := hid hv4; have HB4 := hid (Blk.fr HB3.out APP.fr (fun hk => HD3.out _ hk rfl)); clear hs4 hv4 APP k0 k1 k2 k3 k4 k5 k6 k7; obtain ⟨k0, k1, k2, k3, k4, k5, k6, k7⟩ := rec_cells (k := r.kind) (x := r.xid) (t := r.table) (o := r.old) (n := r.new) (ed := r.edits) (xs := r.xids) (nt := r.note) HB4.out)
        | (go_at_call 19; refine (RFrame_go HV4.out).mono ?_; rintro e w5 ⟨rfl, f⟩; have HS5 := hid (HS4.out.fre f); clear f k0 k1 k2 k3 k4 k5 k6 k7))
      go_roundw
      case rel => exact ⟨j + 1, qs ++ [⟨r, .slice a1 r.old.length c1, .slice a2 r.new.length c2, .slice a3 r.edits.length c3, .slice a4 r.xids.length c4⟩], by omega, by omega, by simp, by simp [frames], by have := HQL.out; simp; omega, HS5.out⟩
      case measure => simp [intOf]; omega
    · have HL12 := hid (show qs.length ≤ 12 by have := HQL.out; omega)
      have hor : (12 : Int) ≤ (j : Int) ∨ (L.length : Int) ≤ (j : Int) := by omega
      rcases hor with h12 | h12
      all_goals
        go_wp2_with (fail)
        all_goals (go_ret2; exact ⟨_, qs, rfl, HL12.out, HS.out⟩)
end Go.Proofs.Ytfhkmiifndhacaa
