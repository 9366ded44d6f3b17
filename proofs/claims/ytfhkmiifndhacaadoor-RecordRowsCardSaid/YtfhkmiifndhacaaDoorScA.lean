import Derived.Test.YtfhkmiifndhacaaDoorRdB
import Derived.Test.YtfhkmiifndhacaaDoorScM
/- record.Scan; a list of records in memory. -/
set_option linter.unusedVariables false
namespace Go.Proofs.YtfhkmiifndhacaaDoor
open Go.RowKit Go.VB Go.VB.Oct Go.VB.Rec
/-- a record and its four slices -/
structure Q where
  r : R
  o : Value
  n : Value
  e : Value
  x : Value
def Q.cells (q : Q) : List Value := rv q.r q.o q.n q.e q.x
theorem qcells_len (q : Q) : q.cells.length = 8 := rfl
abbrev Q.RV (P : Nat → Prop) (W : World) (q : Q) : Prop := Go.Proofs.YtfhkmiifndhacaaDoor.RV P W q.r q.o q.n q.e q.x
theorem RV.mono {P P' : Nat → Prop} {w : World} {r : R} {vo vn ve vx : Value} (h : RV P w r vo vn ve vx) (hP : ∀ k, P k → P' k) (hlt : ∀ k, P' k → k < w.heap.size) : RV P' w r vo vn ve vx :=
  ⟨h.o.mono hP, h.n.mono hP, h.e.mono hP, h.x.mono hP, h.lo, h.ln, h.le, h.lx, hlt⟩
theorem info_rec : (Tryd.prog.info? 28).map (fun i => (i.zero, i.size, i.bytes)) = some (some (.agg (rv R.zero (.slice none 0 0) (.slice none 0 0) (.slice none 0 0) (.slice none 0 0)).toArray), 8, 136) := by kernel_rfl
theorem rec_zcells : (Value.agg (rv R.zero (.slice none 0 0) (.slice none 0 0) (.slice none 0 0) (.slice none 0 0)).toArray).cells.size = 8 := by kernel_rfl
/-- blocks of the call's own behind block p, other than those of the lists -/
def PS (p : Nat) (W : World) (vl va : Value) (k : Nat) : Prop := p < k ∧ k < W.heap.size ∧ ¬ vl.ownBlock = some k ∧ ¬ va.ownBlock = some k
structure ScS (w0 W : World) (p : Nat) (rm : RM) (vl va : Value) (qs : List Q) (ats : List Int) : Prop where
  rd : RdRep W p rm
  ok : rm.Ok
  l : Row 28 8 w0.heap.size W vl qs.length (qs.flatMap Q.cells)
  a : Row 3 1 w0.heap.size W va ats.length (ats.flatMap icell)
  q : ∀ q ∈ qs, q.RV (PS p W vl va) W
  fr : Fr (fun _ => False) w0 W
  gp : w0.heap.size ≤ p
namespace ScS
variable {w0 W W' wg wb : World} {p : Nat} {rm rm' : RM} {vl va v' : Value} {qs : List Q} {ats : List Int}
theorem move (h : ScS w0 W p rm vl va qs ats) (hr : RdRep W' p rm') (ok : rm'.Ok) (f : Fr (fun k => k = p) W W') : ScS w0 W' p rm' vl va qs ats :=
  ⟨hr, ok, h.l.fr f (fun k hk => h.l.ne h.rd (by decide) k hk), h.a.fr f (fun k hk => h.a.ne h.rd (by decide) k hk),
    fun q hq => ((h.q q hq).fr f (fun k hk e => by have := hk.1; omega)).mono (fun k hk => ⟨hk.1, Nat.lt_of_lt_of_le hk.2.1 f.size, hk.2.2⟩) (fun k hk => hk.2.1), h.fr.trans f (fun k hk hl => by have := h.gp; omega), h.gp⟩
theorem fre (h : ScS w0 W p rm vl va qs ats) (f : Fr (fun _ => False) W W') : ScS w0 W' p rm vl va qs ats := h.move (h.rd.fre f) h.ok (f.mono (fun _ h _ => h.elim))
theorem num (h : ScS w0 W p rm vl va qs ats) (k : Nat) (hk : k ≤ 6) {m : RM × Nat} (hm : rm.num k = m) : Calls Tryd.prog 23 #[.pointer (some ⟨p, 0, none⟩), .int .i64 k] W fun e W' => e = .returned (.int .i64 m.2) ∧ ScS w0 W' p m.1 vl va qs ats := by
  subst hm
  refine (ONum_go h.rd h.ok k hk).mono ?_
  rintro e W' ⟨rfl, hr, f⟩
  exact ⟨rfl, h.move hr (h.ok.num k) f⟩
theorem take (h : ScS w0 W p rm vl va qs ats) (k : Nat) (hk : k ≤ 1099511627776) {m : RM × List UInt8} (hm : rm.take k = m) : Calls Tryd.prog 44 #[.pointer (some ⟨p, 0, none⟩), .int .i64 k] W fun e W' => e = .returned (.string (bs m.2)) ∧ ScS w0 W' p m.1 vl va qs ats := by
  subst hm
  refine (OTake_go h.rd h.ok k hk).mono ?_
  rintro e W' ⟨rfl, hr, f⟩
  exact ⟨rfl, h.move hr (h.ok.take k) f⟩
/-- one more record -/
theorem growL (h : ScS w0 W p rm vl va qs ats) {x : Q} (hx : x.RV (PS p W vl va) W) (hg : App 28 8 w0.heap.size W wg vl v' qs.length (qs.flatMap Q.cells) x.cells) : ScS w0 wg p rm v' va (qs ++ [x]) ats := by
  have hne : ∀ {d l t}, Blk W d l t → t ≠ 28 → ¬ (vl.ownBlock = some d) := fun b ht hk => h.l.ne b ht _ hk rfl
  have hq : ∀ q : Q, q.RV (PS p W vl va) W → q.RV (PS p wg v' va) wg := fun q hq => (hq.fr hg.fr (fun k hk e => hk.2.2.1 e)).mono (fun k hk => ⟨hk.1, Nat.lt_of_lt_of_le hk.2.1 hg.fr.size, fun e => (hg.at_ k e).elim hk.2.2.1 (fun e => by have := hk.2.1; omega), hk.2.2.2⟩) (fun k hk => hk.2.1)
  exact ⟨h.rd.fr hg.fr (hne h.rd (by decide)), h.ok, hg.row.cast (by simp) (by simp), h.a.fr hg.fr (fun k hk => row_apart h.a h.l (by decide) k hk),
    fun q hm => by
      rcases List.mem_append.1 hm with hm | hm
      · exact hq q (h.q q hm)
      · obtain rfl := List.mem_singleton.1 hm
        exact hq _ hx,
    h.fr.trans hg.fr (fun k hk hl => by have := h.l.new k hk; omega), h.gp⟩
theorem growA (h : ScS w0 W p rm vl va qs ats) {x : Int} (hg : App 3 1 w0.heap.size W wg va v' ats.length (ats.flatMap icell) (icell x)) : ScS w0 wg p rm vl v' qs (ats ++ [x]) := by
  have hne : ∀ {d l t}, Blk W d l t → t ≠ 3 → ¬ (va.ownBlock = some d) := fun b ht hk => h.a.ne b ht _ hk rfl
  exact ⟨h.rd.fr hg.fr (hne h.rd (by decide)), h.ok, h.l.fr hg.fr (fun k hk => row_apart h.l h.a (by decide) k hk), hg.row.cast (by simp) (by simp),
    fun q hm => ((h.q q hm).fr hg.fr (fun k hk e => hk.2.2.2 e)).mono (fun k hk => ⟨hk.1, Nat.lt_of_lt_of_le hk.2.1 hg.fr.size, hk.2.2.1, fun e => (hg.at_ k e).elim hk.2.2.2 (fun e => by have := hk.2.1; omega)⟩) (fun k hk => hk.2.1),
    h.fr.trans hg.fr (fun k hk hl => by have := h.a.new k hk; omega), h.gp⟩
/-- a record is read from a string -/
theorem read (h : ScS w0 W p rm vl va qs ats) (t : List UInt8) (ht : t.length ≤ 1099511627776) {m : R × Int} (hm : readR t = m) : Calls Tryd.prog 7 #[.string (bs t)] W fun e W' => ∃ (a1 a2 a3 a4 : Option Addr) (c1 c2 c3 c4 : Nat), e = .returned (.tuple #[.agg #[.int .i64 m.1.kind, .int .i64 m.1.xid, .int .i64 m.1.table, .slice a1 m.1.old.length c1, .slice a2 m.1.new.length c2, .slice a3 m.1.edits.length c3, .slice a4 m.1.xids.length c4, .string (bs m.1.note)], .int .i64 m.2]) ∧ ScS w0 W' p rm vl va qs ats ∧ Q.RV (PS p W' vl va) W' ⟨m.1, .slice a1 m.1.old.length c1, .slice a2 m.1.new.length c2, .slice a3 m.1.edits.length c3, .slice a4 m.1.xids.length c4⟩ := by
  subst hm
  refine (RRead_go t ht W).mono ?_
  rintro e W' ⟨vo, vn, ve, vx, rfl, hv, f⟩
  have := h.rd.lt
  obtain ⟨a1, c1, a2, c2, a3, c3, a4, c4, rfl, rfl, rfl, rfl⟩ := hv.slices
  exact ⟨a1, a2, a3, a4, c1, c2, c3, c4, rfl, h.fre f, hv.mono (fun k hk => ⟨by omega, hk.2, fun e => by have := h.l.lt e; omega, fun e => by have := h.a.lt e; omega⟩) (fun k hk => hk.2.1)⟩
end ScS
def lenOf : Value → Nat
  | .slice _ n _ => n
  | _ => 0
set_option maxRecDepth 20000 in
set_option maxHeartbeats 8000000 in
theorem Scan_go (s : List UInt8) (hs : s.length ≤ 1099511627776) (w : World) : Calls Tryd.prog 15 #[.string (bs s)] w fun e w' => ∃ p rm vl va qs, e = .returned (.tuple #[vl, va]) ∧ qs.map Q.r = (scan s).1 ∧ ScS w w' p rm vl va qs (scan s).2 := by
  obtain ⟨sc, hsc⟩ : ∃ sc, scan s = sc := ⟨_, rfl⟩
  rw [hsc]
  have HSC := hid hsc
  clear hsc
  go_enter Tryd.func15, Tryd.ntmps15
  go_wp2_with (go_at_call 19; refine (ORead_go s _).mono ?_; rintro e w1 ⟨rfl, h1, f1⟩)
  have H0 := hid (show ScS w w1 w.heap.size ⟨s, 0, false⟩ (.slice none 0 0) (.slice none 0 0) [] [] from ⟨h1, ⟨Nat.zero_le _, hs⟩, Row.nil, Row.nil, fun q hq => absurd hq (by simp), f1, Nat.le_refl _⟩)
  clear h1 f1
  go_loopw [4, 5] (fun v4 v5 wr => ∃ (f a : Nat) (qs : List Q) (ats : List Int), ScS w wr w.heap.size ⟨s, a, false⟩ v4 v5 qs ats ∧ sc.1 = qs.map Q.r ++ (scanF f s a).1 ∧ sc.2 = ats ++ (scanF f s a).2 ∧ s.length - a < f ∧ ats.length = qs.length ∧ ats.length * 8 ≤ a) (fun _ v5 _ => s.length - lenOf v5)
  case atStart => exact ⟨s.length + 1, 0, [], [], H0.out, by rw [← HSC.out]; rfl, by rw [← HSC.out]; rfl, by omega, rfl, by simp⟩
  case round =>
    obtain ⟨f, a, qs, ats, h, e1, e2, hf, hl, ha⟩ := hrel
    obtain ⟨f, rfl⟩ : ∃ g, f = g + 1 := ⟨f - 1, by omega⟩
    obtain ⟨m1, h1⟩ : ∃ m, (RM.mk s a false).num 4 = m := ⟨_, rfl⟩
    obtain ⟨m2, h2⟩ : ∃ m, m1.1.num 4 = m := ⟨_, rfl⟩
    obtain ⟨m3, h3⟩ : ∃ m, m2.1.take m1.2 = m := ⟨_, rfl⟩
    obtain ⟨m4, h4⟩ : ∃ m, readR m3.2 = m := ⟨_, rfl⟩
    have hst : scan1 s a = if m3.1.failed || decide (sum m3.2 ≠ m2.2) then none else if m4.2 ≠ 0 then none else some (m4.1, m3.1.at_) := by subst h1 h2 h3 h4; rfl
    have hb1 : m1.2 < 4294967296 := by rw [← h1]; exact RM.num_lt _ 4
    have hb2 : m2.2 < 4294967296 := by rw [← h2]; exact RM.num_lt _ 4
    have ht : m3.2.length ≤ 1099511627776 := by rw [← h3]; exact Nat.le_trans (RM.take_len _ _) (by omega)
    have HT := hid ht
    obtain ⟨al, cl, rfl, _⟩ := h.l.slice
    obtain ⟨aa, ca, rfl, _⟩ := h.a.slice
    have HREL := hid (show sc.1 = qs.map Q.r ++ (scanF (f + 1) s a).1 ∧ sc.2 = ats ++ (scanF (f + 1) s a).2 ∧ s.length - a < f + 1 ∧ ats.length = qs.length ∧ ats.length * 8 ≤ a from ⟨e1, e2, hf, hl, ha⟩)
    have HST := hid hst
    have M1 := hid h1
    have M2 := hid h2
    have M3 := hid h3
    have M4 := hid h4
    have H := hid h
    clear h e1 e2 hf hl ha hst h1 h2 h3 h4 ht H0
    have HSU := hid (fun w => Sum_go m3.2 HT.out w)
    cases hfl : m3.1.failed with
    | true =>
      go_wp2_with (first
        | (go_at_call 23; refine (H.out.num 4 (by omega) M1.out).mono ?_; rintro e w2 ⟨rfl, h⟩; have H2 := hid h; clear h H)
        | (go_at_call 23; refine (H2.out.num 4 (by omega) M2.out).mono ?_; rintro e w3 ⟨rfl, h⟩; have H3 := hid h; clear h H2)
        | (go_at_call 44; refine (H3.out.take _ (by omega) M3.out).mono ?_; rintro e w4 ⟨rfl, h⟩; have H4 := hid h; clear h H3)
        | (go_at_call 22; refine (OFailed_go H4.out.rd).mono ?_; rintro e w5 ⟨rfl, rfl⟩; rw [hfl]))
      go_ret2
      have hn : scan1 s a = none := by rw [HST.out, if_pos (by rw [hfl]; rfl)]
      have hr := HREL.out
      rw [scanF_none hn] at hr
      exact ⟨_, _, _, _, qs, rfl, by rw [hr.1, List.append_nil], by rw [hr.2.1, List.append_nil]; exact H4.out⟩
    | false =>
      have hsl := sum_lt m3.2
      obtain ⟨sm, hsm⟩ : ∃ sm, sum m3.2 = sm := ⟨_, rfl⟩
      rw [hsm] at hsl HST HSU
      clear hsm
      by_cases hne : sm ≠ m2.2
      · have hni : (sm : Int) ≠ (m2.2 : Int) := by omega
        have HNE := hid hne
        clear hne
        go_wp2_with (first
          | (go_at_call 23; refine (H.out.num 4 (by omega) M1.out).mono ?_; rintro e w2 ⟨rfl, h⟩; have H2 := hid h; clear h H)
          | (go_at_call 23; refine (H2.out.num 4 (by omega) M2.out).mono ?_; rintro e w3 ⟨rfl, h⟩; have H3 := hid h; clear h H2)
          | (go_at_call 44; refine (H3.out.take _ (by omega) M3.out).mono ?_; rintro e w4 ⟨rfl, h⟩; have H4 := hid h; clear h H3)
          | (go_at_call 22; refine (OFailed_go H4.out.rd).mono ?_; rintro e w5 ⟨rfl, rfl⟩; rw [hfl])
          | (go_at_call 43; refine (HSU.out _).mono ?_; rintro e w6 ⟨rfl, f6⟩; have H6 := hid (H4.out.fre f6); clear f6 H4)
          | (go_at_call 7; refine (H6.out.read _ HT.out M4.out).mono ?_; rintro e w7 ⟨x1, x2, x3, x4, y1, y2, y3, y4, rfl, h, hrv⟩; have H7 := hid h; have HRV := hid hrv; clear h hrv H6))
        go_ret2
        have hn : scan1 s a = none := by rw [HST.out, if_pos (by simp [HNE.out])]
        have hr := HREL.out
        rw [scanF_none hn] at hr
        exact ⟨_, _, _, _, qs, rfl, by rw [hr.1, List.append_nil], by rw [hr.2.1, List.append_nil]; exact H6.out⟩
      · obtain rfl : sm = m2.2 := by omega
        obtain ⟨r4, e4⟩ := m4
        by_cases he : e4 ≠ 0
        · have HE := hid he
          go_wp2_with (first
            | (go_at_call 23; refine (H.out.num 4 (by omega) M1.out).mono ?_; rintro e w2 ⟨rfl, h⟩; have H2 := hid h; clear h H)
            | (go_at_call 23; refine (H2.out.num 4 (by omega) M2.out).mono ?_; rintro e w3 ⟨rfl, h⟩; have H3 := hid h; clear h H2)
            | (go_at_call 44; refine (H3.out.take _ (by omega) M3.out).mono ?_; rintro e w4 ⟨rfl, h⟩; have H4 := hid h; clear h H3)
            | (go_at_call 22; refine (OFailed_go H4.out.rd).mono ?_; rintro e w5 ⟨rfl, rfl⟩; rw [hfl])
            | (go_at_call 43; refine (HSU.out _).mono ?_; rintro e w6 ⟨rfl, f6⟩; have H6 := hid (H4.out.fre f6); clear f6 H4)
            | (go_at_call 7; refine (H6.out.read _ HT.out M4.out).mono ?_; rintro e w7 ⟨x1, x2, x3, x4, y1, y2, y3, y4, rfl, h, hrv⟩; have H7 := hid h; have HRV := hid hrv; clear h hrv H6))
          go_ret2
          have hn : scan1 s a = none := by rw [HST.out, if_neg (by simp [hfl]), if_pos HE.out]
          have hr := HREL.out
          rw [scanF_none hn] at hr
          exact ⟨_, _, _, _, qs, rfl, by rw [hr.1, List.append_nil], by rw [hr.2.1, List.append_nil]; exact H7.out.fre ((Fr.refl (fun _ => False) w7).alloc _)⟩
        · obtain rfl : e4 = 0 := by omega
          have hst4 : scan1 s a = some (r4, m3.1.at_) := by rw [HST.out, if_neg (by simp [hfl]), if_neg (by simp)]
          have hle4 := scan1_le hst4
          have hrm : m3.1 = ⟨s, m3.1.at_, false⟩ := by
            have e1 : m1.1.s = s := by rw [← M1.out]; exact RM.take_s _ _
            have e2 : m2.1.s = s := by rw [← M2.out, ← e1]; exact RM.take_s _ _
            have e3 : m3.1.s = s := by rw [← M3.out, ← e2]; exact RM.take_s _ _
            rw [← e3, ← hfl]
          have HRM := hid hrm
          have HS4 := hid hst4
          have HQN := hid (show qs.length ≤ 137438953472 ∧ ats.length ≤ 137438953472 from by have := HREL.out; omega)
          have HLE := hid hle4
          clear hst4 hle4 hrm
          go_wp2_with (first
            | (go_at_call 23; refine (H.out.num 4 (by omega) M1.out).mono ?_; rintro e w2 ⟨rfl, h⟩; have H2 := hid h; clear h H)
            | (go_at_call 23; refine (H2.out.num 4 (by omega) M2.out).mono ?_; rintro e w3 ⟨rfl, h⟩; have H3 := hid h; clear h H2)
            | (go_at_call 44; refine (H3.out.take _ (by omega) M3.out).mono ?_; rintro e w4 ⟨rfl, h⟩; have H4 := hid h; clear h H3)
            | (go_at_call 22; refine (OFailed_go H4.out.rd).mono ?_; rintro e w5 ⟨rfl, rfl⟩; rw [hfl])
            | (go_at_call 43; refine (HSU.out _).mono ?_; rintro e w6 ⟨rfl, f6⟩; have H6 := hid (H4.out.fre f6); clear f6 H4)
            | (go_at_call 7; refine (H6.out.read _ HT.out M4.out).mono ?_; rintro e w7 ⟨x1, x2, x3, x4, y1, y2, y3, y4, rfl, h, hrv⟩; have H7 := hid (h.fre ((Fr.refl (fun _ => False) w7).alloc (.cells #[.int .i64 r4.kind, .int .i64 r4.xid, .int .i64 r4.table, .slice x1 r4.old.length y1, .slice x2 r4.new.length y2, .slice x3 r4.edits.length y3, .slice x4 r4.xids.length y4, .string (bs r4.note)] 28))); have HRV := hid ((hrv.fre ((Fr.refl (fun _ => False) w7).alloc (.cells #[.int .i64 r4.kind, .int .i64 r4.xid, .int .i64 r4.table, .slice x1 r4.old.length y1, .slice x2 r4.new.length y2, .slice x3 r4.edits.length y3, .slice x4 r4.xids.length y4, .string (bs r4.note)] 28))).mono (P' := PS w.heap.size (w7.alloc (.cells #[.int .i64 r4.kind, .int .i64 r4.xid, .int .i64 r4.table, .slice x1 r4.old.length y1, .slice x2 r4.new.length y2, .slice x3 r4.edits.length y3, .slice x4 r4.xids.length y4, .string (bs r4.note)] 28)) (.slice al qs.length cl) (.slice aa ats.length ca)) (fun k hk => ⟨hk.1, by rw [World.size_alloc]; have := hk.2.1; omega, hk.2.2⟩) (fun k hk => hk.2.1)); clear h hrv H6)
            | (at_builtin; refine wpList_app1 rfl (s := .tmp 41) (x := .tmp 43) (t := 41) rfl Tryd.underlying41 info_rec rec_zcells rfl (by rw [World.size_alloc]; rfl) H7.out.l H7.out.fr.size rfl (by simp [Value.oneCell']) (by have := HQN.out; omega) (by have := HQN.out; omega) ?_; intro ab ac wg APP; have H8 := hid (H7.out.growL (x := ⟨r4, .slice x1 r4.old.length y1, .slice x2 r4.new.length y2, .slice x3 r4.edits.length y3, .slice x4 r4.xids.length y4⟩) HRV.out APP); clear APP)
            | (go_at_call 45; refine (OAt_go H8.out.rd).mono ?_; rintro e w9 ⟨rfl, rfl⟩)
            | (at_builtin; refine wpList_app1 rfl (s := .tmp 45) (x := .tmp 48) (t := 24) rfl Tryd.underlying24 info_int rfl rfl rfl H8.out.a H8.out.fr.size rfl (by simp [Value.oneCell']) (by have := HQN.out; omega) (by have := HQN.out; omega) ?_; intro bb bc wh APP; have H9 := hid (H8.out.growA (x := (m3.1.at_ : Int)) APP); clear APP))
          go_roundw
          case rel =>
            obtain ⟨r1, r2, r3, r4', r5⟩ := HREL.out
            rw [scanF_some HS4.out] at r1 r2
            have h9 := H9.out
            rw [HRM.out] at h9
            have := HLE.out
            exact ⟨f, m3.1.at_, _, _, h9, by rw [r1]; simp, by rw [r2]; simp, by omega, by simp [r4'], by simp; omega⟩
          case measure =>
            have := HREL.out
            have := HLE.out
            simp only [lenOf]
            omega
end Go.Proofs.YtfhkmiifndhacaaDoor
