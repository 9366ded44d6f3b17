import Derived.Deep.CutBlock
import Derived.Test.YtiimomgbklgicaaGreatPkRsU
import Derived.Test.YtiimomgbklgicaaGreatPkRsV
set_option linter.unusedVariables false
namespace Go.VB.Slt
open Go.VB Go.VB.Oct Go.VB.Cat Go.VB.Rec
/-- the follows of none of the xids xs -/
def outs (fs : List FolV) (xs : List Int) : List FolV := fs.filter fun f => !xs.contains f.xid
theorem outs_t (fs : List FolV) (xs : List Int) : (outs fs xs).map FolV.t = others (fs.map FolV.t) xs := by
  unfold outs others
  rw [List.filter_map]
  rfl
theorem outs_nil (fs : List FolV) : outs fs [] = fs := List.filter_eq_self.2 (fun x _ => rfl)
theorem outs_take {fs : List FolV} {xs : List Int} {j : Nat} (h : j < xs.length) : outs fs (xs.take (j + 1)) = (outs fs (xs.take j)).filter fun f => !(f.xid == xs[j]) := by
  unfold outs
  rw [List.take_succ_eq_append_getElem h, List.filter_filter]
  refine List.filter_congr fun f _ => ?_
  rw [List.contains_append]
  simp only [Bool.not_or]
  rw [Bool.and_comm]
  congr 1
  simp only [List.contains_cons, List.contains_nil, Bool.or_false]
theorem outs_out {fs : List FolV} {x : Int} (h : ∀ f ∈ fs, f.xid ≠ x) : (fs.filter fun f => !(f.xid == x)) = fs := List.filter_eq_self.2 (fun f hf => by simpa using h f hf)
theorem outs_twice (fs : List FolV) (xs : List Int) : outs (outs fs xs) xs = outs fs xs := by
  unfold outs
  rw [List.filter_filter]
  refine List.filter_congr fun f _ => ?_
  rw [Bool.and_self]
theorem outs_sub (fs : List FolV) (xs : List Int) : (outs fs xs).Sublist fs := List.filter_sublist
/-- one follow's changes taken out -/
theorem turns_out {fs : List FolV} (hn : (fs.map FolV.xid).Nodup) {f : FolV} (hf : f ∈ fs) : (turnsOf (fs.map FolV.t)).Perm (f.t.turns ++ turnsOf ((fs.filter fun g => !(g.xid == f.xid)).map FolV.t)) := by
  induction fs with
  | nil => simp at hf
  | cons g l ih =>
    rw [List.map_cons, List.nodup_cons] at hn
    rcases List.mem_cons.1 hf with e | e
    · subst e
      have : (l.filter fun g => !(g.xid == f.xid)) = l := outs_out (fun x hx e => hn.1 (by rw [← e]; exact List.mem_map_of_mem hx))
      rw [List.filter_cons_of_neg (by simp), this]
      exact List.Perm.refl _
    · have hne : ¬ g.xid = f.xid := fun h => hn.1 (by rw [h]; exact List.mem_map_of_mem e)
      rw [List.filter_cons_of_pos (by simpa using hne)]
      have h1 := (ih hn.2 e).append_left g.t.turns
      simp only [turnsOf, List.map_cons, List.flatMap_cons] at h1 ⊢
      refine h1.trans ?_
      rw [← List.append_assoc, ← List.append_assoc]
      exact List.perm_append_comm.append_right _
/-- what is collected is what the xids followed -/
theorem collected {fs : List FolV} {xs : List Int} {ts : List Trn} (h : (ts ++ turnsOf ((outs fs xs).map FolV.t)).Perm (turnsOf (fs.map FolV.t))) : ts.Perm (turnsOf (mine (fs.map FolV.t) xs)) := by
  rw [outs_t] at h
  exact (List.perm_append_right_iff _).1 (h.trans (mine_others (fs.map FolV.t) xs).symm)
end Go.VB.Slt
namespace Go.Proofs.YtiimomgbklgicaaGreat
open Go.RowKit Go.VB Go.VB.Oct Go.VB.Cat Go.VB.Rec Go.VB.Slt
theorem int_one (l : List Int) : ∀ u ∈ l.flatMap icell, u.oneCell' = true := by
  intro u hu
  obtain ⟨v, _, hv⟩ := List.mem_flatMap.1 hu
  simp only [icell, List.mem_singleton] at hv
  rw [hv]; rfl
end Go.Proofs.YtiimomgbklgicaaGreat
namespace Go.VB.Slt
open Go.VB Go.VB.Oct Go.VB.Cat Go.VB.Rec
/-- what Ack makes of a slot, and what it returns -/
def ackM (s : Slt) (k : Int) : Slt × Int := if k < s.acked ∨ s.last < k then (s, 1) else ({ s with acked := k, queue := s.queue.filter fun d => !decide (d.lsn ≤ k) }, 0)
theorem keep_t (k : Int) (r : List DnV) : (keep k r).map DnV.t = (r.map DnV.t).filter fun d => !decide (d.lsn ≤ k) := by
  unfold keep
  rw [List.filter_map]
  rfl
def mn (a : Int) (l : List Int) : Int := l.foldl min a
theorem mn_out {fs : List FolV} (hn : (fs.map FolV.xid).Nodup) {f : FolV} (hf : f ∈ fs) (a : Int) : mn a (fs.map FolV.first) = mn (min a f.first) ((fs.filter fun g => !(g.xid == f.xid)).map FolV.first) := by
  induction fs generalizing a with
  | nil => simp at hf
  | cons g l ih =>
    rw [List.map_cons, List.nodup_cons] at hn
    rcases List.mem_cons.1 hf with e | e
    · subst e
      have : (l.filter fun g => !(g.xid == f.xid)) = l := List.filter_eq_self.2 (fun x hx => by
        cases hb : x.xid == f.xid with
        | false => rfl
        | true => exact absurd (by rw [← eq_of_beq hb]; exact List.mem_map_of_mem hx) hn.1)
      rw [List.filter_cons_of_neg (by simp), this]
      rfl
    · have hne : ¬ g.xid = f.xid := fun h => hn.1 (by rw [h]; exact List.mem_map_of_mem e)
      rw [List.filter_cons_of_pos (by simpa using hne)]
      show mn (min a g.first) (l.map FolV.first) = mn (min (min a f.first) g.first) ((l.filter fun g => !(g.xid == f.xid)).map FolV.first)
      rw [ih hn.2 e]
      congr 1
      omega
/-- the LSN of a follow's first change -/
def Fol.fst (f : Fol) : Int := (f.turns.head?.map Trn.lsn).getD 0
def needM (s : Slt) : Int := mn (mn (s.last + 1) (s.fols.map Fol.fst)) (s.queue.map Dn.first)
end Go.VB.Slt
namespace Go.Proofs.YtiimomgbklgicaaGreat
open Go.RowKit Go.VB Go.VB.Oct Go.VB.Cat Go.VB.Rec Go.VB.Slt
theorem fol_fst {S : Nat → Prop} {W : World} {f : FolV} (h : FolO S W f) : f.t.fst = f.first := by
  have h1 := h.pos
  have h2 := h.first
  cases hh : f.hs with
  | nil => exact absurd hh h1
  | cons a l =>
    rw [hh] at h2
    show ((((f.hs ++ f.ss).map TrnV.t).head?).map Trn.lsn).getD 0 = f.first
    rw [hh]
    exact h2 a rfl
theorem fols_fst {S C : Nat → Prop} {W : World} {s : Nat} {v : SltV} (h : SlO S C W s v) : v.t.fols.map Fol.fst = v.fs.map FolV.first := by
  show (v.fs.map FolV.t).map Fol.fst = _
  rw [List.map_map]
  exact List.map_congr_left (fun f hf => fol_fst (h.f f hf))
set_option maxRecDepth 20000 in
set_option maxHeartbeats 4000000 in
theorem Ack_go {S C : Nat → Prop} {w : World} {s : Nat} {v : SltV} (h : SlO S C w s v) (hq : v.qs.length ≤ 1048576) (k : Int) :
    Calls Tryz.prog 23 #[.pointer (some ⟨s, 0, none⟩), .int .i64 k] w fun e w' => e = .returned (.int .i64 (ackM v.t k).2) ∧ ∃ v', SlO S C w' s v' ∧ v'.t = (ackM v.t k).1 ∧ v'.n = v.n ∧ Fr S w w' := by
  have H0 := hid h
  have HQ := hid hq
  have fa := (Fr.refl (fun _ => False) w).alloc (.cells #[.int .i64 k] 3)
  have B0 := hid (Blk.new w [.int .i64 k] 3)
  have H1 := hid (h.fre fa)
  have F1 := hid fa
  have HBS := hid (show w.heap.size ≠ s from fun e => by have := h.b.lt; omega)
  have HBQ := hid (fun g (hg : v.vq.ownBlock = some g) => show g ≠ w.heap.size from fun e => by have := h.q.lt hg; omega)
  clear fa h hq
  go_enter Tryz.func23, Tryz.ntmps23
  go_upto_region 1 with fail
  obtain ⟨b, hb⟩ : ∃ b, b = w.heap.size := ⟨_, rfl⟩
  rw [← hb] at B0 HBS HBQ ⊢
  clear hb
  generalize w.alloc _ = W0 at *
  have k0 : W0.cell? ⟨b, 0, none⟩ = some (.int .i64 k) := B0.out.cell 0
  have k1 : W0.cell? ⟨s, 1, none⟩ = some (.int .i64 v.acked) := H1.out.b.cell 1
  have k2 : W0.cell? ⟨s, 2, none⟩ = some (.int .i64 v.last) := H1.out.b.cell 2
  by_cases ha : k < v.acked
  · have HR := hid (show ackM v.t k = (v.t, 1) from by unfold ackM; rw [if_pos (.inl ha)])
    have hd : decide (k < v.acked) = true := by simpa using ha
    go_wp2_with (fail)
    go_quiet (fail)
    go_wp2_with (fail)
    go_ret
    rw [HR.out]
    exact ⟨rfl, v, H1.out.fre ((Fr.refl (fun _ => False) W0).drewN _), rfl, rfl, (F1.out.mono (fun _ h _ => h.elim)).drewN _⟩
  have hd : decide (k < v.acked) = false := by simpa using ha
  by_cases hl : v.last < k
  · have HR := hid (show ackM v.t k = (v.t, 1) from by unfold ackM; rw [if_pos (.inr hl)])
    go_wp2_with (fail)
    go_quiet (fail)
    go_wp2_with (fail)
    go_ret
    rw [HR.out]
    exact ⟨rfl, v, H1.out.fre ((Fr.refl (fun _ => False) W0).drewN _), rfl, rfl, (F1.out.mono (fun _ h _ => h.elim)).drewN _⟩
  have HR := hid (show ackM v.t k = ({ v.t with acked := k, queue := v.t.queue.filter fun d => !decide (d.lsn ≤ k) }, 0) from by unfold ackM; rw [if_neg (fun h => h.elim ha hl)])
  clear ha
  go_upto_region 3 with fail
  go_quiet (fail)
  clear hd hl k1 k2
  have fd := (Fr.refl (fun _ => False) W0).drewN nq
  have H2 := hid (H1.out.fre fd)
  have B2 := hid (Blk.fr B0.out fd (fun h => h))
  have F2 := hid (F1.out.trans fd (fun _ h _ => h))
  clear fd H1 B0 F1
  go_upto_region 5 with fail
  generalize W0.drewN nq = W2 at *
  clear k0
  have k0 : W2.cell? ⟨b, 0, none⟩ = some (.int .i64 k) := B2.out.cell 0
  have k1 : W2.cell? ⟨s, 1, none⟩ = some (.int .i64 v.acked) := H2.out.b.cell 1
  have z1 : W2.frozen? ⟨s, 1, none⟩ = false := H2.out.b.frozen 1
  have fs := (Fr.refl (fun k => k = s) W2).setCell ⟨s, 1, none⟩ (.int .i64 k) (fun _ => rfl)
  have H3 := hid (SlO.nums H2.out k v.last fs (show Blk (W2.setCell ⟨s, 1, none⟩ (.int .i64 k)) s [.string (bs v.name), .int .i64 k, .int .i64 v.last, v.vt, .map (some v.mb), v.vq] 116 from H2.out.b.set 1 (.int .i64 k)))
  have B3 := hid (Blk.fr B2.out fs (fun e => HBS.out e))
  have F3 := hid ((F2.out.mono (fun _ h _ => h.elim) : Fr S w W2).trans fs (fun q hq _ => by rw [hq]; exact H2.out.bS))
  go_upto_region 6 with fail
  clear k0 k1 z1 fs H2 B2 F2
  generalize W2.setCell _ _ = W3 at *
  obtain ⟨u, hu⟩ : ∃ u : SltV, u = { v with acked := k, last := v.last } := ⟨_, rfl⟩
  rw [← hu] at H3
  have HUQ := hid (show u.vq = v.vq ∧ u.qs = v.qs from by rw [hu]; exact ⟨rfl, rfl⟩)
  have HUT := hid (show u.t = { v.t with acked := k } from by rw [hu]; rfl)
  have HUN := hid (show u.n = v.n from by rw [hu])
  clear hu
  have hqr := H3.out.q
  have HDV := hid (fun d (hd : d ∈ u.qs) => (H3.out.d d hd).r.slice)
  obtain ⟨aq, cq, eq, -⟩ := hqr.slice
  have HEQ := hid eq
  have HDE := hid (DeleteDn_go hqr (by rw [HUQ.out.2]; exact HQ.out) (fun d hd => by obtain ⟨a, c, e, _⟩ := HDV.out d hd; exact ⟨a, _, c, e⟩) (B3.out.cell 0) (fun g hg => HBQ.out g (by rw [← HUQ.out.1]; exact hg)))
  rw [eq] at HDE
  have k5 : W3.cell? ⟨s, 5, none⟩ = some (.slice aq u.qs.length cq) := by rw [← eq]; exact H3.out.b.cell 5
  have HHQ := hid hqr
  clear hqr eq
  have hmf : ∀ (fn : Fn) (first cap : Array Value) (w : World), (Instr.makeFunc fn first cap).run Tryz.prog w = .ok (.func fn first cap) w := fun _ _ _ _ => rfl
  go_upto_region 7 with (go_at_call 77; refine HDE.out.mono ?_; rintro e w4 ⟨v4, rfl, hr, hg, f⟩; obtain ⟨a4, c4, e4, -⟩ := hr.slice; subst e4; have HR4 := hid hr; have HG4 := hid hg; have F4 := hid f; have B4 := hid (Blk.fr H3.out.b f (fun hk => (HHQ.out.ne H3.out.b (by decide)) s (by rw [HEQ.out]; exact hk) rfl)); clear hr hg f k5; have k5 : w4.cell? ⟨s, 5, none⟩ = some (.slice aq u.qs.length cq) := (by rw [← HEQ.out]; exact B4.out.cell 5); have z5 : w4.frozen? ⟨s, 5, none⟩ = false := B4.out.frozen 5)
  have fs := (Fr.refl (fun k => k = s) w4).setCell ⟨s, 5, none⟩ (.slice a4 (keep k u.qs).length c4) (fun _ => rfl)
  have B5 := hid (B4.out.set 5 (.slice a4 (keep k u.qs).length c4))
  have f5 : Fr (fun q => q = s ∨ u.vq.ownBlock = some q) W3 (w4.setCell ⟨s, 5, none⟩ (.slice a4 (keep k u.qs).length c4)) := (F4.out.mono (fun q hq _ => .inr (by rw [HEQ.out]; exact hq))).trans fs (fun q hq _ => .inl hq)
  have HFIN := hid (H3.out.re (T := S) (D := C) (v' := { u with vq := .slice a4 (keep k u.qs).length c4, qs := keep k u.qs }) f5 (fun q hq => hq.elim .inl (fun h => .inr (.inr h))) B5.out (H3.out.t.fr f5 (fun q hq hu => hu.elim (fun e => H3.out.t.ne H3.out.b (by decide) q hq e) (fun e => rows_ne H3.out.t HHQ.out (by decide) q hq e))) H3.out.tS H3.out.tne (fun t ht => .inl ht)
    (HR4.out.fr fs (fun q hq e => HR4.out.ne B4.out (by decide) q hq e)) (fun q hq => H3.out.qS q (by rw [HEQ.out]; exact HG4.out q hq)) (fun d hd => .inl ((List.mem_filter.1 hd).1)) rfl rfl rfl (fun _ h => h) (fun _ h => h) H3.out.CS (fun q hq => Nat.lt_of_lt_of_le (H3.out.lt q hq) f5.size))
  have FF := hid (F3.out.trans f5 (fun q hq _ => hq.elim (fun e => by rw [e]; exact H3.out.bS) (fun e => H3.out.qS q e)))
  clear fs f5
  go_wp2_with (fail)
  go_ret
  rw [HR.out]
  refine ⟨rfl, _, HFIN.out, ?_, HUN.out, FF.out⟩
  show ({ u.t with queue := (keep k u.qs).map DnV.t } : Slt) = _
  rw [HUT.out, keep_t, HUQ.out.2]
  rfl
set_option maxRecDepth 20000 in
set_option maxHeartbeats 4000000 in
theorem Need_go {S C : Nat → Prop} {w : World} {s : Nat} {v : SltV} (h : SlO S C w s v) (hq : v.qs.length ≤ 1048576) (hl : -4611686018427387904 ≤ v.last ∧ v.last ≤ 4611686018427387904) :
    Calls Tryz.prog 25 #[.pointer (some ⟨s, 0, none⟩)] w fun e w' => e = .returned (.int .i64 (needM v.t)) ∧ Fr (fun _ => False) w w' := by
  have k4 : w.cell? ⟨s, 4, none⟩ = some (.map (some v.mb)) := h.b.cell 4
  have k2 : w.cell? ⟨s, 2, none⟩ = some (.int .i64 v.last) := h.b.cell 2
  have i9 : IntKind.i64.wrap (v.last + 1) = v.last + 1 := IntWalk.i64_in _ (by omega)
  have i8 : wrap64 (v.last + 1) = v.last + 1 := by unfold wrap64; omega
  have HQL := hid hq
  have HNE := hid (show needM v.t = mn (mn (v.last + 1) (v.fs.map FolV.first)) (v.qs.map DnV.first) from by
    unfold needM
    rw [fols_fst h]
    show mn _ ((v.qs.map DnV.t).map Dn.first) = _
    rw [List.map_map]
    rfl)
  have H0 := hid h
  obtain ⟨aq, cq, eq, -⟩ := h.q.slice
  have HQC := hid (show w.cell? ⟨s, 5, none⟩ = some (.slice aq v.qs.length cq) from by rw [← eq]; exact h.b.cell 5)
  have hq0 := (h.q.sl' (R := fun _ => True) (fun _ _ => trivial))
  rw [eq] at hq0
  have HQS := hid hq0
  clear h hq hl eq hq0
  obtain ⟨a0, ha0⟩ : ∃ a0, a0 = v.last + 1 := ⟨_, rfl⟩
  have i9' : IntKind.i64.wrap (v.last + 1) = a0 := by rw [ha0]; exact i9
  have i8' : wrap64 (v.last + 1) = a0 := by rw [ha0]; exact i8
  rw [← ha0] at HNE
  clear i9 i8
  have HA := hid ha0
  clear ha0
  go_enter Tryz.func25, Tryz.ntmps25
  go_upto_block 0 with (refine wpList_range_F rfl (m := .tmp 18) rfl Tryz.underlying113 H0.out.fx rfl H0.out.m ?_; intro w1 hr0 f0 sz0; have HR0 := hid hr0; have F0 := hid f0; clear hr0 f0 sz0 k4 k2)
  clear i9' i8'
  simp only [Act.put, List.setIfInBounds_toArray, List.set_cons_zero, List.set_cons_succ]
  go_cut [3] (fun s3 wx => s3 = .int .i64 (mn a0 (v.fs.map FolV.first)) ∧ Fr (fun _ => False) w wx)
  case first =>
    go_wp2_with (fail)
    go_loopw [3] (fun s3 wr => ∃ (todo : List FolV) (m : Int), s3 = .int .i64 m ∧ mn m (todo.map FolV.first) = mn a0 (v.fs.map FolV.first) ∧ (todo.map FolV.xid).Nodup ∧ (∀ f ∈ todo, f ∈ v.fs) ∧ RngF wr v.mb w.heap.size v.n v.fs todo ∧ Fr (fun _ => False) w wr) (fun _ wr => wr.rangeLeft v.mb w.heap.size)
    case atStart => exact ⟨v.fs, a0, rfl, rfl, H0.out.fx, fun f hf => hf, HR0.out, F0.out⟩
    case round =>
      obtain ⟨todo, m, rfl, hm, hn, hsub, hr, hf⟩ := hrel
      have HM := hid hm
      have HN := hid hn
      have HS := hid hsub
      have HR := hid hr
      have FR := hid hf
      clear hm hn hsub hr hf HR0 F0
      cases todo with
      | nil =>
        go_wp2_with (refine wpList_next_F rfl (it := .tmp 19) rfl rfl HR.out (fun _ => ?_) (fun f hf => by simp at hf))
        go_meet
        exact ⟨by rw [← HM.out]; rfl, FR.out⟩
      | cons g l =>
        have HNN := hid (show ¬ (g :: l) = [] from by simp)
        generalize g :: l = todo at *
        go_upto_region 7 with (refine wpList_next_F rfl (it := .tmp 19) rfl rfl HR.out (fun h => absurd h HNN.out) ?_; intro f hf w2 hr2 f2 hlt hsz hen; have HF := hid (H0.out.f f (HS.out f hf)); have F2 := hid (FR.out.trans f2 (fun k hk hl => by omega)); have k0 : w2.cell? ⟨f.b, 0, none⟩ = some (.int .i64 f.first) := (Blk.fr HF.out.b F2.out (fun h => h)).cell 0; have HMS := hid (mn_out HN.out hf m); have HSS := hid (fun x (hx : x ∈ todo.filter fun g => !(g.xid == f.xid)) => HS.out x (List.mem_filter.1 hx).1); have HNF := hid (fol_sub HN.out f); have HR2 := hid hr2; have HLT := hid hlt; clear hf hr2 f2 hlt hsz)
        go_wp2_with (fail)
        go_roundw
        case rel => exact ⟨_, min m f.first, rfl, by rw [← HM.out, HMS.out], HNF.out, HSS.out, HR2.out, F2.out⟩
        case measure => exact HLT.out
  case rest =>
    obtain ⟨rfl, hf⟩ := hcut
    generalize wc = WB at *
    have FB := hid hf
    have k5 := cell_fr HQC.out hf (fun h => h)
    clear hf HR0 F0
    obtain ⟨a1, ha1⟩ : ∃ a1, a1 = mn a0 (v.fs.map FolV.first) := ⟨_, rfl⟩
    rw [← ha1] at HNE ⊢
    clear ha1
    go_wp2_with (fail)
    clear k5
    go_loopw [3, 35] (fun s3 s35 wr => ∃ (j : Nat) (m : Int), j ≤ v.qs.length ∧ s35 = .int .i64 j ∧ s3 = .int .i64 m ∧ m = mn a1 ((v.qs.take j).map DnV.first) ∧ Fr (fun _ => False) w wr) (fun _ s35 _ => v.qs.length - (intOf s35).toNat)
    case atStart => exact ⟨0, a1, by omega, rfl, rfl, rfl, FB.out⟩
    case round =>
      obtain ⟨j, m, hj, rfl, rfl, hm, hf⟩ := hrel
      have HM := hid hm
      have FR := hid hf
      clear hm hf FB
      rename World => WR
      by_cases hjn : j < v.qs.length
      · have j1 : (0 : Int) ≤ (j : Int) := by omega
        have j2 : (j : Int) < (v.qs.length : Int) := by omega
        have i9 : IntKind.i64.wrap ((j : Int) + 1) = (j : Int) + 1 := IntWalk.i64_in _ (by have := HQL.out; omega)
        obtain ⟨g, o, rfl, -, q⟩ := slK (k := 3) (f := DnV.cells) (by decide) dn_len HQS.out hjn
        have HD := hid (H0.out.d _ (List.getElem_mem hjn))
        have HTK := hid (show mn a1 ((v.qs.take (j + 1)).map DnV.first) = min m v.qs[j].first from by
          rw [List.take_succ_eq_append_getElem hjn, List.map_append]
          show ((v.qs.take j).map DnV.first ++ [v.qs[j].first]).foldl min a1 = _
          rw [List.foldl_append, HM.out]
          rfl)
        have p0 := cell_fr (q 0 (by decide)) FR.out (fun h => h)
        have p1 := cell_fr (q 1 (by decide)) FR.out (fun h => h)
        have p2 := cell_fr (q 2 (by decide)) FR.out (fun h => h)
        simp only [Nat.add_zero] at p0 p1 p2
        clear q HM
        generalize v.qs[j] = dj at *
        obtain ⟨ad, cd, hdv, -⟩ := HD.out.r.slice
        obtain ⟨first, lsn, dv, cs⟩ := dj
        dsimp only at hdv p0 p1 p2 HTK
        subst hdv
        have fa := (Fr.refl (fun _ => False) WR).alloc (.cells #[.int .i64 first, .int .i64 lsn, .slice ad cs.length cd] 133)
        have L7 := hid (Blk.new WR [.int .i64 first, .int .i64 lsn, .slice ad cs.length cd] 133)
        have F2 := hid (FR.out.trans fa (fun _ h _ => h))
        clear fa
        go_upto_region 11 with fail
        clear p0 p1 p2 FR
        have l0 := L7.out.cell 0
        simp only [List.getElem?_cons_zero] at l0
        go_wp2_with (fail)
        go_roundw
        case rel => exact ⟨j + 1, min m first, by omega, by go_num, rfl, HTK.out.symm, F2.out⟩
        case measure => simp [intOf]; omega
      · obtain rfl : j = v.qs.length := by omega
        have j2 : ¬ ((v.qs.length : Int) < (v.qs.length : Int)) := by omega
        go_wp2_with (fail)
        go_ret
        exact ⟨ret_int (by rw [HNE.out, HM.out, List.take_length]), FR.out⟩
end Go.Proofs.YtiimomgbklgicaaGreat
