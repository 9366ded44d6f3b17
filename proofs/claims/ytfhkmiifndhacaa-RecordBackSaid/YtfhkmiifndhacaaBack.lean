/- Proved: for every record, every two lists of integers and every string the law RecordBack of chapter 04 returns true, and its arguments read afterwards as before. Conditions: none beyond the given statement. -/
import Derived.Test.YtfhkmiifndhacaaArg
import Derived.Test.YtfhkmiifndhacaaPla
import Derived.Test.YtfhkmiifndhacaaBkM
set_option linter.unusedVariables false
namespace Go.Proofs.Ytfhkmiifndhacaa
open Go.RowKit Go.VB Go.VB.Oct Go.VB.Rec
theorem list2 {α : Type} {L : List α} (h : L.length = 2) : ∃ a b, L = [a, b] := by
  match L, h with
  | [a, b], _ => exact ⟨a, b, rfl⟩
/-- a record in a variable -/
structure At (W : World) (d : Nat) (r : R) (vo vn ve vx : Value) : Prop where
  b : Blk W d (rv r vo vn ve vx) 27
  v : RV (fun k => k < W.heap.size) W r vo vn ve vx
theorem At.fre {W W' : World} {d : Nat} {r : R} {vo vn ve vx : Value} (h : At W d r vo vn ve vx) (f : Fr (fun _ => False) W W') : At W' d r vo vn ve vx :=
  ⟨Blk.fr h.b f (fun h => h), (h.v.fre f).mono (fun k hk => Nat.lt_of_lt_of_le hk f.size) (fun _ h => h)⟩
theorem At.new {P : Nat → Prop} {w : World} {r : R} {vo vn ve vx : Value} (h : RV P w r vo vn ve vx) : At (w.alloc (.cells (rv r vo vn ve vx).toArray 27)) w.heap.size r vo vn ve vx :=
  ⟨Blk.new w _ _, (h.fre ((Fr.refl _ w).alloc _)).mono (fun k hk => by rw [World.size_alloc]; have := h.lt k hk; omega) (fun _ h => h)⟩
theorem few_in {r : R} (h : r.In) : (∀ v ∈ (R.few r).old, v.In) ∧ (∀ v ∈ (R.few r).new, v.In) := by
  have : ∀ l : List V, (∀ v ∈ l, v.In2) → ∀ v ∈ cutRow l, v.In := by
    intro l hl v hv
    unfold cutRow at hv
    obtain ⟨u, hu, rfl⟩ := List.mem_map.1 hv
    exact (hl u (List.mem_of_mem_take hu)).2
  exact ⟨this _ h.old, this _ h.new⟩
set_option maxRecDepth 20000 in
set_option maxHeartbeats 20000000 in
theorem Back_walk {P P' : Nat → Prop} {w : World} {a : R} {vo vn ve vx : Value} {p0 p1 : Arg} {s : List UInt8} (h : AV P w a vo vn ve vx) (ha : a.In)
    (h0 : Sl P' w p0.1 p0.2.length (p0.2.flatMap icell) ∧ p0.2.length ≤ 9223372036854775807) (h1 : Sl P' w p1.1 p1.2.length (p1.2.flatMap icell) ∧ p1.2.length ≤ 9223372036854775807) :
    Calls Try.prog 5 #[.agg (rv a vo vn ve vx).toArray, .agg #[p0.1, p1.1], .string (bs s)] w fun e w' => e = .returned (.bool true) ∧ Fr (fun _ => False) w w' := by
  have HSA := hid (fun w => sanity_go w)
  obtain ⟨a1, c1, a2, c2, a3, c3, a4, c4, rfl, rfl, rfl, rfl⟩ := h.slices
  have HFA := hid (fun w' (f : Fr (fun _ => False) w w') => few_is (h.fre f))
  have HM0 := hid (fun w' (f : Fr (fun _ => False) w w') => Made_is (h0.1.fr f (fun _ _ h => h)) h0.2)
  have HM1 := hid (fun w' (f : Fr (fun _ => False) w w') => Made_is (h1.1.fr f (fun _ _ h => h)) h1.2)
  obtain ⟨q0, hq0⟩ : ∃ v, v = p0.1 := ⟨_, rfl⟩
  obtain ⟨q1, hq1⟩ : ∃ v, v = p1.1 := ⟨_, rfl⟩
  rw [← hq0] at HM0
  rw [← hq1] at HM1
  rw [← hq0, ← hq1]
  have HIN := hid (few_in ha)
  have e1 := bs_size s
  obtain ⟨qs, hms, es, hqs⟩ := cut_str s 500
  obtain ⟨hms1, hms2⟩ := hms 500 rfl
  have hqs0 : (0 : Int) ≤ (qs : Int) := by omega
  have hsl := hid (show (s.take 500).length ≤ 500 by rw [List.length_take]; omega)
  generalize s.take 500 = sc at *
  clear h h0 h1 ha hms hq0 hq1
  have B0 := hid ((Blk.new w (rv a (.slice a1 a.old.length c1) (.slice a2 a.new.length c2) (.slice a3 a.edits.length c3) (.slice a4 a.xids.length c4)) 27).alloc (.cells #[q0, q1] 38))
  have B1 := hid (Blk.new (w.alloc (.cells (rv a (.slice a1 a.old.length c1) (.slice a2 a.new.length c2) (.slice a3 a.edits.length c3) (.slice a4 a.xids.length c4)).toArray 27)) [q0, q1] 38)
  have F0 := hid (((Fr.refl (fun _ => False) w).alloc (.cells (rv a (.slice a1 a.old.length c1) (.slice a2 a.new.length c2) (.slice a3 a.edits.length c3) (.slice a4 a.xids.length c4)).toArray 27)).alloc (.cells #[q0, q1] 38))
  rw [World.size_alloc] at B1
  unfold rv at *
  go_enter Try.func5, Try.ntmps5
  go_upto_region 1 with fail
  generalize (w.alloc _).alloc _ = W1 at *
  go_upto_region 2 with (go_at_call 12; refine (HSA.out _).mono ?_; rintro e w2 ⟨rfl, f⟩; replace F0 := hid (F0.out.trans f (fun _ h _ => h)); replace B0 := hid (B0.out.fr f (fun h => h)); replace B1 := hid (B1.out.fr f (fun h => h)); clear f)
  obtain ⟨p0, p1, p2, p3, p4, p5, p6, p7⟩ := rec_cells (k := a.kind) (x := a.xid) (t := a.table) (o := a.old) (n := a.new) (ed := a.edits) (xs := a.xids) (nt := a.note) B0.out
  go_upto_region 3 with (first
    | (go_at_call 13; refine (HFA.out _ F0.out).mono ?_; rintro e w3 ⟨x1, x2, x3, x4, y1, y2, y3, y4, rfl, hq⟩; have HQA := hid hq; have F1 := hid (F0.out.trans hq.fr (fun _ h _ => h)); have C0 := hid (B0.out.fr hq.fr (fun h => h)); have C1 := hid (B1.out.fr hq.fr (fun h => h)); have th := C0.out.there 0 8 (by simp); clear hq)
    | (refine wpList_store_mid rfl 27 (.tmp 3) (.tmp 19) rfl w.heap.size 0 #[.int .i64 (R.few a).kind, .int .i64 (R.few a).xid, .int .i64 (R.few a).table, .slice x1 (R.few a).old.length y1, .slice x2 (R.few a).new.length y2, .slice x3 (R.few a).edits.length y3, .slice x4 (R.few a).xids.length y4, .string (bs (R.few a).note)] rfl rfl th size_Rec (by simp [Value.oneCell']) ?_))
  have hwl := B0.out.lt
  have fs := (Fr.refl (fun k => k = w.heap.size) w3).put w.heap.size 0 [.int .i64 (R.few a).kind, .int .i64 (R.few a).xid, .int .i64 (R.few a).table, .slice x1 (R.few a).old.length y1, .slice x2 (R.few a).new.length y2, .slice x3 (R.few a).edits.length y3, .slice x4 (R.few a).xids.length y4, .string (bs (R.few a).note)] (fun _ => rfl)
  have HRA := hid (HQA.out.rv.fr fs (fun k hk e => by omega))
  have D0 := hid (C0.out.put 0 [.int .i64 (R.few a).kind, .int .i64 (R.few a).xid, .int .i64 (R.few a).table, .slice x1 (R.few a).old.length y1, .slice x2 (R.few a).new.length y2, .slice x3 (R.few a).edits.length y3, .slice x4 (R.few a).xids.length y4, .string (bs (R.few a).note)] (by simp))
  have D1 := hid (C1.out.fr fs (fun e => by omega))
  have G1 := hid (F1.out.trans fs (fun k hk hl => by omega))
  have hsz := fs.size
  have HLA := hid (few_lens a)
  clear p0 p1 p2 p3 p4 p5 p6 p7 th B0 B1 F0 F1 C0 C1 HFA HQA hwl
  have HSZ3 := hid hsz
  clear hsz fs
  generalize w3.setCells _ _ _ = W3 at *
  generalize R.few a = A at *
  dsimp only at HRA D0
  simp only [List.take_zero, List.nil_append] at D0
  have HA : Hid (At W3 w.heap.size A (.slice x1 A.old.length y1) (.slice x2 A.new.length y2) (.slice x3 A.edits.length y3) (.slice x4 A.xids.length y4)) := hid ⟨D0.out, HRA.out.mono (fun k hk => by have := HSZ3.out; omega) (fun _ h => h)⟩
  clear D0 HRA HSZ3
  have HD1 := D1
  obtain ⟨d1, hd1⟩ : ∃ d1, d1 = w.heap.size + 1 := ⟨_, rfl⟩
  obtain ⟨d0, hd0⟩ : ∃ d0, d0 = w.heap.size := ⟨_, rfl⟩
  rw [← hd1] at HD1 ⊢
  rw [← hd0] at HA ⊢
  clear D1 hd0 hd1
  have c0 : W3.cell? ⟨d1, 0, none⟩ = some q0 := HD1.out.cell 0
  go_upto_region 4 with (go_at_call 14; refine (HM0.out _ G1.out).mono ?_; rintro e w4 ⟨qa, z1, z2, z3, z4, t1, t2, t3, t4, rfl, hv, hgd, f⟩; have HV := hid hv; have HGA := hid hgd; have F2 := hid f; clear hv hgd f)
  have f4 := F2.out.alloc (.cells #[.int .i64 qa.kind, .int .i64 qa.xid, .int .i64 qa.table, .slice z1 qa.old.length t1, .slice z2 qa.new.length t2, .slice z3 qa.edits.length t3, .slice z4 qa.xids.length t4, .string (bs qa.note)] 27)
  have HQA : Hid (At (w4.alloc (.cells #[.int .i64 qa.kind, .int .i64 qa.xid, .int .i64 qa.table, .slice z1 qa.old.length t1, .slice z2 qa.new.length t2, .slice z3 qa.edits.length t3, .slice z4 qa.xids.length t4, .string (bs qa.note)] 27)) w4.heap.size qa (.slice z1 qa.old.length t1) (.slice z2 qa.new.length t2) (.slice z3 qa.edits.length t3) (.slice z4 qa.xids.length t4)) := hid (At.new HV.out)
  replace HA := hid (HA.out.fre f4)
  replace HD1 := hid (Blk.fr HD1.out f4 (fun h => h))
  replace G1 := hid (G1.out.trans f4 (fun _ h _ => h))
  clear f4 F2 HV c0
  generalize w4.heap.size = da at *
  generalize w4.alloc _ = W4 at *
  have c1 : W4.cell? ⟨d1, 1, none⟩ = some q1 := HD1.out.cell 1
  go_upto_region 5 with (go_at_call 14; refine (HM1.out _ G1.out).mono ?_; rintro e w5 ⟨qb, u1, u2, u3, u4, v1, v2, v3, v4, rfl, hv, hgd, f⟩; have HV := hid hv; have HGB := hid hgd; have F2 := hid f; clear hv hgd f)
  have f5 := F2.out.alloc (.cells #[.int .i64 qb.kind, .int .i64 qb.xid, .int .i64 qb.table, .slice u1 qb.old.length v1, .slice u2 qb.new.length v2, .slice u3 qb.edits.length v3, .slice u4 qb.xids.length v4, .string (bs qb.note)] 27)
  have HQB : Hid (At (w5.alloc (.cells #[.int .i64 qb.kind, .int .i64 qb.xid, .int .i64 qb.table, .slice u1 qb.old.length v1, .slice u2 qb.new.length v2, .slice u3 qb.edits.length v3, .slice u4 qb.xids.length v4, .string (bs qb.note)] 27)) w5.heap.size qb (.slice u1 qb.old.length v1) (.slice u2 qb.new.length v2) (.slice u3 qb.edits.length v3) (.slice u4 qb.xids.length v4)) := hid (At.new HV.out)
  replace HA := hid (HA.out.fre f5)
  replace HQA := hid (HQA.out.fre f5)
  replace G1 := hid (G1.out.trans f5 (fun _ h _ => h))
  clear f5 F2 HV c1 HD1 HM0 HM1 HSA
  generalize w5.heap.size = db at *
  generalize w5.alloc _ = W5 at *
  obtain ⟨⟨pr, pe⟩, hrp⟩ : ∃ rp : R × Int, rp = readR A.bytes := ⟨_, rfl⟩
  have hal : A.bytes.length ≤ 1099511627776 := by
    unfold R.bytes
    split
    · rename_i hh
      have := raw_le hh
      omega
    · simp
  have HRP := hid (RRead_is (r := pr) (e := pe) hrp.symm hal)
  have HRI := hid (show A.right = true → (pr, pe) = (A.plain, (0 : Int)) from fun hh => by
    rw [hrp]
    unfold R.bytes
    rw [if_pos hh]
    exact readR_raw hh HIN.out.1 HIN.out.2)
  clear hrp hal
  have HBA := hid (fun w' (f : Fr (fun _ => False) W5 w') => RBytes_go (HA.out.v.fre f))
  obtain ⟨lA, hlA⟩ : ∃ l, l = A.bytes := ⟨_, rfl⟩
  rw [← hlA] at HRP HBA
  clear hlA
  obtain ⟨p0, p1, p2, p3, p4, p5, p6, p7⟩ := rec_cells (k := A.kind) (x := A.xid) (t := A.table) (o := A.old) (n := A.new) (ed := A.edits) (xs := A.xids) (nt := A.note) HA.out.b
  go_upto_region 7 with (first
    | (go_at_call 17; refine (HBA.out _ (Fr.refl _ _)).mono ?_; rintro e w6 ⟨rfl, f⟩; have F6 := hid f; clear f)
    | (go_at_call 22; refine (HRP.out _).mono ?_; rintro e w7 ⟨g1, g2, g3, g4, k1, k2, k3, k4, rfl, hv, f⟩; have HV := hid hv; have F7 := hid (F6.out.trans f (fun _ h _ => h)); clear hv f))
  have f7 := F7.out.alloc (.cells #[.int .i64 pr.kind, .int .i64 pr.xid, .int .i64 pr.table, .slice g1 pr.old.length k1, .slice g2 pr.new.length k2, .slice g3 pr.edits.length k3, .slice g4 pr.xids.length k4, .string (bs pr.note)] 27)
  have HPP : Hid (At (w7.alloc (.cells #[.int .i64 pr.kind, .int .i64 pr.xid, .int .i64 pr.table, .slice g1 pr.old.length k1, .slice g2 pr.new.length k2, .slice g3 pr.edits.length k3, .slice g4 pr.xids.length k4, .string (bs pr.note)] 27)) w7.heap.size pr (.slice g1 pr.old.length k1) (.slice g2 pr.new.length k2) (.slice g3 pr.edits.length k3) (.slice g4 pr.xids.length k4)) := hid (At.new HV.out)
  replace HA := hid (HA.out.fre f7)
  replace HQA := hid (HQA.out.fre f7)
  replace HQB := hid (HQB.out.fre f7)
  replace G1 := hid (G1.out.trans f7 (fun _ h _ => h))
  clear f7 F6 F7 HV HBA HRP p0 p1 p2 p3 p4 p5 p6 p7
  generalize w7.heap.size = dp at *
  generalize w7.alloc _ = W7 at *
  have HRQ := hid (RRead_is HGA.out.back (by have := raw_le HGA.out.right; omega))
  have HBQ := hid (fun w' (f : Fr (fun _ => False) W7 w') => RBytes_go (HQA.out.v.fre f))
  have HBB := hid (fun w' (f : Fr (fun _ => False) W7 w') => RBytes_go (HQB.out.v.fre f))
  have hba : qa.bytes = qa.raw := by unfold R.bytes; rw [if_pos HGA.out.right]
  have hbb : qb.bytes = qb.raw := by unfold R.bytes; rw [if_pos HGB.out.right]
  rw [hba] at HBQ
  rw [hbb] at HBB
  have HEQ := hid (show decide (qa.raw = qb.raw) = decide (qa = qb) from by
    by_cases he : qa.raw = qb.raw
    · have e1 := HGA.out.back
      rw [he, HGB.out.back] at e1
      have : qb = qa := congrArg Prod.fst e1
      rw [decide_eq_true he, decide_eq_true this.symm]
    · rw [decide_eq_false he, decide_eq_false (fun e => he (by rw [e]))])
  clear hba hbb HGA HGB
  generalize qa.raw = ra at *
  generalize qb.raw = rb at *
  obtain ⟨p0, p1, p2, p3, p4, p5, p6, p7⟩ := rec_cells (k := qa.kind) (x := qa.xid) (t := qa.table) (o := qa.old) (n := qa.new) (ed := qa.edits) (xs := qa.xids) (nt := qa.note) HQA.out.b
  go_upto_region 8 with (first
    | (go_at_call 17; refine (HBQ.out _ (Fr.refl _ _)).mono ?_; rintro e w8 ⟨rfl, f⟩; have F8 := hid f; clear f)
    | (go_at_call 22; refine (HRQ.out _).mono ?_; rintro e w9 ⟨m1, m2, m3, m4, n1, n2, n3, n4, rfl, hv, f⟩; have HV := hid hv; have F9 := hid (F8.out.trans f (fun _ h _ => h)); clear hv f))
  have f9 := F9.out.alloc (.cells #[.int .i64 qa.kind, .int .i64 qa.xid, .int .i64 qa.table, .slice m1 qa.old.length n1, .slice m2 qa.new.length n2, .slice m3 qa.edits.length n3, .slice m4 qa.xids.length n4, .string (bs qa.note)] 27)
  have HQQ : Hid (At (w9.alloc (.cells #[.int .i64 qa.kind, .int .i64 qa.xid, .int .i64 qa.table, .slice m1 qa.old.length n1, .slice m2 qa.new.length n2, .slice m3 qa.edits.length n3, .slice m4 qa.xids.length n4, .string (bs qa.note)] 27)) w9.heap.size qa (.slice m1 qa.old.length n1) (.slice m2 qa.new.length n2) (.slice m3 qa.edits.length n3) (.slice m4 qa.xids.length n4)) := hid (At.new HV.out)
  replace HA := hid (HA.out.fre f9)
  replace HQA := hid (HQA.out.fre f9)
  replace HQB := hid (HQB.out.fre f9)
  replace HPP := hid (HPP.out.fre f9)
  replace HBQ := hid (fun w' (f : Fr (fun _ => False) _ w') => HBQ.out w' (f9.trans f (fun _ h _ => h)))
  replace HBB := hid (fun w' (f : Fr (fun _ => False) _ w') => HBB.out w' (f9.trans f (fun _ h _ => h)))
  replace G1 := hid (G1.out.trans f9 (fun _ h _ => h))
  clear f9 F8 F9 HV HRQ p0 p1 p2 p3 p4 p5 p6 p7
  generalize w9.heap.size = dq at *
  generalize w9.alloc _ = W9 at *
  obtain ⟨⟨tr, te⟩, htr⟩ : ∃ rp : R × Int, rp = readR sc := ⟨_, rfl⟩
  have HRT := hid (RRead_is (r := tr) (e := te) htr.symm (by have := hsl.out; omega))
  have HTB := hid (show te = 0 → tr.bytes = sc from fun h0 => by subst h0; exact (readR_back htr.symm).1)
  clear htr
  go_upto_region 9 with (go_at_call 22; refine (HRT.out _).mono ?_; rintro e w10 ⟨i1, i2, i3, i4, j1, j2, j3, j4, rfl, hv, f⟩; have HV := hid hv; have F10 := hid f; clear hv f)
  have f10 := F10.out.alloc (.cells #[.int .i64 tr.kind, .int .i64 tr.xid, .int .i64 tr.table, .slice i1 tr.old.length j1, .slice i2 tr.new.length j2, .slice i3 tr.edits.length j3, .slice i4 tr.xids.length j4, .string (bs tr.note)] 27)
  have HTT : Hid (At (w10.alloc (.cells #[.int .i64 tr.kind, .int .i64 tr.xid, .int .i64 tr.table, .slice i1 tr.old.length j1, .slice i2 tr.new.length j2, .slice i3 tr.edits.length j3, .slice i4 tr.xids.length j4, .string (bs tr.note)] 27)) w10.heap.size tr (.slice i1 tr.old.length j1) (.slice i2 tr.new.length j2) (.slice i3 tr.edits.length j3) (.slice i4 tr.xids.length j4)) := hid (At.new HV.out)
  replace HA := hid (HA.out.fre f10)
  replace HQA := hid (HQA.out.fre f10)
  replace HQB := hid (HQB.out.fre f10)
  replace HPP := hid (HPP.out.fre f10)
  replace HQQ := hid (HQQ.out.fre f10)
  replace HBQ := hid (fun w' (f : Fr (fun _ => False) _ w') => HBQ.out w' (f10.trans f (fun _ h _ => h)))
  replace HBB := hid (fun w' (f : Fr (fun _ => False) _ w') => HBB.out w' (f10.trans f (fun _ h _ => h)))
  replace G1 := hid (G1.out.trans f10 (fun _ h _ => h))
  clear f10 F10 HV HRT
  generalize w10.heap.size = dt at *
  generalize w10.alloc _ = W10 at *
  go_cut [16] (fun s16 wx => s16 = .bool true ∧ Fr (fun _ => False) W10 wx)
  case first =>
    have E0 := hid ((Fr.refl (fun _ => False) W10).drew)
    have RA0 := hid (Blk.all _ HA.out.b.drew)
    have RP0 := hid (Blk.all _ HPP.out.b.drew)
    have HRR := hid (fun w' (f : Fr (fun _ => False) W10 w') => RRight_go (HA.out.v.fre f))
    have HPL := hid (fun w' (f : Fr (fun _ => False) W10 w') => r4Plain_go (HA.out.v.fre f))
    cases hr : A.right with
    | true =>
      have hpp := HRI.out hr
      rw [hr] at HRR
      obtain rfl : pr = A.plain := congrArg Prod.fst hpp
      obtain rfl : pe = 0 := congrArg Prod.snd hpp
      clear hpp hr HRI
      refine wp_region_scr (.take 0 (.op 1 (.take 2 (.take 3 (.take 4 (.take 5 (.take 6 (.take 7 (.take 8 (.op 9 (.op 10 (.take 11 (.take 12 (.take 13 .done)))))))))))))) (fun kz w => (kz ≤ 13 → w.rangeAt d0 0 (rv A (.slice x1 A.old.length y1) (.slice x2 A.new.length y2) (.slice x3 A.edits.length y3) (.slice x4 A.xids.length y4))) ∧ w.rangeAt dp 0 (rv A.plain (.slice g1 A.plain.old.length k1) (.slice g2 A.plain.new.length k2) (.slice g3 A.plain.edits.length k3) (.slice g4 A.plain.xids.length k4))) (by kernel_rfl) (by kernel_rfl) (by intro c a d v w h; cases d <;> exact h) ?_
      repeat
        first
        | (refine wpT_pure rfl rfl rfl ?_; apply Exists.intro; refine ⟨?_, ?_⟩; intro w; (first | (first | exact run_load_mid _ _ rfl d0 _ rfl _ _ qa Try.underlying27 rfl size_Rec | exact run_load_mid _ _ rfl dp _ rfl _ _ qb Try.underlying27 rfl size_Rec) | (go_simp <;> rfl)); simp only [Act.put, List.setIfInBounds_toArray, List.set_cons_zero, List.set_cons_succ])
        | (refine wpT_take 13 rfl rfl (by decide +kernel) ⟨fun _ => RA0.out, RP0.out⟩ ?_; apply Exists.intro; refine ⟨?_, ?_⟩; intro w hw; (have qa := hw.1 (Nat.le_refl _); have qb := hw.2); (first | (first | exact run_load_mid _ _ rfl d0 _ rfl _ _ qa Try.underlying27 rfl size_Rec | exact run_load_mid _ _ rfl dp _ rfl _ _ qb Try.underlying27 rfl size_Rec) | (go_simp <;> rfl)); simp only [Act.put, List.setIfInBounds_toArray, List.set_cons_zero, List.set_cons_succ])
        | (refine wpT_skip rfl rfl ?_; simp only [Act.put, List.setIfInBounds_toArray, List.set_cons_zero, List.set_cons_succ])
      refine wpT_op rfl ?_
      go_wp2_with ((go_at_call 15; refine (HRR.out _ E0.out).mono ?_; rintro e w11 ⟨rfl, f⟩; have E1 := hid (E0.out.trans f (fun _ h _ => h)); have RA1 := hid (range_fr RA0.out f (fun h => h)); have RP1 := hid (range_fr RP0.out f (fun h => h)); clear f))
      (refine ⟨?_, ?_⟩; focus (intro kz hk hk2 hh; first | (exfalso; simp at hk2; omega) | exact hh | exact (fun h => absurd h (by omega)) | obtain ⟨qa, qb⟩ := hh; first | exact ⟨qa, qb⟩ | (refine ⟨fun h => absurd h (by omega), ?_⟩; first | exact qb | (first | exact RA1.out | exact RP1.out)) | (refine ⟨fun h => ?_, ?_⟩; (have qa := qa h); all_goals (first | exact qa | exact qb | (first | exact RA1.out | exact RP1.out)))))
      repeat
        first
        | (refine wpT_pure rfl rfl rfl ?_; apply Exists.intro; refine ⟨?_, ?_⟩; intro w; (first | (first | exact run_load_mid _ _ rfl d0 _ rfl _ _ qa Try.underlying27 rfl size_Rec | exact run_load_mid _ _ rfl dp _ rfl _ _ qb Try.underlying27 rfl size_Rec) | (go_simp <;> rfl)); simp only [Act.put, List.setIfInBounds_toArray, List.set_cons_zero, List.set_cons_succ])
        | (refine wpT_take 13 rfl rfl (by decide +kernel) ⟨fun _ => RA1.out, RP1.out⟩ ?_; apply Exists.intro; refine ⟨?_, ?_⟩; intro w hw; (have qa := hw.1 (Nat.le_refl _); have qb := hw.2); (first | (first | exact run_load_mid _ _ rfl d0 _ rfl _ _ qa Try.underlying27 rfl size_Rec | exact run_load_mid _ _ rfl dp _ rfl _ _ qb Try.underlying27 rfl size_Rec) | (go_simp <;> rfl)); simp only [Act.put, List.setIfInBounds_toArray, List.set_cons_zero, List.set_cons_succ])
        | (refine wpT_skip rfl rfl ?_; simp only [Act.put, List.setIfInBounds_toArray, List.set_cons_zero, List.set_cons_succ])
      refine wpT_op rfl ?_
      go_wp2_with ((go_at_call 24; refine (HPL.out _ E1.out).mono ?_; rintro e w12 ⟨ao, an, co, cn, rfl, hv, f⟩; have HVP := hid hv; clear hv; have E2 := hid (E1.out.trans f (fun _ h _ => h)); have RA2 := hid (range_fr RA1.out f (fun h => h)); have RP2 := hid (range_fr RP1.out f (fun h => h)); clear f))
      (refine ⟨?_, ?_⟩; focus (intro kz hk hk2 hh; first | (exfalso; simp at hk2; omega) | exact hh | exact (fun h => absurd h (by omega)) | obtain ⟨qa, qb⟩ := hh; first | exact ⟨qa, qb⟩ | (refine ⟨fun h => absurd h (by omega), ?_⟩; first | exact qb | (first | exact RA2.out | exact RP2.out)) | (refine ⟨fun h => ?_, ?_⟩; (have qa := qa h); all_goals (first | exact qa | exact qb | (first | exact RA2.out | exact RP2.out)))))
      repeat
        first
        | (refine wpT_pure rfl rfl rfl ?_; apply Exists.intro; refine ⟨?_, ?_⟩; intro w; (first | (first | exact run_load_mid _ _ rfl d0 _ rfl _ _ qa Try.underlying27 rfl size_Rec | exact run_load_mid _ _ rfl dp _ rfl _ _ qb Try.underlying27 rfl size_Rec) | (go_simp <;> rfl)); simp only [Act.put, List.setIfInBounds_toArray, List.set_cons_zero, List.set_cons_succ])
        | (refine wpT_take 13 rfl rfl (by decide +kernel) ⟨fun _ => RA2.out, RP2.out⟩ ?_; apply Exists.intro; refine ⟨?_, ?_⟩; intro w hw; (have qa := hw.1 (Nat.le_refl _); have qb := hw.2); (first | (first | exact run_load_mid _ _ rfl d0 _ rfl _ _ qa Try.underlying27 rfl size_Rec | exact run_load_mid _ _ rfl dp _ rfl _ _ qb Try.underlying27 rfl size_Rec) | (go_simp <;> rfl)); simp only [Act.put, List.setIfInBounds_toArray, List.set_cons_zero, List.set_cons_succ])
        | (refine wpT_skip rfl rfl ?_; simp only [Act.put, List.setIfInBounds_toArray, List.set_cons_zero, List.set_cons_succ])
      refine wpT_op rfl ?_
      go_wp2_with ((go_at_call 23; refine (RSame_go (HPP.out.v.fre E2.out) HVP.out).mono ?_; rw [decide_eq_true (rfl : A.plain = A.plain)]; rintro e w13 ⟨rfl, f⟩; have E3 := hid (E2.out.trans f (fun _ h _ => h)); have RA3 := hid (range_fr RA2.out f (fun h => h)); have RP3 := hid (range_fr RP2.out f (fun h => h)); clear f))
      (refine ⟨?_, ?_⟩; focus (intro kz hk hk2 hh; first | (exfalso; simp at hk2; omega) | exact hh | exact (fun h => absurd h (by omega)) | obtain ⟨qa, qb⟩ := hh; first | exact ⟨qa, qb⟩ | (refine ⟨fun h => absurd h (by omega), ?_⟩; first | exact qb | (first | exact RA3.out | exact RP3.out)) | (refine ⟨fun h => ?_, ?_⟩; (have qa := qa h); all_goals (first | exact qa | exact qb | (first | exact RA3.out | exact RP3.out)))))
      repeat
        first
        | (refine wpT_pure rfl rfl rfl ?_; apply Exists.intro; refine ⟨?_, ?_⟩; intro w; (first | (first | exact run_load_mid _ _ rfl d0 _ rfl _ _ qa Try.underlying27 rfl size_Rec | exact run_load_mid _ _ rfl dp _ rfl _ _ qb Try.underlying27 rfl size_Rec) | (go_simp <;> rfl)); simp only [Act.put, List.setIfInBounds_toArray, List.set_cons_zero, List.set_cons_succ])
        | (refine wpT_take 13 rfl rfl (by decide +kernel) ⟨fun _ => RA3.out, RP3.out⟩ ?_; apply Exists.intro; refine ⟨?_, ?_⟩; intro w hw; (have qa := hw.1 (Nat.le_refl _); have qb := hw.2); (first | (first | exact run_load_mid _ _ rfl d0 _ rfl _ _ qa Try.underlying27 rfl size_Rec | exact run_load_mid _ _ rfl dp _ rfl _ _ qb Try.underlying27 rfl size_Rec) | (go_simp <;> rfl)); simp only [Act.put, List.setIfInBounds_toArray, List.set_cons_zero, List.set_cons_succ])
        | (refine wpT_skip rfl rfl ?_; simp only [Act.put, List.setIfInBounds_toArray, List.set_cons_zero, List.set_cons_succ])
      refine wpT_nil ?_
      go_wp2_with (fail)
      go_meet
      exact ⟨rfl, E3.out⟩
    | false =>
      rw [hr] at HRR
      clear hr HRI
      refine wp_region_scr (.take 0 (.op 1 (.take 2 (.take 3 (.take 4 (.take 5 (.take 6 (.take 7 (.take 8 (.op 9 (.op 10 (.take 11 (.take 12 (.take 13 .done)))))))))))))) (fun kz w => (kz ≤ 13 → w.rangeAt d0 0 (rv A (.slice x1 A.old.length y1) (.slice x2 A.new.length y2) (.slice x3 A.edits.length y3) (.slice x4 A.xids.length y4))) ∧ w.rangeAt dp 0 (rv pr (.slice g1 pr.old.length k1) (.slice g2 pr.new.length k2) (.slice g3 pr.edits.length k3) (.slice g4 pr.xids.length k4))) (by kernel_rfl) (by kernel_rfl) (by intro c a d v w h; cases d <;> exact h) ?_
      repeat
        first
        | (refine wpT_pure rfl rfl rfl ?_; apply Exists.intro; refine ⟨?_, ?_⟩; intro w; (first | (first | exact run_load_mid _ _ rfl d0 _ rfl _ _ qa Try.underlying27 rfl size_Rec | exact run_load_mid _ _ rfl dp _ rfl _ _ qb Try.underlying27 rfl size_Rec) | (go_simp <;> rfl)); simp only [Act.put, List.setIfInBounds_toArray, List.set_cons_zero, List.set_cons_succ])
        | (refine wpT_take 13 rfl rfl (by decide +kernel) ⟨fun _ => RA0.out, RP0.out⟩ ?_; apply Exists.intro; refine ⟨?_, ?_⟩; intro w hw; (have qa := hw.1 (Nat.le_refl _); have qb := hw.2); (first | (first | exact run_load_mid _ _ rfl d0 _ rfl _ _ qa Try.underlying27 rfl size_Rec | exact run_load_mid _ _ rfl dp _ rfl _ _ qb Try.underlying27 rfl size_Rec) | (go_simp <;> rfl)); simp only [Act.put, List.setIfInBounds_toArray, List.set_cons_zero, List.set_cons_succ])
        | (refine wpT_skip rfl rfl ?_; simp only [Act.put, List.setIfInBounds_toArray, List.set_cons_zero, List.set_cons_succ])
      refine wpT_op rfl ?_
      go_wp2_with ((go_at_call 15; refine (HRR.out _ E0.out).mono ?_; rintro e w11 ⟨rfl, f⟩; have E1 := hid (E0.out.trans f (fun _ h _ => h)); have RA1 := hid (range_fr RA0.out f (fun h => h)); have RP1 := hid (range_fr RP0.out f (fun h => h)); clear f))
      (refine ⟨?_, ?_⟩; focus (intro kz hk hk2 hh; first | (exfalso; simp at hk2; omega) | exact hh | exact (fun h => absurd h (by omega)) | obtain ⟨qa, qb⟩ := hh; first | exact ⟨qa, qb⟩ | (refine ⟨fun h => absurd h (by omega), ?_⟩; first | exact qb | (first | exact RA1.out | exact RP1.out)) | (refine ⟨fun h => ?_, ?_⟩; (have qa := qa h); all_goals (first | exact qa | exact qb | (first | exact RA1.out | exact RP1.out)))))
      repeat
        first
        | (refine wpT_pure rfl rfl rfl ?_; apply Exists.intro; refine ⟨?_, ?_⟩; intro w; (first | (first | exact run_load_mid _ _ rfl d0 _ rfl _ _ qa Try.underlying27 rfl size_Rec | exact run_load_mid _ _ rfl dp _ rfl _ _ qb Try.underlying27 rfl size_Rec) | (go_simp <;> rfl)); simp only [Act.put, List.setIfInBounds_toArray, List.set_cons_zero, List.set_cons_succ])
        | (refine wpT_take 13 rfl rfl (by decide +kernel) ⟨fun _ => RA1.out, RP1.out⟩ ?_; apply Exists.intro; refine ⟨?_, ?_⟩; intro w hw; (have qa := hw.1 (Nat.le_refl _); have qb := hw.2); (first | (first | exact run_load_mid _ _ rfl d0 _ rfl _ _ qa Try.underlying27 rfl size_Rec | exact run_load_mid _ _ rfl dp _ rfl _ _ qb Try.underlying27 rfl size_Rec) | (go_simp <;> rfl)); simp only [Act.put, List.setIfInBounds_toArray, List.set_cons_zero, List.set_cons_succ])
        | (refine wpT_skip rfl rfl ?_; simp only [Act.put, List.setIfInBounds_toArray, List.set_cons_zero, List.set_cons_succ])
      refine wpT_op rfl ?_
      go_wp2_with (fail)
      (refine ⟨?_, ?_⟩; focus (intro kz hk hk2 hh; first | (exfalso; simp at hk2; omega) | exact hh | exact (fun h => absurd h (by omega)) | obtain ⟨qa, qb⟩ := hh; first | exact ⟨qa, qb⟩ | (refine ⟨fun h => absurd h (by omega), ?_⟩; first | exact qb | (first | exact RA1.out | exact RP1.out)) | (refine ⟨fun h => ?_, ?_⟩; (have qa := qa h); all_goals (first | exact qa | exact qb | (first | exact RA1.out | exact RP1.out)))))
      repeat
        first
        | (refine wpT_pure rfl rfl rfl ?_; apply Exists.intro; refine ⟨?_, ?_⟩; intro w; (first | (first | exact run_load_mid _ _ rfl d0 _ rfl _ _ qa Try.underlying27 rfl size_Rec | exact run_load_mid _ _ rfl dp _ rfl _ _ qb Try.underlying27 rfl size_Rec) | (go_simp <;> rfl)); simp only [Act.put, List.setIfInBounds_toArray, List.set_cons_zero, List.set_cons_succ])
        | (refine wpT_take 13 rfl rfl (by decide +kernel) ⟨fun _ => RA1.out, RP1.out⟩ ?_; apply Exists.intro; refine ⟨?_, ?_⟩; intro w hw; (have qa := hw.1 (Nat.le_refl _); have qb := hw.2); (first | (first | exact run_load_mid _ _ rfl d0 _ rfl _ _ qa Try.underlying27 rfl size_Rec | exact run_load_mid _ _ rfl dp _ rfl _ _ qb Try.underlying27 rfl size_Rec) | (go_simp <;> rfl)); simp only [Act.put, List.setIfInBounds_toArray, List.set_cons_zero, List.set_cons_succ])
        | (refine wpT_skip rfl rfl ?_; simp only [Act.put, List.setIfInBounds_toArray, List.set_cons_zero, List.set_cons_succ])
      refine wpT_op rfl ?_
      go_wp2_with (fail)
      (refine ⟨?_, ?_⟩; focus (intro kz hk hk2 hh; first | (exfalso; simp at hk2; omega) | exact hh | exact (fun h => absurd h (by omega)) | obtain ⟨qa, qb⟩ := hh; first | exact ⟨qa, qb⟩ | (refine ⟨fun h => absurd h (by omega), ?_⟩; first | exact qb | (first | exact RA1.out | exact RP1.out)) | (refine ⟨fun h => ?_, ?_⟩; (have qa := qa h); all_goals (first | exact qa | exact qb | (first | exact RA1.out | exact RP1.out)))))
      repeat
        first
        | (refine wpT_pure rfl rfl rfl ?_; apply Exists.intro; refine ⟨?_, ?_⟩; intro w; (first | (first | exact run_load_mid _ _ rfl d0 _ rfl _ _ qa Try.underlying27 rfl size_Rec | exact run_load_mid _ _ rfl dp _ rfl _ _ qb Try.underlying27 rfl size_Rec) | (go_simp <;> rfl)); simp only [Act.put, List.setIfInBounds_toArray, List.set_cons_zero, List.set_cons_succ])
        | (refine wpT_take 13 rfl rfl (by decide +kernel) ⟨fun _ => RA1.out, RP1.out⟩ ?_; apply Exists.intro; refine ⟨?_, ?_⟩; intro w hw; (have qa := hw.1 (Nat.le_refl _); have qb := hw.2); (first | (first | exact run_load_mid _ _ rfl d0 _ rfl _ _ qa Try.underlying27 rfl size_Rec | exact run_load_mid _ _ rfl dp _ rfl _ _ qb Try.underlying27 rfl size_Rec) | (go_simp <;> rfl)); simp only [Act.put, List.setIfInBounds_toArray, List.set_cons_zero, List.set_cons_succ])
        | (refine wpT_skip rfl rfl ?_; simp only [Act.put, List.setIfInBounds_toArray, List.set_cons_zero, List.set_cons_succ])
      refine wpT_nil ?_
      go_wp2_with (fail)
      go_meet
      exact ⟨rfl, E1.out⟩
  case rest =>
  obtain ⟨rfl, fw⟩ := hcut
  have EW := hid fw
  have HQA' := hid (HQA.out.fre fw)
  have HQB' := hid (HQB.out.fre fw)
  have HQQ' := hid (HQQ.out.fre fw)
  have HTT' := hid (HTT.out.fre fw)
  clear fw HA HPP HQA HQB HQQ HTT HRI
  have HS1 := hid (fun w' (f : Fr (fun _ => False) wc w') => RSame_go (HQQ'.out.v.fre f) (HQA'.out.v.fre f))
  rw [decide_eq_true (rfl : qa = qa)] at HS1
  have HS2 := hid (fun w' (f : Fr (fun _ => False) wc w') => RSame_go (HQA'.out.v.fre f) (HQB'.out.v.fre f))
  have hraw : ((bs ra).toList == (bs rb).toList) = decide (qa = qb) := by rw [beq_dec]; exact HEQ.out
  generalize decide (qa = qb) = ab at *
  clear HEQ
  go_upto_region 10 with fail
  have E0 := hid ((Fr.refl (fun _ => False) wc).drew)
  have RA0 := hid (Blk.all _ HQA'.out.b.drew)
  have RB0 := hid (Blk.all _ HQB'.out.b.drew)
  have RQ0 := hid (Blk.all _ HQQ'.out.b.drew)
  have RT0 := hid (Blk.all _ HTT'.out.b.drew)
  by_cases ht0 : te = 0
  · subst ht0
    have HBT := hid (fun w' (f : Fr (fun _ => False) wc w') => RBytes_go (HTT'.out.v.fre f))
    rw [HTB.out rfl] at HBT
    clear HTB
    refine wp_region_scr (.take 0 (.take 1 (.take 2 (.take 3 (.take 4 (.take 5 (.take 6 (.take 7 (.take 8 (.take 9 (.take 10 (.op 11 (.take 12 (.take 13 (.take 14 (.take 15 (.take 16 (.take 17 (.take 19 (.op 18 (.take 20 (.take 21 (.take 22 (.take 23 (.take 24 (.take 26 (.take 29 (.take 30 (.op 25 (.op 27 (.take 28 (.op 31 (.take 32 (.take 33 (.take 34 .done))))))))))))))))))))))))))))))))))) (fun kz w => (kz ≤ 34 → w.rangeAt da 0 (rv qa (.slice z1 qa.old.length t1) (.slice z2 qa.new.length t2) (.slice z3 qa.edits.length t3) (.slice z4 qa.xids.length t4)) ∧ w.rangeAt db 0 (rv qb (.slice u1 qb.old.length v1) (.slice u2 qb.new.length v2) (.slice u3 qb.edits.length v3) (.slice u4 qb.xids.length v4))) ∧ w.rangeAt dq 0 (rv qa (.slice m1 qa.old.length n1) (.slice m2 qa.new.length n2) (.slice m3 qa.edits.length n3) (.slice m4 qa.xids.length n4)) ∧ w.rangeAt dt 0 (rv tr (.slice i1 tr.old.length j1) (.slice i2 tr.new.length j2) (.slice i3 tr.edits.length j3) (.slice i4 tr.xids.length j4))) (by kernel_rfl) (by kernel_rfl) (by intro c a d v w h; cases d <;> exact h) ?_
    repeat
      first
      | (refine wpT_pure rfl rfl rfl ?_; apply Exists.intro; refine ⟨?_, ?_⟩; intro w; (first | (first | exact run_load_mid _ _ rfl da _ rfl _ _ qa.1 Try.underlying27 rfl size_Rec | exact run_load_mid _ _ rfl db _ rfl _ _ qa.2 Try.underlying27 rfl size_Rec | exact run_load_mid _ _ rfl dq _ rfl _ _ qb.1 Try.underlying27 rfl size_Rec | exact run_load_mid _ _ rfl dt _ rfl _ _ qb.2 Try.underlying27 rfl size_Rec) | (go_simp <;> rfl)); simp only [Act.put, List.setIfInBounds_toArray, List.set_cons_zero, List.set_cons_succ])
      | (refine wpT_take 34 rfl rfl (by decide +kernel) ⟨fun _ => ⟨RA0.out, RB0.out⟩, RQ0.out, RT0.out⟩ ?_; apply Exists.intro; refine ⟨?_, ?_⟩; intro w hw; (have qa := hw.1 (Nat.le_refl _); have qb := hw.2); (first | (first | exact run_load_mid _ _ rfl da _ rfl _ _ qa.1 Try.underlying27 rfl size_Rec | exact run_load_mid _ _ rfl db _ rfl _ _ qa.2 Try.underlying27 rfl size_Rec | exact run_load_mid _ _ rfl dq _ rfl _ _ qb.1 Try.underlying27 rfl size_Rec | exact run_load_mid _ _ rfl dt _ rfl _ _ qb.2 Try.underlying27 rfl size_Rec) | (go_simp <;> rfl)); simp only [Act.put, List.setIfInBounds_toArray, List.set_cons_zero, List.set_cons_succ])
      | (refine wpT_skip rfl rfl ?_; simp only [Act.put, List.setIfInBounds_toArray, List.set_cons_zero, List.set_cons_succ])
    refine wpT_op rfl ?_
    go_wp2_with ((go_at_call 23; refine (HS1.out _ E0.out).mono ?_; rintro e w14 ⟨rfl, f⟩; have E1 := hid (E0.out.trans f (fun _ h _ => h)); have RA1 := hid (range_fr RA0.out f (fun h => h)); have RB1 := hid (range_fr RB0.out f (fun h => h)); have RQ1 := hid (range_fr RQ0.out f (fun h => h)); have RT1 := hid (range_fr RT0.out f (fun h => h)); clear f))
    (refine ⟨?_, ?_⟩; focus (intro kz hk hk2 hh; first | (exfalso; simp at hk2; omega) | exact hh | exact (fun h => absurd h (by omega)) | obtain ⟨qa, qb⟩ := hh; first | exact ⟨qa, qb⟩ | (refine ⟨fun h => absurd h (by omega), ?_⟩; first | exact qb | (first | exact ⟨RA1.out, RB1.out⟩ | exact ⟨RQ1.out, RT1.out⟩)) | (refine ⟨fun h => ?_, ?_⟩; (have qa := qa h); all_goals (first | exact qa | exact qb | (first | exact ⟨RA1.out, RB1.out⟩ | exact ⟨RQ1.out, RT1.out⟩)))))
    repeat
      first
      | (refine wpT_pure rfl rfl rfl ?_; apply Exists.intro; refine ⟨?_, ?_⟩; intro w; (first | (first | exact run_load_mid _ _ rfl da _ rfl _ _ qa.1 Try.underlying27 rfl size_Rec | exact run_load_mid _ _ rfl db _ rfl _ _ qa.2 Try.underlying27 rfl size_Rec | exact run_load_mid _ _ rfl dq _ rfl _ _ qb.1 Try.underlying27 rfl size_Rec | exact run_load_mid _ _ rfl dt _ rfl _ _ qb.2 Try.underlying27 rfl size_Rec) | (go_simp <;> rfl)); simp only [Act.put, List.setIfInBounds_toArray, List.set_cons_zero, List.set_cons_succ])
      | (refine wpT_take 34 rfl rfl (by decide +kernel) ⟨fun _ => ⟨RA1.out, RB1.out⟩, RQ1.out, RT1.out⟩ ?_; apply Exists.intro; refine ⟨?_, ?_⟩; intro w hw; (have qa := hw.1 (Nat.le_refl _); have qb := hw.2); (first | (first | exact run_load_mid _ _ rfl da _ rfl _ _ qa.1 Try.underlying27 rfl size_Rec | exact run_load_mid _ _ rfl db _ rfl _ _ qa.2 Try.underlying27 rfl size_Rec | exact run_load_mid _ _ rfl dq _ rfl _ _ qb.1 Try.underlying27 rfl size_Rec | exact run_load_mid _ _ rfl dt _ rfl _ _ qb.2 Try.underlying27 rfl size_Rec) | (go_simp <;> rfl)); simp only [Act.put, List.setIfInBounds_toArray, List.set_cons_zero, List.set_cons_succ])
      | (refine wpT_skip rfl rfl ?_; simp only [Act.put, List.setIfInBounds_toArray, List.set_cons_zero, List.set_cons_succ])
    refine wpT_op rfl ?_
    go_wp2_with ((go_at_call 17; refine (HBT.out _ E1.out).mono ?_; rintro e w15 ⟨rfl, f⟩; have E2 := hid (E1.out.trans f (fun _ h _ => h)); have RA2 := hid (range_fr RA1.out f (fun h => h)); have RB2 := hid (range_fr RB1.out f (fun h => h)); have RQ2 := hid (range_fr RQ1.out f (fun h => h)); have RT2 := hid (range_fr RT1.out f (fun h => h)); clear f))
    (refine ⟨?_, ?_⟩; focus (intro kz hk hk2 hh; first | (exfalso; simp at hk2; omega) | exact hh | exact (fun h => absurd h (by omega)) | obtain ⟨qa, qb⟩ := hh; first | exact ⟨qa, qb⟩ | (refine ⟨fun h => absurd h (by omega), ?_⟩; first | exact qb | (first | exact ⟨RA2.out, RB2.out⟩ | exact ⟨RQ2.out, RT2.out⟩)) | (refine ⟨fun h => ?_, ?_⟩; (have qa := qa h); all_goals (first | exact qa | exact qb | (first | exact ⟨RA2.out, RB2.out⟩ | exact ⟨RQ2.out, RT2.out⟩)))))
    repeat
      first
      | (refine wpT_pure rfl rfl rfl ?_; apply Exists.intro; refine ⟨?_, ?_⟩; intro w; (first | (first | exact run_load_mid _ _ rfl da _ rfl _ _ qa.1 Try.underlying27 rfl size_Rec | exact run_load_mid _ _ rfl db _ rfl _ _ qa.2 Try.underlying27 rfl size_Rec | exact run_load_mid _ _ rfl dq _ rfl _ _ qb.1 Try.underlying27 rfl size_Rec | exact run_load_mid _ _ rfl dt _ rfl _ _ qb.2 Try.underlying27 rfl size_Rec) | (go_simp <;> rfl)); simp only [Act.put, List.setIfInBounds_toArray, List.set_cons_zero, List.set_cons_succ])
      | (refine wpT_take 34 rfl rfl (by decide +kernel) ⟨fun _ => ⟨RA2.out, RB2.out⟩, RQ2.out, RT2.out⟩ ?_; apply Exists.intro; refine ⟨?_, ?_⟩; intro w hw; (have qa := hw.1 (Nat.le_refl _); have qb := hw.2); (first | (first | exact run_load_mid _ _ rfl da _ rfl _ _ qa.1 Try.underlying27 rfl size_Rec | exact run_load_mid _ _ rfl db _ rfl _ _ qa.2 Try.underlying27 rfl size_Rec | exact run_load_mid _ _ rfl dq _ rfl _ _ qb.1 Try.underlying27 rfl size_Rec | exact run_load_mid _ _ rfl dt _ rfl _ _ qb.2 Try.underlying27 rfl size_Rec) | (go_simp <;> rfl)); simp only [Act.put, List.setIfInBounds_toArray, List.set_cons_zero, List.set_cons_succ])
      | (refine wpT_skip rfl rfl ?_; simp only [Act.put, List.setIfInBounds_toArray, List.set_cons_zero, List.set_cons_succ])
    refine wpT_op rfl ?_
    go_wp2_with ((go_at_call 17; refine (HBQ.out _ (EW.out.trans E2.out (fun _ h _ => h))).mono ?_; rintro e w16 ⟨rfl, f⟩; have E3 := hid (E2.out.trans f (fun _ h _ => h)); have RA3 := hid (range_fr RA2.out f (fun h => h)); have RB3 := hid (range_fr RB2.out f (fun h => h)); have RQ3 := hid (range_fr RQ2.out f (fun h => h)); have RT3 := hid (range_fr RT2.out f (fun h => h)); clear f))
    (refine ⟨?_, ?_⟩; focus (intro kz hk hk2 hh; first | (exfalso; simp at hk2; omega) | exact hh | exact (fun h => absurd h (by omega)) | obtain ⟨qa, qb⟩ := hh; first | exact ⟨qa, qb⟩ | (refine ⟨fun h => absurd h (by omega), ?_⟩; first | exact qb | (first | exact ⟨RA3.out, RB3.out⟩ | exact ⟨RQ3.out, RT3.out⟩)) | (refine ⟨fun h => ?_, ?_⟩; (have qa := qa h); all_goals (first | exact qa | exact qb | (first | exact ⟨RA3.out, RB3.out⟩ | exact ⟨RQ3.out, RT3.out⟩)))))
    repeat
      first
      | (refine wpT_pure rfl rfl rfl ?_; apply Exists.intro; refine ⟨?_, ?_⟩; intro w; (first | (first | exact run_load_mid _ _ rfl da _ rfl _ _ qa.1 Try.underlying27 rfl size_Rec | exact run_load_mid _ _ rfl db _ rfl _ _ qa.2 Try.underlying27 rfl size_Rec | exact run_load_mid _ _ rfl dq _ rfl _ _ qb.1 Try.underlying27 rfl size_Rec | exact run_load_mid _ _ rfl dt _ rfl _ _ qb.2 Try.underlying27 rfl size_Rec) | (go_simp <;> rfl)); simp only [Act.put, List.setIfInBounds_toArray, List.set_cons_zero, List.set_cons_succ])
      | (refine wpT_take 34 rfl rfl (by decide +kernel) ⟨fun _ => ⟨RA3.out, RB3.out⟩, RQ3.out, RT3.out⟩ ?_; apply Exists.intro; refine ⟨?_, ?_⟩; intro w hw; (have qa := hw.1 (Nat.le_refl _); have qb := hw.2); (first | (first | exact run_load_mid _ _ rfl da _ rfl _ _ qa.1 Try.underlying27 rfl size_Rec | exact run_load_mid _ _ rfl db _ rfl _ _ qa.2 Try.underlying27 rfl size_Rec | exact run_load_mid _ _ rfl dq _ rfl _ _ qb.1 Try.underlying27 rfl size_Rec | exact run_load_mid _ _ rfl dt _ rfl _ _ qb.2 Try.underlying27 rfl size_Rec) | (go_simp <;> rfl)); simp only [Act.put, List.setIfInBounds_toArray, List.set_cons_zero, List.set_cons_succ])
      | (refine wpT_skip rfl rfl ?_; simp only [Act.put, List.setIfInBounds_toArray, List.set_cons_zero, List.set_cons_succ])
    refine wpT_op rfl ?_
    go_wp2_with ((go_at_call 17; refine (HBB.out _ (EW.out.trans E3.out (fun _ h _ => h))).mono ?_; rintro e w17 ⟨rfl, f⟩; have E4 := hid (E3.out.trans f (fun _ h _ => h)); have RA4 := hid (range_fr RA3.out f (fun h => h)); have RB4 := hid (range_fr RB3.out f (fun h => h)); have RQ4 := hid (range_fr RQ3.out f (fun h => h)); have RT4 := hid (range_fr RT3.out f (fun h => h)); clear f))
    (refine ⟨?_, ?_⟩; focus (intro kz hk hk2 hh; first | (exfalso; simp at hk2; omega) | exact hh | exact (fun h => absurd h (by omega)) | obtain ⟨qa, qb⟩ := hh; first | exact ⟨qa, qb⟩ | (refine ⟨fun h => absurd h (by omega), ?_⟩; first | exact qb | (first | exact ⟨RA4.out, RB4.out⟩ | exact ⟨RQ4.out, RT4.out⟩)) | (refine ⟨fun h => ?_, ?_⟩; (have qa := qa h); all_goals (first | exact qa | exact qb | (first | exact ⟨RA4.out, RB4.out⟩ | exact ⟨RQ4.out, RT4.out⟩)))))
    repeat
      first
      | (refine wpT_pure rfl rfl rfl ?_; apply Exists.intro; refine ⟨?_, ?_⟩; intro w; (first | (first | exact run_load_mid _ _ rfl da _ rfl _ _ qa.1 Try.underlying27 rfl size_Rec | exact run_load_mid _ _ rfl db _ rfl _ _ qa.2 Try.underlying27 rfl size_Rec | exact run_load_mid _ _ rfl dq _ rfl _ _ qb.1 Try.underlying27 rfl size_Rec | exact run_load_mid _ _ rfl dt _ rfl _ _ qb.2 Try.underlying27 rfl size_Rec) | (go_simp <;> rfl)); simp only [Act.put, List.setIfInBounds_toArray, List.set_cons_zero, List.set_cons_succ])
      | (refine wpT_take 34 rfl rfl (by decide +kernel) ⟨fun _ => ⟨RA4.out, RB4.out⟩, RQ4.out, RT4.out⟩ ?_; apply Exists.intro; refine ⟨?_, ?_⟩; intro w hw; (have qa := hw.1 (Nat.le_refl _); have qb := hw.2); (first | (first | exact run_load_mid _ _ rfl da _ rfl _ _ qa.1 Try.underlying27 rfl size_Rec | exact run_load_mid _ _ rfl db _ rfl _ _ qa.2 Try.underlying27 rfl size_Rec | exact run_load_mid _ _ rfl dq _ rfl _ _ qb.1 Try.underlying27 rfl size_Rec | exact run_load_mid _ _ rfl dt _ rfl _ _ qb.2 Try.underlying27 rfl size_Rec) | (go_simp <;> rfl)); simp only [Act.put, List.setIfInBounds_toArray, List.set_cons_zero, List.set_cons_succ])
      | (refine wpT_skip rfl rfl ?_; simp only [Act.put, List.setIfInBounds_toArray, List.set_cons_zero, List.set_cons_succ])
    refine wpT_op rfl ?_
    go_wp2_with ((go_at_call 23; refine (HS2.out _ E4.out).mono ?_; rintro e w18 ⟨rfl, f⟩; have E5 := hid (E4.out.trans f (fun _ h _ => h)); have RA5 := hid (range_fr RA4.out f (fun h => h)); have RB5 := hid (range_fr RB4.out f (fun h => h)); have RQ5 := hid (range_fr RQ4.out f (fun h => h)); have RT5 := hid (range_fr RT4.out f (fun h => h)); clear f))
    (refine ⟨?_, ?_⟩; focus (intro kz hk hk2 hh; first | (exfalso; simp at hk2; omega) | exact hh | exact (fun h => absurd h (by omega)) | obtain ⟨qa, qb⟩ := hh; first | exact ⟨qa, qb⟩ | (refine ⟨fun h => absurd h (by omega), ?_⟩; first | exact qb | (first | exact ⟨RA5.out, RB5.out⟩ | exact ⟨RQ5.out, RT5.out⟩)) | (refine ⟨fun h => ?_, ?_⟩; (have qa := qa h); all_goals (first | exact qa | exact qb | (first | exact ⟨RA5.out, RB5.out⟩ | exact ⟨RQ5.out, RT5.out⟩)))))
    repeat
      first
      | (refine wpT_pure rfl rfl rfl ?_; apply Exists.intro; refine ⟨?_, ?_⟩; intro w; (first | (first | exact run_load_mid _ _ rfl da _ rfl _ _ qa.1 Try.underlying27 rfl size_Rec | exact run_load_mid _ _ rfl db _ rfl _ _ qa.2 Try.underlying27 rfl size_Rec | exact run_load_mid _ _ rfl dq _ rfl _ _ qb.1 Try.underlying27 rfl size_Rec | exact run_load_mid _ _ rfl dt _ rfl _ _ qb.2 Try.underlying27 rfl size_Rec) | (go_simp <;> rfl)); simp only [Act.put, List.setIfInBounds_toArray, List.set_cons_zero, List.set_cons_succ])
      | (refine wpT_take 34 rfl rfl (by decide +kernel) ⟨fun _ => ⟨RA5.out, RB5.out⟩, RQ5.out, RT5.out⟩ ?_; apply Exists.intro; refine ⟨?_, ?_⟩; intro w hw; (have qa := hw.1 (Nat.le_refl _); have qb := hw.2); (first | (first | exact run_load_mid _ _ rfl da _ rfl _ _ qa.1 Try.underlying27 rfl size_Rec | exact run_load_mid _ _ rfl db _ rfl _ _ qa.2 Try.underlying27 rfl size_Rec | exact run_load_mid _ _ rfl dq _ rfl _ _ qb.1 Try.underlying27 rfl size_Rec | exact run_load_mid _ _ rfl dt _ rfl _ _ qb.2 Try.underlying27 rfl size_Rec) | (go_simp <;> rfl)); simp only [Act.put, List.setIfInBounds_toArray, List.set_cons_zero, List.set_cons_succ])
      | (refine wpT_skip rfl rfl ?_; simp only [Act.put, List.setIfInBounds_toArray, List.set_cons_zero, List.set_cons_succ])
    refine wpT_nil ?_
    go_wp2_with (fail)
    go_ret
    exact ⟨ret_bool (by simp), G1.out.trans (EW.out.trans E5.out (fun _ h _ => h)) (fun _ h _ => h)⟩
  · have hte : (te != 0) = true := by rw [bne_iff_ne]; exact ht0
    have hte2 : (te == 0) = false := by rw [beq_eq_false_iff_ne]; exact ht0
    clear HTB ht0
    refine wp_region_scr (.take 0 (.take 1 (.take 2 (.take 3 (.take 4 (.take 5 (.take 6 (.take 7 (.take 8 (.take 9 (.take 10 (.op 11 (.take 12 (.take 13 (.take 14 (.take 15 (.take 16 (.take 17 (.take 19 (.op 18 (.take 20 (.take 21 (.take 22 (.take 23 (.take 24 (.take 26 (.take 29 (.take 30 (.op 25 (.op 27 (.take 28 (.op 31 (.take 32 (.take 33 (.take 34 .done))))))))))))))))))))))))))))))))))) (fun kz w => (kz ≤ 34 → w.rangeAt da 0 (rv qa (.slice z1 qa.old.length t1) (.slice z2 qa.new.length t2) (.slice z3 qa.edits.length t3) (.slice z4 qa.xids.length t4)) ∧ w.rangeAt db 0 (rv qb (.slice u1 qb.old.length v1) (.slice u2 qb.new.length v2) (.slice u3 qb.edits.length v3) (.slice u4 qb.xids.length v4))) ∧ w.rangeAt dq 0 (rv qa (.slice m1 qa.old.length n1) (.slice m2 qa.new.length n2) (.slice m3 qa.edits.length n3) (.slice m4 qa.xids.length n4)) ∧ w.rangeAt dt 0 (rv tr (.slice i1 tr.old.length j1) (.slice i2 tr.new.length j2) (.slice i3 tr.edits.length j3) (.slice i4 tr.xids.length j4))) (by kernel_rfl) (by kernel_rfl) (by intro c a d v w h; cases d <;> exact h) ?_
    repeat
      first
      | (refine wpT_pure rfl rfl rfl ?_; apply Exists.intro; refine ⟨?_, ?_⟩; intro w; (first | (first | exact run_load_mid _ _ rfl da _ rfl _ _ qa.1 Try.underlying27 rfl size_Rec | exact run_load_mid _ _ rfl db _ rfl _ _ qa.2 Try.underlying27 rfl size_Rec | exact run_load_mid _ _ rfl dq _ rfl _ _ qb.1 Try.underlying27 rfl size_Rec | exact run_load_mid _ _ rfl dt _ rfl _ _ qb.2 Try.underlying27 rfl size_Rec) | (go_simp <;> rfl)); simp only [Act.put, List.setIfInBounds_toArray, List.set_cons_zero, List.set_cons_succ])
      | (refine wpT_take 34 rfl rfl (by decide +kernel) ⟨fun _ => ⟨RA0.out, RB0.out⟩, RQ0.out, RT0.out⟩ ?_; apply Exists.intro; refine ⟨?_, ?_⟩; intro w hw; (have qa := hw.1 (Nat.le_refl _); have qb := hw.2); (first | (first | exact run_load_mid _ _ rfl da _ rfl _ _ qa.1 Try.underlying27 rfl size_Rec | exact run_load_mid _ _ rfl db _ rfl _ _ qa.2 Try.underlying27 rfl size_Rec | exact run_load_mid _ _ rfl dq _ rfl _ _ qb.1 Try.underlying27 rfl size_Rec | exact run_load_mid _ _ rfl dt _ rfl _ _ qb.2 Try.underlying27 rfl size_Rec) | (go_simp <;> rfl)); simp only [Act.put, List.setIfInBounds_toArray, List.set_cons_zero, List.set_cons_succ])
      | (refine wpT_skip rfl rfl ?_; simp only [Act.put, List.setIfInBounds_toArray, List.set_cons_zero, List.set_cons_succ])
    refine wpT_op rfl ?_
    go_wp2_with ((go_at_call 23; refine (HS1.out _ E0.out).mono ?_; rintro e w14 ⟨rfl, f⟩; have E1 := hid (E0.out.trans f (fun _ h _ => h)); have RA1 := hid (range_fr RA0.out f (fun h => h)); have RB1 := hid (range_fr RB0.out f (fun h => h)); have RQ1 := hid (range_fr RQ0.out f (fun h => h)); have RT1 := hid (range_fr RT0.out f (fun h => h)); clear f))
    (refine ⟨?_, ?_⟩; focus (intro kz hk hk2 hh; first | (exfalso; simp at hk2; omega) | exact hh | exact (fun h => absurd h (by omega)) | obtain ⟨qa, qb⟩ := hh; first | exact ⟨qa, qb⟩ | (refine ⟨fun h => absurd h (by omega), ?_⟩; first | exact qb | (first | exact ⟨RA1.out, RB1.out⟩ | exact ⟨RQ1.out, RT1.out⟩)) | (refine ⟨fun h => ?_, ?_⟩; (have qa := qa h); all_goals (first | exact qa | exact qb | (first | exact ⟨RA1.out, RB1.out⟩ | exact ⟨RQ1.out, RT1.out⟩)))))
    repeat
      first
      | (refine wpT_pure rfl rfl rfl ?_; apply Exists.intro; refine ⟨?_, ?_⟩; intro w; (first | (first | exact run_load_mid _ _ rfl da _ rfl _ _ qa.1 Try.underlying27 rfl size_Rec | exact run_load_mid _ _ rfl db _ rfl _ _ qa.2 Try.underlying27 rfl size_Rec | exact run_load_mid _ _ rfl dq _ rfl _ _ qb.1 Try.underlying27 rfl size_Rec | exact run_load_mid _ _ rfl dt _ rfl _ _ qb.2 Try.underlying27 rfl size_Rec) | (go_simp <;> rfl)); simp only [Act.put, List.setIfInBounds_toArray, List.set_cons_zero, List.set_cons_succ])
      | (refine wpT_take 34 rfl rfl (by decide +kernel) ⟨fun _ => ⟨RA1.out, RB1.out⟩, RQ1.out, RT1.out⟩ ?_; apply Exists.intro; refine ⟨?_, ?_⟩; intro w hw; (have qa := hw.1 (Nat.le_refl _); have qb := hw.2); (first | (first | exact run_load_mid _ _ rfl da _ rfl _ _ qa.1 Try.underlying27 rfl size_Rec | exact run_load_mid _ _ rfl db _ rfl _ _ qa.2 Try.underlying27 rfl size_Rec | exact run_load_mid _ _ rfl dq _ rfl _ _ qb.1 Try.underlying27 rfl size_Rec | exact run_load_mid _ _ rfl dt _ rfl _ _ qb.2 Try.underlying27 rfl size_Rec) | (go_simp <;> rfl)); simp only [Act.put, List.setIfInBounds_toArray, List.set_cons_zero, List.set_cons_succ])
      | (refine wpT_skip rfl rfl ?_; simp only [Act.put, List.setIfInBounds_toArray, List.set_cons_zero, List.set_cons_succ])
    refine wpT_op rfl ?_
    go_wp2_with (fail)
    (refine ⟨?_, ?_⟩; focus (intro kz hk hk2 hh; first | (exfalso; simp at hk2; omega) | exact hh | exact (fun h => absurd h (by omega)) | obtain ⟨qa, qb⟩ := hh; first | exact ⟨qa, qb⟩ | (refine ⟨fun h => absurd h (by omega), ?_⟩; first | exact qb | (first | exact ⟨RA1.out, RB1.out⟩ | exact ⟨RQ1.out, RT1.out⟩)) | (refine ⟨fun h => ?_, ?_⟩; (have qa := qa h); all_goals (first | exact qa | exact qb | (first | exact ⟨RA1.out, RB1.out⟩ | exact ⟨RQ1.out, RT1.out⟩)))))
    repeat
      first
      | (refine wpT_pure rfl rfl rfl ?_; apply Exists.intro; refine ⟨?_, ?_⟩; intro w; (first | (first | exact run_load_mid _ _ rfl da _ rfl _ _ qa.1 Try.underlying27 rfl size_Rec | exact run_load_mid _ _ rfl db _ rfl _ _ qa.2 Try.underlying27 rfl size_Rec | exact run_load_mid _ _ rfl dq _ rfl _ _ qb.1 Try.underlying27 rfl size_Rec | exact run_load_mid _ _ rfl dt _ rfl _ _ qb.2 Try.underlying27 rfl size_Rec) | (go_simp <;> rfl)); simp only [Act.put, List.setIfInBounds_toArray, List.set_cons_zero, List.set_cons_succ])
      | (refine wpT_take 34 rfl rfl (by decide +kernel) ⟨fun _ => ⟨RA1.out, RB1.out⟩, RQ1.out, RT1.out⟩ ?_; apply Exists.intro; refine ⟨?_, ?_⟩; intro w hw; (have qa := hw.1 (Nat.le_refl _); have qb := hw.2); (first | (first | exact run_load_mid _ _ rfl da _ rfl _ _ qa.1 Try.underlying27 rfl size_Rec | exact run_load_mid _ _ rfl db _ rfl _ _ qa.2 Try.underlying27 rfl size_Rec | exact run_load_mid _ _ rfl dq _ rfl _ _ qb.1 Try.underlying27 rfl size_Rec | exact run_load_mid _ _ rfl dt _ rfl _ _ qb.2 Try.underlying27 rfl size_Rec) | (go_simp <;> rfl)); simp only [Act.put, List.setIfInBounds_toArray, List.set_cons_zero, List.set_cons_succ])
      | (refine wpT_skip rfl rfl ?_; simp only [Act.put, List.setIfInBounds_toArray, List.set_cons_zero, List.set_cons_succ])
    refine wpT_op rfl ?_
    go_wp2_with ((go_at_call 17; refine (HBQ.out _ (EW.out.trans E1.out (fun _ h _ => h))).mono ?_; rintro e w16 ⟨rfl, f⟩; have E2 := hid (E1.out.trans f (fun _ h _ => h)); have RA2 := hid (range_fr RA1.out f (fun h => h)); have RB2 := hid (range_fr RB1.out f (fun h => h)); have RQ2 := hid (range_fr RQ1.out f (fun h => h)); have RT2 := hid (range_fr RT1.out f (fun h => h)); clear f))
    (refine ⟨?_, ?_⟩; focus (intro kz hk hk2 hh; first | (exfalso; simp at hk2; omega) | exact hh | exact (fun h => absurd h (by omega)) | obtain ⟨qa, qb⟩ := hh; first | exact ⟨qa, qb⟩ | (refine ⟨fun h => absurd h (by omega), ?_⟩; first | exact qb | (first | exact ⟨RA2.out, RB2.out⟩ | exact ⟨RQ2.out, RT2.out⟩)) | (refine ⟨fun h => ?_, ?_⟩; (have qa := qa h); all_goals (first | exact qa | exact qb | (first | exact ⟨RA2.out, RB2.out⟩ | exact ⟨RQ2.out, RT2.out⟩)))))
    repeat
      first
      | (refine wpT_pure rfl rfl rfl ?_; apply Exists.intro; refine ⟨?_, ?_⟩; intro w; (first | (first | exact run_load_mid _ _ rfl da _ rfl _ _ qa.1 Try.underlying27 rfl size_Rec | exact run_load_mid _ _ rfl db _ rfl _ _ qa.2 Try.underlying27 rfl size_Rec | exact run_load_mid _ _ rfl dq _ rfl _ _ qb.1 Try.underlying27 rfl size_Rec | exact run_load_mid _ _ rfl dt _ rfl _ _ qb.2 Try.underlying27 rfl size_Rec) | (go_simp <;> rfl)); simp only [Act.put, List.setIfInBounds_toArray, List.set_cons_zero, List.set_cons_succ])
      | (refine wpT_take 34 rfl rfl (by decide +kernel) ⟨fun _ => ⟨RA2.out, RB2.out⟩, RQ2.out, RT2.out⟩ ?_; apply Exists.intro; refine ⟨?_, ?_⟩; intro w hw; (have qa := hw.1 (Nat.le_refl _); have qb := hw.2); (first | (first | exact run_load_mid _ _ rfl da _ rfl _ _ qa.1 Try.underlying27 rfl size_Rec | exact run_load_mid _ _ rfl db _ rfl _ _ qa.2 Try.underlying27 rfl size_Rec | exact run_load_mid _ _ rfl dq _ rfl _ _ qb.1 Try.underlying27 rfl size_Rec | exact run_load_mid _ _ rfl dt _ rfl _ _ qb.2 Try.underlying27 rfl size_Rec) | (go_simp <;> rfl)); simp only [Act.put, List.setIfInBounds_toArray, List.set_cons_zero, List.set_cons_succ])
      | (refine wpT_skip rfl rfl ?_; simp only [Act.put, List.setIfInBounds_toArray, List.set_cons_zero, List.set_cons_succ])
    refine wpT_op rfl ?_
    go_wp2_with ((go_at_call 17; refine (HBB.out _ (EW.out.trans E2.out (fun _ h _ => h))).mono ?_; rintro e w17 ⟨rfl, f⟩; have E3 := hid (E2.out.trans f (fun _ h _ => h)); have RA3 := hid (range_fr RA2.out f (fun h => h)); have RB3 := hid (range_fr RB2.out f (fun h => h)); have RQ3 := hid (range_fr RQ2.out f (fun h => h)); have RT3 := hid (range_fr RT2.out f (fun h => h)); clear f))
    (refine ⟨?_, ?_⟩; focus (intro kz hk hk2 hh; first | (exfalso; simp at hk2; omega) | exact hh | exact (fun h => absurd h (by omega)) | obtain ⟨qa, qb⟩ := hh; first | exact ⟨qa, qb⟩ | (refine ⟨fun h => absurd h (by omega), ?_⟩; first | exact qb | (first | exact ⟨RA3.out, RB3.out⟩ | exact ⟨RQ3.out, RT3.out⟩)) | (refine ⟨fun h => ?_, ?_⟩; (have qa := qa h); all_goals (first | exact qa | exact qb | (first | exact ⟨RA3.out, RB3.out⟩ | exact ⟨RQ3.out, RT3.out⟩)))))
    repeat
      first
      | (refine wpT_pure rfl rfl rfl ?_; apply Exists.intro; refine ⟨?_, ?_⟩; intro w; (first | (first | exact run_load_mid _ _ rfl da _ rfl _ _ qa.1 Try.underlying27 rfl size_Rec | exact run_load_mid _ _ rfl db _ rfl _ _ qa.2 Try.underlying27 rfl size_Rec | exact run_load_mid _ _ rfl dq _ rfl _ _ qb.1 Try.underlying27 rfl size_Rec | exact run_load_mid _ _ rfl dt _ rfl _ _ qb.2 Try.underlying27 rfl size_Rec) | (go_simp <;> rfl)); simp only [Act.put, List.setIfInBounds_toArray, List.set_cons_zero, List.set_cons_succ])
      | (refine wpT_take 34 rfl rfl (by decide +kernel) ⟨fun _ => ⟨RA3.out, RB3.out⟩, RQ3.out, RT3.out⟩ ?_; apply Exists.intro; refine ⟨?_, ?_⟩; intro w hw; (have qa := hw.1 (Nat.le_refl _); have qb := hw.2); (first | (first | exact run_load_mid _ _ rfl da _ rfl _ _ qa.1 Try.underlying27 rfl size_Rec | exact run_load_mid _ _ rfl db _ rfl _ _ qa.2 Try.underlying27 rfl size_Rec | exact run_load_mid _ _ rfl dq _ rfl _ _ qb.1 Try.underlying27 rfl size_Rec | exact run_load_mid _ _ rfl dt _ rfl _ _ qb.2 Try.underlying27 rfl size_Rec) | (go_simp <;> rfl)); simp only [Act.put, List.setIfInBounds_toArray, List.set_cons_zero, List.set_cons_succ])
      | (refine wpT_skip rfl rfl ?_; simp only [Act.put, List.setIfInBounds_toArray, List.set_cons_zero, List.set_cons_succ])
    refine wpT_op rfl ?_
    go_wp2_with ((go_at_call 23; refine (HS2.out _ E3.out).mono ?_; rintro e w18 ⟨rfl, f⟩; have E4 := hid (E3.out.trans f (fun _ h _ => h)); have RA4 := hid (range_fr RA3.out f (fun h => h)); have RB4 := hid (range_fr RB3.out f (fun h => h)); have RQ4 := hid (range_fr RQ3.out f (fun h => h)); have RT4 := hid (range_fr RT3.out f (fun h => h)); clear f))
    (refine ⟨?_, ?_⟩; focus (intro kz hk hk2 hh; first | (exfalso; simp at hk2; omega) | exact hh | exact (fun h => absurd h (by omega)) | obtain ⟨qa, qb⟩ := hh; first | exact ⟨qa, qb⟩ | (refine ⟨fun h => absurd h (by omega), ?_⟩; first | exact qb | (first | exact ⟨RA4.out, RB4.out⟩ | exact ⟨RQ4.out, RT4.out⟩)) | (refine ⟨fun h => ?_, ?_⟩; (have qa := qa h); all_goals (first | exact qa | exact qb | (first | exact ⟨RA4.out, RB4.out⟩ | exact ⟨RQ4.out, RT4.out⟩)))))
    repeat
      first
      | (refine wpT_pure rfl rfl rfl ?_; apply Exists.intro; refine ⟨?_, ?_⟩; intro w; (first | (first | exact run_load_mid _ _ rfl da _ rfl _ _ qa.1 Try.underlying27 rfl size_Rec | exact run_load_mid _ _ rfl db _ rfl _ _ qa.2 Try.underlying27 rfl size_Rec | exact run_load_mid _ _ rfl dq _ rfl _ _ qb.1 Try.underlying27 rfl size_Rec | exact run_load_mid _ _ rfl dt _ rfl _ _ qb.2 Try.underlying27 rfl size_Rec) | (go_simp <;> rfl)); simp only [Act.put, List.setIfInBounds_toArray, List.set_cons_zero, List.set_cons_succ])
      | (refine wpT_take 34 rfl rfl (by decide +kernel) ⟨fun _ => ⟨RA4.out, RB4.out⟩, RQ4.out, RT4.out⟩ ?_; apply Exists.intro; refine ⟨?_, ?_⟩; intro w hw; (have qa := hw.1 (Nat.le_refl _); have qb := hw.2); (first | (first | exact run_load_mid _ _ rfl da _ rfl _ _ qa.1 Try.underlying27 rfl size_Rec | exact run_load_mid _ _ rfl db _ rfl _ _ qa.2 Try.underlying27 rfl size_Rec | exact run_load_mid _ _ rfl dq _ rfl _ _ qb.1 Try.underlying27 rfl size_Rec | exact run_load_mid _ _ rfl dt _ rfl _ _ qb.2 Try.underlying27 rfl size_Rec) | (go_simp <;> rfl)); simp only [Act.put, List.setIfInBounds_toArray, List.set_cons_zero, List.set_cons_succ])
      | (refine wpT_skip rfl rfl ?_; simp only [Act.put, List.setIfInBounds_toArray, List.set_cons_zero, List.set_cons_succ])
    refine wpT_nil ?_
    go_wp2_with (fail)
    go_ret
    exact ⟨ret_bool (by simp), G1.out.trans (EW.out.trans E4.out (fun _ h _ => h)) (fun _ h _ => h)⟩
end Go.Proofs.Ytfhkmiifndhacaa
namespace Go.Proofs.Ytfhkmiifndhacaa.recordBack
open Go.ChangeShapes Go.ChangeMaps Go.WideShapes Go.ChangeAt Go.RowKit Go.VB Go.VB.Rec
set_option maxHeartbeats 400000 in
set_option maxRecDepth 100000 in
theorem lifted (os : Os) (started : os.Started) (H : Type) (enc : TypeId × Value → H) :
    ReturnsInHanded {} Try.checked os 5 .any (Rows.recordBackSpec.pre6 enc Try.prog Try.f5 Rows.recordBackRow.domain false) (Rows.recordBackSpec.post enc Try.prog Try.f5 false true false false) := by
  refine returnsInHanded_of_change (C := Try.checked) own started (by kernel_rfl) Try.func5
    (ChangeSpec.witness6 (enc := enc) (C := Try.checked) false ⟨#[], #[.agg #[.int .i64 0, .int .i64 0, .int .i64 0, .slice none 0 0, .slice none 0 0, .slice none 0 0, .slice none 0 0, .string ⟨#[]⟩], .agg #[.slice none 0 0, .slice none 0 0], .string ⟨#[]⟩], []⟩ 8 (by kernel_rfl) (by kernel_rfl) (by kernel_rfl) (by kernel_rfl)) ?_
  intro W base args ds gs before hval0 hW hcnd _
  have hval : ∀ (j : Nat) t v, Try.f5.params[j]? = some t → args[j]? = some v → Value.okWide Try.prog W .any base t v := hval0
  have hW' := hW
  obtain ⟨p, q, hA0, hV, rfl, hfz, hnd⟩ := hW
  have hA : DataW.TrodAll enc Try.prog W 0 (fun _ => true) true Try.f5.params.toList args.toList ds p := hA0
  rw [Try.params5] at hA hval
  obtain ⟨v0, vs0, d0, ds0, p0, q0, hargs, rfl, rfl, h0, r0⟩ := trodAll_cons hA
  obtain ⟨v1, vs1, d1, ds1, p1, q1, rfl, rfl, rfl, h1, r1⟩ := trodAll_cons r0
  obtain ⟨v2, vs2, d2, ds2, p2, q2, rfl, rfl, rfl, h2, r2⟩ := trodAll_cons r1
  obtain ⟨rfl, rfl, rfl⟩ := trodAll_nil r2
  obtain rfl : args = #[v0, v1, v2] := by cases args; simp_all
  obtain ⟨rfl, rfl⟩ := trodVars_none hV
  clear hA0 hval0
  refine Calls.mono (R := fun e w' => e = .returned (.bool true) ∧ Fr (fun _ => False) W w') ?_ fun e W' ⟨he, hf⟩ => ⟨_, he, post_law sound (by decide +kernel) rfl rfl (ht := Try.underlying4) (by rfl) hW' hf⟩
  obtain ⟨a, vo, vn, ve, vx, rfl, ha, ia⟩ := rec_agg (hval 0 27 v0 rfl rfl) h0
  obtain ⟨L, rfl, hl2, gL⟩ := open_ar Try.underlying38 (k := 1) (by kernel_rfl) (by kernel_rfl) (hval 1 38 v1 rfl rfl) h1 acells (fun p : Arg => Sl (fun k => k < W.heap.size) W p.1 p.2.length (p.2.flatMap icell) ∧ p.2.length ≤ 9223372036854775807) (fun fuel cs r h => by
    obtain ⟨v, L, rfl, h1, -, h3⟩ := elem_ints fuel cs r h
    exact ⟨(v, L), rfl, h1, by unfold maxLen at h3; omega⟩)
  obtain ⟨p0, p1, rfl⟩ := list2 hl2
  obtain ⟨s, rfl, -, -, ws⟩ := open_string Try.underlying9 (hval 2 9 v2 rfl rfl) h2
  rw [← bs_toList s]
  exact Back_walk ha ia (gL p0 (by simp)) (gL p1 (by simp))
theorem proved : Rows.RecordBackSaid :=
  OpenClaim.holds_of_wide 5 Try.f5 rfl rfl rfl rfl rfl rfl rfl ⟨rfl, rfl, rfl, rfl, rfl⟩ rfl rfl rfl rfl rfl (by kernel_rfl) Try.func5 (by kernel_rfl)
    (of_decide_eq_true (by kernel_rfl)) (by unfold Func.isWrapper; first | (rw [if_pos (by decide +kernel)]; kernel_rfl) | (rw [if_neg (by decide +kernel)]; exact ⟨rfl, rfl⟩))
    (fun os started H enc _ => lifted os started H enc)
end Go.Proofs.Ytfhkmiifndhacaa.recordBack
