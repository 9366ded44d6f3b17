/- Proved: for every string, every list of integers and every three integers the law RecordReads of chapter 04 returns true, and its arguments read afterwards as before. Conditions: none beyond the given statement. -/
import Derived.Test.YtfhkmiifndhacaaArg
import Derived.Test.YtfhkmiifndhacaaRdC
import Derived.Laws.BitsAllLaws
set_option linter.unusedVariables false
namespace Go.Proofs.Ytfhkmiifndhacaa
open Go.RowKit Go.VB Go.VB.Oct Go.VB.Rec
theorem r4Read_is {s : List UInt8} {r : R} {x : Int} (h : readR s = (r, x)) (hs : s.length ≤ 1099511627776) (w : World) : Calls Try.prog 51 #[.string (bs s)] w fun z w' => ∃ (b1 b2 b3 b4 : Option Addr) (e1 e2 e3 e4 : Nat), z = .returned (.agg #[.int .i64 r.kind, .int .i64 r.xid, .int .i64 r.table, .slice b1 r.old.length e1, .slice b2 r.new.length e2, .slice b3 r.edits.length e3, .slice b4 r.xids.length e4, .string (bs r.note), .int .i64 x]) ∧
    RV (fun k => w.heap.size ≤ k ∧ k < w'.heap.size) w' r (.slice b1 r.old.length e1) (.slice b2 r.new.length e2) (.slice b3 r.edits.length e3) (.slice b4 r.xids.length e4) ∧ Fr (fun _ => False) w w' := by
  refine (r4Read_go s hs w).mono ?_
  rw [h]
  rintro z w' ⟨vo, vn, ve, vx, rfl, hv, f⟩
  obtain ⟨b1, e1, b2, e2, b3, e3, b4, e4, rfl, rfl, rfl, rfl⟩ := hv.slices
  exact ⟨b1, b2, b3, b4, e1, e2, e3, e4, rfl, hv, f⟩
set_option maxRecDepth 20000 in
set_option maxHeartbeats 4000000 in
theorem reads_go (s : List UInt8) (hs : s.length ≤ 1099511627776) (w : World) : Calls Try.prog 21 #[.string (bs s)] w fun e w' => e = .returned (.bool true) ∧ Fr (fun _ => False) w w' := by
  obtain ⟨⟨r, x⟩, hr⟩ : ∃ z, readR s = z := ⟨_, rfl⟩
  have HR1 := hid (RRead_is (r := r) (e := x) hr hs)
  have HR2 := hid (fun w => r4Read_is hr hs w)
  clear hr
  go_enter Try.func21, Try.ntmps21
  go_upto_region 2 with (go_at_call 22; refine (HR1.out _).mono ?_; rintro e w1 ⟨a1, a2, a3, a4, c1, c2, c3, c4, rfl, hv, f⟩; have HV := hid hv; have F1 := hid f; clear hv f)
  have fa := (Fr.refl (fun _ => False) w1).alloc (.cells #[.int .i64 r.kind, .int .i64 r.xid, .int .i64 r.table, .slice a1 r.old.length c1, .slice a2 r.new.length c2, .slice a3 r.edits.length c3, .slice a4 r.xids.length c4, .string (bs r.note)] 27)
  have B1 := hid (Blk.new w1 (rv r (.slice a1 r.old.length c1) (.slice a2 r.new.length c2) (.slice a3 r.edits.length c3) (.slice a4 r.xids.length c4)) 27)
  have HV1 := hid (RV.fre HV.out fa)
  have F2 := hid (F1.out.trans fa (fun _ h _ => h))
  clear fa HV F1 HR1
  unfold rv at B1
  generalize w1.heap.size = d1 at *
  generalize w1.alloc _ = W1 at *
  go_upto_region 3 with (go_at_call 51; refine (HR2.out _).mono ?_; rintro e w2 ⟨b1, b2, b3, b4, e1, e2, e3, e4, rfl, hv, f⟩; have HW := hid hv; have B2 := hid (B1.out.fr f (fun h => h)); have HV2 := hid (RV.fre HV1.out f); have F3 := hid (F2.out.trans f (fun _ h _ => h)); clear hv f)
  have fb := (Fr.refl (fun _ => False) w2).alloc (.cells #[.int .i64 r.kind, .int .i64 r.xid, .int .i64 r.table, .slice b1 r.old.length e1, .slice b2 r.new.length e2, .slice b3 r.edits.length e3, .slice b4 r.xids.length e4, .string (bs r.note), .int .i64 x] 76)
  have B3 : Hid (Blk (w2.alloc (.cells #[.int .i64 r.kind, .int .i64 r.xid, .int .i64 r.table, .slice b1 r.old.length e1, .slice b2 r.new.length e2, .slice b3 r.edits.length e3, .slice b4 r.xids.length e4, .string (bs r.note), .int .i64 x] 76)) w2.heap.size [.int .i64 r.kind, .int .i64 r.xid, .int .i64 r.table, .slice b1 r.old.length e1, .slice b2 r.new.length e2, .slice b3 r.edits.length e3, .slice b4 r.xids.length e4, .string (bs r.note), .int .i64 x] 76) := hid (Blk.new w2 (got4 r (.slice b1 r.old.length e1) (.slice b2 r.new.length e2) (.slice b3 r.edits.length e3) (.slice b4 r.xids.length e4) x) 76)
  have HW3 := hid (RV.fre HW.out fb)
  have HV3 := hid (RV.fre HV2.out fb)
  have B4 := hid (B2.out.fr fb (fun h => h))
  have F4 := hid (F3.out.trans fb (fun _ h _ => h))
  clear fb HW HV1 HV2 B1 B2 F2 F3 HR2
  generalize w2.heap.size = d2 at *
  generalize w2.alloc _ = W2 at *
  obtain ⟨p0, p1, p2, p3, p4, p5, p6, p7⟩ := rec_cells (k := r.kind) (x := r.xid) (t := r.table) (o := r.old) (n := r.new) (ed := r.edits) (xs := r.xids) (nt := r.note) B4.out
  have q0 := B3.out.cell 0
  have q1 := B3.out.cell 1
  have q2 := B3.out.cell 2
  have q3 := B3.out.cell 3
  have q4 := B3.out.cell 4
  have q5 := B3.out.cell 5
  have q6 := B3.out.cell 6
  have q7 := B3.out.cell 7
  have q8 := B3.out.cell 8
  have hxx : (x == x) = true := beq_self_eq_true x
  go_wp2_with (go_at_call 28; refine (r4Same_go HV3.out HW3.out).mono ?_; rw [decide_eq_true (rfl : r = r)]; rintro e w3 ⟨rfl, f⟩; have F5 := hid (F4.out.trans f (fun _ h _ => h)); clear f)
  all_goals (go_ret; exact ⟨rfl, F5.out⟩)
theorem xor_any (b : UInt8) (z : Nat) (hz : z < 256) : ∃ x : UInt8, bits .xor .u8 (b.toNat : Int) (z : Int) = (x.toNat : Int) := by
  refine ⟨b ^^^ UInt8.ofNat z, ?_⟩
  rw [u8_xor_nat _ _ b.toNat_lt hz]
  congr 1
  rw [UInt8.toNat_xor, UInt8.toNat_ofNat_of_lt' hz]
theorem list3 {α : Type} {L : List α} (h : L.length = 3) : ∃ a b c, L = [a, b, c] := by
  match L, h with
  | [a, b, c], _ => exact ⟨a, b, c, rfl⟩
set_option maxRecDepth 20000 in
set_option maxHeartbeats 20000000 in
theorem Reads_walk {P : Nat → Prop} {w : World} {vl : Value} {L : List Int} (s : List UInt8) (hl : Sl P w vl L.length (L.flatMap icell)) (hL : L.length ≤ 9223372036854775807) (n0 n1 n2 : Int) :
    Calls Try.prog 4 #[.string (bs s), vl, .agg #[.int .i64 n0, .int .i64 n1, .int .i64 n2]] w fun e w' => e = .returned (.bool true) ∧ Fr (fun _ => False) w w' := by
  obtain ⟨x0, hx0, hy0, -⟩ := and_16 n0
  obtain ⟨x2, hx2, hy2, -⟩ := and_16 n2
  have HSA := hid (fun w => sanity_go w)
  have HMD := hid (fun w' (f : Fr (fun _ => False) w w') => Made_is (hl.fr f (fun _ _ h => h)) hL)
  obtain ⟨a, c, rfl, -⟩ := hl
  have e1 := bs_size s
  obtain ⟨qs, hms, es, hqs⟩ := cut_str s 500
  obtain ⟨hms1, hms2⟩ := hms 500 rfl
  have hqs0 : (0 : Int) ≤ (qs : Int) := by omega
  have hsl := hid (show (s.take 500).length ≤ 500 by rw [List.length_take]; omega)
  generalize s.take 500 = sc at *
  clear hms
  have X0 := hid (Blk.new w [.int .i64 n0, .int .i64 n1, .int .i64 n2] 34)
  have F0 := hid ((Fr.refl (fun _ => False) w).alloc (.cells #[.int .i64 n0, .int .i64 n1, .int .i64 n2] 34))
  go_enter Try.func4, Try.ntmps4
  go_upto_region 3 with (go_at_call 12; refine (HSA.out _).mono ?_; rintro e w1 ⟨rfl, f⟩; have X1 := hid (Blk.fr X0.out f (fun h => h)); have F1 := hid (F0.out.trans f (fun _ h _ => h)); clear f)
  clear X0 F0 HSA
  generalize hbx : w.heap.size = bx at *
  clear hbx
  go_upto_region 4 with (first
    | (go_at_call 14; refine (HMD.out _ F1.out).mono ?_; rintro e w2 ⟨q, z1, z2, z3, z4, t1, t2, t3, t4, rfl, hv, hgd, f⟩; have HBQ := hid (r4Bytes_go hv); have hqb : q.bytes = q.raw := (by unfold R.bytes; rw [if_pos hgd.right]); rw [hqb] at HBQ; have hrl := raw_le hgd.right; have hrp := raw_pos q; have X2 := hid (Blk.fr X1.out f (fun h => h)); have F2 := hid (F1.out.trans f (fun _ h _ => h)); generalize q.raw = l at *; clear hv hgd f hqb)
    | (go_at_call 18; refine HBQ.out.mono ?_; rintro e w3 ⟨rfl, f⟩; have X3 := hid (Blk.fr X2.out f (fun h => h)); have F3 := hid (F2.out.trans f (fun _ h _ => h)); clear f)
    | (refine wpList_str_bytes rfl rfl Try.underlying9 Try.underlying35 Try.underlying5 rfl ?_; intro cb w9 sb; have SB := hid sb; clear sb))
  have HX := hid (Blk.fr X3.out SB.out.fr (fun h => h))
  have HNE0 := hid (show bx < w3.heap.size from X3.out.lt)
  have FW := hid F3.out
  clear X1 X2 X3 F1 F2 F3 HBQ HMD
  have hnz : ((l.length : Int) == 0) = false := by rw [beq_eq_false_iff_ne]; omega
  have hnz2 : ¬ (l.length : Int) = 0 := by omega
  have hnz0 : ¬ l.length = 0 := by omega
  obtain ⟨y, hm, hm2, hm3⟩ := modl x0 l.length (by omega)
  have hlp : (0 : Int) < (l.length : Int) := by omega
  obtain ⟨z, hz8, hz9⟩ : ∃ z : Nat, IntKind.u8.wrap n1 = (z : Int) ∧ z < 256 := ⟨(n1 % 256).toNat, by rw [IntKind.wrap_u8]; omega, by omega⟩
  go_upto_region 6 with fail
  have hlr : l.length ≤ 100000 := hrl
  clear hrl hrp
  have HB0 := hid (SB.out.at 5 hm3)
  obtain ⟨b0, hb0⟩ : ∃ b0 : UInt8, b0 = l[y] := ⟨_, rfl⟩
  rw [← hb0] at HB0
  obtain ⟨x', hx'⟩ := xor_any b0 z hz9
  have HXOR := hid hx'
  have HNE := hid (show bx ≠ w3.heap.size from by have := HNE0.out; omega)
  clear HNE0
  generalize hbb : w3.heap.size = bb at *
  have HB1 : Hid (w9.drew.cell? ⟨bb, y, none⟩ = some (.int .u8 (b0.toNat : Int))) := hid HB0.out
  have HF1 : Hid (w9.drew.frozen? ⟨bb, y, none⟩ = false) := hid (SB.out.free hm3)
  have HXD := hid HX.out.drew
  have hya : (0 : Int) ≤ (y : Int) := by omega
  have hyb : (y : Int) < (l.length : Int) := by omega
  have HZ8 := hid hz8
  clear hb0 HB0 hx' hbb
  refine wp_region_scr (.take 0 (.take 1 (.take 2 (.take 3 (.take 4 (.take 5 (.take 6 (.take 7 (.take 8 (.take 9 (.take 10 (.take 11 (.take 12 (.take 13 (.take 14 (.take 15 (.take 16 (.take 17 (.take 18 (.take 19 (.take 20 (.op 21 .done)))))))))))))))))))))) (fun kz w => (kz ≤ 21 → w.cell? ⟨bx, 0, none⟩ = some (.int .i64 n0) ∧ w.cell? ⟨bx, 1, none⟩ = some (.int .i64 n1) ∧ w.cell? ⟨bb, y, none⟩ = some (.int .u8 (b0.toNat : Int))) ∧ True) (by kernel_rfl) (by kernel_rfl) (by intro c a d v w h; cases d <;> exact h) ?_
  repeat
    first
    | (refine wpT_pure rfl rfl rfl ?_; apply Exists.intro; refine ⟨?_, ?_⟩; intro w; (first | (first | (go_simp; rw [if_neg hnz0]) | (go_simp; rw [if_pos ⟨hya, hyb⟩]) | (refine Eq.trans (b := Result.ok (Next.value (.int .u8 (x'.toNat : Int))) w) ?_ rfl; go_simp; first | exact HXOR.out | rw [HXOR.out]) | (obtain ⟨qa1, qa2, qa3⟩ := qa; go_simp <;> rfl)) | (go_simp <;> rfl)); simp only [Act.put, List.setIfInBounds_toArray, List.set_cons_zero, List.set_cons_succ])
    | (refine wpT_take 21 rfl rfl (by decide +kernel) ⟨fun _ => ⟨HXD.out.cell 0, HXD.out.cell 1, HB1.out⟩, trivial⟩ ?_; apply Exists.intro; refine ⟨?_, ?_⟩; intro w hw; (have qa := hw.1 (Nat.le_refl _); have qb := hw.2); (first | (first | (go_simp; rw [if_neg hnz0]) | (go_simp; rw [if_pos ⟨hya, hyb⟩]) | (refine Eq.trans (b := Result.ok (Next.value (.int .u8 (x'.toNat : Int))) w) ?_ rfl; go_simp; first | exact HXOR.out | rw [HXOR.out]) | (obtain ⟨qa1, qa2, qa3⟩ := qa; go_simp <;> rfl)) | (go_simp <;> rfl)); simp only [Act.put, List.setIfInBounds_toArray, List.set_cons_zero, List.set_cons_succ])
    | (refine wpT_skip rfl rfl ?_; simp only [Act.put, List.setIfInBounds_toArray, List.set_cons_zero, List.set_cons_succ])
  have cb2 := HB1.out
  have zb2 := HF1.out
  refine wpT_op rfl ?_
  go_wp2_with (fail)
  refine ⟨fun kz hk hk2 hh => (by first | exact ⟨fun h => absurd h (by omega), trivial⟩ | exact fun h => absurd h (by omega)), ?_⟩
  refine wpT_nil ?_
  clear cb2 zb2
  have HSB := hid (SB.out.set hm3 x').drew
  have HXS := hid ((HX.out.fr ((Fr.refl (fun k => k = bb) w9).setCell ⟨bb, y, none⟩ (.int .u8 (x'.toNat : Int)) (fun _ => rfl)) (fun h => HNE.out h)).drew)
  have HFS := hid (FW.out.trans (SB.out.fr.setCell ⟨bb, y, none⟩ (.int .u8 (x'.toNat : Int)) (fun h => by have := SB.out.at_; dsimp only at h; omega)).drew (fun _ h _ => h))
  have hcl : (l.set y x').length = l.length := List.length_set
  have hcv := run_bytes_string (P := Try.prog) (w := (w9.setCell ⟨bb, y, none⟩ (.int .u8 (x'.toNat : Int))).drew) (l := l.set y x') (HSB.out.head _ _ rfl) (src := 35) (dst := 9) Try.underlying35 Try.underlying5 Try.underlying9 l.length cb hcl.symm
  rw [← hcl] at hlr
  clear hcl SB HB1 HF1 HXD HX
  generalize l.set y x' = sx at *
  generalize (w9.setCell ⟨bb, y, none⟩ (.int .u8 (x'.toNat : Int))).drew = wx at *
  go_upto_region 8 with fail
  obtain ⟨k, hk, hk2, hk3⟩ : ∃ k : Nat, (x2 : Int).tmod ((sx.length : Int) + 1) = (k : Int) ∧ (x2 : Int) % ((sx.length : Int) + 1) = (k : Int) ∧ k < sx.length + 1 := by
    obtain ⟨k, h1, h2, h3⟩ := modl x2 (sx.length + 1) (by omega)
    have e : ((sx.length + 1 : Nat) : Int) = (sx.length : Int) + 1 := by omega
    rw [e] at h1 h2
    exact ⟨k, h1, h2, h3⟩
  have hadd := fun w => run_add_bs (P := Try.prog) w sx sc (by have := hsl.out; omega)
  have hex : (bs sx).extract 0 k = bs (sx.take k) := by apply ByteArray.ext; simp [bs]
  have HL1 := hid (show sc.length ≤ 1099511627776 by have := hsl.out; omega)
  have HL2 := hid (show sx.length ≤ 1099511627776 by omega)
  have HL3 := hid (show (sx.take k).length ≤ 1099511627776 by rw [List.length_take]; omega)
  have HL4 := hid (show (sx ++ sc).length ≤ 1099511627776 by rw [List.length_append]; have := hsl.out; omega)
  have hki : (k : Int) ≤ (sx.length : Int) := by omega
  have hki0 : (0 : Int) ≤ (k : Int) := by omega
  have hlp2 : (0 : Int) < (sx.length : Int) + 1 := by omega
  have hln2 : ¬ (sx.length : Int) + 1 = 0 := by omega
  have e2 := bs_size sx
  clear hk3 hcv
  go_wp2_with (fail)
  refine (reads_go _ HL1.out _).mono ?_
  rintro e w11 ⟨rfl, f⟩
  have G1 := hid (HFS.out.trans f (fun _ h _ => h))
  have Y1 := hid (Blk.fr HXS.out f (fun h => h))
  clear f HFS HXS
  go_wp2_with (fail)
  refine (reads_go _ HL2.out _).mono ?_
  rintro e w12 ⟨rfl, f⟩
  have G2 := hid (G1.out.trans f (fun _ h _ => h))
  have Y2 := hid (Blk.fr Y1.out f (fun h => h))
  clear f G1 Y1
  have hc2 : w12.cell? ⟨bx, 2, none⟩ = some (.int .i64 n2) := Y2.out.cell 2
  go_wp2_with (fail)
  refine (reads_go _ HL3.out _).mono ?_
  rintro e w13 ⟨rfl, f⟩
  have G3 := hid (G2.out.trans f (fun _ h _ => h))
  clear f G2 Y2 hc2
  go_wp2_with (fail)
  refine (reads_go _ HL4.out _).mono ?_
  rintro e w14 ⟨rfl, f⟩
  have G4 := hid (G3.out.trans f (fun _ h _ => h))
  clear f G3
  go_wp2_with (fail)
  go_ret
  exact ⟨rfl, G4.out⟩
end Go.Proofs.Ytfhkmiifndhacaa
namespace Go.Proofs.Ytfhkmiifndhacaa.recordReads
open Go.ChangeShapes Go.WideShapes Go.ChangeAt Go.ChangeMaps Go.RowKit Go.VB Go.VB.Rec
set_option maxHeartbeats 400000 in
set_option maxRecDepth 100000 in
theorem lifted (os : Os) (started : os.Started) (H : Type) (enc : TypeId × Value → H) :
    ReturnsInHanded {} Try.checked os 4 .any (Rows.recordReadsSpec.pre6 enc Try.prog Try.f4 Rows.recordReadsRow.domain false) (Rows.recordReadsSpec.post enc Try.prog Try.f4 false true false false) := by
  refine returnsInHanded_of_change (C := Try.checked) own started (by kernel_rfl) Try.func4
    (ChangeSpec.witness6 (enc := enc) (C := Try.checked) false ⟨#[], #[.string ⟨#[]⟩, .slice none 0 0, .agg #[.int .i64 0, .int .i64 0, .int .i64 0]], []⟩ 8 (by kernel_rfl) (by kernel_rfl) (by kernel_rfl) (by kernel_rfl)) ?_
  intro W base args ds gs before hval0 hW hcnd _
  have hval : ∀ (j : Nat) t v, Try.f4.params[j]? = some t → args[j]? = some v → Value.okWide Try.prog W .any base t v := hval0
  have hW' := hW
  obtain ⟨p, q, hA0, hV, rfl, hfz, hnd⟩ := hW
  have hA : DataW.TrodAll enc Try.prog W 0 (fun _ => true) true Try.f4.params.toList args.toList ds p := hA0
  rw [Try.params4] at hA hval
  obtain ⟨v0, vs0, d0, ds0, p0, q0, hargs, rfl, rfl, h0, r0⟩ := trodAll_cons hA
  obtain ⟨v1, vs1, d1, ds1, p1, q1, rfl, rfl, rfl, h1, r1⟩ := trodAll_cons r0
  obtain ⟨v2, vs2, d2, ds2, p2, q2, rfl, rfl, rfl, h2, r2⟩ := trodAll_cons r1
  obtain ⟨rfl, rfl, rfl⟩ := trodAll_nil r2
  obtain rfl : args = #[v0, v1, v2] := by cases args; simp_all
  obtain ⟨rfl, rfl⟩ := trodVars_none hV
  clear hA0 hval0
  refine Calls.mono (R := fun e w' => e = .returned (.bool true) ∧ Fr (fun _ => False) W w') ?_ fun e W' ⟨he, hf⟩ => ⟨_, he, post_law sound (by decide +kernel) rfl rfl (ht := Try.underlying4) (by rfl) hW' hf⟩
  obtain ⟨s, rfl, -, -, -⟩ := open_string Try.underlying9 (hval 0 9 v0 rfl rfl) h0
  obtain ⟨L, sL, -, gL⟩ := open_ins (hval 1 25 v1 rfl rfl) h1
  obtain ⟨A, rfl, hal, -⟩ := open_ar Try.underlying34 (k := 1) (by kernel_rfl) (by kernel_rfl) (hval 2 34 v2 rfl rfl) h2 (fun x => [Value.int .i64 x]) (fun x => (Lit.int .i64 x).wf = true) (fun fuel cs r h => elem_int Try.underlying3 fuel cs r h)
  obtain ⟨n0, n1, n2, rfl⟩ := list3 hal
  rw [← bs_toList s]
  exact Reads_walk s.data.toList sL gL n0 n1 n2
theorem proved : Rows.RecordReadsSaid :=
  OpenClaim.holds_of_wide 4 Try.f4 rfl rfl rfl rfl rfl rfl rfl ⟨rfl, rfl, rfl, rfl, rfl⟩ rfl rfl rfl rfl rfl (by kernel_rfl) Try.func4 (by kernel_rfl)
    (of_decide_eq_true (by kernel_rfl)) (by unfold Func.isWrapper; first | (rw [if_pos (by decide +kernel)]; kernel_rfl) | (rw [if_neg (by decide +kernel)]; exact ⟨rfl, rfl⟩))
    (fun os started H enc _ => lifted os started H enc)
end Go.Proofs.Ytfhkmiifndhacaa.recordReads
