/- Proved: for every string, every row and every three integers the law ValueReads of chapter 02 returns true, and its arguments read afterwards as before. Conditions: none beyond the given statement, a tied card. -/
import Derived.Test.YtknpncpoojjbfaaDoorVBck
set_option linter.unusedVariables false
namespace Go.Proofs.YtknpncpoojjbfaaDoor
open Go.RowKit Go.VB Go.VB.Oct Go.VB.Rec
theorem xor_any (b : UInt8) (z : Nat) (hz : z < 256) : ∃ x : UInt8, bits .xor .u8 (b.toNat : Int) (z : Int) = (x.toNat : Int) := by
  refine ⟨b ^^^ UInt8.ofNat z, ?_⟩
  rw [u8_xor_nat _ _ b.toNat_lt hz]
  congr 1
  rw [UInt8.toNat_xor, UInt8.toNat_ofNat_of_lt' hz]
theorem list3 {α : Type} {L : List α} (h : L.length = 3) : ∃ a b c, L = [a, b, c] := by
  match L, h with
  | [a, b, c], _ => exact ⟨a, b, c, rfl⟩
theorem modl (x n : Nat) (hn : 0 < n) : ∃ k : Nat, (x : Int).tmod (n : Int) = k ∧ (x : Int) % (n : Int) = k ∧ k < n := ⟨x % n, by rw [Int.tmod_eq_emod_of_nonneg (by omega), Int.natCast_emod], (Int.natCast_emod _ _).symm, Nat.mod_lt _ hn⟩
theorem rowBytes_pos {r : List V} (h : row r = true) : 1 ≤ (rowBytes r).length := by unfold rowBytes; rw [if_pos h]; simp
set_option maxRecDepth 20000 in
set_option maxHeartbeats 20000000 in
theorem Reads_walk {P : Nat → Prop} {w : World} (G : Gv w) {va : Value} {a : List V} (ha : Sl P w va a.length (a.flatMap V.cells)) (la : a.length ≤ 9223372036854775807) (s : List UInt8) (n0 n1 n2 : Int) :
    Calls Tryd.prog 5 #[.string (bs s), va, .agg #[.int .i64 n0, .int .i64 n1, .int .i64 n2]] w fun e w' => e = .returned (.bool true) ∧ Fr (fun _ => False) w w' := by
  obtain ⟨x0, hx0, hy0, -⟩ := and_16 n0
  obtain ⟨x2, hx2, hy2, -⟩ := and_16 n2
  have X := hid (Blk.new w [.int .i64 n0, .int .i64 n1, .int .i64 n2] 35)
  have F := hid ((Fr.refl (fun _ => False) w).alloc (.cells #[.int .i64 n0, .int .i64 n1, .int .i64 n2] 35))
  have HSA := hid (sanity_go (G.fre F.out))
  have HFA := hid (fun w' (f : Fr (fun _ => False) w w') => right2_go (ha.fr f (fun _ _ h => h)) la)
  have hla := rightRow_len a
  have HRW := hid (rightRow_row a)
  obtain ⟨ax, cx, rfl, -⟩ := ha
  have e1 := bs_size s
  obtain ⟨qs, hms, es, hqs⟩ := cut_str s 300
  obtain ⟨hms1, hms2⟩ := hms 300 rfl
  have hqs0 : (0 : Int) ≤ (qs : Int) := by omega
  have hsl := hid (show (s.take 300).length ≤ 300 by rw [List.length_take]; omega)
  generalize s.take 300 = sc at *
  clear hms G la
  generalize rightRow a = ra at *
  have HBL := hid (rowBytes_le2 ra)
  have HBP := hid (rowBytes_pos HRW.out)
  go_enter Tryd.func5, Tryd.ntmps5
  go_wp2_with (fail)
  refine HSA.out.mono ?_
  rintro e w1 ⟨rfl, f⟩
  replace X := hid (Blk.fr X.out f (fun h => h))
  replace F := hid (F.out.trans f (fun _ h _ => h))
  clear f HSA
  generalize hbx : w.heap.size = bx at *
  clear hbx
  obtain ⟨⟨l1, y1⟩, hr1⟩ : ∃ z, readV sc = z := ⟨_, rfl⟩
  have HL1 := hid (show l1.length ≤ 6 from by have := readV_len sc; rw [hr1] at this; exact this)
  have HQ := hid (fun w => r2Read_go sc (Nat.le_trans hsl.out (by decide)) w)
  have HR := hid (fun w => VRead_go sc (Nat.le_trans hsl.out (by decide)) w)
  rw [hr1] at HQ HR
  dsimp only at HQ HR
  clear hr1
  go_wp2_with (fail)
  refine (HR.out _).mono ?_
  rintro e w1a ⟨v1, rfl, hr, f⟩
  replace X := hid (Blk.fr X.out f (fun h => h))
  replace F := hid (F.out.trans f (fun _ h _ => h))
  have S1 := hid (own_sl hr.own (fun k hk => hr.lt hk) : Sl (fun k => k < w1a.heap.size) w1a v1 l1.length (l1.flatMap V.cells))
  obtain ⟨a1, c1, rfl, _⟩ := hr.slice
  clear f hr HR
  go_upto_region 5 with (go_at_call 28; refine (HQ.out _).mono ?_; rintro e w1b ⟨b1, d1, rfl, hr, f⟩; have T1 := hid (own_sl hr.own (fun k hk => hr.lt hk) : Sl (fun k => k < w1b.heap.size) w1b (.slice b1 l1.length d1) l1.length (l1.flatMap V.cells)); have HFF := hid f; clear f hr)
  replace X := hid (Blk.fr X.out HFF.out (fun h => h))
  replace F := hid (F.out.trans HFF.out (fun _ h _ => h))
  replace S1 := hid ((S1.out.fr HFF.out (fun _ _ h => h)).mono (fun k hk => Nat.lt_of_lt_of_le hk (Fr.size HFF.out)))
  clear HFF HQ
  have fb := (Fr.refl (fun _ => False) w1b).alloc (.cells #[.slice b1 l1.length d1, .int .i64 y1] 40)
  have D1 := hid (Blk.new w1b [.slice b1 l1.length d1, .int .i64 y1] 40)
  replace X := hid (Blk.fr X.out fb (fun h => h))
  replace F := hid (F.out.trans fb (fun _ h _ => h))
  replace S1 := hid ((S1.out.fr fb (fun _ _ h => h)).mono (fun k hk => Nat.lt_of_lt_of_le hk (Fr.size fb)))
  replace T1 := hid ((T1.out.fr fb (fun _ _ h => h)).mono (fun k hk => Nat.lt_of_lt_of_le hk (Fr.size fb)))
  clear fb
  generalize w1b.heap.size = g1 at *
  generalize w1b.alloc _ = W1 at *
  have HFB := hid (HFA.out _ F.out)
  clear HFA
  go_wp2_with (fail)
  refine HFB.out.mono ?_
  rintro e w3 ⟨ar, cr, rfl, hr, f⟩
  replace X := hid (Blk.fr X.out f (fun h => h))
  replace F := hid (F.out.trans f (fun _ h _ => h))
  replace S1 := hid ((S1.out.fr f (fun _ _ h => h)).mono (fun k hk => Nat.lt_of_lt_of_le hk (Fr.size f)))
  replace T1 := hid ((T1.out.fr f (fun _ _ h => h)).mono (fun k hk => Nat.lt_of_lt_of_le hk (Fr.size f)))
  replace D1 := hid (D1.out.fr f (fun h => h))
  have H1 := hid (r2Bytes_go (own_sl hr.own (fun _ _ => trivial) : Sl (fun _ => True) w3 _ _ _) (by omega))
  clear f hr HFB
  generalize rowBytes ra = B at *
  go_wp2_with (fail)
  refine H1.out.mono ?_
  rintro e w4 ⟨rfl, f⟩
  replace X := hid (Blk.fr X.out f (fun h => h))
  replace F := hid (F.out.trans f (fun _ h _ => h))
  replace S1 := hid ((S1.out.fr f (fun _ _ h => h)).mono (fun k hk => Nat.lt_of_lt_of_le hk (Fr.size f)))
  replace T1 := hid ((T1.out.fr f (fun _ _ h => h)).mono (fun k hk => Nat.lt_of_lt_of_le hk (Fr.size f)))
  replace D1 := hid (D1.out.fr f (fun h => h))
  clear f H1
  have hbp := HBP.out
  have hbl := HBL.out
  have hnz : ((B.length : Int) == 0) = false := by rw [beq_eq_false_iff_ne]; omega
  have hnz2 : ¬ (B.length : Int) = 0 := by omega
  have hnz0 : ¬ B.length = 0 := by omega
  have hlp : (0 : Int) < (B.length : Int) := by omega
  obtain ⟨y, hm, hm2, hm3⟩ := modl x0 B.length (by omega)
  obtain ⟨z, hz8, hz9⟩ : ∃ z : Nat, IntKind.u8.wrap n1 = (z : Int) ∧ z < 256 := ⟨(n1 % 256).toNat, by rw [IntKind.wrap_u8]; omega, by omega⟩
  go_upto_region 8 with (refine wpList_str_bytes rfl rfl Tryd.underlying9 Tryd.underlying42 Tryd.underlying5 rfl ?_; intro cb w9 sb; have SB := hid sb; clear sb)
  have HNE := hid (show bx ≠ w4.heap.size from by have := X.out.lt; omega)
  have F4 := hid F.out
  have HNG := hid (show g1 ≠ w4.heap.size from by have := D1.out.lt; omega)
  replace X := hid (Blk.fr X.out SB.out.fr (fun h => h))
  replace F := hid (F.out.trans SB.out.fr (fun _ h _ => h))
  replace S1 := hid (S1.out.fr SB.out.fr (fun _ _ h => h))
  replace T1 := hid (T1.out.fr SB.out.fr (fun _ _ h => h))
  replace D1 := hid (D1.out.fr SB.out.fr (fun h => h))
  generalize hbb : w4.heap.size = bb at *
  have HB0 := hid (SB.out.at 5 hm3)
  obtain ⟨b0, hb0⟩ : ∃ b0 : UInt8, b0 = B[y] := ⟨_, rfl⟩
  rw [← hb0] at HB0
  obtain ⟨x', hx'⟩ := xor_any b0 z hz9
  have HXOR := hid hx'
  have HB1 : Hid (w9.drew.cell? ⟨bb, y, none⟩ = some (.int .u8 (b0.toNat : Int))) := hid HB0.out
  have HF1 : Hid (w9.drew.frozen? ⟨bb, y, none⟩ = false) := hid (SB.out.free hm3)
  have HXD := hid X.out.drew
  have hya : (0 : Int) ≤ (y : Int) := by omega
  have hyb : (y : Int) < (B.length : Int) := by omega
  have HZ8 := hid hz8
  have HSET := hid (SB.out.set hm3 x')
  have HBB := hid hbb
  clear hbb
  clear hb0 HB0 hx'
  refine wp_region_scr (.take 0 (.take 1 (.take 2 (.take 3 (.take 4 (.take 5 (.take 6 (.take 7 (.take 8 (.take 9 (.take 10 (.take 11 (.take 12 (.take 13 (.take 14 (.take 15 (.take 16 (.take 17 (.take 18 (.take 19 (.take 20 (.op 21 .done)))))))))))))))))))))) (fun kz w => (kz ≤ 21 → w.cell? ⟨bx, 0, none⟩ = some (.int .i64 n0) ∧ w.cell? ⟨bx, 1, none⟩ = some (.int .i64 n1) ∧ w.cell? ⟨bb, y, none⟩ = some (.int .u8 (b0.toNat : Int))) ∧ True) (by kernel_rfl) (by kernel_rfl) (by intro c a d v w h; cases d <;> exact h) ?_
  repeat
    first
    | (refine wpT_pure rfl rfl rfl ?_; apply Exists.intro; refine ⟨?_, ?_⟩; intro w; (first | (first | (go_simp; rw [if_neg hnz0]) | (go_simp; rw [if_pos ⟨hya, hyb⟩]) | (refine Eq.trans (b := Result.ok (Next.value (.int .u8 (x'.toNat : Int))) w) ?_ rfl; go_simp; first | exact HXOR.out | rw [HXOR.out]) | (obtain ⟨qa1, qa2, qa3⟩ := qa; go_simp <;> rfl)) | (go_simp <;> rfl)); simp only [Act.put, List.setIfInBounds_toArray, List.set_cons_zero, List.set_cons_succ])
    | (refine wpT_take 21 rfl rfl (by decide +kernel) ⟨fun _ => ⟨HXD.out.cell 0, HXD.out.cell 1, HB1.out⟩, trivial⟩ ?_; apply Exists.intro; refine ⟨?_, ?_⟩; intro w hw; (have qa := hw.1 (Nat.le_refl _); have qb := hw.2); (first | (first | (go_simp; rw [if_neg hnz0]) | (go_simp; rw [if_pos ⟨hya, hyb⟩]) | (refine Eq.trans (b := Result.ok (Next.value (.int .u8 (x'.toNat : Int))) w) ?_ rfl; go_simp; first | exact HXOR.out | rw [HXOR.out]) | (obtain ⟨qa1, qa2, qa3⟩ := qa; go_simp <;> rfl)) | (go_simp <;> rfl)); simp only [Act.put, List.setIfInBounds_toArray, List.set_cons_zero, List.set_cons_succ])
    | (refine wpT_skip rfl rfl ?_; simp only [Act.put, List.setIfInBounds_toArray, List.set_cons_zero, List.set_cons_succ])
  have cb2 := HB1.out
  have zb2 := HF1.out
  refine wpT_op rfl ?_
  go_wp2_with (fail)
  refine ⟨fun kz hk hk2 hh => (by first | exact ⟨fun h => absurd h (by omega), trivial⟩ | exact fun h => absurd h (by omega)), ?_⟩
  refine wpT_nil ?_
  clear cb2 zb2
  have fs := hid ((Fr.refl (fun k => k = bb) w9).setCell ⟨bb, y, none⟩ (.int .u8 (x'.toNat : Int)) (fun _ => rfl))
  have fd := hid ((Fr.refl (fun _ => False) (w9.setCell ⟨bb, y, none⟩ (.int .u8 (x'.toNat : Int)))).drew)
  replace X := hid (Blk.fr (Blk.fr X.out fs.out (fun h => HNE.out h)) fd.out (fun h => h))
  replace D1 := hid (Blk.fr (Blk.fr D1.out fs.out (fun h => HNG.out h)) fd.out (fun h => h))
  replace S1 := hid (((S1.out.fr fs.out (fun k hk e => by omega)).fr fd.out (fun _ _ h => h)).mono (fun k hk => Nat.lt_of_lt_of_le (Nat.lt_of_lt_of_le hk (by rw [← HBB.out]; exact SB.out.fr.size)) (Nat.le_trans fs.out.size fd.out.size)))
  replace T1 := hid (((T1.out.fr fs.out (fun k hk e => by omega)).fr fd.out (fun _ _ h => h)).mono (fun k hk => Nat.lt_of_lt_of_le (Nat.lt_of_lt_of_le hk (by rw [← HBB.out]; exact SB.out.fr.size)) (Nat.le_trans fs.out.size fd.out.size)))
  have hw4 := F4.out.size
  rw [HBB.out] at hw4
  replace F := hid ((F.out.trans fs.out (fun k hk hl => by omega)).trans fd.out (fun _ h _ => h))
  have U := hid HSET.out.drew
  have hcl : (B.set y x').length = B.length := List.length_set
  rw [← hcl] at hbl hbp
  have HCL := hid hcl
  clear hcl fs fd SB HSET HB1 HF1 HXD F4 hw4 hnz hnz2 hnz0 hlp
  generalize hpd : List.replicate (cb - B.length) (Value.int .u8 0) = pad at *
  clear hpd
  have hBl : B.length = (B.set y x').length := HCL.out.symm
  rw [hBl]
  clear hBl HCL HBB HNG HNE hya hyb hm hm2
  generalize B.set y x' = sx at *
  generalize (w9.setCell ⟨bb, y, none⟩ (.int .u8 (x'.toNat : Int))).drew = W9 at *
  have hcv := run_bytes_string (P := Tryd.prog) (w := W9) (l := sx) (U.out.head _ _ rfl) (src := 42) (dst := 9) Tryd.underlying42 Tryd.underlying5 Tryd.underlying9 sx.length cb rfl
  go_upto_region 10 with fail
  clear hcv
  obtain ⟨k, hk, hk2, hk3⟩ : ∃ k : Nat, (x2 : Int).tmod ((sx.length : Int) + 1) = (k : Int) ∧ (x2 : Int) % ((sx.length : Int) + 1) = (k : Int) ∧ k < sx.length + 1 := by
    obtain ⟨k, h1, h2, h3⟩ := modl x2 (sx.length + 1) (by omega)
    have e : ((sx.length + 1 : Nat) : Int) = (sx.length : Int) + 1 := by omega
    rw [e] at h1 h2
    exact ⟨k, h1, h2, h3⟩
  have hadd := fun w => run_add_bs (P := Tryd.prog) w sx sc (by have := hsl.out; omega)
  have hex : (bs sx).extract 0 k = bs (sx.take k) := by apply ByteArray.ext; simp [bs]
  have HB3 := hid (show (sx.take k).length ≤ 1099511627776 by rw [List.length_take]; omega)
  have HB4 := hid (show (sx ++ sc).length ≤ 1099511627776 by rw [List.length_append]; have := hsl.out; omega)
  have HB5 := hid (show sx.length ≤ 1099511627776 by omega)
  have hki : (k : Int) ≤ (sx.length : Int) := by omega
  have hki0 : (0 : Int) ≤ (k : Int) := by omega
  have hlp2 : (0 : Int) < (sx.length : Int) + 1 := by omega
  have hln2 : ¬ (sx.length : Int) + 1 = 0 := by omega
  have e2 := bs_size sx
  have hc2 : W9.cell? ⟨bx, 2, none⟩ = some (.int .i64 n2) := X.out.cell 2
  go_upto_region 11 with fail
  clear hc2 hk3 hlp2 hln2 hk hk2
  clear X
  obtain ⟨⟨l2, y2⟩, hr2⟩ : ∃ z, readV (sx.take k) = z := ⟨_, rfl⟩
  have HL2 := hid (show l2.length ≤ 6 from by have := readV_len (sx.take k); rw [hr2] at this; exact this)
  have HQ := hid (fun w => r2Read_go (sx.take k) HB3.out w)
  have HR := hid (fun w => VRead_go (sx.take k) HB3.out w)
  rw [hr2] at HQ HR
  dsimp only at HQ HR
  clear hr2
  go_wp2_with (fail)
  refine (HR.out _).mono ?_
  rintro e w2a ⟨v2, rfl, hr, f⟩
  replace F := hid (F.out.trans f (fun _ h _ => h))
  replace S1 := hid ((S1.out.fr f (fun _ _ h => h)).mono (fun k hk => Nat.lt_of_lt_of_le hk (Fr.size f)))
  replace T1 := hid ((T1.out.fr f (fun _ _ h => h)).mono (fun k hk => Nat.lt_of_lt_of_le hk (Fr.size f)))
  replace D1 := hid (D1.out.fr f (fun h => h))
  replace U := hid (SBlk.fr U.out f (fun h => h))
  have S2 := hid (own_sl hr.own (fun k hk => hr.lt hk) : Sl (fun k => k < w2a.heap.size) w2a v2 l2.length (l2.flatMap V.cells))
  obtain ⟨a2, c2, rfl, _⟩ := hr.slice
  clear f hr HR
  go_upto_region 13 with (go_at_call 28; refine (HQ.out _).mono ?_; rintro e w2b ⟨b2, d2, rfl, hr, f⟩; have T2 := hid (own_sl hr.own (fun k hk => hr.lt hk) : Sl (fun k => k < w2b.heap.size) w2b (.slice b2 l2.length d2) l2.length (l2.flatMap V.cells)); have HFF := hid f; clear f hr)
  replace F := hid (F.out.trans HFF.out (fun _ h _ => h))
  replace S1 := hid ((S1.out.fr HFF.out (fun _ _ h => h)).mono (fun k hk => Nat.lt_of_lt_of_le hk (Fr.size HFF.out)))
  replace T1 := hid ((T1.out.fr HFF.out (fun _ _ h => h)).mono (fun k hk => Nat.lt_of_lt_of_le hk (Fr.size HFF.out)))
  replace D1 := hid (D1.out.fr HFF.out (fun h => h))
  replace U := hid (SBlk.fr U.out HFF.out (fun h => h))
  replace S2 := hid ((S2.out.fr HFF.out (fun _ _ h => h)).mono (fun k hk => Nat.lt_of_lt_of_le hk (Fr.size HFF.out)))
  clear HFF HQ
  have fb := (Fr.refl (fun _ => False) w2b).alloc (.cells #[.slice b2 l2.length d2, .int .i64 y2] 40)
  have D2 := hid (Blk.new w2b [.slice b2 l2.length d2, .int .i64 y2] 40)
  replace F := hid (F.out.trans fb (fun _ h _ => h))
  replace S1 := hid ((S1.out.fr fb (fun _ _ h => h)).mono (fun k hk => Nat.lt_of_lt_of_le hk (Fr.size fb)))
  replace T1 := hid ((T1.out.fr fb (fun _ _ h => h)).mono (fun k hk => Nat.lt_of_lt_of_le hk (Fr.size fb)))
  replace D1 := hid (D1.out.fr fb (fun h => h))
  replace U := hid (SBlk.fr U.out fb (fun h => h))
  replace S2 := hid ((S2.out.fr fb (fun _ _ h => h)).mono (fun k hk => Nat.lt_of_lt_of_le hk (Fr.size fb)))
  replace T2 := hid ((T2.out.fr fb (fun _ _ h => h)).mono (fun k hk => Nat.lt_of_lt_of_le hk (Fr.size fb)))
  clear fb
  generalize w2b.heap.size = g2 at *
  generalize w2b.alloc _ = W2 at *
  have hcv := run_bytes_string (P := Tryd.prog) (w := W2) (l := sx) (U.out.head _ _ rfl) (src := 42) (dst := 9) Tryd.underlying42 Tryd.underlying5 Tryd.underlying9 sx.length cb rfl
  generalize hsv : sx ++ sc = sv at *
  clear hsv
  obtain ⟨⟨l3, y3⟩, hr3⟩ : ∃ z, readV sv = z := ⟨_, rfl⟩
  have HL3 := hid (show l3.length ≤ 6 from by have := readV_len sv; rw [hr3] at this; exact this)
  have HQ := hid (fun w => r2Read_go sv HB4.out w)
  have HR := hid (fun w => VRead_go sv HB4.out w)
  rw [hr3] at HQ HR
  dsimp only at HQ HR
  clear hr3
  go_wp2_with (fail)
  refine (HR.out _).mono ?_
  rintro e w3a ⟨v3, rfl, hr, f⟩
  replace F := hid (F.out.trans f (fun _ h _ => h))
  replace S1 := hid ((S1.out.fr f (fun _ _ h => h)).mono (fun k hk => Nat.lt_of_lt_of_le hk (Fr.size f)))
  replace T1 := hid ((T1.out.fr f (fun _ _ h => h)).mono (fun k hk => Nat.lt_of_lt_of_le hk (Fr.size f)))
  replace D1 := hid (D1.out.fr f (fun h => h))
  replace U := hid (SBlk.fr U.out f (fun h => h))
  replace S2 := hid ((S2.out.fr f (fun _ _ h => h)).mono (fun k hk => Nat.lt_of_lt_of_le hk (Fr.size f)))
  replace T2 := hid ((T2.out.fr f (fun _ _ h => h)).mono (fun k hk => Nat.lt_of_lt_of_le hk (Fr.size f)))
  replace D2 := hid (D2.out.fr f (fun h => h))
  have S3 := hid (own_sl hr.own (fun k hk => hr.lt hk) : Sl (fun k => k < w3a.heap.size) w3a v3 l3.length (l3.flatMap V.cells))
  obtain ⟨a3, c3, rfl, _⟩ := hr.slice
  clear f hr HR
  clear hcv
  have hcv := run_bytes_string (P := Tryd.prog) (w := w3a) (l := sx) (U.out.head _ _ rfl) (src := 42) (dst := 9) Tryd.underlying42 Tryd.underlying5 Tryd.underlying9 sx.length cb rfl
  go_upto_region 15 with (go_at_call 28; refine (HQ.out _).mono ?_; rintro e w3b ⟨b3, d3, rfl, hr, f⟩; have T3 := hid (own_sl hr.own (fun k hk => hr.lt hk) : Sl (fun k => k < w3b.heap.size) w3b (.slice b3 l3.length d3) l3.length (l3.flatMap V.cells)); have HFF := hid f; clear f hr)
  replace F := hid (F.out.trans HFF.out (fun _ h _ => h))
  replace S1 := hid ((S1.out.fr HFF.out (fun _ _ h => h)).mono (fun k hk => Nat.lt_of_lt_of_le hk (Fr.size HFF.out)))
  replace T1 := hid ((T1.out.fr HFF.out (fun _ _ h => h)).mono (fun k hk => Nat.lt_of_lt_of_le hk (Fr.size HFF.out)))
  replace D1 := hid (D1.out.fr HFF.out (fun h => h))
  replace U := hid (SBlk.fr U.out HFF.out (fun h => h))
  replace S2 := hid ((S2.out.fr HFF.out (fun _ _ h => h)).mono (fun k hk => Nat.lt_of_lt_of_le hk (Fr.size HFF.out)))
  replace T2 := hid ((T2.out.fr HFF.out (fun _ _ h => h)).mono (fun k hk => Nat.lt_of_lt_of_le hk (Fr.size HFF.out)))
  replace D2 := hid (D2.out.fr HFF.out (fun h => h))
  replace S3 := hid ((S3.out.fr HFF.out (fun _ _ h => h)).mono (fun k hk => Nat.lt_of_lt_of_le hk (Fr.size HFF.out)))
  clear HFF HQ
  have fb := (Fr.refl (fun _ => False) w3b).alloc (.cells #[.slice b3 l3.length d3, .int .i64 y3] 40)
  have D3 := hid (Blk.new w3b [.slice b3 l3.length d3, .int .i64 y3] 40)
  replace F := hid (F.out.trans fb (fun _ h _ => h))
  replace S1 := hid ((S1.out.fr fb (fun _ _ h => h)).mono (fun k hk => Nat.lt_of_lt_of_le hk (Fr.size fb)))
  replace T1 := hid ((T1.out.fr fb (fun _ _ h => h)).mono (fun k hk => Nat.lt_of_lt_of_le hk (Fr.size fb)))
  replace D1 := hid (D1.out.fr fb (fun h => h))
  replace U := hid (SBlk.fr U.out fb (fun h => h))
  replace S2 := hid ((S2.out.fr fb (fun _ _ h => h)).mono (fun k hk => Nat.lt_of_lt_of_le hk (Fr.size fb)))
  replace T2 := hid ((T2.out.fr fb (fun _ _ h => h)).mono (fun k hk => Nat.lt_of_lt_of_le hk (Fr.size fb)))
  replace D2 := hid (D2.out.fr fb (fun h => h))
  replace S3 := hid ((S3.out.fr fb (fun _ _ h => h)).mono (fun k hk => Nat.lt_of_lt_of_le hk (Fr.size fb)))
  replace T3 := hid ((T3.out.fr fb (fun _ _ h => h)).mono (fun k hk => Nat.lt_of_lt_of_le hk (Fr.size fb)))
  clear fb
  generalize w3b.heap.size = g3 at *
  generalize w3b.alloc _ = W3 at *
  clear hcv
  have hcv := run_bytes_string (P := Tryd.prog) (w := W3) (l := sx) (U.out.head _ _ rfl) (src := 42) (dst := 9) Tryd.underlying42 Tryd.underlying5 Tryd.underlying9 sx.length cb rfl
  obtain ⟨⟨l4, y4⟩, hr4⟩ : ∃ z, readV sx = z := ⟨_, rfl⟩
  have HL4 := hid (show l4.length ≤ 6 from by have := readV_len sx; rw [hr4] at this; exact this)
  have HQ := hid (fun w => r2Read_go sx HB5.out w)
  have HR := hid (fun w => VRead_go sx HB5.out w)
  rw [hr4] at HQ HR
  dsimp only at HQ HR
  clear hr4
  go_wp2_with (fail)
  refine (HR.out _).mono ?_
  rintro e w4a ⟨v4, rfl, hr, f⟩
  replace F := hid (F.out.trans f (fun _ h _ => h))
  replace S1 := hid ((S1.out.fr f (fun _ _ h => h)).mono (fun k hk => Nat.lt_of_lt_of_le hk (Fr.size f)))
  replace T1 := hid ((T1.out.fr f (fun _ _ h => h)).mono (fun k hk => Nat.lt_of_lt_of_le hk (Fr.size f)))
  replace D1 := hid (D1.out.fr f (fun h => h))
  replace U := hid (SBlk.fr U.out f (fun h => h))
  replace S2 := hid ((S2.out.fr f (fun _ _ h => h)).mono (fun k hk => Nat.lt_of_lt_of_le hk (Fr.size f)))
  replace T2 := hid ((T2.out.fr f (fun _ _ h => h)).mono (fun k hk => Nat.lt_of_lt_of_le hk (Fr.size f)))
  replace D2 := hid (D2.out.fr f (fun h => h))
  replace S3 := hid ((S3.out.fr f (fun _ _ h => h)).mono (fun k hk => Nat.lt_of_lt_of_le hk (Fr.size f)))
  replace T3 := hid ((T3.out.fr f (fun _ _ h => h)).mono (fun k hk => Nat.lt_of_lt_of_le hk (Fr.size f)))
  replace D3 := hid (D3.out.fr f (fun h => h))
  have S4 := hid (own_sl hr.own (fun k hk => hr.lt hk) : Sl (fun k => k < w4a.heap.size) w4a v4 l4.length (l4.flatMap V.cells))
  obtain ⟨a4, c4, rfl, _⟩ := hr.slice
  clear f hr HR
  clear hcv
  have hcv := run_bytes_string (P := Tryd.prog) (w := w4a) (l := sx) (U.out.head _ _ rfl) (src := 42) (dst := 9) Tryd.underlying42 Tryd.underlying5 Tryd.underlying9 sx.length cb rfl
  go_upto_region 17 with (go_at_call 28; refine (HQ.out _).mono ?_; rintro e w4b ⟨b4, d4, rfl, hr, f⟩; have T4 := hid (own_sl hr.own (fun k hk => hr.lt hk) : Sl (fun k => k < w4b.heap.size) w4b (.slice b4 l4.length d4) l4.length (l4.flatMap V.cells)); have HFF := hid f; clear f hr)
  replace F := hid (F.out.trans HFF.out (fun _ h _ => h))
  replace S1 := hid ((S1.out.fr HFF.out (fun _ _ h => h)).mono (fun k hk => Nat.lt_of_lt_of_le hk (Fr.size HFF.out)))
  replace T1 := hid ((T1.out.fr HFF.out (fun _ _ h => h)).mono (fun k hk => Nat.lt_of_lt_of_le hk (Fr.size HFF.out)))
  replace D1 := hid (D1.out.fr HFF.out (fun h => h))
  replace U := hid (SBlk.fr U.out HFF.out (fun h => h))
  replace S2 := hid ((S2.out.fr HFF.out (fun _ _ h => h)).mono (fun k hk => Nat.lt_of_lt_of_le hk (Fr.size HFF.out)))
  replace T2 := hid ((T2.out.fr HFF.out (fun _ _ h => h)).mono (fun k hk => Nat.lt_of_lt_of_le hk (Fr.size HFF.out)))
  replace D2 := hid (D2.out.fr HFF.out (fun h => h))
  replace S3 := hid ((S3.out.fr HFF.out (fun _ _ h => h)).mono (fun k hk => Nat.lt_of_lt_of_le hk (Fr.size HFF.out)))
  replace T3 := hid ((T3.out.fr HFF.out (fun _ _ h => h)).mono (fun k hk => Nat.lt_of_lt_of_le hk (Fr.size HFF.out)))
  replace D3 := hid (D3.out.fr HFF.out (fun h => h))
  replace S4 := hid ((S4.out.fr HFF.out (fun _ _ h => h)).mono (fun k hk => Nat.lt_of_lt_of_le hk (Fr.size HFF.out)))
  clear HFF HQ
  have fb := (Fr.refl (fun _ => False) w4b).alloc (.cells #[.slice b4 l4.length d4, .int .i64 y4] 40)
  have D4 := hid (Blk.new w4b [.slice b4 l4.length d4, .int .i64 y4] 40)
  replace F := hid (F.out.trans fb (fun _ h _ => h))
  replace S1 := hid ((S1.out.fr fb (fun _ _ h => h)).mono (fun k hk => Nat.lt_of_lt_of_le hk (Fr.size fb)))
  replace T1 := hid ((T1.out.fr fb (fun _ _ h => h)).mono (fun k hk => Nat.lt_of_lt_of_le hk (Fr.size fb)))
  replace D1 := hid (D1.out.fr fb (fun h => h))
  replace U := hid (SBlk.fr U.out fb (fun h => h))
  replace S2 := hid ((S2.out.fr fb (fun _ _ h => h)).mono (fun k hk => Nat.lt_of_lt_of_le hk (Fr.size fb)))
  replace T2 := hid ((T2.out.fr fb (fun _ _ h => h)).mono (fun k hk => Nat.lt_of_lt_of_le hk (Fr.size fb)))
  replace D2 := hid (D2.out.fr fb (fun h => h))
  replace S3 := hid ((S3.out.fr fb (fun _ _ h => h)).mono (fun k hk => Nat.lt_of_lt_of_le hk (Fr.size fb)))
  replace T3 := hid ((T3.out.fr fb (fun _ _ h => h)).mono (fun k hk => Nat.lt_of_lt_of_le hk (Fr.size fb)))
  replace D3 := hid (D3.out.fr fb (fun h => h))
  replace S4 := hid ((S4.out.fr fb (fun _ _ h => h)).mono (fun k hk => Nat.lt_of_lt_of_le hk (Fr.size fb)))
  replace T4 := hid ((T4.out.fr fb (fun _ _ h => h)).mono (fun k hk => Nat.lt_of_lt_of_le hk (Fr.size fb)))
  clear fb
  generalize w4b.heap.size = g4 at *
  generalize w4b.alloc _ = W4 at *
  clear hcv hadd hex
  have hl1 := HL1.out
  have C1 := hid (fun w' (f : Fr (fun _ => False) W4 w') => rfSame_go (S1.out.fr f (fun _ _ h => h)) (T1.out.fr f (fun _ _ h => h)) (by omega) (by omega))
  have yy1 : (y1 == y1) = true := beq_self_eq_true _
  have hl2 := HL2.out
  have C2 := hid (fun w' (f : Fr (fun _ => False) W4 w') => rfSame_go (S2.out.fr f (fun _ _ h => h)) (T2.out.fr f (fun _ _ h => h)) (by omega) (by omega))
  have yy2 : (y2 == y2) = true := beq_self_eq_true _
  have hl3 := HL3.out
  have C3 := hid (fun w' (f : Fr (fun _ => False) W4 w') => rfSame_go (S3.out.fr f (fun _ _ h => h)) (T3.out.fr f (fun _ _ h => h)) (by omega) (by omega))
  have yy3 : (y3 == y3) = true := beq_self_eq_true _
  have hl4 := HL4.out
  have C4 := hid (fun w' (f : Fr (fun _ => False) W4 w') => rfSame_go (S4.out.fr f (fun _ _ h => h)) (T4.out.fr f (fun _ _ h => h)) (by omega) (by omega))
  have yy4 : (y4 == y4) = true := beq_self_eq_true _
  rw [decide_eq_true (rfl : l1 = l1)] at C1
  rw [decide_eq_true (rfl : l2 = l2)] at C2
  rw [decide_eq_true (rfl : l3 = l3)] at C3
  rw [decide_eq_true (rfl : l4 = l4)] at C4
  have FZ := hid (Fr.refl (fun _ => False) W4)
  obtain ⟨p1, q1⟩ : W4.cell? ⟨g1, 0, none⟩ = some (.slice b1 l1.length d1) ∧ W4.cell? ⟨g1, 1, none⟩ = some (.int .i64 y1) := ⟨cell_fr (D1.out.cell 0) FZ.out (fun h => h), cell_fr (D1.out.cell 1) FZ.out (fun h => h)⟩
  go_wp2_with (fail)
  refine (C1.out _ FZ.out).mono ?_
  rintro e u1 ⟨rfl, f⟩
  replace FZ := hid (FZ.out.trans f (fun _ h _ => h))
  clear f C1 p1 q1
  obtain ⟨p2, q2⟩ : u1.cell? ⟨g2, 0, none⟩ = some (.slice b2 l2.length d2) ∧ u1.cell? ⟨g2, 1, none⟩ = some (.int .i64 y2) := ⟨cell_fr (D2.out.cell 0) FZ.out (fun h => h), cell_fr (D2.out.cell 1) FZ.out (fun h => h)⟩
  go_wp2_with (fail)
  refine (C2.out _ FZ.out).mono ?_
  rintro e u2 ⟨rfl, f⟩
  replace FZ := hid (FZ.out.trans f (fun _ h _ => h))
  clear f C2 p2 q2
  obtain ⟨p3, q3⟩ : u2.cell? ⟨g3, 0, none⟩ = some (.slice b3 l3.length d3) ∧ u2.cell? ⟨g3, 1, none⟩ = some (.int .i64 y3) := ⟨cell_fr (D3.out.cell 0) FZ.out (fun h => h), cell_fr (D3.out.cell 1) FZ.out (fun h => h)⟩
  go_wp2_with (fail)
  refine (C3.out _ FZ.out).mono ?_
  rintro e u3 ⟨rfl, f⟩
  replace FZ := hid (FZ.out.trans f (fun _ h _ => h))
  clear f C3 p3 q3
  obtain ⟨p4, q4⟩ : u3.cell? ⟨g4, 0, none⟩ = some (.slice b4 l4.length d4) ∧ u3.cell? ⟨g4, 1, none⟩ = some (.int .i64 y4) := ⟨cell_fr (D4.out.cell 0) FZ.out (fun h => h), cell_fr (D4.out.cell 1) FZ.out (fun h => h)⟩
  go_wp2_with (fail)
  refine (C4.out _ FZ.out).mono ?_
  rintro e u4 ⟨rfl, f⟩
  replace FZ := hid (FZ.out.trans f (fun _ h _ => h))
  clear f C4 p4 q4
  go_wp2_with (fail)
  go_ret
  exact ⟨rfl, F.out.trans FZ.out (fun _ h _ => h)⟩
end Go.Proofs.YtknpncpoojjbfaaDoor
namespace Go.Proofs.YtknpncpoojjbfaaDoor.valueReads
open Go.ChangeShapes Go.WideShapes Go.ChangeAt Go.ChangeMaps Go.RowKit Go.VB Go.VB.Rec
set_option maxHeartbeats 400000 in
set_option maxRecDepth 100000 in
theorem lifted (os : Os) (started : os.Started) (H : Type) (enc : TypeId × Value → H) :
    ReturnsInHanded {} Tryd.checked os 5 .any (fun w args => (Rows.valueReadsSpec.pre enc Tryd.prog Tryd.f5 Rows.valueReadsRow.domain false w args ∧ laidMetH Tryd.prog Rows.valueReadsRow.laid w) ∧ sizedMet enc Tryd.prog Tryd.f5 (OpenSpec.ofChange Rows.valueReadsSpec) false w args) (Rows.valueReadsSpec.post enc Tryd.prog Tryd.f5 false true false false) := by
  refine handed_and_shaped (C := Tryd.checked) (X := fun w _ => laidMetH Tryd.prog Rows.valueReadsRow.laid w) (fun _ _ _ hh h => h.of_heap hh) own started (by kernel_rfl) Tryd.func5
    (ChangeSpec.witness_shaped (enc := enc) (C := Tryd.checked) (os := os) (X := fun w _ => laidMetH Tryd.prog Rows.valueReadsRow.laid w) false (startW os) #[.string ⟨#[]⟩, .slice none 0 0, .agg #[.int .i64 0, .int .i64 0, .int .i64 0]] 8 rfl (start_shaped os _) (by kernel_rfl) (by kernel_rfl) (by kernel_rfl) (start_met os _)) ?_
  intro W base args ds gs before hval0 hW hL hsh
  have GV : Hid (Gv W) := hid (gv_of hL hsh)
  clear hL hsh
  have hval : ∀ (j : Nat) t v, Tryd.f5.params[j]? = some t → args[j]? = some v → Value.okWide Tryd.prog W .any base t v := hval0
  have hW' := hW
  obtain ⟨p, q, hA0, hV, rfl, hfz, hnd⟩ := hW
  have hA : DataW.TrodAll enc Tryd.prog W 0 (fun _ => true) true Tryd.f5.params.toList args.toList ds p := hA0
  rw [Tryd.params5] at hA hval
  obtain ⟨v0, vs0, d0, ds0, p0, q0, hargs, rfl, rfl, h0, r0⟩ := trodAll_cons hA
  obtain ⟨v1, vs1, d1, ds1, p1, q1, rfl, rfl, rfl, h1, r1⟩ := trodAll_cons r0
  obtain ⟨v2, vs2, d2, ds2, p2, q2, rfl, rfl, rfl, h2, r2⟩ := trodAll_cons r1
  obtain ⟨rfl, rfl, rfl⟩ := trodAll_nil r2
  obtain rfl : args = #[v0, v1, v2] := by cases args; simp_all
  obtain ⟨rfl, rfl⟩ := trodVars_none hV
  clear hA0 hval0
  refine Calls.mono (R := fun e w' => e = .returned (.bool true) ∧ Fr (fun _ => False) W w') ?_ fun e W' ⟨he, hf⟩ => ⟨_, he, post_law sound (by decide +kernel) rfl rfl (ht := Tryd.underlying4) (by rfl) hW' hf⟩
  obtain ⟨s, rfl, -, -, -⟩ := open_string Tryd.underlying9 (hval 0 9 v0 rfl rfl) h0
  obtain ⟨a, sa, -, la⟩ := open_row (hval 1 23 v1 rfl rfl) h1
  obtain ⟨A, rfl, hal, -⟩ := open_ar Tryd.underlying35 (k := 1) (by kernel_rfl) (by kernel_rfl) (hval 2 35 v2 rfl rfl) h2 (fun x => [Value.int .i64 x]) (fun x => (Lit.int .i64 x).wf = true) (fun fuel cs r h => elem_int Tryd.underlying3 fuel cs r h)
  obtain ⟨n0, n1, n2, rfl⟩ := list3 hal
  rw [← bs_toList s]
  exact Reads_walk GV.out sa (Nat.le_trans la (by decide)) s.data.toList n0 n1 n2
theorem row_holds : Rows.ValueReadsSaid :=
  OpenClaim.holds_of_wide 5 Tryd.f5 rfl rfl rfl rfl rfl rfl rfl ⟨rfl, rfl, rfl, rfl, rfl⟩ rfl rfl rfl rfl rfl (by kernel_rfl) Tryd.func5 (by kernel_rfl)
    (of_decide_eq_true (by kernel_rfl)) (by unfold Func.isWrapper; first | (rw [if_pos (by decide +kernel)]; kernel_rfl) | (rw [if_neg (by decide +kernel)]; exact ⟨rfl, rfl⟩))
    (fun os started H enc _ => lifted os started H enc)
theorem proved : Rows.ValueReadsCardSaid :=
  Claim7.holds_tied_plain_at .later [] Rows.valueReadsCard.laidKinds true Rows.valueReadsCard.stood.harness true row_holds (fun _ h => by cases h) (by kernel_rfl) (fun _ h => by cases h) valueReads_row_tie rfl ⟨rfl, rfl⟩ (by kernel_rfl) rfl
    (fun f fn hf hfn => by
      obtain rfl : f = 5 := Option.some.inj ((show Tryd.prog.funcNamed "vintner/vintnerlaw02.ValueReads" = some 5 by kernel_rfl).symm.trans hf) |>.symm
      obtain rfl : fn = Tryd.f5 := (Option.some.inj (Tryd.func5.symm.trans hfn)).symm
      exact ⟨by kernel_rfl, fun j t ht => by
        rw [Tryd.params5] at ht
        have hm : t ∈ [9, 23, 35] := by simpa using Array.mem_of_getElem? ht
        have hall : ([9, 23, 35].all fun u => !Tryd.prog.wantsStandIn u) = true := by kernel_rfl
        exact (show Tryd.prog.wantsStandIn t = false by simpa using List.all_eq_true.1 hall t hm)⟩)
    (by kernel_rfl)
end Go.Proofs.YtknpncpoojjbfaaDoor.valueReads
