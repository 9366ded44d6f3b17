import Derived.Laws.BitsLemmas
import Derived.Test.YtiimomgbklgicaaGreatPkRsA
import Derived.Test.YtiimomgbklgicaaGreatPkRsB
import Derived.Test.YtiimomgbklgicaaGreatPkRsJ
set_option linter.unusedVariables false
namespace Go.VB.Cat
open Go.VB.Oct
theorem text_le (r : RM) : r.text.2.length ≤ 65535 := by
  have h1 := RM.take_len (r.num 2).1 (r.num 2).2
  have h2 := RM.num_lt r 2
  have h3 : r.text.2 = ((r.num 2).1.take (r.num 2).2).2 := rfl
  rw [h3]
  omega
theorem cols_succ (r : RM) (j : Nat) : rCols r (j + 1) = (((rCols r j).1.text.1.num 1).1, (rCols r j).2 ++ [⟨(rCols r j).1.text.2, (((rCols r j).1.text.1.num 1).2 : Nat)⟩]) := rfl
theorem rcols_len (r : RM) : ∀ j, (rCols r j).2.length = j ∧ ∀ c ∈ (rCols r j).2, c.name.length ≤ 65535
  | 0 => ⟨rfl, fun c hc => by simp [rCols] at hc⟩
  | j + 1 => by
    obtain ⟨h1, h2⟩ := rcols_len r j
    rw [cols_succ]
    refine ⟨by simp [h1], fun c hc => ?_⟩
    rcases List.mem_append.1 hc with g | g
    · exact h2 c g
    · rw [List.mem_singleton.1 g]; exact text_le _
end Go.VB.Cat
namespace Go.Proofs.YtiimomgbklgicaaGreat
open Go.RowKit Go.VB Go.VB.Oct Go.VB.Cat Go.VB.Rec
/-- how Read ends -/
def ReadP (w w' : World) (e : Ending) : Option (List Tab) → Prop
  | none => e = .returned (.tuple #[.pointer none, .int .i64 11]) ∧ Fr (fun _ => False) w w'
  | some m => ∃ c, e = .returned (.tuple #[.pointer (some ⟨c, 0, none⟩), .int .i64 0]) ∧ CR 225 (fun k => w.heap.size ≤ k ∧ k < w'.heap.size) w' c m ∧ Fr (fun _ => False) w w'
theorem RI.lt {w0 W : World} {X : Nat → Prop} {br bf bc p c : Nat} {q : RS} (h : RI w0 X br bf bc p c q W) : br < W.heap.size ∧ bf < W.heap.size ∧ bc < W.heap.size ∧ p < W.heap.size := ⟨h.brk.lt, h.bfk.lt, h.bck.lt, Blk.lt h.rd⟩
set_option maxRecDepth 20000 in
set_option maxHeartbeats 4000000 in
theorem Read_go (s : Bs) (hs : s.length ≤ 1099511627776) (w : World) : Calls Tryz.prog 59 #[.string (bs s)] w fun e w' => ReadP w w' e (readM s) := by
  have HRD := hid (ORead_go s w)
  have hmf : ∀ (fn : Fn) (first cap : Array Value) (w : World), (Instr.makeFunc fn first cap).run Tryz.prog w = .ok (.func fn first cap) w := fun _ _ _ _ => rfl
  have HRM := hid (show readM s = if (rTabs ⟨((RM.new s).num 1).1, [], true⟩ ((RM.new s).num 1).2).r.failed = true ∨ 0 < (rTabs ⟨((RM.new s).num 1).1, [], true⟩ ((RM.new s).num 1).2).r.left ∨ (rTabs ⟨((RM.new s).num 1).1, [], true⟩ ((RM.new s).num 1).2).fine = false then none else some (rTabs ⟨((RM.new s).num 1).1, [], true⟩ ((RM.new s).num 1).2).m from rfl)
  obtain ⟨o, ho⟩ : ∃ o, readM s = o := ⟨_, rfl⟩
  rw [ho] at HRM ⊢
  clear ho
  have HOK0 := hid (show (RM.new s).Ok from ⟨Nat.zero_le _, hs⟩)
  obtain ⟨r0, hr0⟩ : ∃ r, RM.new s = r := ⟨_, rfl⟩
  rw [hr0] at HRD HRM HOK0
  clear hr0 hs
  go_enter Tryz.func59, Tryz.ntmps59
  go_upto_region 2 with (go_at_call 69; refine HRD.out.mono ?_; rintro e w1 ⟨rfl, hr, f⟩; have HP := hid hr; have F1 := hid f; clear hr f)
  generalize hp : w.heap.size = p at *
  have HPE := hid hp
  clear hp
  have fa := (Fr.refl (fun _ => False) w1).alloc (.cells #[.pointer (some ⟨p, 0, none⟩)] 147)
  have HBR := hid (Blk.new w1 [.pointer (some ⟨p, 0, none⟩)] 147)
  replace HP := hid (Blk.fr HP.out fa (fun h => h))
  have HBRG := hid (show p ≤ w1.heap.size from by have := F1.out.size; have := HPE.out; omega)
  replace F1 := hid (F1.out.trans fa (fun _ h _ => h))
  generalize w1.heap.size = br at *
  generalize w1.alloc _ = W1 at *
  have HNW := hid (New_go W1)
  clear fa HRD
  go_upto_region 3 with (go_at_call 114; refine HNW.out.mono ?_; rintro e w2 ⟨rfl, hc, f⟩; have HC := hid hc; have F2 := hid (F1.out.trans f (fun _ h _ => h)); have HP2 := hid (Blk.fr HP.out f (fun h => h)); have HBR2 := hid (Blk.fr HBR.out f (fun h => h)); clear hc f)
  have HCE := hid (show p < W1.heap.size ∧ br < W1.heap.size from ⟨Blk.lt HP.out, HBR.out.lt⟩)
  have HCL := hid (show W1.heap.size < w2.heap.size from HC.out.lt rfl)
  have HCG := hid F1.out.size
  rw [HPE.out] at HCG
  clear HNW HP HBR F1
  generalize W1.heap.size = c at *
  have fa := (Fr.refl (fun _ => False) w2).alloc (.cells #[.pointer (some ⟨c, 0, none⟩)] 62)
  have HBC := hid (Blk.new w2 [.pointer (some ⟨c, 0, none⟩)] 62)
  have HC3 := hid (HC.out.fre fa)
  have HP3 := hid (Blk.fr HP2.out fa (fun h => h))
  have HBR3 := hid (Blk.fr HBR2.out fa (fun h => h))
  have F3 := hid (F2.out.trans fa (fun _ h _ => h))
  clear fa HC HP2 HBR2 F2
  generalize w2.heap.size = bc at *
  generalize w2.alloc _ = W3 at *
  go_upto_region 4 with fail
  have fa := (Fr.refl (fun _ => False) W3).alloc (.cells #[.bool true] 4)
  have HBF := hid (Blk.new W3 [.bool true] 4)
  have HR0 := hid (show RI w (fun k => k = br ∨ k = W3.heap.size ∨ k = bc ∨ k = p) br W3.heap.size bc p c ⟨r0, [], true⟩ (W3.alloc (.cells #[.bool true] 4)) from by
    have h1 := HCE.out
    have h2 := HCL.out
    have h3 := HCG.out
    have h4 := HBC.out.lt
    have h5 := HBRG.out
    have h6 := HPE.out
    have h7 : bc < W3.heap.size := HBC.out.lt
    exact ⟨F3.out.trans fa (fun _ h _ => h), Blk.fr HBR3.out fa (fun h => h), HBF.out, Blk.fr HBC.out fa (fun h => h), Blk.fr HP3.out fa (fun h => h), HOK0.out, ⟨by omega, by omega, by omega, by omega⟩, ⟨.inl rfl, .inr (.inl rfl), .inr (.inr (.inl rfl)), .inr (.inr (.inr rfl))⟩, ⟨_, HC3.out.fre fa, fun k hk => by omega, fun k hk hk2 => by omega⟩, ok_nil⟩)
  clear fa HBF HC3 HP3 HBR3 F3 HBC HCE HCL HCG HBRG
  generalize W3.heap.size = bf at *
  generalize W3.alloc _ = W4 at *
  obtain ⟨X, hX⟩ : ∃ X : Nat → Prop, X = fun k => k = br ∨ k = bf ∨ k = bc ∨ k = p := ⟨_, rfl⟩
  rw [← hX] at HR0
  have HXS := hid (fun k (h : X k) => (by rw [hX] at h; exact h : k = br ∨ k = bf ∨ k = bc ∨ k = p))
  clear hX
  have q0 : W4.cell? ⟨br, 0, none⟩ = some (.pointer (some ⟨p, 0, none⟩)) := HR0.out.cell_r
  have HN := hid HR0.out.num1
  have HNB := hid (RM.num_lt r0 1)
  dsimp only at HN
  obtain ⟨r1, hr1⟩ : ∃ r, (r0.num 1).1 = r := ⟨_, rfl⟩
  obtain ⟨n, hn⟩ : ∃ n, (r0.num 1).2 = n := ⟨_, rfl⟩
  rw [hr1, hn] at HN HRM
  rw [hn] at HNB
  have hn255 : n ≤ 255 := by have := HNB.out; omega
  clear hr1 hn HNB
  go_upto_region 6 with (go_at_call 70; refine HN.out.mono ?_; rintro e W5 ⟨rfl, h, f⟩; have HR5 := hid h; clear h f)
  clear HN HR0 q0 hmf
  go_loopw [15] (fun i wr => ∃ j : Nat, j ≤ n ∧ i = .int .i64 j ∧ RI w X br bf bc p c (rTabs ⟨r1, [], true⟩ j) wr) (fun i _ => n - (intOf i).toNat)
  case atStart => exact ⟨0, by omega, rfl, HR5.out⟩
  case round =>
    obtain ⟨j, hj, rfl, hri⟩ := hrel
    have HR6 := hid hri
    clear hri HR5
    by_cases hjn : j < n
    · have i1 : (0 : Int) ≤ (j : Int) := by omega
      have i2 : (j : Int) < (n : Int) := by omega
      have HTS := hid (show rTabs ⟨r1, [], true⟩ (j + 1) = rTab (rTabs ⟨r1, [], true⟩ j) from rfl)
      obtain ⟨Q, hQ⟩ : ∃ Q, rTabs ⟨r1, [], true⟩ j = Q := ⟨_, rfl⟩
      rw [hQ] at HTS HR6
      clear hQ
      have HTB := hid (show ∀ a b, Q.r.text.1 = a → Q.r.text.2 = b → rTab Q = rIxs b (rCols (a.num 1).1 (a.num 1).2).2 ⟨((rDo ⟨(rCols (a.num 1).1 (a.num 1).2).1, Q.m, Q.fine⟩ (stT b (rCols (a.num 1).1 (a.num 1).2).2) 0).r.num 1).1, (rDo ⟨(rCols (a.num 1).1 (a.num 1).2).1, Q.m, Q.fine⟩ (stT b (rCols (a.num 1).1 (a.num 1).2).2) 0).m, (rDo ⟨(rCols (a.num 1).1 (a.num 1).2).1, Q.m, Q.fine⟩ (stT b (rCols (a.num 1).1 (a.num 1).2).2) 0).fine⟩ ((rDo ⟨(rCols (a.num 1).1 (a.num 1).2).1, Q.m, Q.fine⟩ (stT b (rCols (a.num 1).1 (a.num 1).2).2) 0).r.num 1).2 from by rintro a b rfl rfl; rfl)
      obtain ⟨QR, Qm, Qf⟩ := Q
      dsimp only at HTB
      have HTL := hid (text_le QR)
      have HTX := hid HR6.out.wide.text
      have HXW := hid (show ∀ k, wr.heap.size ≤ k → (X k ∨ wr.heap.size ≤ k) from fun k h => .inr h)
      dsimp only at HTX
      obtain ⟨r2, hr2⟩ : ∃ r, QR.text.1 = r := ⟨_, rfl⟩
      obtain ⟨tn, htn⟩ : ∃ r, QR.text.2 = r := ⟨_, rfl⟩
      replace HTB := hid (HTB.out r2 tn hr2 htn)
      rw [hr2, htn] at HTX
      rw [htn] at HTL
      have HXB := hid HR6.out.at_
      have HGE := hid HR6.out.fr.size
      have HLT := hid HR6.out.lt
      clear hr2 htn
      have q0 : wr.cell? ⟨br, 0, none⟩ = some (.pointer (some ⟨p, 0, none⟩)) := HR6.out.cell_r
      obtain ⟨B, hB⟩ : ∃ B, B = wr.heap.size := ⟨_, rfl⟩
      rw [← hB] at HTX HXW HGE HLT
      have HBE := hid hB
      clear hB
      obtain ⟨X1, hX1⟩ : ∃ X1 : Nat → Prop, X1 = fun k => X k ∨ B ≤ k := ⟨_, rfl⟩
      rw [← hX1] at HTX
      have HX1 := hid (show (∀ k, X k → X1 k) ∧ ∀ k, B ≤ k → X1 k from by rw [hX1]; exact ⟨fun k h => .inl h, fun k h => .inr h⟩)
      clear hX1 HXW
      go_upto_region 8 with (go_at_call 79; refine HTX.out.mono ?_; rintro e W7 ⟨rfl, h, f⟩; have HR7 := hid h; have HSZ7 := hid f.size; clear h f)
      clear HTX q0 HR6
      have fa := (Fr.refl (fun _ => False) W7).alloc (.cells #[.int .i64 1, .string (bs tn), .string ⟨#[]⟩, .slice none 0 0, .slice none 0 0, .slice none 0 0, .slice none 0 0, .slice none 0 0, .string ⟨#[]⟩, .string ⟨#[]⟩, .string ⟨#[]⟩, .int .i64 0, .slice none 0 0, .int .i64 0, .int .i64 0] 90)
      have HD8 := hid (Blk.new W7 [.int .i64 1, .string (bs tn), .string ⟨#[]⟩, .slice none 0 0, .slice none 0 0, .slice none 0 0, .slice none 0 0, .slice none 0 0, .string ⟨#[]⟩, .string ⟨#[]⟩, .string ⟨#[]⟩, .int .i64 0, .slice none 0 0, .int .i64 0, .int .i64 0] 90)
      have HR8 := hid (HR7.out.fre fa)
      have HDB := hid (show B ≤ W7.heap.size from by have := HSZ7.out; have := HBE.out; omega)
      clear fa HR7 HSZ7
      generalize W7.heap.size = d at *
      generalize W7.alloc _ = W8 at *
      have q0 : W8.cell? ⟨br, 0, none⟩ = some (.pointer (some ⟨p, 0, none⟩)) := HR8.out.cell_r
      have HN := hid HR8.out.num1
      have HNB := hid (RM.num_lt r2 1)
      dsimp only at HN
      obtain ⟨r3, hr3⟩ : ∃ r, (r2.num 1).1 = r := ⟨_, rfl⟩
      obtain ⟨nc, hnc⟩ : ∃ n, (r2.num 1).2 = n := ⟨_, rfl⟩
      rw [hr3, hnc] at HN HTB
      rw [hnc] at HNB
      have hnc255 : nc ≤ 255 := by have := HNB.out; omega
      clear hr3 hnc HNB
      go_upto_region 9 with (go_at_call 70; refine HN.out.mono ?_; rintro e W9 ⟨rfl, h, f⟩; have HR9 := hid h; have HD9 := hid (Blk.fr HD8.out f (HD8.out.ne_of_type HR8.out.rd (by decide))); clear h f)
      clear HN HR8 q0 HD8
      have HRW9 := hid (show Row 171 2 B W9 (.slice none 0 0) 0 [] from Row.nil)
      go_wp2_with (fail)
      go_loopw [22] (fun i wr => ∃ (jc : Nat) (ac : Option Addr) (cc : Nat), jc ≤ nc ∧ i = .int .i64 jc ∧ RI w X1 br bf bc p c ⟨(rCols r3 jc).1, Qm, Qf⟩ wr ∧ Blk wr d [.int .i64 1, .string (bs tn), .string ⟨#[]⟩, .slice ac (rCols r3 jc).2.length cc, .slice none 0 0, .slice none 0 0, .slice none 0 0, .slice none 0 0, .string ⟨#[]⟩, .string ⟨#[]⟩, .string ⟨#[]⟩, .int .i64 0, .slice none 0 0, .int .i64 0, .int .i64 0] 90 ∧ Row 171 2 B wr (.slice ac (rCols r3 jc).2.length cc) (rCols r3 jc).2.length ((rCols r3 jc).2.flatMap Col.cells)) (fun i _ => nc - (intOf i).toNat)
      case atStart => exact ⟨0, none, 0, by omega, rfl, HR9.out, HD9.out, HRW9.out⟩
      case round =>
        obtain ⟨jc, ac, cc, hjc, rfl, hri, hbd, hrow⟩ := hrel
        have HRA := hid hri
        have HDA := hid hbd
        have HWA := hid hrow
        clear hri hbd hrow HR9 HD9 HRW9
        have HCL := hid (rcols_len r3 jc)
        by_cases hjcn : jc < nc
        · have i3 : (0 : Int) ≤ (jc : Int) := by omega
          have i4 : (jc : Int) < (nc : Int) := by omega
          have HCS := hid (cols_succ r3 jc)
          obtain ⟨P, hP⟩ : ∃ P, rCols r3 jc = P := ⟨_, rfl⟩
          rw [hP] at HCS HRA HDA HWA HCL
          clear hP
          obtain ⟨r4, l4⟩ := P
          dsimp only at HCS HRA HDA HWA HCL
          have HTX := hid (fun W (f : Fr (fun _ => False) wr W) => (HRA.out.fre f).text)
          dsimp only at HTX
          obtain ⟨r5, hr5⟩ : ∃ r, r4.text.1 = r := ⟨_, rfl⟩
          obtain ⟨cn, hcn⟩ : ∃ r, r4.text.2 = r := ⟨_, rfl⟩
          rw [hr5, hcn] at HTX HCS
          clear hr5 hcn
          obtain ⟨r6, hr6⟩ : ∃ r, (r5.num 1).1 = r := ⟨_, rfl⟩
          obtain ⟨kd, hkd⟩ : ∃ r, (r5.num 1).2 = r := ⟨_, rfl⟩
          rw [hr6, hkd] at HCS
          have HRK := hid (And.intro hr6 hkd)
          clear hr6 hkd
          go_upto_region 10 with fail
          have fd := (Fr.refl (fun _ => False) wr).drew
          replace HTX := hid (HTX.out _ fd)
          have HDB2 := hid (Blk.fr HDA.out fd (fun h => h))
          have HRB := hid (HRA.out.fre fd)
          have HWB := hid (HWA.out.fre fd)
          clear fd HRA HDA HWA
          refine wp_region_scr (.take 0 (.take 1 (.take 2 (.take 4 (.op 3 (.op 5 (.op 6 (.op 7 (.op 8 (.take 9 (.op 10 .done))))))))))) (fun kz w => (kz ≤ 10 → w.cell? ⟨d, 3, none⟩ = some (.slice ac l4.length cc) ∧ w.cell? ⟨br, 0, none⟩ = some (.pointer (some ⟨p, 0, none⟩))) ∧ Hid True) (by kernel_rfl) (by kernel_rfl) (by intro c a d v w h; cases d <;> exact h) ?_
          repeat
            first
            | (refine wpT_pure rfl rfl rfl ?_; apply Exists.intro; refine ⟨?_, ?_⟩; intro w; (first | (first | (obtain ⟨qa1, qa2⟩ := qa; go_simp <;> rfl)) | (go_simp <;> rfl)); simp only [Act.put, List.setIfInBounds_toArray, List.set_cons_zero, List.set_cons_succ])
            | (refine wpT_take 10 rfl rfl (by decide +kernel) ⟨fun _ => ⟨HDB2.out.cell 3, HRB.out.cell_r⟩, hid trivial⟩ ?_; apply Exists.intro; refine ⟨?_, ?_⟩; intro w hw; (have qa := hw.1 (Nat.le_refl _); have qb := hw.2); (first | (first | (obtain ⟨qa1, qa2⟩ := qa; go_simp <;> rfl)) | (go_simp <;> rfl)); simp only [Act.put, List.setIfInBounds_toArray, List.set_cons_zero, List.set_cons_succ])
            | (refine wpT_skip rfl rfl ?_; simp only [Act.put, List.setIfInBounds_toArray, List.set_cons_zero, List.set_cons_succ])
          generalize wr.drew = WA at *
          refine wpT_op rfl ?_
          go_wp2_with ((go_at_call 79; refine HTX.out.mono ?_; rintro e WB ⟨rfl, h, f⟩; have HRC := hid h; have HDC := hid (Blk.fr HDB2.out f (HDB2.out.ne_of_type HRB.out.rd (by decide))); have HWC := hid (HWB.out.fr f (fun k hk e => HWB.out.ne HRB.out.rd (by decide) k hk e)); clear h f))
          (refine ⟨?_, ?_⟩; focus (intro kz hk hk2 hh; first | (exfalso; simp at hk2; omega) | exact hh | exact (fun h => absurd h (by omega)) | obtain ⟨qa, qb⟩ := hh; first | exact ⟨qa, qb⟩ | (refine ⟨fun h => absurd h (by omega), ?_⟩; first | exact qb | (exact ⟨HDC.out.cell 3, HRC.out.cell_r⟩)) | (refine ⟨fun h => ?_, ?_⟩; (have qa := qa h); all_goals (first | exact qa | exact qb | (exact ⟨HDC.out.cell 3, HRC.out.cell_r⟩)))))
          have HN := hid HRC.out.num1
          dsimp only at HN
          rw [HRK.out.1, HRK.out.2] at HN
          refine wpT_op rfl ?_
          go_wp2_with ((go_at_call 70; refine HN.out.mono ?_; rintro e WD ⟨rfl, h, f⟩; have HRD := hid h; have HDD := hid (Blk.fr HDC.out f (HDC.out.ne_of_type HRC.out.rd (by decide))); have HWD := hid (HWC.out.fr f (fun k hk e => HWC.out.ne HRC.out.rd (by decide) k hk e)); clear h f))
          (refine ⟨?_, ?_⟩; focus (intro kz hk hk2 hh; first | (exfalso; simp at hk2; omega) | exact hh | exact (fun h => absurd h (by omega)) | obtain ⟨qa, qb⟩ := hh; first | exact ⟨qa, qb⟩ | (refine ⟨fun h => absurd h (by omega), ?_⟩; first | exact qb | (exact ⟨HDD.out.cell 3, HRD.out.cell_r⟩)) | (refine ⟨fun h => ?_, ?_⟩; (have qa := qa h); all_goals (first | exact qa | exact qb | (exact ⟨HDD.out.cell 3, HRD.out.cell_r⟩)))))
          clear HDC HDB2 HRB HRC HWB HWC HN HTX
          refine wpT_op rfl ?_
          go_wp2_with (fail)
          (refine ⟨?_, ?_⟩; focus (intro kz hk hk2 hh; first | (exfalso; simp at hk2; omega) | exact hh | exact (fun h => absurd h (by omega)) | obtain ⟨qa, qb⟩ := hh; first | exact ⟨qa, qb⟩ | (refine ⟨fun h => absurd h (by omega), ?_⟩; first | exact qb | (exact qa)) | (refine ⟨fun h => ?_, ?_⟩; (have qa := qa h); all_goals (first | exact qa | exact qb | (exact qa)))))
          have FA := hid (fun o => (Fr.refl (fun _ => False) WD).alloc o)
          have HSZ := hid (show B ≤ WD.heap.size from by have := HDD.out.lt; have := HDB.out; omega)
          refine wpT_op rfl ?_
          go_wp2_with (fail)
          (refine ⟨?_, ?_⟩; focus (intro kz hk hk2 hh; first | (exfalso; simp at hk2; omega) | exact hh | exact (fun h => absurd h (by omega)) | obtain ⟨qa, qb⟩ := hh; first | exact ⟨qa, qb⟩ | (refine ⟨fun h => absurd h (by omega), ?_⟩; first | exact qb | (exact ⟨(Blk.fr HDD.out (FA.out _) (fun h => h)).cell 3, (HRD.out.fre (FA.out _)).cell_r⟩)) | (refine ⟨fun h => ?_, ?_⟩; (have qa := qa h); all_goals (first | exact qa | exact qb | (exact ⟨(Blk.fr HDD.out (FA.out _) (fun h => h)).cell 3, (HRD.out.fre (FA.out _)).cell_r⟩)))))
          refine wpT_op rfl ?_
          go_wp2_with ((at_builtin; refine wpList_app1 rfl (s := .tmp 25) (x := .tmp 31) (t := 86) rfl Tryz.underlying86 info_col rfl rfl rfl HWD.out HSZ.out rfl (by simp [Value.oneCell']) (by have := HCL.out.1; omega) (by have := HCL.out.1; omega) ?_; intro ab ac7 wg APP; have HRE := hid (HRD.out.keep APP.fr (fun k hk => ⟨HX1.out.2 k (HWD.out.new k hk), Nat.le_trans HGE.out (HWD.out.new k hk)⟩) ⟨fun e => HWD.out.ne HRD.out.brk (by decide) _ e rfl, fun e => HWD.out.ne HRD.out.bfk (by decide) _ e rfl, fun e => HWD.out.ne HRD.out.bck (by decide) _ e rfl, fun e => HWD.out.ne HRD.out.rd (by decide) _ e rfl⟩); have HDE := hid (Blk.fr HDD.out APP.fr (fun hk => HWD.out.ne HDD.out (by decide) _ hk rfl)); have HWE := hid (APP.row.cast (m := (l4 ++ [(⟨cn, (kd : Int)⟩ : Col)]).length) (ys := (l4 ++ [(⟨cn, (kd : Int)⟩ : Col)]).flatMap Col.cells) (by rw [List.length_append]; rfl) (by rw [List.flatMap_append]; rfl)); clear APP))
          (refine ⟨?_, ?_⟩; focus (intro kz hk hk2 hh; first | (exfalso; simp at hk2; omega) | exact hh | exact (fun h => absurd h (by omega)) | obtain ⟨qa, qb⟩ := hh; first | exact ⟨qa, qb⟩ | (refine ⟨fun h => absurd h (by omega), ?_⟩; first | exact qb | (exact ⟨HDE.out.cell 3, HRE.out.cell_r⟩)) | (refine ⟨fun h => ?_, ?_⟩; (have qa := qa h); all_goals (first | exact qa | exact qb | (exact ⟨HDE.out.cell 3, HRE.out.cell_r⟩)))))
          clear HDD HRD HWD FA
          repeat
            first
            | (refine wpT_pure rfl rfl rfl ?_; apply Exists.intro; refine ⟨?_, ?_⟩; intro w; ((go_simp <;> rfl)); simp only [Act.put, List.setIfInBounds_toArray, List.set_cons_zero, List.set_cons_succ])
            | (refine wpT_take 10 rfl rfl (by decide +kernel) ⟨fun _ => ⟨HDE.out.cell 3, HRE.out.cell_r⟩, hid trivial⟩ ?_; apply Exists.intro; refine ⟨?_, ?_⟩; intro w hw; (have qa := hw.1 (Nat.le_refl _); have qb := hw.2); ((go_simp <;> rfl)); simp only [Act.put, List.setIfInBounds_toArray, List.set_cons_zero, List.set_cons_succ])
            | (refine wpT_skip rfl rfl ?_; simp only [Act.put, List.setIfInBounds_toArray, List.set_cons_zero, List.set_cons_succ])
          have k5 : wg.cell? ⟨d, 3, none⟩ = some (.slice ac l4.length cc) := HDE.out.cell 3
          have z5 : wg.frozen? ⟨d, 3, none⟩ = false := HDE.out.frozen 3
          have fs := (Fr.refl (fun k => k = d) wg).setCell ⟨d, 3, none⟩ (.slice ab (l4.length + 1) ac7) (fun _ => rfl)
          have HRF := hid (HRE.out.put1 (d := d) ⟨HX1.out.2 _ HDB.out, Nat.le_trans HGE.out HDB.out⟩ (HRE.out.off HDE.out) 3 (.slice ab (l4.length + 1) ac7))
          have HDF := hid (HDE.out.set 3 (.slice ab (l4.length + 1) ac7))
          have e : (l4 ++ [(⟨cn, (kd : Int)⟩ : Col)]).length = l4.length + 1 := by simp
          have HWF := hid (show Row 171 2 B (wg.setCell ⟨d, 3, none⟩ (.slice ab (l4.length + 1) ac7)) (.slice ab (l4 ++ [(⟨cn, (kd : Int)⟩ : Col)]).length ac7) (l4 ++ [(⟨cn, (kd : Int)⟩ : Col)]).length ((l4 ++ [(⟨cn, (kd : Int)⟩ : Col)]).flatMap Col.cells) from by
            have := HWE.out.fr fs (fun k hk e => HWE.out.ne HDE.out (by decide) k hk e)
            rw [e] at this ⊢
            exact this)
          clear e fs HRE HDE HWE
          refine wpT_op rfl ?_
          go_wp2_with (fail)
          (refine ⟨?_, ?_⟩; focus (intro kz hk hk2 hh; first | (exfalso; simp at hk2; omega) | exact hh | exact (fun h => absurd h (by omega)) | obtain ⟨qa, qb⟩ := hh; first | exact ⟨qa, qb⟩ | (refine ⟨fun h => absurd h (by omega), ?_⟩; first | exact qb | (exact hid trivial)) | (refine ⟨fun h => ?_, ?_⟩; (have qa := qa h); all_goals (first | exact qa | exact qb | (exact hid trivial)))))
          refine wpT_nil ?_
          go_wp2_with (fail)
          go_roundw
          case rel =>
            refine ⟨jc + 1, ab, ac7, by omega, by go_num, ?_⟩
            rw [HCS.out]
            refine ⟨HRF.out, ?_, HWF.out⟩
            have e : (l4 ++ [(⟨cn, (kd : Int)⟩ : Col)]).length = l4.length + 1 := by simp
            dsimp only
            rw [e]
            exact HDF.out
          case measure => simp [intOf]; omega
        · obtain rfl : jc = nc := by omega
          have i9 : ¬ ((jc : Int) < (jc : Int)) := by omega
          obtain ⟨P, hP⟩ : ∃ P, rCols r3 jc = P := ⟨_, rfl⟩
          rw [hP] at HTB HRA HDA HWA HCL
          clear hP
          obtain ⟨r4, l4⟩ := P
          dsimp only at HTB HRA HDA HWA HCL
          have hl4 : l4.length ≤ 255 := by have := HCL.out.1; omega
          obtain ⟨X2, hX2⟩ : ∃ X2 : Nat → Prop, X2 = fun k => X k ∨ k = d ∨ (Value.slice ac l4.length cc).ownBlock = some k := ⟨_, rfl⟩
          have HX2 := hid (show (∀ k, X k → X2 k) ∧ X2 d ∧ (∀ k, (Value.slice ac l4.length cc).ownBlock = some k → X2 k) ∧ ∀ k, X2 k → X1 k ∧ (X k ∨ k = d ∨ (Value.slice ac l4.length cc).ownBlock = some k) from by
            rw [hX2]
            refine ⟨fun k h => .inl h, .inr (.inl rfl), fun k h => .inr (.inr h), fun k h => ⟨?_, h⟩⟩
            rcases h with h | rfl | h
            · exact HX1.out.1 k h
            · exact HX1.out.2 _ HDB.out
            · exact HX1.out.2 _ (HWA.out.new k h))
          clear hX2
          have HXB2 := hid (show X2 br ∧ X2 bf ∧ X2 bc ∧ X2 p from ⟨HX2.out.1 _ HXB.out.1, HX2.out.1 _ HXB.out.2.1, HX2.out.1 _ HXB.out.2.2.1, HX2.out.1 _ HXB.out.2.2.2⟩)
          have HX2L := hid (fun (W : World) (l : List Value) (hd : Blk W d l 90) (hr : Row 171 2 B W (.slice ac l4.length cc) l4.length (l4.flatMap Col.cells)) (hB : B ≤ W.heap.size) k (hk : X2 k) => (by
            rcases (HX2.out.2.2.2 k hk).2 with h | rfl | h
            · have h1 := HXS.out k h
              have h2 := HLT.out
              omega
            · exact hd.lt
            · exact hr.lt h : k < W.heap.size))
          have HWBS := hid (show B ≤ wr.heap.size from by have := HDA.out.lt; have := HDB.out; omega)
          have cf : wr.cell? ⟨bf, 0, none⟩ = some (.bool Qf) := HRA.out.cell_f
          have zf : wr.frozen? ⟨bf, 0, none⟩ = false := HRA.out.free_f
          have cc0 : wr.cell? ⟨bc, 0, none⟩ = some (.pointer (some ⟨c, 0, none⟩)) := HRA.out.cell_c
          go_upto_region 12 with fail
          have HKEEP := hid (fun (W W' : World) (l : List Value) (hd : Blk W d l 90) (hr : Row 171 2 B W (.slice ac l4.length cc) l4.length (l4.flatMap Col.cells)) (f : Fr (fun k => ¬ X2 k) W W') => (⟨Blk.fr hd f (fun h => h HX2.out.2.1), hr.fr f (fun k hk h => h (HX2.out.2.2.1 k hk))⟩ : Blk W' d l 90 ∧ Row 171 2 B W' (.slice ac l4.length cc) l4.length (l4.flatMap Col.cells)))
          go_cut [] from 16 to 50 (fun wx => RI w X2 br bf bc p c (rDo ⟨r4, Qm, Qf⟩ (stT tn l4) 0) wx ∧ Blk wx d [.int .i64 1, .string (bs tn), .string ⟨#[]⟩, .slice ac l4.length cc, .slice none 0 0, .slice none 0 0, .slice none 0 0, .slice none 0 0, .string ⟨#[]⟩, .string ⟨#[]⟩, .string ⟨#[]⟩, .int .i64 0, .slice none 0 0, .int .i64 0, .int .i64 0] 90 ∧ Row 171 2 B wx (.slice ac l4.length cc) l4.length (l4.flatMap Col.cells) ∧ B ≤ wx.heap.size)
          case first =>
            cases Qf with
            | false =>
              have H7 := hid ((HRA.out.less (fun k hk => (HX2.out.2.2.2 k hk).1) HXB2.out).mark false)
              have fs := (Fr.refl (fun k => k = bf) wr).setCell ⟨bf, 0, none⟩ (.bool false) (fun _ => rfl)
              have HK7 := hid (And.intro (Blk.fr HDA.out fs (HDA.out.ne_of_type HRA.out.bfk (by decide))) (HWA.out.fr fs (fun k hk e => HWA.out.ne HRA.out.bfk (by decide) k hk e)))
              have HB7 := hid (Nat.le_trans HWBS.out fs.size)
              clear fs
              go_wp2_with (fail)
              go_meet
              exact ⟨H7.out, HK7.out.1, HK7.out.2, HB7.out⟩
            | true =>
              have HDO := hid (HRA.out.do_ (Y := X2) (P := fun _ => True) (fun k hk => ⟨(HX2.out.2.2.2 k hk).1, HX2L.out _ _ HDA.out HWA.out HWBS.out k hk⟩) HXB2.out (t := ⟨stT tn l4, ac, cc, none, 0, none, 0, 0, none, 0, 0, none, 0, 0, ⟨#[]⟩, ⟨#[]⟩, 0, none, 0, 0, 0, 0⟩)
                ⟨HWA.out.sl' (fun _ _ => trivial), ⟨none, 0, rfl, Nat.le_refl _, fun h => absurd rfl h⟩, by simp only [stT]; omega, by simp [stT], fun x hx => by have := HCL.out.2 x hx; omega, fun x hx => by simp [stT] at hx⟩ (show -9223372036854775808 ≤ (1 : Int) ∧ (1 : Int) ≤ 9223372036854775807 from ⟨by decide, by decide⟩) 0)
              unfold StV.cells at HDO
              dsimp only [stT, List.length_nil] at HDO
              have HE := hid (show rDo ⟨r4, Qm, true⟩ (stT tn l4) 0 = ⟨r4, (doM Qm (stT tn l4) 0).1, decide ((doM Qm (stT tn l4) 0).2 = 0)⟩ from rfl)
              obtain ⟨dp, hdp⟩ : ∃ dp, doM Qm (stT tn l4) 0 = dp := ⟨_, rfl⟩
              have hdp2 := hdp
              unfold stT at hdp2
              rw [hdp2] at HDO
              rw [hdp] at HE
              clear hdp hdp2
              obtain ⟨m6, e6⟩ := dp
              dsimp only at HDO HE
              have HRG := hid (HDA.out.all)
              by_cases h0 : e6 = 0
              · subst h0
                replace HE := hid (HE.out.trans (show (⟨r4, m6, decide ((0 : Int) = 0)⟩ : RS) = ⟨r4, m6, true⟩ from by simp))
                go_wp2_with (first
                  | (refine wpList_load_g rfl 90 (.tmp 8) rfl d 0 rfl _ _ HRG.out Tryz.underlying90 rfl size_st ?_)
                  | (go_at_call 116; refine HDO.out.mono ?_; rintro e W6 ⟨rfl, h, f⟩; have H6 := hid h; have HK6 := hid (HKEEP.out _ _ _ HDA.out HWA.out (f.mono (fun k hk _ hx => hk (HX2.out.2.2.2 k hx).1))); have HB6 := hid (Nat.le_trans HWBS.out f.size); have cf2 : W6.cell? ⟨bf, 0, none⟩ = some (.bool true) := H6.out.cell_f; have zf2 : W6.frozen? ⟨bf, 0, none⟩ = false := H6.out.free_f; clear h f))
                have H7 := hid (H6.out.mark true)
                have fs := (Fr.refl (fun k => k = bf) W6).setCell ⟨bf, 0, none⟩ (.bool true) (fun _ => rfl)
                have HK7 := hid (And.intro (Blk.fr HK6.out.1 fs (HK6.out.1.ne_of_type H6.out.bfk (by decide))) (HK6.out.2.fr fs (fun k hk e => HK6.out.2.ne H6.out.bfk (by decide) k hk e)))
                have HB7 := hid (Nat.le_trans HB6.out fs.size)
                clear fs
                go_meet
                exact ⟨by rw [HE.out]; exact H7.out, HK7.out.1, HK7.out.2, HB7.out⟩
              · have h1 : (e6 == 0) = false := by rw [beq_eq_false_iff_ne]; exact h0
                replace HE := hid (HE.out.trans (show (⟨r4, m6, decide (e6 = 0)⟩ : RS) = ⟨r4, m6, false⟩ from by simp [h0]))
                clear h0
                go_wp2_with (first
                  | (refine wpList_load_g rfl 90 (.tmp 8) rfl d 0 rfl _ _ HRG.out Tryz.underlying90 rfl size_st ?_)
                  | (go_at_call 116; refine HDO.out.mono ?_; rintro e W6 ⟨rfl, h, f⟩; have H6 := hid h; have HK6 := hid (HKEEP.out _ _ _ HDA.out HWA.out (f.mono (fun k hk _ hx => hk (HX2.out.2.2.2 k hx).1))); have HB6 := hid (Nat.le_trans HWBS.out f.size); have cf2 : W6.cell? ⟨bf, 0, none⟩ = some (.bool true) := H6.out.cell_f; have zf2 : W6.frozen? ⟨bf, 0, none⟩ = false := H6.out.free_f; clear h f))
                have H7 := hid (H6.out.mark false)
                have fs := (Fr.refl (fun k => k = bf) W6).setCell ⟨bf, 0, none⟩ (.bool false) (fun _ => rfl)
                have HK7 := hid (And.intro (Blk.fr HK6.out.1 fs (HK6.out.1.ne_of_type H6.out.bfk (by decide))) (HK6.out.2.fr fs (fun k hk e => HK6.out.2.ne H6.out.bfk (by decide) k hk e)))
                have HB7 := hid (Nat.le_trans HB6.out fs.size)
                clear fs
                go_meet
                exact ⟨by rw [HE.out]; exact H7.out, HK7.out.1, HK7.out.2, HB7.out⟩
          case rest =>
            obtain ⟨hri, hbd, hrow, hB2⟩ := hcut
            have HRB := hid hri
            have HDB3 := hid hbd
            have HWB := hid hrow
            have HBB := hid hB2
            clear hri hbd hrow hB2 HRA HDA HWA cf zf cc0 HWBS
            obtain ⟨QD, hQD⟩ : ∃ Q, rDo ⟨r4, Qm, Qf⟩ (stT tn l4) 0 = Q := ⟨_, rfl⟩
            rw [hQD] at HRB HTB
            clear hQD
            obtain ⟨r5, m5, f5⟩ := QD
            dsimp only at HRB HTB
            have q0 : wc.cell? ⟨br, 0, none⟩ = some (.pointer (some ⟨p, 0, none⟩)) := HRB.out.cell_r
            have HN := hid HRB.out.num1
            have HNB := hid (RM.num_lt r5 1)
            dsimp only at HN
            obtain ⟨r6, hr6⟩ : ∃ r, (r5.num 1).1 = r := ⟨_, rfl⟩
            obtain ⟨nx, hnx⟩ : ∃ n, (r5.num 1).2 = n := ⟨_, rfl⟩
            rw [hr6, hnx] at HN HTB
            rw [hnx] at HNB
            have hnx255 : nx ≤ 255 := by have := HNB.out; omega
            clear hr6 hnx HNB
            go_upto_region 14 with (go_at_call 70; refine HN.out.mono ?_; rintro e WC ⟨rfl, h, f⟩; have HRC := hid h; have HDC := hid (Blk.fr HDB3.out f (HDB3.out.ne_of_type HRB.out.rd (by decide))); have HWC := hid (HWB.out.fr f (fun k hk e => HWB.out.ne HRB.out.rd (by decide) k hk e)); have HBC2 := hid (Nat.le_trans HBB.out f.size); clear h f)
            clear HRB HDB3 HWB HBB q0 HN
            go_wp2_with (fail)
            go_loopw [44] (fun i wr => ∃ jx : Nat, jx ≤ nx ∧ i = .int .i64 jx ∧ RI w X2 br bf bc p c (rIxs tn l4 ⟨r6, m5, f5⟩ jx) wr ∧ Blk wr d [.int .i64 1, .string (bs tn), .string ⟨#[]⟩, .slice ac l4.length cc, .slice none 0 0, .slice none 0 0, .slice none 0 0, .slice none 0 0, .string ⟨#[]⟩, .string ⟨#[]⟩, .string ⟨#[]⟩, .int .i64 0, .slice none 0 0, .int .i64 0, .int .i64 0] 90 ∧ Row 171 2 B wr (.slice ac l4.length cc) l4.length (l4.flatMap Col.cells) ∧ B ≤ wr.heap.size) (fun i _ => nx - (intOf i).toNat)
            case atStart => exact ⟨0, by omega, rfl, HRC.out, HDC.out, HWC.out, HBC2.out⟩
            case round =>
              obtain ⟨jx, hjx, rfl, hri, hbd, hrow, hB2⟩ := hrel
              have HRE := hid hri
              have HDE := hid hbd
              have HWE := hid hrow
              have HBE2 := hid hB2
              clear hri hbd hrow hB2 HRC HDC HWC HBC2
              by_cases hjxn : jx < nx
              · have i5 : (0 : Int) ≤ (jx : Int) := by omega
                have i6 : (jx : Int) < (nx : Int) := by omega
                have HR1 := hid (read1_go HRE.out (HX2L.out _ _ HDE.out HWE.out HBE2.out) tn HWE.out HX2.out.2.2.1 (by omega) (fun x hx => by have := HCL.out.2 x hx; omega))
                unfold stc nilS at HR1
                have HIS := hid (show rIxs tn l4 ⟨r6, m5, f5⟩ (jx + 1) = rIx tn l4 (rIxs tn l4 ⟨r6, m5, f5⟩ jx) from rfl)
                have HRG := hid (HDE.out.all)
                go_wp2_with (first
                  | (refine wpList_load_mid rfl 90 (.tmp 8) rfl d 0 rfl _ _ HRG.out Tryz.underlying90 rfl size_st ?_)
                  | (go_at_call 115; refine HR1.out.mono ?_; rintro e WF ⟨rfl, h, f⟩; have HRF := hid h; have HFF := hid f; clear h f))
                have HDF := hid (Blk.fr HDE.out HFF.out (fun h => h.elim (HDE.out.ne_of_type HRE.out.rd (by decide)) (fun h => h.elim (HDE.out.ne_of_type HRE.out.bfk (by decide)) (fun h => h HX2.out.2.1))))
                have HWF := hid (HWE.out.fr HFF.out (fun k hk h => h.elim (HWE.out.ne HRE.out.rd (by decide) k hk) (fun h => h.elim (HWE.out.ne HRE.out.bfk (by decide) k hk) (fun h => h (HX2.out.2.2.1 k hk)))))
                have HBF2 := hid (Nat.le_trans HBE2.out HFF.out.size)
                go_roundw
                case rel => exact ⟨jx + 1, by omega, by go_num, by rw [HIS.out]; exact HRF.out, HDF.out, HWF.out, HBF2.out⟩
                case measure => simp [intOf]; omega
              · obtain rfl : jx = nx := by omega
                have i7 : ¬ ((jx : Int) < (jx : Int)) := by omega
                have HEND := hid (HRE.out.less (HX2.out.1) HXB.out)
                rw [← HTB.out] at HEND
                go_wp2_with (fail)
                go_roundw
                case rel => exact ⟨j + 1, by omega, by go_num, by rw [HTS.out]; exact HEND.out⟩
                case measure => simp [intOf]; omega
    · obtain rfl : j = n := by omega
      have i9 : ¬ ((j : Int) < (j : Int)) := by omega
      obtain ⟨Q, hQ⟩ : ∃ Q, rTabs ⟨r1, [], true⟩ j = Q := ⟨_, rfl⟩
      rw [hQ] at HRM HR6
      clear hQ
      obtain ⟨rr, m, fn⟩ := Q
      dsimp only at HRM
      have HFA := hid (OFailed_go HR6.out.rd)
      have HLE := hid (OLeft_go HR6.out.rd HR6.out.ok)
      have q0 : wr.cell? ⟨br, 0, none⟩ = some (.pointer (some ⟨p, 0, none⟩)) := HR6.out.cell_r
      obtain ⟨fl, hfl⟩ : ∃ b, rr.failed = b := ⟨_, rfl⟩
      obtain ⟨lf, hlf⟩ : ∃ b, rr.left = b := ⟨_, rfl⟩
      dsimp only at HFA HLE
      rw [hfl] at HFA
      rw [hlf] at HLE
      rw [hfl, hlf] at HRM
      clear hfl hlf
      cases fl with
      | true =>
        have HO := hid (HRM.out.trans (if_pos (.inl rfl)))
        have FF := hid HR6.out.fr
        go_wp2_with (go_at_call 72; refine HFA.out.mono ?_; rintro e W6 ⟨rfl, rfl⟩)
        go_ret2
        rw [HO.out]
        exact ⟨rfl, FF.out⟩
      | false =>
        by_cases hl0 : 0 < lf
        · have HO := hid (HRM.out.trans (if_pos (.inr (.inl hl0))))
          have il : (0 : Int) < (lf : Int) := by omega
          have FF := hid HR6.out.fr
          go_wp2_with (first
            | (go_at_call 72; refine HFA.out.mono ?_; rintro e W6 ⟨rfl, rfl⟩)
            | (go_at_call 80; refine HLE.out.mono ?_; rintro e W6 ⟨rfl, f⟩; have FF2 := hid (FF.out.trans f (fun _ h _ => h)); clear f))
          go_ret2
          rw [HO.out]
          exact ⟨rfl, FF2.out⟩
        · obtain rfl : lf = 0 := by omega
          have il : ¬ (0 : Int) < ((0 : Nat) : Int) := by omega
          cases fn with
          | false =>
            have HO := hid (HRM.out.trans (if_pos (.inr (.inr rfl))))
            go_wp2_with (first
              | (go_at_call 72; refine HFA.out.mono ?_; rintro e W6 ⟨rfl, rfl⟩)
              | (go_at_call 80; refine HLE.out.mono ?_; rintro e W6 ⟨rfl, f⟩; have HR7 := hid (HR6.out.fre f); have cf : W6.cell? ⟨bf, 0, none⟩ = some (.bool false) := HR7.out.cell_f; clear f))
            go_ret2
            rw [HO.out]
            exact ⟨rfl, HR7.out.fr⟩
          | true =>
            have HO := hid (HRM.out.trans (if_neg (by rintro (h | h | h) <;> first | cases h | omega)))
            go_wp2_with (first
              | (go_at_call 72; refine HFA.out.mono ?_; rintro e W6 ⟨rfl, rfl⟩)
              | (go_at_call 80; refine HLE.out.mono ?_; rintro e W6 ⟨rfl, f⟩; have HR7 := hid (HR6.out.fre f); have cf : W6.cell? ⟨bf, 0, none⟩ = some (.bool true) := HR7.out.cell_f; have cc0 : W6.cell? ⟨bc, 0, none⟩ = some (.pointer (some ⟨c, 0, none⟩)) := HR7.out.cell_c; clear f))
            go_ret2
            rw [HO.out]
            obtain ⟨S, h1, h2, h3⟩ := HR7.out.cr
            exact ⟨c, rfl, h1.mono (fun k hk => ⟨h2 k hk, h1.lt hk⟩) (fun k hk => hk.2), HR7.out.fr⟩
end Go.Proofs.YtiimomgbklgicaaGreat
namespace Go.VB
open Go.RowKit
theorem madeCells_flat (z : List Value) (n : Nat) : (madeCells z.toArray (n * z.length)).toList = (List.replicate n z).flatten := by
  have h : ∀ n, (List.range (n * z.length)).map (fun i => z.toArray[i % z.toArray.size]!) = (List.replicate n z).flatten := by
    intro n
    induction n with
    | zero => simp
    | succ n ih =>
      rw [Nat.succ_mul, List.range_add, List.map_append, ih, List.replicate_succ', List.flatten_append]
      congr 1
      simp only [List.map_map, List.flatten_singleton]
      apply List.ext_getElem
      · simp
      · intro i h1 h2
        simp at h1
        simp [Nat.mod_eq_of_lt h1, Nat.add_mod, h1]
  simpa [madeCells] using h n
theorem run_make_rows {P : Program} (w : World) {t e : TypeId} {zv : Value} {z : List Value} {size bytes : Nat} (ht : P.underlying t = some (.slice e)) (hi : (P.info? e).map (fun i => (i.zero, i.size, i.bytes)) = some (some zv, size, bytes)) (hz : zv.cells = z.toArray) (hs : z.length = size)
    (n : Nat) (hc : n * size ≤ 16777216) (hb : bytes * n ≤ 281474976710656) (h63 : n ≤ 1099511627776) :
    (Instr.makeSlice t (.int .i64 n) (.int .i64 n)).run P w = .ok (.slice (some ⟨w.heap.size, 0, none⟩) n n) (w.alloc (.cells (List.replicate n z).flatten.toArray e)) := by
  obtain ⟨i, h0, h1, h2, h3⟩ := info_parts hi
  subst h2; subst h3
  have := run_makeSlice w t e i _ ht h0 h1 .i64 .i64 n n (by omega) (by omega) (by rw [Int.toNat_natCast]; exact hc) (by rw [← Int.natCast_mul]; omega) (by omega)
  rw [this]
  have e2 : madeCells zv.cells (n * i.size) = (List.replicate n z).flatten.toArray := by
    apply Array.toList_inj.1
    rw [List.toList_toArray, ← madeCells_flat, ← hs, hz]
  simp only [Int.toNat_natCast, e2]
theorem and_mask (m : Nat) (k n : Int) (hk : (BitVec.ofInt 64 k).toNat = 2 ^ m - 1) (hm : m ≤ 32) : bits .and .i64 n k = n % (2 ^ m : Nat) := by
  have key : (BitVec.ofInt 64 n &&& BitVec.ofInt 64 k).toNat = (n % ((2 ^ 64 : Nat) : Int)).toNat % 2 ^ m := by
    rw [BitVec.toNat_and, BitVec.toNat_ofInt, hk, Nat.and_two_pow_sub_one_eq_mod]
  show IntKind.i64.wrap ((BitVec.ofInt 64 n &&& BitVec.ofInt 64 k).toNat : Nat) = n % (2 ^ m : Nat)
  rw [key, IntKind.wrap_i64]
  have hp : 2 ^ m ≤ 2 ^ 32 := Nat.pow_le_pow_right (by omega) hm
  have h0 : 0 < 2 ^ m := Nat.pow_pos (by omega)
  have hd : 2 ^ m ∣ 2 ^ 64 := Nat.pow_dvd_pow 2 (by omega)
  have h1 : 0 ≤ n % ((2 ^ 64 : Nat) : Int) := Int.emod_nonneg _ (by decide)
  have h2 : (n % ((2 ^ 64 : Nat) : Int)).toNat % 2 ^ m < 2 ^ m := Nat.mod_lt _ h0
  have h3 : (((n % ((2 ^ 64 : Nat) : Int)).toNat % 2 ^ m : Nat) : Int) = n % ((2 ^ m : Nat) : Int) := by
    rw [Int.natCast_emod, Int.toNat_of_nonneg h1]
    exact Int.emod_emod_of_dvd n (Int.natCast_dvd_natCast.2 hd)
  rw [← h3]
  generalize (n % ((2 ^ 64 : Nat) : Int)).toNat % 2 ^ m = x at *
  generalize 2 ^ m = y at *
  omega
theorem and_16 (n : Int) : ∃ a : Nat, bits .and .i64 n 65535 = (a : Int) ∧ a < 65536 ∧ (a : Int) = n % 65536 := by
  refine ⟨(n % 65536).toNat, ?_, by omega, by omega⟩
  rw [and_mask 16 65535 n (by decide) (by omega)]
  have : ((2 ^ 16 : Nat) : Int) = 65536 := by decide
  rw [this]
  omega
end Go.VB
