import Derived.Test.YtgkfdlpijefgkaaDoorCtMl
import Derived.Test.YtgkfdlpijefgkaaDoorCtFr
import Derived.Test.YtgkfdlpijefgkaaDoorCards
import Derived.Test.YtgkfdlpijefgkaaDoorTie
import Derived.SevenTiedAt
import Derived.Deep.CutBlock
/-
For every list of integer lists and every two numbers, renaming a column of a catalog that statements made and renaming it back restores the catalog, and each statement changes its own table alone (CatalogBackwards).
Conditions: none beyond the row's own.
-/
set_option linter.unusedVariables false
namespace Go.Proofs.YtgkfdlpijefgkaaDoor
open Go.RowKit Go.VB Go.VB.Oct Go.VB.Cat Go.VB.Rec
theorem tabB_of {S : Nat → Prop} {W : World} {t : TabV} (h : TabO S W t) (T : TabOk t.t) : TabB t := by
  have e := h.e
  have hl : t.ix.length = t.t.ixs.length := by rw [e, List.length_map]
  refine ⟨by have := T.le; omega, by have := T.ixs; omega, fun x hx => ?_⟩
  have := (T.ix x.x (by rw [e]; exact List.mem_map_of_mem hx)).le
  omega
theorem noCol_nil {n : Bs} : NoCol n [] := fun t ht => by cases ht
theorem back1 {m : List Tab} (H : Ok m) (N : NoCol tilde m) {k i : Nat} (hk : k < m.length) {t : Tab} (ht : m[k] = t) (hi : i < t.cols.length) : doM m ⟨3, t.name, t.cols[i].name, [], [], tilde⟩ 0 = (tiM m k i, 0) := by
  subst ht; exact back_one H N hk hi
theorem back2 {m : List Tab} (H : Ok m) (N : NoCol tilde m) {k i : Nat} (hk : k < m.length) {t : Tab} (ht : m[k] = t) (hi : i < t.cols.length) : doM (tiM m k i) ⟨3, t.name, tilde, [], [], t.cols[i].name⟩ 0 = (m, 0) := by
  subst ht; exact back_two H N hk hi
theorem mem_of_map {ys : List TabV} {m : List Tab} (e : ys.map TabV.t = m) {i : Nat} (hi : i < ys.length) : ys[i].t = m[i]'(by rw [← e]; simpa using hi) := by
  subst e; simp
set_option maxRecDepth 20000 in
set_option maxHeartbeats 4000000 in
theorem Backw_walk {w : World} (G : Gv w) {a : Option Addr} {c1 : Nat} {L : List Arg} (HL : ArgsR w (.slice a L.length c1) L) (x0 x1 : Int) :
    Calls Tryd.prog 5 #[.slice a L.length c1, .agg #[.int .i64 x0, .int .i64 x1]] w fun e w' => e = .returned (.bool true) ∧ Fr (fun _ => False) w w' := by
  have HLA := hid HL
  have HSA := hid (sanity_go (w := w.alloc (.cells #[.int .i64 x0, .int .i64 x1] 60)) (G.kn.fre ((Fr.refl (fun _ => False) w).alloc _)))
  have HA0 := hid (Blk.new w [.int .i64 x0, .int .i64 x1] 60)
  have FA0 := hid ((Fr.refl (fun _ => False) w).alloc (.cells #[.int .i64 x0, .int .i64 x1] 60))
  clear HL G
  go_enter Tryd.func5, Tryd.ntmps5
  go_upto_region 1 with fail
  generalize hp : w.heap.size = p at *
  have HPE := hid hp
  clear hp
  generalize w.alloc _ = W0 at *
  go_upto_region 2 with (go_at_call 10; refine HSA.out.mono ?_; rintro e w1 ⟨rfl, f1⟩; have F1 := hid (FA0.out.trans f1 (fun _ h _ => h)); have HA1 := hid (Blk.fr HA0.out f1 (fun h => h)); clear f1)
  have HNW := hid (New_go w1)
  go_upto_region 5 with (go_at_call 17; refine HNW.out.mono ?_; rintro e w2 ⟨rfl, hc, f⟩; have HC2 := hid ((OS.new hc f).base F1.out); have HA2 := hid (Blk.fr HA1.out f (fun h => h)); have HSP := hid (show ∀ k, k = w1.heap.size → p < k from fun k hk => by have := HA1.out.lt; omega); clear hc f)
  obtain ⟨c, hce⟩ : ∃ c, c = w1.heap.size := ⟨_, rfl⟩
  rw [← hce] at HC2 HSP ⊢
  clear hce HNW HSA F1 HA0 HA1 FA0
  go_upto_block 0 with fail
  go_cut [7] (fun v7 wx => ∃ (S : Nat → Prop) (m : List Tab), OS w S wx c m ∧ NoCol tilde m ∧ (∀ k, S k → p < k) ∧ Blk wx p [.int .i64 x0, .int .i64 x1] 60)
  case first =>
    go_wp2_with (fail)
    go_loopw [7] (fun s7 wr => ∃ (i : Nat) (S : Nat → Prop) (m : List Tab), i ≤ 40 ∧ s7 = .int .i64 i ∧ OS w S wr c m ∧ NoCol tilde m ∧ (∀ k, S k → p < k) ∧ Blk wr p [.int .i64 x0, .int .i64 x1] 60) (fun s7 _ => 40 - (intOf s7).toNat)
    case atStart => exact ⟨0, _, _, by omega, rfl, HC2.out, noCol_nil, HSP.out, HA2.out⟩
    case round =>
      obtain ⟨i, S, m, hi, rfl, hos, hno, hsp, ha⟩ := hrel
      have HOS := hid hos
      have HNO := hid hno
      have HSQ := hid hsp
      have HAR := hid ha
      clear hos hno hsp ha HC2 HA2 HSP
      have i1 : (0 : Int) ≤ (i : Int) := by omega
      by_cases hc12 : i < L.length ∧ i < 40
      · obtain ⟨hiL, h40⟩ := hc12
        have i2 : (i : Int) < L.length := by omega
        have i3 : (i : Int) < 40 := by omega
        obtain ⟨g, o, v, x, rfl, hcell, hsl, hxl⟩ := HLA.out.at_ HOS.out.fr hiL
        have HMD := hid (Made_go hsl hxl)
        obtain ⟨ax, cx, rfl, -, -⟩ := hsl
        go_upto_region 9 with (go_at_call 19; refine HMD.out.mono ?_; rintro e w3 ⟨s, vc, vn, root, rfl, hg, hcr, hnr, f⟩; obtain ⟨oc, cc, rfl, -⟩ := hcr.slice; obtain ⟨on, cn, rfl, -⟩ := hnr.slice; have HK0 := hid (MK.made hcr hnr hg f); have HO3 := hid (HOS.out.fre f); have HAR3 := hid (Blk.fr HAR.out f (fun h => h)); clear hcr hnr hg f; dsimp only [mcells])
        generalize hw4 : w3.alloc _ = W4
        have HK := hid (show MK wr.heap.size W4 w3.heap.size s (.slice oc s.cols.length cc) (.slice on s.names.length cn) root from by rw [← hw4]; exact HK0.out)
        have HO4 := hid (show OS w S W4 c m from by rw [← hw4]; exact HO3.out.fre ((Fr.refl (fun _ => False) w3).alloc _))
        have HAR4 := hid (show Blk W4 p [.int .i64 x0, .int .i64 x1] 60 from by rw [← hw4]; exact HAR3.out.alloc _)
        have HG := hid HK.out.g
        generalize w3.heap.size = d at *
        clear hw4 HK0 HO3 HMD hcell HOS
        have HDO := hid (HO4.out.madeDo HK.out)
        have k15 := HK.out.at15
        have HR := hid HK.out.rng
        unfold scells at HDO HR
        go_wp2_with (first
          | (refine wpList_load_mid rfl 51 (.tmp 38) rfl d 0 rfl _ _ HR.out Tryd.underlying51 rfl size_stmt ?_)
          | (go_at_call 21; refine HDO.out.mono ?_; rintro e w5 ⟨rfl, ho, f⟩; have HO5 := hid ho; have HAR5 := hid (Blk.fr HAR4.out f (fun h => by have := HSQ.out _ h; omega)); have HSR := hid (show ∀ k, Ext S W4 w5 k → p < k from fun k hk => hk.elim (HSQ.out k) (fun h => by have := HAR4.out.lt; omega)); clear ho f))
        go_roundw
        case rel => exact ⟨i + 1, _, _, by omega, by simp, HO5.out, good_tilde HNO.out HG.out, HSR.out, HAR5.out⟩
        case measure => simp [intOf]; omega
      · have hor : (40 : Int) ≤ (i : Int) ∨ (L.length : Int) ≤ (i : Int) := by omega
        rcases hor with h12 | h12
        all_goals
          go_wp2_with (fail)
          all_goals (go_meet; exact ⟨S, m, HOS.out, HNO.out, HSQ.out, HAR.out⟩)
  case rest =>
  obtain ⟨S, m, hos, hno, hsp, ha⟩ := hcut
  have HOS := hid hos
  have HNO := hid hno
  have HSP := hid hsp
  have HAP := hid ha
  clear hos hno hsp ha HC2 HLA HSP HA2
  have HAL := hid (All_go HOS.out.cr HOS.out.ok)
  go_upto_region 11 with (go_at_call 18; refine HAL.out.mono ?_; rintro e w6 ⟨v, ys, rfl, hys, hr, f⟩; have HO6 := hid (HOS.out.fre f); have HP6 := hid (Blk.fr HAP.out f (fun h => h)); have HY6 := hid hr; have HYE := hid hys; have HSZ6 := hid f.size; clear hr f hys)
  have HLS := hid (fun k (hk : S k) => (HOS.out.lt hk))
  clear HOS HAL HAP
  obtain ⟨ay, cy, hv, -⟩ := HY6.out.r.slice
  subst hv
  have HYL := hid (show ys.length = m.length from by have := congrArg List.length HYE.out; simpa using this)
  by_cases h0 : ys.length = 0
  · have i0 : (ys.length : Int) = 0 := by omega
    go_wp2_with (fail)
    go_ret
    exact ⟨rfl, HO6.out.fr⟩
  · have ib : ((ys.length : Int) == 0) = false := beq_eq_false_iff_ne.2 (by omega)
    obtain ⟨x, hx, -, -⟩ := and_16 x0
    obtain ⟨n, hn, hn2⟩ : ∃ n : Nat, (x : Int).tmod (ys.length : Int) = (n : Int) ∧ n < ys.length := ⟨x % ys.length, by rw [Int.tmod_eq_emod_of_nonneg (by omega), Int.natCast_emod], Nat.mod_lt _ (by omega)⟩
    have r0 : w6.cell? ⟨p, 0, none⟩ = some (.int .i64 x0) := HP6.out.cell 0
    go_upto_region 14 with fail
    clear r0 hx hn ib
    obtain ⟨g, rfl, -, hr⟩ := tab_at HY6.out.r hn2
    have q0 := hr 0
    have q1 := hr 1
    have q2 := hr 2
    have q3 := hr 3
    clear hr
    have hnm : n < m.length := by have := HYL.out; omega
    have HMN := hid (mem_of_map HYE.out hn2)
    have HT := hid (HY6.out.t _ (List.getElem_mem hn2))
    obtain ⟨x, hx⟩ : ∃ x, x = ys[n] := ⟨_, rfl⟩
    rw [← hx] at q0 q1 q2 q3 HT HMN
    clear hx
    obtain ⟨ac, c3, hvc, _⟩ := HT.out.c.slice
    obtain ⟨ai, c4, hvi, _⟩ := HT.out.i.slice
    obtain ⟨⟨id, name, cols, ixs⟩, vc, vi, ix⟩ := x
    dsimp only at hvc hvi HMN
    subst hvc hvi
    simp only [TabV.cells, Nat.add_zero, List.getElem?_cons_zero, List.getElem?_cons_succ, Option.some.injEq, forall_eq'] at q0 q1 q2 q3
    have HTK := hid (show TabOk ⟨id, name, cols, ixs⟩ from by have := HO6.out.ok.tab _ (List.getElem_mem hnm); rwa [← HMN.out] at this)
    go_upto_region 15 with fail
    have fa := (Fr.refl (fun _ => False) w6).alloc (.cells #[.int .i64 id, .string (bs name), .slice ac cols.length c3, .slice ai ix.length c4] 25)
    have HB := hid (Blk.new w6 [.int .i64 id, .string (bs name), .slice ac cols.length c3, .slice ai ix.length c4] 25)
    have HO7 := hid (HO6.out.fre fa)
    have HP7 := hid (Blk.fr HP6.out fa (fun h => h))
    have HY7 := hid (HY6.out.fre fa)
    have HT7 := hid (HT.out.fr fa (fun _ _ h => h))
    have HD7 := hid (show wc.heap.size ≤ w6.heap.size from HY6.out |> fun _ => HSZ6.out)
    clear fa q0 q1 q2 q3 HO6 HP6 HY6 HT
    generalize w6.heap.size = d at *
    generalize w6.alloc _ = W7 at *
    have hpos := HTK.out.pos
    have ib : ((cols.length : Int) == 0) = false := beq_eq_false_iff_ne.2 (by dsimp only at hpos; omega)
    obtain ⟨y, hy, -, -⟩ := and_16 x1
    obtain ⟨k, hk, hk2⟩ : ∃ n : Nat, (y : Int).tmod (cols.length : Int) = (n : Int) ∧ n < cols.length := ⟨y % cols.length, by rw [Int.tmod_eq_emod_of_nonneg (by omega), Int.natCast_emod], Nat.mod_lt _ hpos⟩
    have c0 : ¬ cols.length = 0 := by dsimp only at hpos; omega
    obtain ⟨gc, o, rfl, -, q⟩ := slK (k := 2) (f := Col.cells) (by decide) col_len (HT7.out.c.sl' (R := fun _ => True) (fun _ _ => trivial)) hk2
    have q0 := q 0 (by decide)
    simp only [Col.cells, Nat.add_zero, List.getElem?_cons_zero] at q0
    have HQ := hid q0
    have b2 : W7.cell? ⟨d, 2, none⟩ = some (.slice (some ⟨gc, o, none⟩) cols.length c3) := HB.out.cell 2
    have i1 : (0 : Int) ≤ (k : Int) := by omega
    have i2 : (k : Int) < (cols.length : Int) := by omega
    obtain ⟨cn, hcn⟩ : ∃ cn, cols[k].name = cn := ⟨_, rfl⟩
    rw [hcn] at HQ
    have HCN := hid hcn
    clear q q0 hpos hcn
    go_upto_region 17 with fail
    refine wp_region_scr (.take 0 (.take 1 (.take 2 (.take 3 (.take 4 (.take 5 (.take 6 (.take 7 (.take 8 (.take 9 (.take 10 (.take 11 (.take 12 .done))))))))))))) (fun kz w => (kz ≤ 13 → (w.cell? ⟨p, 1, none⟩ = some (.int .i64 x1) ∧ w.cell? ⟨d, 2, none⟩ = some (.slice (some ⟨gc, o, none⟩) cols.length c3) ∧ w.cell? ⟨gc, o + k * 2, none⟩ = some (.string (bs cn)))) ∧ Hid True) (by kernel_rfl) (by kernel_rfl) (by intro c a d v w h; cases d <;> exact h) ?_
    repeat
      first
      | (refine wpT_pure rfl rfl rfl ?_; apply Exists.intro; refine ⟨?_, ?_⟩; intro w; (first | ((obtain ⟨q1, q2, q3⟩ := qa; go_simp <;> rfl)) | (go_simp <;> rfl)); simp only [Act.put, List.setIfInBounds_toArray, List.set_cons_zero, List.set_cons_succ])
      | (refine wpT_take 13 rfl rfl (by decide +kernel) ⟨fun _ => ⟨HP7.out.drew.cell 1, HB.out.drew.cell 2, HQ.out⟩, hid trivial⟩ ?_; apply Exists.intro; refine ⟨?_, ?_⟩; intro w hw; (have qa := hw.1 (Nat.le_refl _); have qb := hw.2); (first | ((obtain ⟨q1, q2, q3⟩ := qa; go_simp <;> rfl)) | (go_simp <;> rfl)); simp only [Act.put, List.setIfInBounds_toArray, List.set_cons_zero, List.set_cons_succ])
      | (refine wpT_skip rfl rfl ?_; simp only [Act.put, List.setIfInBounds_toArray, List.set_cons_zero, List.set_cons_succ])
    refine wpT_nil ?_
    clear b2 i1 i2 c0 ib hy hk HQ
    have fd := (Fr.refl (fun _ => False) W7).drew
    replace HO7 := hid (HO7.out.fre fd)
    replace HY7 := hid (HY7.out.fre fd)
    replace HT7 := hid (HT7.out.fr fd (fun _ _ h => h))
    replace HB := hid (HB.out.drew)
    clear fd HP7
    generalize W7.drew = W8 at *
    have HBY := hid (Bytes_go HO7.out.cr HO7.out.ok)
    go_upto_region 19 with (go_at_call 20; refine HBY.out.mono ?_; rintro e w9 ⟨rfl, f⟩; have HO9 := hid (HO7.out.fre f); have HB9 := hid (Blk.fr HB.out f (fun h => h)); have HY9 := hid (HY7.out.fre f); clear f)
    clear HBY HO7 HB HY7 HT7
    have b1 : w9.cell? ⟨d, 1, none⟩ = some (.string (bs name)) := HB9.out.cell 1
    have HE1 : Hid (doM m ⟨3, name, cn, [], [], [126]⟩ 0 = (tiM m n k, 0)) := hid (by
      have := back1 HO9.out.ok HNO.out hnm HMN.out.symm (i := k) hk2
      dsimp only at this
      rw [HCN.out] at this
      exact this)
    have HE2 : Hid (doM (tiM m n k) ⟨3, name, [126], [], [], cn⟩ 0 = (m, 0)) := hid (by
      have := back2 HO9.out.ok HNO.out hnm HMN.out.symm (i := k) hk2
      dsimp only at this
      rw [HCN.out] at this
      exact this)
    have HOK := hid HO9.out.ok
    have HDO := hid (HO9.out.st 3 name cn [126] (l := []) (ns := []) (P := fun _ => True) (by decide) (Sl.none _ _) (Sl.none _ _) (by decide) (by decide) (by simp) (by simp) 0)
    rw [HE1.out] at HDO
    dsimp only [List.length_nil] at HDO
    go_upto_region 20 with (go_at_call 21; refine HDO.out.mono ?_; rintro e w10 ⟨rfl, ho, f⟩; have HO10 := hid ho; have HY10 := hid (HY9.out.fr f (fun k hk hs => by have := HLS.out k hs; omega)); have HB10 := hid (Blk.fr HB9.out f (fun hs => by have := HLS.out _ hs; have := HD7.out; omega)); clear ho f)
    clear b1 HDO HO9 HY9 HB9 HE1 HCN HNO HTK HMN
    obtain ⟨S2, hS2⟩ : ∃ S2 : Nat → Prop, OS w S2 w10 c (tiM m n k) := ⟨_, HO10.out⟩
    replace HO10 := hid hS2
    clear hS2
    have HAL := hid (All_go HO10.out.cr HO10.out.ok)
    go_upto_region 21 with (go_at_call 18; refine HAL.out.mono ?_; rintro e w11 ⟨v, zs, rfl, hzs, hr, f⟩; have HO11 := hid (HO10.out.fre f); have HB11 := hid (Blk.fr HB10.out f (fun h => h)); have HY11 := hid (HY10.out.fre f); have HZ11 := hid hr; have HZE := hid hzs; clear hr f hzs)
    clear HAL HO10 HB10 HY10
    obtain ⟨az, cz, hv, -⟩ := HZ11.out.r.slice
    subst hv
    have HZL := hid (show zs.length = ys.length from by have := congrArg List.length HZE.out; rw [List.length_map, ti_len] at this; have := HYL.out; omega)
    have hzl := HZL.out
    go_upto_region 23 with fail
    clear hzl
    go_wp2_with (fail)
    go_loopw [16] (fun s16 wr => ∃ i : Nat, i ≤ ys.length ∧ s16 = .int .i64 i ∧ Fr (fun _ => False) w11 wr) (fun s16 _ => ys.length - (intOf s16).toNat)
    case atStart => exact ⟨0, by omega, rfl, Fr.refl _ _⟩
    case round =>
      obtain ⟨i, hi, rfl, hf⟩ := hrel
      have FR := hid hf
      clear hf
      by_cases hiy : i < ys.length
      · have i1 : (0 : Int) ≤ (i : Int) := by omega
        have i2 : (i : Int) < (ys.length : Int) := by omega
        have i3 : (i : Int) < (zs.length : Int) := by have := HZL.out; omega
        have hiz : i < zs.length := by have := HZL.out; omega
        have i4 : IntKind.i64.wrap ((i : Int) + 1) = (i : Int) + 1 := IntWalk.i64_in _ (by have := HOK.out.len; have := HYL.out; omega)
        obtain ⟨gz, rfl, -, hrz⟩ := tab_at (HZ11.out.r.fre FR.out) hiz
        obtain ⟨gy, hgy, -, hry⟩ := tab_at (HY11.out.r.fre FR.out) hiy
        simp only [Option.some.injEq, Addr.mk.injEq, and_true] at hgy
        subst hgy
        have hty := (HY11.out.t _ (List.getElem_mem hiy)).fr FR.out (fun _ _ h => h)
        have htz := (HZ11.out.t _ (List.getElem_mem hiz)).fr FR.out (fun _ _ h => h)
        have him : i < m.length := by have := HYL.out; omega
        have hit : i < (tiM m n k).length := by rw [ti_len]; exact him
        have oky : TabOk ys[i].t := by rw [mem_of_map HYE.out hiy]; exact HOK.out.tab _ (List.getElem_mem him)
        have okz : TabOk zs[i].t := by rw [mem_of_map HZE.out hiz]; exact HO11.out.ok.tab _ (List.getElem_mem hit)
        have HSM := hid (fun (W : World) (f : Fr (fun _ => False) wr W) => Same_go ((hty.s (tabB_of hty oky)).fre f) ((htz.s (tabB_of htz okz)).fre f))
        have HEQ := hid (show n ≠ i → decide (ys[i].t = zs[i].t) = true from fun hne => by
          rw [mem_of_map HYE.out hiy, mem_of_map HZE.out hiz, ti_at hit hne]
          exact decide_eq_true rfl)
        obtain ⟨x, hx⟩ : ∃ x, x = ys[i] := ⟨_, rfl⟩
        obtain ⟨z, hz⟩ : ∃ z, z = zs[i] := ⟨_, rfl⟩
        rw [← hx] at HSM HEQ hry hty
        rw [← hz] at HSM HEQ hrz htz
        obtain ⟨av1, cv1, e1, _⟩ := hty.c.slice
        obtain ⟨av2, cv2, e2, _⟩ := hty.i.slice
        obtain ⟨av3, cv3, e3, _⟩ := htz.c.slice
        obtain ⟨av4, cv4, e4, _⟩ := htz.i.slice
        clear hx hz hty htz oky okz
        have HRY := hid hry
        have HRZ := hid hrz
        clear hry hrz
        obtain ⟨⟨yid, yname, ycols, yixs⟩, yvc, yvi, yix⟩ := x
        obtain ⟨⟨zid, zname, zcols, zixs⟩, zvc, zvi, zix⟩ := z
        dsimp only at e1 e2 e3 e4
        subst e1 e2 e3 e4
        unfold TabV.agg at HSM
        unfold TabV.cells at HSM HRY HRZ
        dsimp only at HSM HRY HRZ HEQ
        have FRD := hid (FR.out.trans ((Fr.refl (fun _ => False) wr).drew) (fun _ h _ => h))
        go_upto_region 26 with fail
        by_cases hin : i = n
        · have hne : ((i : Int) != (n : Int)) = false := by simp; omega
          clear hin
          refine wp_region_scr (.take 0 (.take 1 (.take 2 (.take 3 (.take 4 (.take 5 (.take 6 (.take 7 (.take 8 (.take 9 (.take 10 (.take 11 (.op 12 (.take 13 (.take 14 .done))))))))))))))) (fun kz w => (kz ≤ 14 → True) ∧ Hid True) (by kernel_rfl) (by kernel_rfl) (by intro c a d v w h; cases d <;> exact h) ?_
          repeat
            first
            | (refine wpT_pure rfl rfl rfl ?_; apply Exists.intro; refine ⟨?_, ?_⟩; intro w; ((go_simp <;> rfl)); simp only [Act.put, List.setIfInBounds_toArray, List.set_cons_zero, List.set_cons_succ])
            | (refine wpT_take 14 rfl rfl (by decide +kernel) ⟨fun _ => trivial, hid trivial⟩ ?_; apply Exists.intro; refine ⟨?_, ?_⟩; intro w hw; (have qa := hw.1 (Nat.le_refl _); have qb := hw.2); ((go_simp <;> rfl)); simp only [Act.put, List.setIfInBounds_toArray, List.set_cons_zero, List.set_cons_succ])
            | (refine wpT_skip rfl rfl ?_; simp only [Act.put, List.setIfInBounds_toArray, List.set_cons_zero, List.set_cons_succ])
          refine wpT_op rfl ?_
          go_wp2_with (fail)
          (refine ⟨?_, ?_⟩; focus (intro kz hk hk2 hh; first | (exfalso; simp at hk2; omega) | exact hh | exact (fun h => absurd h (by omega)) | obtain ⟨qa, qb⟩ := hh; first | exact ⟨qa, qb⟩ | (refine ⟨fun h => absurd h (by omega), ?_⟩; first | exact qb | (exact hid trivial)) | (refine ⟨fun h => ?_, ?_⟩; (have qa := qa h); all_goals (first | exact qa | exact qb | (exact hid trivial)))))
          repeat
            first
            | (refine wpT_pure rfl rfl rfl ?_; apply Exists.intro; refine ⟨?_, ?_⟩; intro w; ((go_simp <;> rfl)); simp only [Act.put, List.setIfInBounds_toArray, List.set_cons_zero, List.set_cons_succ])
            | (refine wpT_take 14 rfl rfl (by decide +kernel) ⟨fun _ => trivial, hid trivial⟩ ?_; apply Exists.intro; refine ⟨?_, ?_⟩; intro w hw; (have qa := hw.1 (Nat.le_refl _); have qb := hw.2); ((go_simp <;> rfl)); simp only [Act.put, List.setIfInBounds_toArray, List.set_cons_zero, List.set_cons_succ])
            | (refine wpT_skip rfl rfl ?_; simp only [Act.put, List.setIfInBounds_toArray, List.set_cons_zero, List.set_cons_succ])
          refine wpT_nil ?_
          clear HSM HEQ HRY HRZ
          go_wp2_with (fail)
          go_roundw
          case rel => exact ⟨i + 1, by omega, by simp, FRD.out⟩
          case measure => simp [intOf]; omega
        · have hne : ((i : Int) != (n : Int)) = true := by simp; omega
          rw [HEQ.out (fun e => hin e.symm)] at HSM
          have HRA := hid (fun (W : World) (f : Fr (fun _ => False) wr W) => And.intro (range_fr HRY.out f (fun h => h)) (range_fr HRZ.out f (fun h => h)))
          have fd := (Fr.refl (fun _ => False) wr).drew
          have HD0 := hid (HRA.out _ fd)
          refine wp_region_scr (.take 0 (.take 1 (.take 2 (.take 3 (.take 4 (.take 5 (.take 6 (.take 7 (.take 8 (.take 9 (.take 10 (.take 11 (.op 12 (.take 13 (.take 14 .done))))))))))))))) (fun kz w => (kz ≤ 15 → (w.rangeAt g (i * 4) [.int .i64 yid, .string (bs yname), .slice av1 ycols.length cv1, .slice av2 yix.length cv2] ∧ w.rangeAt gz (i * 4) [.int .i64 zid, .string (bs zname), .slice av3 zcols.length cv3, .slice av4 zix.length cv4])) ∧ Hid True) (by kernel_rfl) (by kernel_rfl) (by intro c a d v w h; cases d <;> exact h) ?_
          repeat
            first
            | (refine wpT_pure rfl rfl rfl ?_; apply Exists.intro; refine ⟨?_, ?_⟩; intro w; (first | (first | exact run_load_mid _ _ rfl g _ rfl _ _ qa.1 Tryd.underlying25 rfl size_tab2 | exact run_load_mid _ _ rfl gz _ rfl _ _ qa.2 Tryd.underlying25 rfl size_tab2 | (go_simp <;> rfl)) | (go_simp <;> rfl)); simp only [Act.put, List.setIfInBounds_toArray, List.set_cons_zero, List.set_cons_succ])
            | (refine wpT_take 15 rfl rfl (by decide +kernel) ⟨fun _ => HD0.out, hid trivial⟩ ?_; apply Exists.intro; refine ⟨?_, ?_⟩; intro w hw; (have qa := hw.1 (Nat.le_refl _); have qb := hw.2); (first | (first | exact run_load_mid _ _ rfl g _ rfl _ _ qa.1 Tryd.underlying25 rfl size_tab2 | exact run_load_mid _ _ rfl gz _ rfl _ _ qa.2 Tryd.underlying25 rfl size_tab2 | (go_simp <;> rfl)) | (go_simp <;> rfl)); simp only [Act.put, List.setIfInBounds_toArray, List.set_cons_zero, List.set_cons_succ])
            | (refine wpT_skip rfl rfl ?_; simp only [Act.put, List.setIfInBounds_toArray, List.set_cons_zero, List.set_cons_succ])
          refine wpT_op rfl ?_
          go_wp2_with ((go_at_call 22; refine (HSM.out _ fd).mono ?_; rintro e wq ⟨rfl, f⟩; have HF := hid (fd.trans f (fun _ h _ => h)); clear f))
          (refine ⟨?_, ?_⟩; focus (intro kz hk hk2 hh; first | (exfalso; simp at hk2; omega) | exact hh | exact (fun h => absurd h (by omega)) | obtain ⟨qa, qb⟩ := hh; first | exact ⟨qa, qb⟩ | (refine ⟨fun h => absurd h (by omega), ?_⟩; first | exact qb | (exact HRA.out _ HF.out)) | (refine ⟨fun h => ?_, ?_⟩; (have qa := qa h); all_goals (first | exact qa | exact qb | (exact HRA.out _ HF.out)))))
          repeat
            first
            | (refine wpT_pure rfl rfl rfl ?_; apply Exists.intro; refine ⟨?_, ?_⟩; intro w; ((go_simp <;> rfl)); simp only [Act.put, List.setIfInBounds_toArray, List.set_cons_zero, List.set_cons_succ])
            | (refine wpT_take 15 rfl rfl (by decide +kernel) ⟨fun _ => HRA.out _ HF.out, hid trivial⟩ ?_; apply Exists.intro; refine ⟨?_, ?_⟩; intro w hw; (have qa := hw.1 (Nat.le_refl _); have qb := hw.2); ((go_simp <;> rfl)); simp only [Act.put, List.setIfInBounds_toArray, List.set_cons_zero, List.set_cons_succ])
            | (refine wpT_skip rfl rfl ?_; simp only [Act.put, List.setIfInBounds_toArray, List.set_cons_zero, List.set_cons_succ])
          refine wpT_nil ?_
          have FQ := hid (FR.out.trans HF.out (fun _ h _ => h))
          clear HSM HEQ HRY HRZ fd HRA HD0 HF
          go_wp2_with (fail)
          go_roundw
          case rel => exact ⟨i + 1, by omega, by simp, FQ.out⟩
          case measure => simp [intOf]; omega
      · have i3 : ¬ (i : Int) < (ys.length : Int) := by omega
        have HOW := hid (HO11.out.fre FR.out)
        have HBW := hid (Blk.fr HB11.out FR.out (fun h => h))
        have b1 : wr.cell? ⟨d, 1, none⟩ = some (.string (bs name)) := HBW.out.cell 1
        have HDO := hid (HOW.out.st 3 name [126] cn (l := []) (ns := []) (P := fun _ => True) (by decide) (Sl.none _ _) (Sl.none _ _) (by decide) (by decide) (by simp) (by simp) 0)
        rw [HE2.out] at HDO
        dsimp only [List.length_nil] at HDO
        clear HY11 HZ11 HB11 HO11 HBW
        go_upto_region 29 with (go_at_call 21; refine HDO.out.mono ?_; rintro e w12 ⟨rfl, ho, f⟩; have HO12 := hid ho; clear ho f)
        clear HDO b1 HOW
        have HBY := hid (Bytes_go HO12.out.cr HOK.out)
        have FZ := hid HO12.out.fr
        go_wp2_with (go_at_call 20; refine HBY.out.mono ?_; rintro e w13 ⟨rfl, f⟩; have FY := hid (FZ.out.trans f (fun _ h _ => h)); clear f)
        go_ret
        exact ⟨rfl, FY.out⟩
end Go.Proofs.YtgkfdlpijefgkaaDoor
namespace Go.Proofs.YtgkfdlpijefgkaaDoor.catalogBackwards
open Go.ChangeShapes Go.WideShapes Go.ChangeAt Go.RowKit Go.VB Go.VB.Rec
theorem two_of {α : Type} : ∀ {L : List α}, L.length = 2 → ∃ x y, L = [x, y]
  | [x, y], _ => ⟨x, y, rfl⟩
set_option maxHeartbeats 400000 in
set_option maxRecDepth 100000 in
theorem lifted (os : Os) (started : os.Started) (H : Type) (enc : TypeId × Value → H) :
    ReturnsInHanded {} Tryd.checked os 5 .any (fun w args => (Rows.catalogBackwardsSpec.pre enc Tryd.prog Tryd.f5 Rows.catalogBackwardsRow.domain false w args ∧ laidMetH Tryd.prog Rows.catalogBackwardsRow.laid w) ∧ sizedMet enc Tryd.prog Tryd.f5 (OpenSpec.ofChange Rows.catalogBackwardsSpec) false w args) (Rows.catalogBackwardsSpec.post enc Tryd.prog Tryd.f5 false true false false) := by
  refine handed_and_shaped (C := Tryd.checked) (X := fun w _ => laidMetH Tryd.prog Rows.catalogBackwardsRow.laid w) (fun _ _ _ hh h => h.of_heap hh) own started (by kernel_rfl) Tryd.func5
    (ChangeSpec.witness_shaped (enc := enc) (C := Tryd.checked) (os := os) (X := fun w _ => laidMetH Tryd.prog Rows.catalogBackwardsRow.laid w) false (startW os) #[.slice none 0 0, .agg #[.int .i64 0, .int .i64 0]] 8 rfl (start_shaped os _) (by kernel_rfl) (by kernel_rfl) (by kernel_rfl) (start_met os _)) ?_
  intro W base args ds gs before hval0 hW hL hsh
  have GV : Hid (Gv W) := hid (gv_of hL hsh)
  clear hL hsh
  have hval : ∀ (j : Nat) t v, Tryd.f5.params[j]? = some t → args[j]? = some v → Value.okWide Tryd.prog W .any base t v := hval0
  have hW' := hW
  obtain ⟨p, q, hA0, hV, rfl, hfz, hnd⟩ := hW
  have hA : DataW.TrodAll enc Tryd.prog W 0 (fun _ => true) true Tryd.f5.params.toList args.toList ds p := hA0
  rw [Tryd.params5] at hA hval
  obtain ⟨v0, vs0, d0, ds0, p0, q0, hargs, rfl, rfl, h0, r0⟩ := trodAll_cons hA
  obtain ⟨v1, vs1, d1, ds1, p1, q1, rfl, rfl, rfl, h1, r1⟩ := trodAll_cons r0
  obtain ⟨rfl, rfl, rfl⟩ := trodAll_nil r1
  obtain rfl : args = #[v0, v1] := by cases args; simp_all
  obtain ⟨rfl, rfl⟩ := trodVars_none hV
  clear hA0 hval0
  refine Calls.mono (R := fun e w' => e = .returned (.bool true) ∧ Fr (fun _ => False) W w') ?_ fun e W' ⟨he, hf⟩ => ⟨_, he, post_law sound (by decide +kernel) rfl rfl (ht := Tryd.underlying4) (by rfl) hW' hf⟩
  obtain ⟨L, hL⟩ := open_ints2 (hval 0 42 v0 rfl rfl) h0
  obtain ⟨Q, rfl, hql, -⟩ := open_ar Tryd.underlying60 (k := 1) (by kernel_rfl) (by kernel_rfl) (hval 1 60 v1 rfl rfl) h1 (fun x => [Value.int .i64 x]) (fun x => (Lit.int .i64 x).wf = true) (fun fuel cs r h => elem_int Tryd.underlying3 fuel cs r h)
  obtain ⟨x, y, rfl⟩ := two_of hql
  obtain ⟨a, c1, rfl, -, -⟩ := id hL.s
  exact Backw_walk GV.out hL x y
theorem row_holds : Rows.CatalogBackwardsSaid :=
  OpenClaim.holds_of_wide 5 Tryd.f5 rfl rfl rfl rfl rfl rfl rfl ⟨rfl, rfl, rfl, rfl, rfl⟩ rfl rfl rfl rfl rfl (by kernel_rfl) Tryd.func5 (by kernel_rfl)
    (of_decide_eq_true (by kernel_rfl)) (by unfold Func.isWrapper; first | (rw [if_pos (by decide +kernel)]; kernel_rfl) | (rw [if_neg (by decide +kernel)]; exact ⟨rfl, rfl⟩))
    (fun os started H enc _ => lifted os started H enc)
theorem proved : Rows.CatalogBackwardsCardSaid :=
  Claim7.holds_tied_plain_at .later [] Rows.catalogBackwardsCard.laidKinds true Rows.catalogBackwardsCard.stood.harness Rows.catalogBackwardsCard.stood.looks row_holds (fun _ h => by cases h) (by kernel_rfl) (fun _ h => by cases h) catalogBackwards_row_tie rfl ⟨rfl, rfl⟩ (by kernel_rfl) rfl
    (fun f fn hf hfn => by
      obtain rfl : f = 5 := Option.some.inj ((show Tryd.prog.funcNamed "vintner/vintnerlaw14.CatalogBackwards" = some 5 by kernel_rfl).symm.trans hf) |>.symm
      obtain rfl : fn = Tryd.f5 := (Option.some.inj (Tryd.func5.symm.trans hfn)).symm
      exact ⟨by kernel_rfl, fun j t ht => by
        rw [Tryd.params5] at ht
        have hm : t ∈ [42, 60] := by simpa using Array.mem_of_getElem? ht
        have hall : ([42, 60].all fun u => !Tryd.prog.wantsStandIn u) = true := by kernel_rfl
        exact (show Tryd.prog.wantsStandIn t = false by simpa using List.all_eq_true.1 hall t hm)⟩)
    (by kernel_rfl)
end Go.Proofs.YtgkfdlpijefgkaaDoor.catalogBackwards
