import Derived.Test.YtgkfdlpijefgkaaGreatDoorCtSa
import Derived.Test.YtgkfdlpijefgkaaGreatDoorCpW
import Derived.Test.YtgkfdlpijefgkaaGreatDoorTree
import Derived.Deep.CutBlock
/- Rows that fit a table: plain, and the law's fit. -/
set_option linter.unusedVariables false
namespace Go.VB.Cat
open Go.VB Go.VB.Rec Go.VB.Oct
def fitV (k : Int) (i : Nat) : Option V → V
  | none => ⟨k, i, []⟩
  | some r => if r.k = 0 then ⟨0, 0, []⟩ else ⟨k, r.n, r.s.take 40⟩
def fitAt (cols : List Col) (r : List V) (i : Nat) : V := fitV ((cols[i]?.map Col.kind).getD 0) i r[i]?
def fitRow (cols : List Col) (r : List V) : List V := (List.range cols.length).map (fitAt cols r)
theorem fitRow_len (cols : List Col) (r : List V) : (fitRow cols r).length = cols.length := by unfold fitRow; rw [List.length_map, List.length_range]
theorem fitRow_take (cols : List Col) (r : List V) {j : Nat} (h : j < cols.length) : (fitRow cols r).take (j + 1) = (fitRow cols r).take j ++ [fitAt cols r j] := by
  rw [List.take_succ_eq_append_getElem (by rw [fitRow_len]; exact h)]
  congr 2
  unfold fitRow
  rw [List.getElem_map, List.getElem_range]
theorem fitAt_yes {cols : List Col} {r : List V} {j : Nat} (h : j < cols.length) (hr : j < r.length) (h0 : ¬ r[j].k = 0) : fitAt cols r j = ⟨cols[j].kind, r[j].n, r[j].s.take 40⟩ := by
  unfold fitAt
  rw [List.getElem?_eq_getElem h, List.getElem?_eq_getElem hr]
  unfold fitV
  dsimp only
  rw [if_neg h0]
  rfl
theorem fitAt_null {cols : List Col} {r : List V} {j : Nat} (hr : j < r.length) (h0 : r[j].k = 0) : fitAt cols r j = ⟨0, 0, []⟩ := by
  unfold fitAt
  rw [List.getElem?_eq_getElem hr]
  unfold fitV
  dsimp only
  rw [if_pos h0]
theorem fitAt_no {cols : List Col} {r : List V} {j : Nat} (h : j < cols.length) (hr : ¬ j < r.length) : fitAt cols r j = ⟨cols[j].kind, j, []⟩ := by
  unfold fitAt
  rw [List.getElem?_eq_getElem h, List.getElem?_eq_none (by omega)]
  rfl
end Go.VB.Cat
namespace Go.Proofs.YtgkfdlpijefgkaaGreatDoor
open Go.RowKit Go.VB Go.VB.Oct Go.VB.Cat Go.VB.Rec
theorem cut_str (t : List UInt8) (c : Nat) : ∃ q : Nat, (∀ z : Int, z = c → min (t.length : Int) z = (q : Int) ∧ (if z < (t.length : Int) then z else (t.length : Int)) = (q : Int)) ∧ (bs t).extract 0 q = bs (t.take c) ∧ (q : Int) ≤ t.length := by
  refine ⟨min c t.length, fun z hz => by subst hz; exact ⟨by omega, by split <;> omega⟩, ?_, by omega⟩
  apply ByteArray.ext
  simp [bs]
theorem info_v : (Tryz.prog.info? 46).map (fun i => (i.zero, i.size, i.bytes)) = some (some (.agg #[.int .i64 0, .int .i64 0, .string .empty]), 3, 32) := by kernel_rfl
theorem size_v : (Tryz.prog.info? 46).map (·.size) = some 3 := by kernel_rfl
set_option maxRecDepth 20000 in
set_option maxHeartbeats 4000000 in
theorem fit_go {R R' : Nat → Prop} {w : World} {cols : List Col} {ac ai : Option Addr} {cc ni ci : Nat} (id : Int) (name : Bs) (hc : Sl R w (.slice ac cols.length cc) cols.length (cols.flatMap Col.cells)) (hcl : cols.length ≤ 6) {r : List V} {vr : Value} (hr : Sl R' w vr r.length (r.flatMap V.cells)) (hR : ∀ k, R' k → k < w.heap.size) :
    Calls Tryz.prog 8 #[.agg #[.int .i64 id, .string (bs name), .slice ac cols.length cc, .slice ai ni ci], vr] w fun e w' => ∃ (a : Option Addr) (c : Nat), e = .returned (.slice a (fitRow cols r).length c) ∧ Row 46 3 w.heap.size w' (.slice a (fitRow cols r).length c) (fitRow cols r).length ((fitRow cols r).flatMap V.cells) ∧ Fr (fun _ => False) w w' := by
  obtain ⟨a, c, rfl, hrc, hrx⟩ := hr
  have HV := hid (show Sl R' w (.slice a r.length c) r.length (r.flatMap V.cells) from ⟨a, c, rfl, hrc, hrx⟩)
  have HC := hid hc
  have HRL := hid hR
  clear hrx hrc hc hR
  have F0 := hid ((Fr.refl (fun _ => False) w).alloc (.cells #[.int .i64 id, .string (bs name), .slice ac cols.length cc, .slice ai ni ci] 34))
  have B0 := hid (Blk.new w [.int .i64 id, .string (bs name), .slice ac cols.length cc, .slice ai ni ci] 34)
  go_enter Tryz.func8, Tryz.ntmps8
  go_upto_region 1 with fail
  have HSZ := hid (show w.heap.size ≤ (w.alloc (.cells #[.int .i64 id, .string (bs name), .slice ac cols.length cc, .slice ai ni ci] 34)).heap.size from F0.out.size)
  generalize hd : w.heap.size = d at *
  generalize w.alloc _ = W0 at *
  have HDE := hid hd
  clear hd
  have HR0 := hid (Row.built (e := 46) (n := 0) (size := 3) (B := W0.heap.size) W0 (l := []) rfl (by decide) (Nat.le_refl _))
  have F1 := hid ((Fr.refl (fun _ => False) W0).alloc (.cells #[] 46))
  go_wp2_with (fail)
  go_loopw [5, 6] (fun s5 s6 wr => ∃ (j : Nat) (ab : Option Addr) (ac : Nat), j ≤ cols.length ∧ s6 = .int .i64 j ∧ s5 = .slice ab j ac ∧ Row 46 3 W0.heap.size wr (.slice ab j ac) j (((fitRow cols r).take j).flatMap V.cells) ∧ Fr (fun _ => False) W0 wr) (fun _ s6 _ => cols.length - (intOf s6).toNat)
  case atStart => exact ⟨0, _, _, by omega, rfl, rfl, HR0.out, F1.out⟩
  case round =>
    obtain ⟨j, ab, bc, hj, rfl, rfl, hrow, hf⟩ := hrel
    have HROW := hid hrow
    have FR := hid hf
    clear hrow hf HR0 F1
    have HB0 := hid (Blk.fr B0.out FR.out (fun h => h))
    have i1 : (0 : Int) ≤ (j : Int) := by omega
    have i5 : IntKind.i64.wrap ((j : Int) + 1) = (j : Int) + 1 := IntWalk.i64_in _ (by omega)
    have k2 : wr.cell? ⟨d, 2, none⟩ = some (.slice ac cols.length cc) := HB0.out.cell 2
    by_cases hjl : j < cols.length
    · have i2 : (j : Int) < (cols.length : Int) := by omega
      have HTK := hid (fitRow_take cols r hjl)
      obtain ⟨g, o, hgo, -, qc⟩ := slK (k := 2) (f := Col.cells) (by decide) col_len (HC.out.fr (F0.out.trans FR.out (fun _ h _ => h)) (fun _ _ h => h)) hjl
      subst hgo
      have q1 := qc 1 (by decide)
      simp only [Col.cells, List.getElem?_cons_succ, List.getElem?_cons_zero] at q1
      clear qc
      have HYES := hid (fun (hr : j < r.length) (h0 : ¬ r[j].k = 0) => fitAt_yes (cols := cols) hjl hr h0)
      have HNUL := hid (fun (hr : j < r.length) (h0 : r[j].k = 0) => fitAt_null (cols := cols) hr h0)
      have HNO := hid (fun (hr : ¬ j < r.length) => fitAt_no (cols := cols) (r := r) hjl hr)
      obtain ⟨kd, hkd⟩ : ∃ kd, kd = cols[j].kind := ⟨_, rfl⟩
      rw [← hkd] at q1 HYES HNO
      clear hkd
      obtain ⟨fv, hfv⟩ : ∃ fv, fv = fitAt cols r j := ⟨_, rfl⟩
      rw [← hfv] at HTK HYES HNUL HNO
      clear hfv
      go_upto_region 6 with fail
      have HB5 := hid (Blk.new wr [.int .i64 kd, .int .i64 j, .string ⟨#[]⟩] 46)
      have F5 := hid ((Fr.refl (fun _ => False) wr).alloc (.cells #[.int .i64 kd, .int .i64 j, .string ⟨#[]⟩] 46))
      have HNE := hid (show ∀ k, (Value.slice ab j bc).ownBlock = some k → ¬ k = wr.heap.size from fun k hk e => by have := HROW.out.lt hk; omega)
      have HRNE := hid (show ∀ k, R' k → ¬ k = wr.heap.size from fun k hk e => by have := HRL.out k hk; have := (F0.out.trans FR.out (fun _ h _ => h)).size; have := HDE.out; omega)
      have HLT := hid (show W0.heap.size ≤ wr.heap.size from FR.out.size)
      have HDV := hid (show d < wr.heap.size from HB0.out.lt)
      generalize wr.heap.size = v at *
      generalize wr.alloc _ = W5 at *
      have HROW5 := hid (HROW.out.fre F5.out)
      have HB05 := hid (Blk.fr HB0.out F5.out (fun h => h))
      have FR5 := hid (FR.out.trans F5.out (fun _ h _ => h))
      clear HROW HB0 FR F5 q1 k2
      go_upto_if 27 with fail
      go_cut [] from 9 to 58 (fun wx => Blk wx v fv.cells 46 ∧ Row 46 3 W0.heap.size wx (.slice ab j bc) j (((fitRow cols r).take j).flatMap V.cells) ∧ Fr (fun _ => False) W0 wx)
      case first =>
        by_cases hjr : j < r.length
        · have i3 : (j : Int) < (r.length : Int) := by omega
          have HV5 := hid (HV.out.fr (F0.out.trans FR5.out (fun _ h _ => h)) (fun _ _ h => h))
          obtain ⟨g2, o2, rfl, hg2, q0, q1, q2⟩ := sl_three (f := V.cells) vcells_len HV5.out hjr
          obtain ⟨x, hx⟩ : ∃ x, x = r[j] := ⟨_, rfl⟩
          have HY := hid (HYES.out hjr)
          have HN := hid (HNUL.out hjr)
          rw [← hx] at q0 q1 q2 HY HN
          clear hx HYES HNUL HNO HV5
          obtain ⟨xk, xn, xs⟩ := x
          simp only [V.cells, List.getElem?_cons_zero, List.getElem?_cons_succ] at q0 q1 q2
          dsimp only at HY HN
          have HG2 := hid (HRNE.out g2 hg2)
          have HQ0 := hid q0
          have HQ2 := hid q2
          clear q0 q2 hg2
          have k1 : W5.cell? ⟨v, 1, none⟩ = some (.int .i64 j) := HB5.out.cell 1
          have z1 : W5.frozen? ⟨v, 1, none⟩ = false := HB5.out.frozen 1
          go_upto_region 8 with fail
          have fs := (Fr.refl (fun k => k = v) W5).setCell ⟨v, 1, none⟩ (.int .i64 xn) (fun _ => rfl)
          have HB6 := hid (show Blk (W5.setCell ⟨v, 1, none⟩ (.int .i64 xn)) v [.int .i64 kd, .int .i64 xn, .string ⟨#[]⟩] 46 from HB5.out.set 1 (.int .i64 xn))
          have HROW6 := hid (HROW5.out.fr fs (fun k hk e => HNE.out k hk e))
          have HQ06 := hid (cell_fr HQ0.out fs HG2.out)
          have HQ26 := hid (cell_fr HQ2.out fs HG2.out)
          have FR6 := hid (FR5.out.trans fs (fun k hk hl => by have := HLT.out; omega))
          clear fs HB5 HROW5 HQ0 HQ2 FR5 q1 k1 z1
          generalize W5.setCell _ _ = W6 at *
          obtain ⟨qs, hms, es, hqs⟩ := cut_str xs 40
          obtain ⟨hms1, hms2⟩ := hms 40 rfl
          have e1 := bs_size xs
          have hqs0 : (0 : Int) ≤ (qs : Int) := by omega
          clear hms
          have HQD := hid (cell_fr HQ26.out (Fr.refl (fun _ => False) W6).drew (fun h => h))
          refine wp_region_scr (.take 0 (.take 1 (.take 2 (.take 3 (.take 4 (.take 5 (.take 6 (.take 7 (.take 8 (.take 9 (.take 10 (.take 11 (.take 12 (.take 13 (.op 14 .done))))))))))))))) (fun kz w => (kz ≤ 14 → w.cell? ⟨g2, o2 + j * 3 + 2, none⟩ = some (.string (bs xs))) ∧ Hid True) (by kernel_rfl) (by kernel_rfl) (by intro c a d v w h; cases d <;> exact h) ?_
          repeat
            first
            | (refine wpT_pure rfl rfl rfl ?_; apply Exists.intro; refine ⟨?_, ?_⟩; intro w; ((go_simp <;> rfl)); simp only [Act.put, List.setIfInBounds_toArray, List.set_cons_zero, List.set_cons_succ])
            | (refine wpT_take 14 rfl rfl (by decide +kernel) ⟨fun _ => HQD.out, hid trivial⟩ ?_; apply Exists.intro; refine ⟨?_, ?_⟩; intro w hw; (have qa := hw.1 (Nat.le_refl _); have qb := hw.2); ((go_simp <;> rfl)); simp only [Act.put, List.setIfInBounds_toArray, List.set_cons_zero, List.set_cons_succ])
            | (refine wpT_skip rfl rfl ?_; simp only [Act.put, List.setIfInBounds_toArray, List.set_cons_zero, List.set_cons_succ])
          have HB7 := hid (Blk.fr HB6.out (Fr.refl (fun _ => False) W6).drew (fun h => h))
          have HROW7 := hid (HROW6.out.fre (Fr.refl (fun _ => False) W6).drew)
          have HQ07 := hid (cell_fr HQ06.out (Fr.refl (fun _ => False) W6).drew (fun h => h))
          have FR7 := hid (FR6.out.drew)
          clear HB6 HROW6 HQ06 HQ26 FR6 HQD
          generalize W6.drew = W7 at *
          have k2 : W7.cell? ⟨v, 2, none⟩ = some (.string ⟨#[]⟩) := HB7.out.cell 2
          have z2 : W7.frozen? ⟨v, 2, none⟩ = false := HB7.out.frozen 2
          refine wpT_op rfl ?_
          go_wp2_with (fail)
          (refine ⟨?_, ?_⟩; focus (intro kz hk hk2 hh; first | (exfalso; simp at hk2; omega) | exact hh | exact (fun h => absurd h (by omega)) | obtain ⟨qa, qb⟩ := hh; first | exact ⟨qa, qb⟩ | (refine ⟨fun h => absurd h (by omega), ?_⟩; first | exact qb | (exact hid trivial)) | (refine ⟨fun h => ?_, ?_⟩; (have qa := qa h); all_goals (first | exact qa | exact qb | (exact hid trivial)))))
          refine wpT_nil ?_
          have fs := (Fr.refl (fun k => k = v) W7).setCell ⟨v, 2, none⟩ (.string (bs (xs.take 40))) (fun _ => rfl)
          have HB8 := hid (show Blk (W7.setCell ⟨v, 2, none⟩ (.string (bs (xs.take 40)))) v [.int .i64 kd, .int .i64 xn, .string (bs (xs.take 40))] 46 from HB7.out.set 2 (.string (bs (xs.take 40))))
          have HROW8 := hid (HROW7.out.fr fs (fun k hk e => HNE.out k hk e))
          have HQ08 := hid (cell_fr HQ07.out fs HG2.out)
          have FR8 := hid (FR7.out.trans fs (fun k hk hl => by have := HLT.out; omega))
          clear fs HB7 HROW7 HQ07 FR7 k2 z2 hms1 hms2 es hqs hqs0 e1
          generalize W7.setCell _ _ = W8 at *
          have q0 := HQ08.out
          by_cases h0 : xk = 0
          · subst h0
            have HFV := hid (HN.out rfl)
            clear HY HN
            have hth := HB8.out.there 0 3 (by simp)
            have fz := (Fr.refl (fun k => k = v) W8).put v 0 [.int .i64 0, .int .i64 0, .string ⟨#[]⟩] (fun _ => rfl)
            have HB9 := hid (show Blk (W8.setCells v 0 [.int .i64 0, .int .i64 0, .string ⟨#[]⟩]) v [.int .i64 0, .int .i64 0, .string ⟨#[]⟩] 46 from by
              have := HB8.out.put 0 [.int .i64 0, .int .i64 0, .string ⟨#[]⟩] (by simp)
              exact this)
            have HROW9 := hid (HROW8.out.fr fz (fun k hk e => HNE.out k hk e))
            have FR9 := hid (FR8.out.trans fz (fun k hk hl => by have := HLT.out; omega))
            clear fz
            go_wp2_with (refine wpList_store_mid rfl 46 (.tmp 7) (.tmp 54) rfl v 0 #[.int .i64 0, .int .i64 0, .string ⟨#[]⟩] rfl rfl hth size_v (by simp [Value.oneCell']) ?_)
            go_meet
            exact ⟨by rw [HFV.out]; exact HB9.out, HROW9.out, FR9.out⟩
          · have e0 : (xk == 0) = false := beq_eq_false_iff_ne.2 h0
            have HFV := hid (HY.out h0)
            clear HY HN h0
            go_wp2_with (fail)
            go_meet
            exact ⟨by rw [HFV.out]; exact HB8.out, HROW8.out, FR8.out⟩
        · have i3 : ¬ (j : Int) < (r.length : Int) := by omega
          have HFV := hid (HNO.out hjr)
          go_wp2_with (fail)
          go_meet
          exact ⟨by rw [HFV.out]; exact HB5.out, HROW5.out, FR5.out⟩
      case rest =>
        obtain ⟨hb, hrow, hf⟩ := hcut
        have HB := hid hb
        have HRW := hid hrow
        have FW := hid hf
        clear hb hrow hf HB5 HROW5 FR5 HYES HNUL HNO
        obtain ⟨fk, fn, fs⟩ := fv
        have HVL := hid HB.out.all
        unfold V.cells at HVL
        have HSZW := hid (show W0.heap.size ≤ wc.heap.size from FW.out.size)
        have hlen : ((fitRow cols r).take j).length = j := by rw [List.length_take, fitRow_len]; omega
        go_wp2_with (first
          | (refine wpList_load_mid rfl 46 (.tmp 7) rfl v 0 rfl _ _ HVL.out Tryz.underlying46 rfl size_v ?_)
          | (at_builtin; refine wpList_app1 rfl (s := .tmp 55) (x := .tmp 57) (t := 24) rfl Tryz.underlying24 info_v rfl rfl rfl HRW.out HSZW.out rfl (by simp [Value.oneCell']) (by omega) (by omega) ?_; intro ab2 ac2 wg APP; have HR2 := hid (APP.row.cast (m := j + 1) (ys := ((fitRow cols r).take (j + 1)).flatMap V.cells) rfl (by rw [HTK.out, List.flatMap_append]; simp [V.cells])); have FG := hid (FW.out.trans APP.fr (fun k hk hl => by have := HRW.out.new k hk; omega)); clear APP))
        go_roundw
        case rel => exact ⟨j + 1, _, _, by omega, by simp, rfl, HR2.out, FG.out⟩
        case measure => simp [intOf]; omega
    · obtain rfl : j = cols.length := by omega
      have i9 : ¬ ((cols.length : Int) < (cols.length : Int)) := by omega
      have FZ := hid (F0.out.trans FR.out (fun _ h _ => h))
      go_wp2_with (fail)
      go_ret
      have e : (fitRow cols r).length = cols.length := fitRow_len cols r
      have ht : (fitRow cols r).take cols.length = fitRow cols r := List.take_of_length_le (by omega)
      have hrw := HROW.out
      rw [ht] at hrw
      rw [e]
      rw [HDE.out]
      exact ⟨ab, bc, rfl, hrw.low HSZ.out, FZ.out⟩
end Go.Proofs.YtgkfdlpijefgkaaGreatDoor
/- The walk of CatalogRows. -/
namespace Go.VB.Rec
open Go.VB.Oct
theorem plain_cmp (a b : V) : V.cmp a.plain b.plain = V.cmp a b := by
  have e : ∀ v : V, v.plain.k = v.k := fun v => rfl
  unfold V.cmp
  rw [e, e]
  by_cases h : rank a.k = rank b.k
  · have hn : ¬ (rank a.k ≠ rank b.k) := fun g => g h
    rw [if_neg hn, if_neg hn]
    have hk : ∀ z : Int, 0 ≤ z → z ≤ 2 → a.k = z → b.k = z := fun z h0 h2 hz => by
      unfold rank at h
      rw [if_pos (by omega)] at h
      split at h <;> omega
    by_cases h1 : a.k = 1
    · have h1' := hk 1 (by decide) (by decide) h1
      rw [if_pos h1, if_pos h1]
      unfold V.plain
      dsimp only
      rw [if_pos h1, if_pos h1']
    · rw [if_neg h1, if_neg h1]
      by_cases h2 : a.k = 2
      · have h2' := hk 2 (by decide) (by decide) h2
        rw [if_pos h2, if_pos h2]
        unfold V.plain
        dsimp only
        rw [if_pos h2, if_pos h2']
      · rw [if_neg h2, if_neg h2]
  · rw [if_pos h, if_pos h]
theorem plain_rows : ∀ l m : List V, rowsCmp (l.map V.plain) (m.map V.plain) = rowsCmp l m
  | [], [] => rfl
  | [], _ :: _ => rfl
  | _ :: _, [] => rfl
  | a :: l, b :: m => by
    rw [List.map_cons, List.map_cons]
    unfold rowsCmp
    rw [plain_cmp, plain_rows l m]
theorem plain_key1 (v : V) : v.plain.key = v.key := by
  unfold V.key V.plain
  dsimp only
  by_cases h1 : v.k = 1
  · simp [h1]
  · by_cases h2 : v.k = 2
    · simp [h2]
    · simp [h1, h2]
theorem plain_right (v : V) : v.plain.right = v.right := by
  unfold V.right V.plain
  dsimp only
  by_cases h2 : v.k = 2
  · rw [if_pos h2]
  · rw [if_neg h2, decide_eq_true h2]; simp
theorem plain_row (l : List V) : row (l.map V.plain) = row l := by
  unfold row
  rw [List.length_map, List.all_map]
  congr 1
  congr 1
  funext v
  exact plain_right v
theorem plain_key (l : List V) : rowKey (l.map V.plain) = rowKey l := by
  have h : (l.map V.plain).flatMap V.key = l.flatMap V.key := by
    induction l with
    | nil => rfl
    | cons a l ih => rw [List.map_cons, List.flatMap_cons, List.flatMap_cons, plain_key1, ih]
  unfold rowKey
  rw [plain_row, h]
theorem plain_twice (v : V) : v.plain.plain = v.plain := by
  unfold V.plain
  dsimp only
  congr 1
  · split <;> rfl
  · split <;> rfl
theorem plain_self (l : List V) : rowsCmp (l.map V.plain) l = 0 := by
  have h : (l.map V.plain).map V.plain = l.map V.plain := by
    rw [List.map_map]
    exact List.map_congr_left fun v _ => plain_twice v
  have := plain_rows (l.map V.plain) l
  rw [h] at this
  rw [← this]
  exact ord_rows.refl _
/-- keys of valid rows of one length order as the rows -/
theorem keys_ord {a b : List V} (ra : row a = true) (rb : row b = true) (h : a.length = b.length) (ia : ∀ v ∈ a, v.In) (ib : ∀ v ∈ b, v.In) : Lib.compareBytes (rowKey a) (rowKey b) = rowsCmp a b := by
  have := keys_rows a b h (fun v hv => ⟨row_all ra v hv, ia v hv⟩) (fun v hv => ⟨row_all rb v hv, ib v hv⟩) [] []
  rw [List.append_nil, List.append_nil] at this
  rw [rowKey_eq ra, rowKey_eq rb, this]
  unfold thn
  split
  · rfl
  · rename_i h0
    have : rowsCmp a b = 0 := by simpa using h0
    rw [this]
    rfl
end Go.VB.Rec
namespace Go.VB.Cat
open Go.VB Go.VB.Rec Go.VB.Oct
theorem fitAt_all {cols : List Col} (hc : ∀ c ∈ cols, c.kind = 1 ∨ c.kind = 2) {r : List V} (hi : ∀ v ∈ r, v.In) {j : Nat} (h : j < cols.length) (h6 : cols.length ≤ 6) : (fitAt cols r j).right = true ∧ (fitAt cols r j).In ∧ ((fitAt cols r j).k = 0 ∨ (fitAt cols r j).k = cols[j].kind) := by
  have hk := hc _ (List.getElem_mem h)
  by_cases hr : j < r.length
  · by_cases h0 : r[j].k = 0
    · rw [fitAt_null hr h0]
      exact ⟨by decide, ⟨by decide, by decide⟩, .inl rfl⟩
    · rw [fitAt_yes h hr h0]
      have := hi _ (List.getElem_mem hr)
      refine ⟨?_, ?_, .inr rfl⟩
      · unfold V.right
        dsimp only
        have hl : (r[j].s.take 40).length ≤ 40 := List.length_take_le _ _
        simp only [Bool.and_eq_true, Bool.or_eq_true, decide_eq_true_eq]
        omega
      · exact this
  · rw [fitAt_no h hr]
    refine ⟨?_, ?_, .inr rfl⟩
    · unfold V.right
      dsimp only
      simp only [Bool.and_eq_true, Bool.or_eq_true, decide_eq_true_eq, List.length_nil]
      omega
    · unfold V.In
      dsimp only
      omega
structure FitOk (cols : List Col) (x : List V) : Prop where
  len : x.length = cols.length
  le : x.length ≤ 6
  at_ : ∀ i (h : i < x.length), x[i].right = true ∧ x[i].In ∧ (x[i].k = 0 ∨ x[i].k = (cols[i]'(by omega)).kind)
theorem fit_ok {cols : List Col} (hc : ∀ c ∈ cols, c.kind = 1 ∨ c.kind = 2) (h6 : cols.length ≤ 6) {r : List V} (hi : ∀ v ∈ r, v.In) : FitOk cols (fitRow cols r) := by
  refine ⟨fitRow_len _ _, by rw [fitRow_len]; exact h6, fun i h => ?_⟩
  have hl : i < cols.length := by rw [fitRow_len] at h; exact h
  have e : (fitRow cols r)[i] = fitAt cols r i := by simp [fitRow]
  rw [e]
  exact fitAt_all hc hi hl h6
theorem FitOk.mem {cols : List Col} {x : List V} (h : FitOk cols x) {v : V} (hv : v ∈ x) : v.right = true ∧ v.In := by
  obtain ⟨i, hi, rfl⟩ := List.getElem_of_mem hv
  exact ⟨(h.at_ i hi).1, (h.at_ i hi).2.1⟩
theorem FitOk.row {cols : List Col} {x : List V} (h : FitOk cols x) : row x = true := by
  unfold Rec.row
  simp only [Bool.and_eq_true, decide_eq_true_eq, List.all_eq_true]
  exact ⟨h.le, fun v hv => (h.mem hv).1⟩
theorem FitOk.check {cols : List Col} {x : List V} (h : FitOk cols x) : checkM cols x = 0 := by
  refine check_good h.len fun i hi => ?_
  obtain ⟨h1, _, h3⟩ := h.at_ i hi
  unfold badV
  rw [h1]
  rcases h3 with g | g <;> simp [g]
theorem FitOk.plain {cols : List Col} {x : List V} (h : FitOk cols x) : FitOk cols (x.map V.plain) := by
  refine ⟨by rw [List.length_map]; exact h.len, by rw [List.length_map]; exact h.le, fun i hi => ?_⟩
  have hi' : i < x.length := by rwa [List.length_map] at hi
  obtain ⟨h1, h2, h3⟩ := h.at_ i hi'
  rw [List.getElem_map]
  refine ⟨by rw [plain_right]; exact h1, ?_, h3⟩
  unfold V.In V.plain at *
  dsimp only
  split <;> omega
/-- the values of a row at an index' columns -/
def pick (x : List V) (cs : List Int) : List V := cs.map fun c => (x[c.toNat]?).getD ⟨0, 0, []⟩
theorem pick_len (x : List V) (cs : List Int) : (pick x cs).length = cs.length := List.length_map _
theorem pick_take {x : List V} {cs : List Int} {m : Nat} (hm : m < cs.length) (hc : cs[m].toNat < x.length) : (pick x cs).take (m + 1) = (pick x cs).take m ++ [x[cs[m].toNat]] := by
  rw [List.take_succ_eq_append_getElem (by rw [pick_len]; exact hm)]
  congr 2
  unfold pick
  rw [List.getElem_map, List.getElem?_eq_getElem hc]
  rfl
theorem pick_in {x : List V} {cs : List Int} (hc : ∀ c ∈ cs, 0 ≤ c ∧ c < x.length) : ∀ v ∈ pick x cs, v ∈ x := by
  intro v hv
  unfold pick at hv
  obtain ⟨c, hc1, rfl⟩ := List.mem_map.1 hv
  have := hc c hc1
  rw [List.getElem?_eq_getElem (by omega)]
  exact List.getElem_mem _
theorem pick_row {cols : List Col} {x : List V} (h : FitOk cols x) {cs : List Int} (hl : cs.length ≤ 6) (hc : ∀ c ∈ cs, 0 ≤ c ∧ c < x.length) : row (pick x cs) = true ∧ ∀ v ∈ pick x cs, v.In := by
  constructor
  · unfold Rec.row
    simp only [Bool.and_eq_true, decide_eq_true_eq, List.all_eq_true]
    exact ⟨by rw [pick_len]; exact hl, fun v hv => (h.mem (pick_in hc v hv)).1⟩
  · exact fun v hv => (h.mem (pick_in hc v hv)).2
end Go.VB.Cat
namespace Go.Proofs.YtgkfdlpijefgkaaGreatDoor
open Go.RowKit Go.VB Go.VB.Oct Go.VB.Cat Go.VB.Rec
theorem rangeF {W W' : World} {g o : Nat} {l : List Value} (h : W.rangeAt g o l) (f : Fr (fun _ => False) W W') : W'.rangeAt g o l := fun i u hu => cell_fr (h i u hu) f (fun h => h)
theorem boundT {S : Nat → Prop} {W : World} {t : TabV} (o : TabO S W t) (k : TabOk t.t) : TabB t :=
  ⟨by have := k.le; omega, by have := k.ixs; rw [o.e, List.length_map] at this; omega, fun x hx => by have := (k.ix x.x (by rw [o.e]; exact List.mem_map_of_mem hx)).le; omega⟩
/-- what the comparison of two rows' keys says -/
theorem key_facts {a b : List UInt8} {c : Int} (h : Lib.compareBytes a b = c) : (decide (a = b) = (c == 0)) := by
  by_cases e : a = b
  · subst e
    rw [ord_bytes.refl] at h
    subst h
    simp
  · have : c ≠ 0 := fun h0 => e (cmpBytes0 _ _ (h.trans h0))
    rw [decide_eq_false e, beq_eq_false_iff_ne.2 this]
theorem rangeF2 {U : Nat → Prop} {W W' : World} {g o : Nat} {l : List Value} (h : W.rangeAt g o l) (f : Fr U W W') (hU : ¬ U g) : W'.rangeAt g o l := fun i u hu => cell_fr (h i u hu) f hU
theorem slLt {e : TypeId} {size B n : Nat} {W : World} {v : Value} {xs : List Value} (h : Row e size B W v n xs) : Sl (fun k => k < W.heap.size) W v n xs := own_sl h.own (fun k hk => h.lt hk)
theorem rowBytes_len {cols : List Col} {x : List V} (h : FitOk cols x) : (rowBytes x).length ≤ 253 := by
  unfold rowBytes
  rw [if_pos h.row, List.length_cons]
  have := vsum_le x (row_all h.row) h.le
  omega
theorem fit_read {cols : List Col} {x : List V} (h : FitOk cols x) : readV (rowBytes x) = (x.map V.plain, 0) := readV_bytes h.row (fun v hv => (h.mem hv).2)
/-- two rows under way -/
structure Two (B : Nat) (W : World) (au av : Option Addr) (cu cv m : Nat) (us vs : List V) : Prop where
  u : Row 46 3 B W (.slice au m cu) m ((us.take m).flatMap V.cells)
  v : Row 46 3 B W (.slice av m cv) m ((vs.take m).flatMap V.cells)
  ne : ∀ k, (Value.slice au m cu).ownBlock = some k → (Value.slice av m cv).ownBlock ≠ some k
theorem Two.fre {B : Nat} {W W' : World} {au av : Option Addr} {cu cv m : Nat} {us vs : List V} (h : Two B W au av cu cv m us vs) (f : Fr (fun _ => False) W W') : Two B W' au av cu cv m us vs := ⟨h.u.fre f, h.v.fre f, h.ne⟩
theorem less_cmp : ∀ a b : List UInt8, Op.bytesLess a b = decide (Lib.compareBytes a b < 0)
  | [], [] => rfl
  | [], _ :: _ => rfl
  | _ :: _, [] => rfl
  | a :: x, b :: y => by
    have ih := less_cmp x y
    unfold Op.bytesLess Lib.compareBytes
    by_cases h : a < b
    · simp [h]
    · by_cases h2 : b < a
      · have hne : ¬ a = b := fun e => by subst e; exact h h2
        simp [h, h2, hne]
      · have e : a = b := by
          apply UInt8.toNat_inj.1
          have h1 := UInt8.not_lt.1 h
          have h3 := UInt8.not_lt.1 h2
          have h1' := UInt8.le_iff_toNat_le.1 h1
          have h3' := UInt8.le_iff_toNat_le.1 h3
          omega
        subst e
        simp [ih]
theorem key_less {a b : List UInt8} {c : Int} (h : Lib.compareBytes a b = c) : Op.bytesLess (bs a).toList (bs b).toList = decide (c < 0) := by
  rw [Lib.toList_data, Lib.toList_data]
  show Op.bytesLess a b = _
  rw [less_cmp, h]
set_option maxRecDepth 20000 in
set_option maxHeartbeats 16000000 in
theorem Rows_walk {w : World} (K : Kn w) (ML : Ml w) {al : Option Addr} {cl : Nat} {L : List Arg} (HL : ArgsR w (.slice al L.length cl) L) {va vb : Value} {ra rb : List V}
    (ha : Sl (fun k => k < w.heap.size) w va ra.length (ra.flatMap V.cells)) (hb : Sl (fun k => k < w.heap.size) w vb rb.length (rb.flatMap V.cells)) (hra : ∀ v ∈ ra, v.In) (hrb : ∀ v ∈ rb, v.In) :
    Calls Tryz.prog 3 #[.slice al L.length cl, va, vb] w fun e w' => e = .returned (.bool true) ∧ Fr (fun _ => False) w w' := by
  obtain ⟨aa, ca, rfl, hca, hxa⟩ := ha
  obtain ⟨ab, cb, rfl, hcb, hxb⟩ := hb
  have HA := hid (show Sl (fun k => k < w.heap.size) w (.slice aa ra.length ca) ra.length (ra.flatMap V.cells) from ⟨aa, ca, rfl, hca, hxa⟩)
  have HB := hid (show Sl (fun k => k < w.heap.size) w (.slice ab rb.length cb) rb.length (rb.flatMap V.cells) from ⟨ab, cb, rfl, hcb, hxb⟩)
  have HIA := hid hra
  have HIB := hid hrb
  have HLA := hid HL
  have HK := hid K
  have HML := hid ML
  have HSA := hid (sanity_go K)
  clear hca hxa hcb hxb hra hrb HL K ML
  go_enter Tryz.func3, Tryz.ntmps3
  go_upto_region 2 with (go_at_call 6; refine HSA.out.mono ?_; rintro e w1 ⟨rfl, f⟩; have F1 := hid f; clear f)
  have HMD := hid (made_go (HLA.out.later F1.out))
  go_upto_region 3 with (go_at_call 7; refine HMD.out.mono ?_; rintro e w2 ⟨r, S, m, rfl, ho⟩; have HO := hid ho; have F2 := hid (F1.out.trans ho.fr (fun _ h _ => h)); clear ho)
  clear HMD HSA F1 HLA
  obtain ⟨v, ts, hr, hm⟩ := HO.out.cr
  have HR := hid hr
  have HM := hid hm
  have HOK := hid HO.out.ok
  obtain ⟨av, cv, rfl, _⟩ := hr.r.slice
  have hl8 : ts.length ≤ 8 := by
    have h := HOK.out.len
    rw [← hm, List.length_map] at h
    exact h
  clear hr hm HO
  go_wp2_with (fail)
  go_loopw [9] (fun s9 wr => ∃ i : Nat, i ≤ ts.length ∧ s9 = .int .i64 i ∧ Fr (fun _ => False) w2 wr) (fun s9 _ => ts.length - (intOf s9).toNat)
  case atStart => exact ⟨0, by omega, rfl, Fr.refl _ _⟩
  case round =>
    obtain ⟨i, hi, rfl, hf⟩ := hrel
    have FR := hid hf
    clear hf
    have i1 : (0 : Int) ≤ (i : Int) := by omega
    have k0 : wr.cell? ⟨r, 0, none⟩ = some (.slice av ts.length cv) := (HR.out.fre FR.out).b.cell 0
    by_cases hil : i < ts.length
    · have i2 : (i : Int) < (ts.length : Int) := by omega
      obtain ⟨g, rfl, -, hrx⟩ := tab_at (HR.out.fre FR.out).r hil
      have HXO := hid ((HR.out.fre FR.out).t _ (List.getElem_mem hil))
      have HTK := hid (show TabOk ts[i].t from HOK.out.tab _ (by rw [← HM.out]; exact List.mem_map_of_mem (List.getElem_mem hil)))
      obtain ⟨x, hx⟩ : ∃ x, x = ts[i] := ⟨_, rfl⟩
      rw [← hx] at hrx HXO HTK
      clear hx
      have HRX := hid hrx
      clear hrx
      obtain ⟨ac, cc, e2, _⟩ := HXO.out.c.slice
      obtain ⟨ai, ci, e3, _⟩ := HXO.out.i.slice
      obtain ⟨tm, vc, vi, ix⟩ := x
      dsimp only at e2 e3 HTK
      subst e2 e3
      unfold TabV.cells at HRX
      dsimp only at HRX
      have FW := hid (F2.out.trans FR.out (fun _ h _ => h))
      go_upto_region 7 with (refine wpList_load_mid rfl 34 (.tmp 36) rfl g (i * 4) rfl _ _ HRX.out Tryz.underlying34 rfl size_tab2 ?_)
      clear k0
      have HB7 := hid (Blk.new wr [.int .i64 tm.id, .string (bs tm.name), .slice ac tm.cols.length cc, .slice ai ix.length ci] 34)
      have F7 := hid ((Fr.refl (fun _ => False) wr).alloc (.cells #[.int .i64 tm.id, .string (bs tm.name), .slice ac tm.cols.length cc, .slice ai ix.length ci] 34))
      generalize wr.heap.size = dt at *
      generalize wr.alloc _ = W7 at *
      have HXO7 := hid (HXO.out.fr F7.out (fun _ _ h => h))
      have FW7 := hid (FW.out.trans F7.out (fun _ h _ => h))
      have FR7 := hid (FR.out.trans F7.out (fun _ h _ => h))
      clear HXO HRX FW FR F7
      have HBT := hid (boundT HXO7.out HTK.out)
      have hkinds : ∀ c ∈ tm.cols, c.kind = 1 ∨ c.kind = 2 := fun c hc => (HTK.out.col c hc).2
      have HX := hid (fit_ok hkinds HTK.out.le HIA.out)
      have HY := hid (fit_ok hkinds HTK.out.le HIB.out)
      clear hkinds
      have HF1 := hid (fit_go (ai := ai) (ni := ix.length) (ci := ci) tm.id tm.name (HXO7.out.c.sl' (R := fun _ => True) (fun _ _ => trivial)) HTK.out.le (HA.out.fr FW7.out (fun _ _ h => h)) (fun k hk => Nat.lt_of_lt_of_le hk FW7.out.size))
      have HL7 := hid HB7.out.all
      obtain ⟨x, hx⟩ : ∃ x, x = fitRow tm.cols ra := ⟨_, rfl⟩
      obtain ⟨y, hy⟩ : ∃ y, y = fitRow tm.cols rb := ⟨_, rfl⟩
      rw [← hx] at HX HF1
      rw [← hy] at HY
      have HYE := hid hy
      clear hx hy
      go_upto_region 8 with (first
        | (refine wpList_load_mid rfl 34 (.tmp 10) rfl dt 0 rfl _ _ HL7.out Tryz.underlying34 rfl size_tab2 ?_)
        | (go_at_call 8; refine HF1.out.mono ?_; rintro e w8 ⟨ax, cx, rfl, hr, f⟩; have HRX := hid hr; have F8 := hid f; clear hr f))
      have HB8 := hid (Blk.fr HB7.out F8.out (fun h => h))
      have HXO8 := hid (HXO7.out.fr F8.out (fun _ _ h => h))
      have FW8 := hid (FW7.out.trans F8.out (fun _ h _ => h))
      have FR8 := hid (FR7.out.trans F8.out (fun _ h _ => h))
      have HL8 := hid HB8.out.all
      have HF2 := hid (fit_go (ai := ai) (ni := ix.length) (ci := ci) tm.id tm.name (HXO8.out.c.sl' (R := fun _ => True) (fun _ _ => trivial)) HTK.out.le (HB.out.fr FW8.out (fun _ _ h => h)) (fun k hk => Nat.lt_of_lt_of_le hk FW8.out.size))
      rw [← HYE.out] at HF2
      clear HF1 HL7 HB7 HXO7 FW7 FR7 F8
      go_upto_region 9 with (first
        | (refine wpList_load_mid rfl 34 (.tmp 10) rfl dt 0 rfl _ _ HL8.out Tryz.underlying34 rfl size_tab2 ?_)
        | (go_at_call 8; refine HF2.out.mono ?_; rintro e w9 ⟨ay, cy, rfl, hr, f⟩; have HRY := hid (hr.low (Nat.zero_le _)); have F9 := hid f; clear hr f))
      have HB9 := hid (Blk.fr HB8.out F9.out (fun h => h))
      have HXO9 := hid (HXO8.out.fr F9.out (fun _ _ h => h))
      have FW9 := hid (FW8.out.trans F9.out (fun _ h _ => h))
      have FR9 := hid (FR8.out.trans F9.out (fun _ h _ => h))
      have HRX9 := hid ((HRX.out.fre F9.out).low (Nat.zero_le _))
      clear HF2 HL8 HB8 HXO8 FW8 FR8 F9 HRX HYE
      have HVB := hid (VBytes_go (slLt HRX9.out) (fun k hk => hk) (by have := HX.out.le; omega))
      have HVR := hid (fun W => VRead_go (rowBytes x) (by have := rowBytes_len HX.out; omega) W)
      rw [fit_read HX.out] at HVR
      dsimp only at HVR
      have HXP := hid HX.out.plain
      have HRC := hid (plain_self x)
      obtain ⟨xp, hxp⟩ : ∃ xp, xp = x.map V.plain := ⟨_, rfl⟩
      rw [← hxp] at HVR HXP HRC
      clear hxp
      go_upto_region 10 with (first
        | (go_at_call 10; refine HVB.out.mono ?_; rintro e w10 ⟨rfl, f⟩; have F10 := hid f; clear f)
        | (go_at_call 9; refine (HVR.out _).mono ?_; rintro e w11 ⟨vp, rfl, hr, f⟩; obtain ⟨ap, cp, rfl, -⟩ := hr.slice; have HRP := hid (hr.low (Nat.zero_le _)); have F11 := hid (F10.out.trans f (fun _ h _ => h)); clear hr f))
      have HB10 := hid (Blk.fr HB9.out F11.out (fun h => h))
      have HXO10 := hid (HXO9.out.fr F11.out (fun _ _ h => h))
      have FW10 := hid (FW9.out.trans F11.out (fun _ h _ => h))
      have FR10 := hid (FR9.out.trans F11.out (fun _ h _ => h))
      have HRX10 := hid (HRX9.out.fre F11.out)
      have HRY10 := hid (HRY.out.fre F11.out)
      clear HVB HVR HB9 HXO9 FW9 FR9 F11 HRX9 HRY F10
      have HCK := hid (fun (W : World) (f : Fr (fun _ => False) w11 W) (z : List V) (hz : FitOk tm.cols z) (vz : Value) (hs : Row 46 3 0 w11 vz z.length (z.flatMap V.cells)) => (by
        have h := Check_go (ai := ai) (ni := ix.length) (ci := ci) tm.id tm.name ((HXO10.out.c.fre f).sl' (R := fun _ => True) (fun _ _ => trivial)) (by have := HTK.out.le; omega) ((hs.fre f).sl' (R := fun _ => True) (fun _ _ => trivial)) (by have := hz.le; omega)
        rw [hz.check] at h
        exact h : Calls Tryz.prog 11 #[.agg #[.int .i64 tm.id, .string (bs tm.name), .slice ac tm.cols.length cc, .slice ai ix.length ci], vz] W fun e w' => e = .returned (.int .i64 0) ∧ Fr (fun _ => False) W w'))
      have HL10 := hid (fun (W : World) (f : Fr (fun _ => False) w11 W) => rangeF HB10.out.all f)
      have HVW := hid (fun (W : World) (f : Fr (fun _ => False) w11 W) => (by
        have h := VRows_go ((HRP.out.fre f).sl' (R := fun _ => True) (fun _ _ => trivial)) ((HRX10.out.fre f).sl' (R := fun _ => True) (fun _ _ => trivial)) (by have := HXP.out.le; omega) (by have := HX.out.le; omega) (HK.out.fre (FW10.out.trans f (fun _ h _ => h)))
        rw [HRC.out] at h
        exact h))
      have G0 := hid (Fr.refl (fun _ => False) w11)
      have HL := hid (HL10.out _ G0.out)
      go_wp2_with (refine wpList_load_mid rfl 34 (.tmp 10) rfl dt 0 rfl _ _ HL.out Tryz.underlying34 rfl size_tab2 ?_)
      refine (HCK.out _ G0.out x HX.out _ HRX10.out).mono ?_
      rintro e w12 ⟨rfl, f⟩
      have G1 := hid (G0.out.trans f (fun _ h _ => h))
      clear f HL G0
      have HL := hid (HL10.out _ G1.out)
      go_wp2_with (refine wpList_load_g rfl 34 (.tmp 10) rfl dt 0 rfl _ _ HL.out Tryz.underlying34 rfl size_tab2 ?_)
      refine (HCK.out _ G1.out y HY.out _ HRY10.out).mono ?_
      rintro e w13 ⟨rfl, f⟩
      have G2 := hid (G1.out.trans f (fun _ h _ => h))
      clear f HL G1
      have HL := hid (HL10.out _ G2.out)
      go_wp2_with (refine wpList_load_g rfl 34 (.tmp 10) rfl dt 0 rfl _ _ HL.out Tryz.underlying34 rfl size_tab2 ?_)
      refine (HCK.out _ G2.out xp HXP.out _ HRP.out).mono ?_
      rintro e w14 ⟨rfl, f⟩
      have G3 := hid (G2.out.trans f (fun _ h _ => h))
      clear f HL G2
      go_upto_region 12 with (go_at_call 12; refine (HVW.out _ G3.out).mono ?_; rintro e w15 ⟨rfl, f⟩; have G4 := hid (G3.out.trans f (fun _ h _ => h)); clear f)
      have HB15 := hid (Blk.fr HB10.out G4.out (fun h => h))
      have HXO15 := hid (HXO10.out.fr G4.out (fun _ _ h => h))
      have FW15 := hid (FW10.out.trans G4.out (fun _ h _ => h))
      have FR15 := hid (FR10.out.trans G4.out (fun _ h _ => h))
      have HRX15 := hid (HRX10.out.fre G4.out)
      have HRY15 := hid (HRY10.out.fre G4.out)
      clear HB10 HXO10 FW10 FR10 HRX10 HRY10 G3 G4 HVW HL10 HCK HRP
      have HKW := hid (HK.out.fre FW15.out)
      have HMW := hid (HML.out.fre FW15.out)
      have hx4 : ix.length ≤ 4 := by
        have h := HTK.out.ixs
        have e := HXO15.out.e
        dsimp only at e
        rw [e, List.length_map] at h
        exact h
      go_wp2_with (fail)
      go_loopw [15] (fun s15 wr => ∃ k : Nat, k ≤ ix.length ∧ s15 = .int .i64 k ∧ Fr (fun _ => False) w15 wr) (fun s15 _ => ix.length - (intOf s15).toNat)
      case atStart => exact ⟨0, by omega, rfl, Fr.refl _ _⟩
      case round =>
        obtain ⟨k, hk, rfl, hf⟩ := hrel
        rename World => wk
        have GR := hid hf
        clear hf
        have j1 : (0 : Int) ≤ (k : Int) := by omega
        have HBR := hid (Blk.fr HB15.out GR.out (fun h => h))
        have c3 : wk.cell? ⟨dt, 3, none⟩ = some (.slice ai ix.length ci) := HBR.out.cell 3
        by_cases hkl : k < ix.length
        · have j2 : (k : Int) < (ix.length : Int) := by omega
          obtain ⟨gi, oi, hgi, -, hri⟩ := slK (k := 3) (f := IxV.cells) (by decide) (fun _ => rfl) ((HXO15.out.i.fre GR.out).sl' (R := fun _ => True) (fun _ _ => trivial)) hkl
          have HXI := hid ((HXO15.out.x _ (List.getElem_mem hkl)).1.fre GR.out)
          have HIK := hid (show IxOk tm.cols.length ix[k].x from HTK.out.ix _ (by have e := HXO15.out.e; dsimp only at e; rw [e]; exact List.mem_map_of_mem (List.getElem_mem hkl)))
          have hr1 := hri 1 (by decide)
          clear hri
          subst hgi
          obtain ⟨xi, hxi⟩ : ∃ xi, xi = ix[k] := ⟨_, rfl⟩
          rw [← hxi] at hr1 HXI HIK
          clear hxi
          obtain ⟨⟨inm, cs, irt⟩, vI⟩ := xi
          obtain ⟨aI, cI, e4, -⟩ := HXI.out.slice
          dsimp only at e4
          subst e4
          dsimp only at HXI HIK
          simp only [IxV.cells, List.getElem?_cons_succ, List.getElem?_cons_zero] at hr1
          have HQ1 := hid hr1
          clear hr1
          have hcs6 : cs.length ≤ 6 := HIK.out.le
          have HCI := hid (show ∀ c ∈ cs, 0 ≤ c ∧ c < x.length from fun c hc => by have := HIK.out.col c hc; have := HX.out.len; omega)
          have HCY := hid (show ∀ c ∈ cs, 0 ≤ c ∧ c < y.length from fun c hc => by have := HIK.out.col c hc; have := HY.out.len; omega)
          have HRXR := hid (HRX15.out.fre GR.out)
          have HRYR := hid (HRY15.out.fre GR.out)
          go_upto_region 17 with fail
          clear c3
          have hu0 := (Row.built (e := 46) (n := 0) (size := 3) (B := wk.heap.size) wk (l := []) rfl (by decide) (Nat.le_refl _)).fre ((Fr.refl (fun _ => False) (wk.alloc (.cells #[] 46))).alloc (.cells #[] 46))
          have hv0 := Row.built (e := 46) (n := 0) (size := 3) (B := wk.heap.size) (wk.alloc (.cells #[] 46)) (l := []) rfl (by decide) (by rw [World.size_alloc]; omega)
          have HT0 := hid (show Two wk.heap.size ((wk.alloc (.cells #[] 46)).alloc (.cells #[] 46)) (some ⟨wk.heap.size, 0, none⟩) (some ⟨wk.heap.size + 1, 0, none⟩) 0 0 0 (pick x cs) (pick y cs) from by
            rw [World.size_alloc] at hv0
            exact ⟨hu0, hv0, fun k h1 h2 => by simp [Value.ownBlock] at h1 h2; omega⟩)
          have FA := hid (((Fr.refl (fun _ => False) wk).alloc (.cells #[] 46)).alloc (.cells #[] 46))
          clear hu0 hv0
          generalize (wk.alloc _).alloc _ = W17 at *
          obtain ⟨b1, hb1⟩ : ∃ b1, b1 = wk.heap.size := ⟨_, rfl⟩
          rw [← hb1] at HT0 ⊢
          have HB1E := hid hb1
          clear hb1
          go_wp2_with (fail)
          go_loopw [16, 17, 18] (fun s16 s17 s18 wr => ∃ (q : Nat) (au av : Option Addr) (cu cv : Nat), q ≤ cs.length ∧ s18 = .int .i64 q ∧ s16 = .slice au q cu ∧ s17 = .slice av q cv ∧ Two b1 wr au av cu cv q (pick x cs) (pick y cs) ∧ Fr (fun _ => False) wk wr) (fun _ _ s18 _ => cs.length - (intOf s18).toNat)
          case atStart => exact ⟨0, _, _, _, _, by omega, rfl, rfl, rfl, HT0.out, FA.out⟩
          case round =>
            obtain ⟨q, au, av, cu, cv, hq, rfl, rfl, rfl, ht, hf⟩ := hrel
            have HT := hid ht
            have FQ := hid hf
            clear ht hf HT0 FA
            have l1 : (0 : Int) ≤ (q : Int) := by omega
            have c3 : wr.cell? ⟨dt, 3, none⟩ = some (.slice (some ⟨gi, oi, none⟩) ix.length ci) := (Blk.fr HBR.out FQ.out (fun h => h)).cell 3
            have q1 := cell_fr HQ1.out FQ.out (fun h => h)
            by_cases hqc : q < cs.length
            · have l2 : (q : Int) < (cs.length : Int) := by omega
              have hcq := HCI.out _ (List.getElem_mem hqc)
              have hcy := HCY.out _ (List.getElem_mem hqc)
              have HTU := hid (pick_take (x := x) hqc (by omega))
              have HTV := hid (pick_take (x := y) hqc (by omega))
              obtain ⟨gI, oI, hgI, -, hcell⟩ := sl_cell1 (f := icell) (fun _ => rfl) (HXI.out.sl' (R := fun _ => True) (fun _ _ => trivial)) (by intro e; rw [e] at hqc; simp at hqc)
              have qI0 := hcell q hqc
              subst hgI
              clear hcell
              obtain ⟨cn, hcn⟩ : ∃ cn : Nat, cs[q] = (cn : Int) := ⟨cs[q].toNat, by omega⟩
              have hcn2 : cs[q].toNat = cn := by omega
              simp only [hcn2] at HTU HTV
              rw [hcn] at hcq hcy
              have hcx : cn < x.length := by omega
              have hcyy : cn < y.length := by omega
              have HQI := hid (show wk.cell? ⟨gI, oI + q, none⟩ = some (.int .i64 cn) from by
                rw [← hcn]
                simpa [icell] using qI0)
              clear qI0
              have qI := cell_fr HQI.out FQ.out (fun h => h)
              obtain ⟨gx, ox, hgx, -, qx⟩ := slK (k := 3) (f := V.cells) (by decide) vcells_len (HRXR.out.sl' (R := fun _ => True) (fun _ _ => trivial)) hcx
              obtain ⟨gy, oy, hgy, -, qy⟩ := slK (k := 3) (f := V.cells) (by decide) vcells_len (HRYR.out.sl' (R := fun _ => True) (fun _ _ => trivial)) hcyy
              have HXC0 := hid (show wk.rangeAt gx (ox + cn * 3) (V.cells x[cn]) from fun i u hu => (qx i (List.getElem?_eq_some_iff.1 hu).1).trans hu)
              have HYC0 := hid (show wk.rangeAt gy (oy + cn * 3) (V.cells y[cn]) from fun i u hu => (qy i (List.getElem?_eq_some_iff.1 hu).1).trans hu)
              clear qx qy
              have l3 : (0 : Int) ≤ (cn : Int) := by omega
              have l4 : (cn : Int) < (x.length : Int) := by omega
              have l5 : (cn : Int) < (y.length : Int) := by omega
              obtain ⟨xe, hxe⟩ : ∃ xe, xe = x[cn] := ⟨_, rfl⟩
              obtain ⟨ye, hye⟩ : ∃ ye, ye = y[cn] := ⟨_, rfl⟩
              rw [← hxe] at HXC0 HTU
              rw [← hye] at HYC0 HTV
              clear hxe hye hcn hcn2 hcq hcy
              obtain ⟨xk, xn, xs⟩ := xe
              obtain ⟨yk, yn, ys⟩ := ye
              unfold V.cells at HXC0 HYC0
              dsimp only at HXC0 HYC0
              subst hgx hgy
              have HXC := hid (rangeF HXC0.out FQ.out)
              have HSZ := hid (show b1 ≤ wr.heap.size from by have := FQ.out.size; have := HB1E.out; omega)
              go_upto_region 21 with (first
                | (refine wpList_load_mid rfl 46 (.tmp 107) rfl gx (ox + cn * 3) rfl _ _ HXC.out Tryz.underlying46 rfl size_v ?_)
                | (at_builtin; refine wpList_app1 rfl (s := .tmp 96) (x := .tmp 109) (t := 24) rfl Tryz.underlying24 info_v rfl rfl rfl HT.out.u HSZ.out rfl (by simp [Value.oneCell']) (by omega) (by omega) ?_; intro au2 cu2 wg APP; have HU2 := hid (APP.row.cast (m := q + 1) (ys := ((pick x cs).take (q + 1)).flatMap V.cells) rfl (by rw [HTU.out, List.flatMap_append]; simp [V.cells])); have HV2 := hid (HT.out.v.fr APP.fr (fun k hk e => HT.out.ne k e hk)); have HN2 := hid (show ∀ k, (Value.slice au2 (q + 1) cu2).ownBlock = some k → (Value.slice av q cv).ownBlock ≠ some k from fun k hk e => (APP.at_ k hk).elim (fun h => HT.out.ne k h e) (fun h => by have := HT.out.v.lt e; omega)); have FG := hid (FQ.out.trans APP.fr (fun k hk hl => by have := HT.out.u.new k hk; have := HB1E.out; omega)); clear APP))
              have c3 : wg.cell? ⟨dt, 3, none⟩ = some (.slice (some ⟨gi, oi, none⟩) ix.length ci) := (Blk.fr HBR.out FG.out (fun h => h)).cell 3
              have q1 := cell_fr HQ1.out FG.out (fun h => h)
              have qI := cell_fr HQI.out FG.out (fun h => h)
              have HYC := hid (rangeF HYC0.out FG.out)
              have HSZ2 := hid (show b1 ≤ wg.heap.size from by have := FG.out.size; have := HB1E.out; omega)
              clear HT FQ HXC HXC0 HYC0
              go_wp2_with (first
                | (refine wpList_load_mid rfl 46 (.tmp 122) rfl gy (oy + cn * 3) rfl _ _ HYC.out Tryz.underlying46 rfl size_v ?_)
                | (at_builtin; refine wpList_app1 rfl (s := .tmp 111) (x := .tmp 124) (t := 24) rfl Tryz.underlying24 info_v rfl rfl rfl HV2.out HSZ2.out rfl (by simp [Value.oneCell']) (by omega) (by omega) ?_; intro av2 cv2 wh APP; have HV3 := hid (APP.row.cast (m := q + 1) (ys := ((pick y cs).take (q + 1)).flatMap V.cells) rfl (by rw [HTV.out, List.flatMap_append]; simp [V.cells])); have HU3 := hid (HU2.out.fr APP.fr (fun k hk e => HN2.out k hk e)); have HN3 := hid (show ∀ k, (Value.slice au2 (q + 1) cu2).ownBlock = some k → (Value.slice av2 (q + 1) cv2).ownBlock ≠ some k from fun k hk e => (APP.at_ k e).elim (fun h => HN2.out k hk h) (fun h => by have := HU2.out.lt hk; omega)); have FH := hid (FG.out.trans APP.fr (fun k hk hl => by have := HV2.out.new k hk; have := HB1E.out; omega)); clear APP))
              go_roundw
              case rel => exact ⟨q + 1, au2, av2, cu2, cv2, by omega, by go_num, rfl, rfl, ⟨HU3.out, HV3.out, HN3.out⟩, FH.out⟩
              case measure => simp [intOf]; omega
            · obtain rfl : q = cs.length := by omega
              have l9 : ¬ ((cs.length : Int) < (cs.length : Int)) := by omega
              have HPX := hid (pick_row HX.out hcs6 HCI.out)
              have HPY := hid (pick_row HY.out hcs6 HCY.out)
              have hplx := pick_len x cs
              have hply := pick_len y cs
              obtain ⟨pu, hpu⟩ : ∃ pu, pu = pick x cs := ⟨_, rfl⟩
              obtain ⟨pv, hpv⟩ : ∃ pv, pv = pick y cs := ⟨_, rfl⟩
              rw [← hpu] at HPX hplx HT
              rw [← hpv] at HPY hply HT
              clear hpu hpv
              have HRU := hid (show Row 46 3 b1 wr (.slice au cs.length cu) pu.length (pu.flatMap V.cells) from HT.out.u.cast hplx.symm (by rw [← hplx, List.take_length]))
              have HRV := hid (show Row 46 3 b1 wr (.slice av cs.length cv) pv.length (pv.flatMap V.cells) from HT.out.v.cast hply.symm (by rw [← hply, List.take_length]))
              have FWQ := hid (FW15.out.trans (GR.out.trans FQ.out (fun _ h _ => h)) (fun _ h _ => h))
              have HKU := hid (fun (W : World) (f : Fr (fun _ => False) wr W) => VKey_go (slLt (HRU.out.fre f)) (fun k hk => hk) (by omega) (HML.out.fre (FWQ.out.trans f (fun _ h _ => h))))
              have HKV := hid (fun (W : World) (f : Fr (fun _ => False) wr W) => VKey_go (slLt (HRV.out.fre f)) (fun k hk => hk) (by omega) (HML.out.fre (FWQ.out.trans f (fun _ h _ => h))))
              have HCV := hid (fun (W : World) (f : Fr (fun _ => False) wr W) => VRows_go (slLt (HRU.out.fre f)) (slLt (HRV.out.fre f)) (by omega) (by omega) (HK.out.fre (FWQ.out.trans f (fun _ h _ => h))))
              have hord := keys_ord HPX.out.1 HPY.out.1 (by omega) HPX.out.2 HPY.out.2
              have F2Q := hid (FR15.out.trans (GR.out.trans FQ.out (fun _ h _ => h)) (fun _ h _ => h))
              have G0 := hid (Fr.refl (fun _ => False) wr)
              obtain ⟨ku, hku⟩ : ∃ ku, ku = rowKey pu := ⟨_, rfl⟩
              obtain ⟨kv, hkv⟩ : ∃ kv, kv = rowKey pv := ⟨_, rfl⟩
              obtain ⟨cc', hcc⟩ : ∃ z, z = rowsCmp pu pv := ⟨_, rfl⟩
              rw [← hku] at HKU hord
              rw [← hkv] at HKV hord
              rw [← hcc] at HCV hord
              have HORD := hid hord
              clear hku hkv hcc hord HPX HPY HT HRU HRV hplx hply HCI HCY
              go_wp2_with (fail)
              refine (HKU.out _ G0.out).mono ?_
              rintro e w20 ⟨rfl, f⟩
              have G1 := hid (G0.out.trans f (fun _ h _ => h))
              clear f G0
              go_wp2_with (fail)
              refine (HKV.out _ G1.out).mono ?_
              rintro e w21 ⟨rfl, f⟩
              have G2 := hid (G1.out.trans f (fun _ h _ => h))
              clear f G1
              go_wp2_with (fail)
              refine (HCV.out _ G2.out).mono ?_
              rintro e w22 ⟨rfl, f⟩
              have G3 := hid (G2.out.trans f (fun _ h _ => h))
              clear f G2
              have hq1 : ((bs ku).toList == (bs kv).toList) = (cc' == 0) := by rw [beq_dec]; exact key_facts HORD.out
              go_wp2_with (fail)
              refine (HKU.out _ G3.out).mono ?_
              rintro e w23 ⟨rfl, f⟩
              have G4 := hid (G3.out.trans f (fun _ h _ => h))
              clear f G3
              go_wp2_with (fail)
              refine (HKV.out _ G4.out).mono ?_
              rintro e w24 ⟨rfl, f⟩
              have G5 := hid (G4.out.trans f (fun _ h _ => h))
              clear f G4
              go_wp2_with (fail)
              refine (HCV.out _ G5.out).mono ?_
              rintro e w25 ⟨rfl, f⟩
              have G6 := hid (G5.out.trans f (fun _ h _ => h))
              clear f G5
              have hq2 : Op.bytesLess (bs ku).toList (bs kv).toList = decide (cc' < 0) := key_less HORD.out
              go_wp2_with (fail)
              have GZ := hid ((GR.out.trans FQ.out (fun _ h _ => h)).trans G6.out (fun _ h _ => h))
              go_roundw
              case rel => exact ⟨k + 1, by omega, by go_num, GZ.out⟩
              case measure => simp [intOf]; omega
        · have i9 : ¬ ((k : Int) < (ix.length : Int)) := by omega
          have FZ := hid (FR15.out.trans GR.out (fun _ h _ => h))
          go_wp2_with (fail)
          go_roundw
          case rel => exact ⟨i + 1, by omega, by go_num, FZ.out⟩
          case measure => simp [intOf]; omega
    · obtain rfl : i = ts.length := by omega
      have i9 : ¬ ((ts.length : Int) < (ts.length : Int)) := by omega
      have FZ := hid (F2.out.trans FR.out (fun _ h _ => h))
      go_wp2_with (fail)
      go_ret
      exact ⟨rfl, FZ.out⟩
end Go.Proofs.YtgkfdlpijefgkaaGreatDoor
