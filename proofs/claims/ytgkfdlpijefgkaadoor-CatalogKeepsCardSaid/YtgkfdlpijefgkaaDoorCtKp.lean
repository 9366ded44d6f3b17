import Derived.Test.YtgkfdlpijefgkaaDoorCtOn
import Derived.Test.YtgkfdlpijefgkaaDoorCtLs
import Derived.Test.YtgkfdlpijefgkaaDoorCtFr
import Derived.Test.YtgkfdlpijefgkaaDoorCards
import Derived.Test.YtgkfdlpijefgkaaDoorTie
import Derived.SevenTiedAt
/-
For every list of integer lists the statements keep IDs, kinds and indexes of what is there, names stay unique, and a statement that ends with an error changes nothing (CatalogKeeps).
Conditions: none beyond the row's own.
-/
set_option linter.unusedVariables false
namespace Go.VB.Cat
open Go.VB.Oct
theorem kept_at {m m' : List Tab} (h : KeptL m m') {i : Nat} (hi : i < m.length) (hi' : i < m'.length) : Kept m[i] m'[i] := h.t i hi
end Go.VB.Cat
namespace Go.Proofs.YtgkfdlpijefgkaaDoor
open Go.RowKit Go.VB Go.VB.Oct Go.VB.Cat Go.VB.Rec
/-- few columns -/
def cols_le (t : Tab) : Prop := t.cols.length ≤ 6
theorem tabB_of {S : Nat → Prop} {W : World} {t : TabV} (h : TabO S W t) (T : TabOk t.t) : TabB t := by
  have e := h.e
  have hl : t.ix.length = t.t.ixs.length := by rw [e, List.length_map]
  refine ⟨by have := T.le; omega, by have := T.ixs; omega, fun x hx => ?_⟩
  have := (T.ix x.x (by rw [e]; exact List.mem_map_of_mem hx)).le
  omega
theorem mem_of_map {ys : List TabV} {m : List Tab} (e : ys.map TabV.t = m) {i : Nat} (hi : i < ys.length) : ys[i].t = m[i]'(by rw [← e]; simpa using hi) := by
  subst e; simp
set_option maxRecDepth 20000 in
set_option maxHeartbeats 8000000 in
theorem Keeps_walk {w : World} (G : Gv w) {a : Option Addr} {c1 : Nat} {L : List Arg} (HL : ArgsR w (.slice a L.length c1) L) :
    Calls Tryd.prog 4 #[.slice a L.length c1] w fun e w' => e = .returned (.bool true) ∧ Fr (fun _ => False) w w' := by
  have HLA := hid HL
  have HSA := hid (sanity_go G.kn)
  clear HL G
  go_enter Tryd.func4, Tryd.ntmps4
  go_upto_region 2 with (go_at_call 10; refine HSA.out.mono ?_; rintro e w1 ⟨rfl, f1⟩; have F1 := hid f1; clear f1)
  have HNW := hid (New_go w1)
  go_upto_region 5 with (go_at_call 17; refine HNW.out.mono ?_; rintro e w2 ⟨rfl, hc, f⟩; have HC2 := hid ((OS.new hc f).base F1.out); clear hc f)
  obtain ⟨c, hce⟩ : ∃ c, c = w1.heap.size := ⟨_, rfl⟩
  rw [← hce] at HC2 ⊢
  clear hce HNW HSA F1
  have HAL := hid (All_go HC2.out.cr HC2.out.ok)
  have HLS := hid (fun k (hk : k = c) => (HC2.out.lt hk))
  go_upto_region 6 with (go_at_call 18; refine HAL.out.mono ?_; rintro e w6 ⟨v, ys, rfl, hys, hr, f⟩; have HC6 := hid (HC2.out.fre f); have HY6 := hid hr; have HYE := hid hys; clear hr f hys)
  clear HAL HC2
  go_wp2_with (fail)
  go_loopw [5, 6] (fun s5 s6 wr => ∃ (i B : Nat) (S : Nat → Prop) (m : List Tab) (ys : List TabV), i ≤ 40 ∧ s6 = .int .i64 i ∧ OS w S wr c m ∧ TabsR B wr s5 ys ∧ ys.map TabV.t = m ∧ (∀ k, S k → k < B)) (fun _ s6 _ => 40 - (intOf s6).toNat)
  case atStart => exact ⟨0, _, _, _, _, by omega, rfl, HC6.out, HY6.out, HYE.out, HLS.out⟩
  case round =>
    obtain ⟨i, B, S, m, ys, hi, rfl, hos, hy, he, hs⟩ := hrel
    have HOS := hid hos
    have HY := hid hy
    have HYE := hid he
    have HSB := hid hs
    have HOM := hid hos.ok
    obtain ⟨ay, cy, rfl, -⟩ := hy.r.slice
    clear hos hy he hs HC6 HY6 HLS
    have i1 : (0 : Int) ≤ (i : Int) := by omega
    by_cases hc12 : i < L.length ∧ i < 40
    · obtain ⟨hiL, h40⟩ := hc12
      have i2 : (i : Int) < L.length := by omega
      have i3 : (i : Int) < 40 := by omega
      obtain ⟨g, o, v, x, rfl, hcell, hsl, hxl⟩ := HLA.out.at_ HOS.out.fr hiL
      have HMD := hid (Made_go hsl hxl)
      obtain ⟨ax, cx, rfl, -, -⟩ := hsl
      go_upto_region 10 with (go_at_call 19; refine HMD.out.mono ?_; rintro e w3 ⟨s, vc, vn, root, rfl, hg, hcr, hnr, f⟩; obtain ⟨oc, cc, rfl, -⟩ := hcr.slice; obtain ⟨on, cn, rfl, -⟩ := hnr.slice; have HK0 := hid (MK.made hcr hnr hg f); have HF3 := hid f; clear hcr hnr hg f; dsimp only [mcells])
      generalize hw4 : w3.alloc _ = W4
      have HK := hid (show MK wr.heap.size W4 w3.heap.size s (.slice oc s.cols.length cc) (.slice on s.names.length cn) root from by rw [← hw4]; exact HK0.out)
      have HF4 := hid (show Fr (fun _ => False) wr W4 from by rw [← hw4]; exact HF3.out.alloc _)
      have HSW := hid (fun k (hk : S k) => HOS.out.lt hk)
      replace HOS := hid (HOS.out.fre HF4.out)
      replace HY := hid (HY.out.fre HF4.out)
      generalize w3.heap.size = d at *
      clear hw4 HK0 HF3 HF4 HMD hcell
      have HBY := hid (Bytes_go HOS.out.cr HOS.out.ok)
      go_upto_region 11 with (go_at_call 20; refine HBY.out.mono ?_; rintro e w5 ⟨rfl, f⟩; have HO5 := hid (HOS.out.fre f); have HK5 := hid (HK.out.fre f); have HY5 := hid (HY.out.fre f); clear f)
      clear HBY HOS HK HY
      have HDO := hid (HO5.out.madeDo HK5.out)
      have k15 := HK5.out.at15
      have HR := hid HK5.out.rng
      unfold scells at HDO HR
      obtain ⟨m', hm'⟩ : ∃ m', m' = (doM m s root).1 := ⟨_, rfl⟩
      obtain ⟨er, her⟩ : ∃ er, er = (doM m s root).2 := ⟨_, rfl⟩
      have HBE := hid (show Cat.bytes m' = Cat.bytes m ↔ er ≠ 0 from by rw [hm', her]; exact do_bytes HO5.out.ok s root)
      have HKP := hid (show KeptL m m' from by rw [hm']; exact keptL_do m s root)
      rw [← hm', ← her] at HDO
      clear hm' her
      go_upto_region 12 with (first
        | (refine wpList_load_mid rfl 51 (.tmp 39) rfl d 0 rfl _ _ HR.out Tryd.underlying51 rfl size_stmt ?_)
        | (go_at_call 21; refine HDO.out.mono ?_; rintro e w6 ⟨rfl, ho, f⟩; have HO6 := hid ho; have HY6 := hid (HY5.out.fr f (fun k hk hs => by have := HSB.out k hs; omega)); clear ho f))
      clear HDO k15 HR HO5 HK5 HY5 HSW
      obtain ⟨S2, hS2⟩ : ∃ S2 : Nat → Prop, OS w S2 w6 c m' := ⟨_, HO6.out⟩
      replace HO6 := hid hS2
      clear hS2 HSB
      have HAL := hid (All_go HO6.out.cr HO6.out.ok)
      have HLS := hid (fun k (hk : S2 k) => (HO6.out.lt hk))
      go_upto_region 13 with (go_at_call 18; refine HAL.out.mono ?_; rintro e w7 ⟨v, zs, rfl, hzs, hr, f⟩; have HO7 := hid (HO6.out.fre f); have HZ := hid hr; have HZE := hid hzs; have HY7 := hid (HY6.out.fre f); clear hr f hzs)
      obtain ⟨az, cz, hv, -⟩ := HZ.out.r.slice
      subst hv
      clear HAL HO6 HY6
      have HYL := hid (show ys.length = m.length from by have := congrArg List.length HYE.out; simpa using this)
      have HZL := hid (show zs.length = m'.length from by have := congrArg List.length HZE.out; simpa using this)
      have hle : ys.length ≤ zs.length := by have := HYL.out; have := HZL.out; have := HKP.out.len; omega
      have hz8 : zs.length ≤ 8 := by have := HZL.out; have := HO7.out.ok.len; omega
      have HBY := hid (Bytes_go HO7.out.cr HO7.out.ok)
      have F8 := hid (Fr.refl (fun _ => False) w7)
      go_cut [75] (fun s75 wx => s75 = .bool false ∧ Fr (fun _ => False) w7 wx)
      case first =>
        by_cases h0 : er = 0
        · have hne : ((bs (Cat.bytes m')).toList == (bs (Cat.bytes m)).toList) = false := by
            rw [beq_bs]
            have : Cat.bytes m' ≠ Cat.bytes m := fun e => HBE.out.1 e h0
            simpa using this
          subst h0
          go_wp2_with (go_at_call 20; refine HBY.out.mono ?_; rintro e w8 ⟨rfl, f⟩; have F9 := hid (F8.out.trans f (fun _ h _ => h)); clear f)
          go_meet
          exact ⟨by rw [decide_eq_false (by omega : ¬ zs.length < ys.length), decide_eq_false (by omega : ¬ (8 : Int) < (zs.length : Int))]; rfl, F9.out⟩
        · rw [HBE.out.2 h0] at HBY
          have h1 : (er != 0) = true := by simpa using h0
          have h2 : (er == 0) = false := by simpa using h0
          go_wp2_with (go_at_call 20; refine HBY.out.mono ?_; rintro e w8 ⟨rfl, f⟩; have F9 := hid (F8.out.trans f (fun _ h _ => h)); clear f)
          go_meet
          exact ⟨by rw [decide_eq_false (by omega : ¬ zs.length < ys.length), decide_eq_false (by omega : ¬ (8 : Int) < (zs.length : Int))]; rfl, F9.out⟩
      case rest =>
      obtain ⟨rfl, hfc⟩ := hcut
      have F9 := hid hfc
      clear hfc F8 HBY HBE
      replace HO7 := hid (HO7.out.fre F9.out)
      replace HY7 := hid (HY7.out.fre F9.out)
      replace HZ := hid (HZ.out.fre F9.out)
      clear F9
      go_wp2_with (fail)
      go_loopw [11] (fun s11 wr => ∃ n : Nat, n ≤ ys.length ∧ s11 = .int .i64 n ∧ Fr (fun _ => False) wc wr) (fun s11 _ => ys.length - (intOf s11).toNat)
      case atStart => exact ⟨0, by omega, rfl, Fr.refl _ _⟩
      case round =>
        obtain ⟨n, hn, rfl, hf⟩ := hrel
        have FR := hid hf
        clear hf
        have j1 : (0 : Int) ≤ (n : Int) := by omega
        have j5 : IntKind.i64.wrap ((n : Int) + 1) = (n : Int) + 1 := IntWalk.i64_in _ (by omega)
        by_cases hny : n < ys.length
        · have j2 : (n : Int) < (ys.length : Int) := by omega
          have j3 : (n : Int) < (zs.length : Int) := by omega
          have hnz : n < zs.length := by omega
          have hnm : n < m.length := by have := HYL.out; omega
          have hnm' : n < m'.length := by have := HZL.out; omega
          obtain ⟨gy, hgy, -, hry⟩ := tab_at (HY7.out.r.fre FR.out) hny
          obtain ⟨gz, hgz, -, hrz⟩ := tab_at (HZ.out.r.fre FR.out) hnz
          subst hgy hgz
          have HTY := hid ((HY7.out.t _ (List.getElem_mem hny)).fr FR.out (fun _ _ h => h))
          have HTZ := hid ((HZ.out.t _ (List.getElem_mem hnz)).fr FR.out (fun _ _ h => h))
          have HTY0 := hid (HY7.out.t _ (List.getElem_mem hny))
          have HTZ0 := hid (HZ.out.t _ (List.getElem_mem hnz))
          have HYK := hid (show TabOk ys[n].t from by rw [mem_of_map HYE.out hny]; exact HOM.out.tab _ (List.getElem_mem hnm))
          have HKT := hid (show Kept ys[n].t zs[n].t from by rw [mem_of_map HYE.out hny, mem_of_map HZE.out hnz]; exact HKP.out.t n hnm)
          have HOZ := hid (show TabOk zs[n].t from by rw [mem_of_map HZE.out hnz]; exact HO7.out.ok.tab _ (List.getElem_mem hnm'))
          have HID := hid (show zs[n].t.id = (n : Int) + 1 from by rw [mem_of_map HZE.out hnz]; exact HO7.out.ok.ids n hnm')
          have q0 := hry 0
          have q1 := hry 1
          have q2 := hry 2
          have q3 := hry 3
          have r0 := hrz 0
          have r1 := hrz 1
          have r2 := hrz 2
          have r3 := hrz 3
          clear hry hrz
          obtain ⟨y, hy⟩ : ∃ y, y = ys[n] := ⟨_, rfl⟩
          obtain ⟨z, hz⟩ : ∃ z, z = zs[n] := ⟨_, rfl⟩
          rw [← hy] at q0 q1 q2 q3 HTY HKT HTY0 HYK
          rw [← hz] at r0 r1 r2 r3 HTZ HTZ0 HKT HOZ HID
          clear hy hz
          obtain ⟨ac, c3, e1, _⟩ := HTY.out.c.slice
          obtain ⟨ai, c4, e2, _⟩ := HTY.out.i.slice
          obtain ⟨zc, d3, e3, _⟩ := HTZ.out.c.slice
          obtain ⟨zi, d4, e4, hd4⟩ := HTZ.out.i.slice
          have HLN := hid (And.intro HKT.out.len HKT.out.ixs)
          have HEY := hid HTY.out.e
          have HEZ := hid HTZ.out.e
          have HEI := hid (And.intro HKT.out.id (And.intro HKT.out.name (And.intro HKT.out.kinds (kept_back HKT.out))))
          have HOY := hid (show cols_le y.t ∧ zs.length = zs.length from ⟨by have := HOZ.out.le; have := HKT.out.len; unfold cols_le; omega, rfl⟩)
          obtain ⟨⟨yid, yname, cols, ixs⟩, yvc, yvi, yix⟩ := y
          obtain ⟨⟨zid, zname, zcols, zixs⟩, zvc, zvi, zix⟩ := z
          dsimp only at e1 e2 e3 e4 HID HLN HEY HEZ HEI hd4
          subst e1 e2 e3 e4
          simp only [TabV.cells, Nat.add_zero, List.getElem?_cons_zero, List.getElem?_cons_succ, Option.some.injEq, forall_eq'] at q0 q1 q2 q3 r0 r1 r2 r3
          have e5 := HEI.out.1
          have e6 := HEI.out.2.1
          subst e5 e6
          have e7 := HID.out
          subst e7
          have HIX := hid (show yix.length ≤ zix.length ∧ zix.length ≤ 4 from by
            have h1 := HLN.out.2.length_le
            have h2 := HOZ.out.ixs
            dsimp only at h2
            rw [HEY.out, HEZ.out] at h1
            rw [HEZ.out] at h2
            simp only [List.length_map] at h1 h2
            exact ⟨h1, h2⟩)
          rw [HLN.out.1] at r2
          have i6 : (zix.length : Int) ≤ 4 := by have := HIX.out.2; omega
          have i7 : (yix.length : Int) ≤ (zix.length : Int) := by have := HIX.out.1; omega
          go_upto_region 19 with fail
          have fa := (Fr.refl (fun _ => False) wr).alloc (.cells #[.int .i64 ((n : Int) + 1), .string (bs zname), .slice ac cols.length c3, .slice ai yix.length c4] 25)
          have HBA := hid (Blk.new wr [.int .i64 ((n : Int) + 1), .string (bs zname), .slice ac cols.length c3, .slice ai yix.length c4] 25)
          have HZC := hid (And.intro (cell_fr r0 fa (fun h => h)) (And.intro (cell_fr r1 fa (fun h => h)) (And.intro (cell_fr r2 fa (fun h => h)) (cell_fr r3 fa (fun h => h)))))
          have HYW := hid (HTY.out.fr fa (fun _ _ h => h))
          have HZW := hid (HTZ.out.fr fa (fun _ _ h => h))
          have FA := hid (FR.out.trans fa (fun _ h _ => h))
          have HDA := hid FR.out.size
          have HAL1 := hid HBA.out.lt
          clear fa q0 q1 q2 q3 r0 r1 r2 r3 HTY HTZ FR
          generalize wr.heap.size = da at *
          generalize wr.alloc _ = W1 at *
          obtain ⟨r0, r1, r2, r3⟩ := HZC.out
          clear HZC
          go_upto_region 20 with fail
          have fa := (Fr.refl (fun _ => False) W1).alloc (.cells #[.int .i64 ((n : Int) + 1), .string (bs zname), .slice zc cols.length d3, .slice zi zix.length d4] 25)
          have HBB := hid (Blk.new W1 [.int .i64 ((n : Int) + 1), .string (bs zname), .slice zc cols.length d3, .slice zi zix.length d4] 25)
          replace HBA := hid (Blk.fr HBA.out fa (fun h => h))
          replace HYW := hid (HYW.out.fr fa (fun _ _ h => h))
          replace HZW := hid (HZW.out.fr fa (fun _ _ h => h))
          have HDB := hid (show wc.heap.size ≤ W1.heap.size ∧ da ≠ W1.heap.size from ⟨FA.out.size, by have := HBA.out.lt; have h2 : da < W1.heap.size := HAL1.out; omega⟩)
          replace FA := hid (FA.out.trans fa (fun _ h _ => h))
          clear fa r0 r1 r2 r3
          generalize W1.heap.size = db at *
          generalize W1.alloc _ = W2 at *
          have q0 : W2.cell? ⟨da, 0, none⟩ = some (.int .i64 ((n : Int) + 1)) := HBA.out.cell 0
          have q1 : W2.cell? ⟨da, 1, none⟩ = some (.string (bs zname)) := HBA.out.cell 1
          have q2 : W2.cell? ⟨da, 2, none⟩ = some (.slice ac cols.length c3) := HBA.out.cell 2
          have q3 : W2.cell? ⟨da, 3, none⟩ = some (.slice ai yix.length c4) := HBA.out.cell 3
          have r0 : W2.cell? ⟨db, 0, none⟩ = some (.int .i64 ((n : Int) + 1)) := HBB.out.cell 0
          have r1 : W2.cell? ⟨db, 1, none⟩ = some (.string (bs zname)) := HBB.out.cell 1
          have r2 : W2.cell? ⟨db, 2, none⟩ = some (.slice zc cols.length d3) := HBB.out.cell 2
          have r3 : W2.cell? ⟨db, 3, none⟩ = some (.slice zi zix.length d4) := HBB.out.cell 3
          go_upto_region 22 with fail
          go_wp2_with (fail)
          go_loopw [14] (fun s14 wr => ∃ k : Nat, k ≤ cols.length ∧ s14 = .int .i64 k ∧ Fr (fun _ => False) W2 wr) (fun s14 _ => cols.length - (intOf s14).toNat)
          case atStart => exact ⟨0, by omega, rfl, Fr.refl _ _⟩
          case round =>
            obtain ⟨k, hk, rfl, hf⟩ := hrel
            have FQ := hid hf
            clear hf q0 q1 q2 q3 r0 r1 r2 r3 i6 i7
            have hc6 : cols.length ≤ 6 := HOY.out.1
            have k1 : (0 : Int) ≤ (k : Int) := by omega
            have k5 : IntKind.i64.wrap ((k : Int) + 1) = (k : Int) + 1 := IntWalk.i64_in _ (by omega)
            have q2 : wr.cell? ⟨da, 2, none⟩ = some (.slice ac cols.length c3) := (Blk.fr HBA.out FQ.out (fun h => h)).cell 2
            by_cases hkc : k < cols.length
            · have k2 : (k : Int) < (cols.length : Int) := by omega
              have hkz : k < zcols.length := by rw [HLN.out.1]; exact hkc
              have hcz := HZW.out.c.sl' (R := fun _ => True) (fun _ _ => trivial)
              obtain ⟨gc, oc', hgc, -, qc⟩ := slK (k := 2) (f := Col.cells) (by decide) col_len (HYW.out.c.sl' (R := fun _ => True) (fun _ _ => trivial)) hkc
              obtain ⟨gd, od, hgd, -, qd⟩ := slK (k := 2) (f := Col.cells) (by decide) col_len hcz hkz
              subst hgc hgd
              have p1 := cell_fr (qc 1 (by decide)) FQ.out (fun h => h)
              have p2 := cell_fr (qd 1 (by decide)) FQ.out (fun h => h)
              have hkk : zcols[k].kind = cols[k].kind := by
                have h1 := congrArg (fun l => l[k]?) HEI.out.2.2.1
                rw [List.getElem?_map, List.getElem?_map, List.getElem?_eq_getElem hkz, List.getElem?_eq_getElem hkc] at h1
                exact Option.some.inj h1
              have p3 : wr.cell? ⟨gc, oc' + k * 2 + 1, none⟩ = some (.int .i64 cols[k].kind) := p1
              have p4 : wr.cell? ⟨gd, od + k * 2 + 1, none⟩ = some (.int .i64 cols[k].kind) := by rw [← hkk]; exact p2
              generalize cols[k].kind = kind at *
              clear hcz qc qd hkk p1 p2 q2
              have HP := hid (And.intro p3 p4)
              have HBA2 := hid (Blk.fr HBA.out FQ.out (fun h => h))
              have HBB2 := hid (Blk.fr HBB.out FQ.out (fun h => h))
              have c2 := HBA2.out.cell 2
              clear p3 p4
              have FD := hid (FQ.out.trans ((Fr.refl (fun _ => False) wr).drew) (fun _ h _ => h))
              go_upto_region 25 with fail
              clear c2
              refine wp_region_scr (.take 0 (.take 1 (.take 2 (.take 3 (.take 4 (.take 5 (.take 6 (.take 7 (.take 8 (.take 9 (.take 10 (.take 11 (.take 12 .done))))))))))))) (fun kz w => (kz ≤ 13 → (w.cell? ⟨da, 2, none⟩ = some (.slice (some ⟨gc, oc', none⟩) cols.length c3) ∧ w.cell? ⟨db, 2, none⟩ = some (.slice (some ⟨gd, od, none⟩) cols.length d3) ∧ w.cell? ⟨gc, oc' + k * 2 + 1, none⟩ = some (.int .i64 kind) ∧ w.cell? ⟨gd, od + k * 2 + 1, none⟩ = some (.int .i64 kind))) ∧ Hid True) (by kernel_rfl) (by kernel_rfl) (by intro c a d v w h; cases d <;> exact h) ?_
              repeat
                first
                | (refine wpT_pure rfl rfl rfl ?_; apply Exists.intro; refine ⟨?_, ?_⟩; intro w; (first | ((obtain ⟨q1, q2, q3, q4⟩ := qa; go_simp <;> rfl)) | (go_simp <;> rfl)); simp only [Act.put, List.setIfInBounds_toArray, List.set_cons_zero, List.set_cons_succ])
                | (refine wpT_take 13 rfl rfl (by decide +kernel) ⟨fun _ => ⟨HBA2.out.drew.cell 2, HBB2.out.drew.cell 2, HP.out.1, HP.out.2⟩, hid trivial⟩ ?_; apply Exists.intro; refine ⟨?_, ?_⟩; intro w hw; (have qa := hw.1 (Nat.le_refl _); have qb := hw.2); (first | ((obtain ⟨q1, q2, q3, q4⟩ := qa; go_simp <;> rfl)) | (go_simp <;> rfl)); simp only [Act.put, List.setIfInBounds_toArray, List.set_cons_zero, List.set_cons_succ])
                | (refine wpT_skip rfl rfl ?_; simp only [Act.put, List.setIfInBounds_toArray, List.set_cons_zero, List.set_cons_succ])
              refine wpT_nil ?_
              clear HP HBA2 HBB2
              go_wp2_with (fail)
              go_roundw
              case rel => exact ⟨k + 1, by omega, by go_num, FD.out⟩
              case measure => simp [intOf]; omega
            · obtain rfl : k = cols.length := by omega
              have k2 : ¬ (cols.length : Int) < (cols.length : Int) := by omega
              go_upto_region 27 with fail
              clear q2
              have HBA2 := hid (Blk.fr HBA.out FQ.out (fun h => h))
              have HBB2 := hid (Blk.fr HBB.out FQ.out (fun h => h))
              have HYQ := hid (HYW.out.fr FQ.out (fun _ _ h => h))
              have HZQ := hid (HZW.out.fr FQ.out (fun _ _ h => h))
              have FB := hid (FA.out.trans FQ.out (fun _ h _ => h))
              clear HBA HBB HYW HZW FA FQ
              have HFI := hid (Sl.firsts (kk := 3) (f := IxV.cells) (fun _ => rfl) (HZQ.out.i.sl' (R := fun _ => True) (fun _ _ => trivial)) (k := yix.length) HIX.out.1)
              have a3 : wr.cell? ⟨da, 3, none⟩ = some (.slice ai yix.length c4) := HBA2.out.cell 3
              have b3 : wr.cell? ⟨db, 3, none⟩ = some (.slice zi zix.length d4) := HBB2.out.cell 3
              have z3 := HBB2.out.frozen 3
              have l1 : (0 : Int) ≤ (yix.length : Int) := by omega
              have l2 : (yix.length : Int) ≤ (d4 : Int) := by have := HIX.out.1; omega
              go_upto_region 28 with fail
              have f1 := (Fr.refl (fun k => k = db) wr).setCell ⟨db, 3, none⟩ (.slice zi yix.length d4) (fun _ => rfl)
              have HBA3 := hid (HBA2.out.fr f1 HDB.out.2)
              have HBB3 := hid (HBB2.out.set 3 (.slice zi yix.length d4))
              have HF3 := hid f1
              clear a3 b3 z3 f1 HBA2 HBB2 l1 l2
              generalize wr.setCell _ _ = W3 at *
              have a2 : W3.cell? ⟨da, 2, none⟩ = some (.slice ac cols.length c3) := HBA3.out.cell 2
              have b2 : W3.cell? ⟨db, 2, none⟩ = some (.slice zc cols.length d3) := HBB3.out.cell 2
              have z2 := HBB3.out.frozen 2
              go_upto_region 29 with fail
              have f1 := (Fr.refl (fun k => k = db) W3).setCell ⟨db, 2, none⟩ (.slice ac cols.length c3) (fun _ => rfl)
              have HBA4 := hid (HBA3.out.fr f1 HDB.out.2)
              have HBB4 := hid (HBB3.out.set 2 (.slice ac cols.length c3))
              have HF4 := hid (HF3.out.trans f1 (fun _ h _ => h))
              clear a2 b2 z2 f1 HBA3 HBB3 HF3
              generalize W3.setCell _ _ = W4 at *
              have FF := hid (FB.out.trans HF4.out (fun k hk hl => by have := HDB.out.1; omega))
              have HYS := (HTY0.out.fr FF.out (fun _ _ h => h)).s (tabB_of HTY0.out HYK.out)
              have HZS := (HTZ0.out.fr FF.out (fun _ _ h => h)).s (tabB_of HTZ0.out HOZ.out)
              have HBS : TabS (fun _ => True) W4 ⟨⟨(n : Int) + 1, zname, cols, zixs.take yix.length⟩, .slice ac cols.length c3, .slice zi yix.length d4, zix.take yix.length⟩ := by
                have hl : (zix.take yix.length).length = yix.length := by rw [List.length_take]; have := HIX.out.1; omega
                refine ⟨HYS.c, ?_, ?_, fun x hx => HZS.x x (List.mem_of_mem_take hx), ⟨HYS.b.c, ?_, fun x hx => HZS.b.x x (List.mem_of_mem_take hx)⟩⟩
                · have := Sl.firsts (kk := 3) (f := IxV.cells) (fun _ => rfl) HZS.i (k := yix.length) HIX.out.1
                  dsimp only
                  rw [hl]
                  exact this
                · show zixs.take yix.length = _
                  rw [HEZ.out, List.map_take]
                · show (zix.take yix.length).length ≤ _
                  rw [hl]
                  have := HIX.out
                  omega
              have HSM := hid (Same_go HYS HBS)
              have hdec : decide ((⟨(n : Int) + 1, zname, cols, ixs⟩ : Tab) = ⟨(n : Int) + 1, zname, cols, zixs.take yix.length⟩) = true := by
                have h1 := HEI.out.2.2.2
                rw [show ixs.length = yix.length from by rw [HEY.out, List.length_map]] at h1
                exact decide_eq_true h1.symm
              dsimp only at HSM
              rw [hdec] at HSM
              clear HYS HZS HBS hdec HF4 FB
              unfold TabV.agg TabV.cells at HSM
              dsimp only at HSM
              have RA := hid (Blk.all _ HBA4.out)
              have RB := hid (Blk.all _ HBB4.out)
              go_wp2_with (first
                | (refine wpList_load_mid rfl 25 (.tmp 12) rfl da 0 rfl _ _ RA.out Tryd.underlying25 rfl size_tab2 ?_)
                | (refine wpList_load_mid rfl 25 (.tmp 13) rfl db 0 rfl _ _ RB.out Tryd.underlying25 rfl size_tab2 ?_)
                | (go_at_call 22; refine HSM.out.mono ?_; rintro e wq ⟨rfl, f⟩; have FS := hid (FF.out.trans f (fun _ h _ => h)); clear f))
              go_roundw
              case rel => exact ⟨n + 1, by omega, by go_num, FS.out⟩
              case measure => simp [intOf]; omega
        · obtain rfl : n = ys.length := by omega
          have j2 : ¬ (ys.length : Int) < (ys.length : Int) := by omega
          replace HO7 := hid (HO7.out.fre FR.out)
          replace HZ := hid (HZ.out.fre FR.out)
          have HON := hid (once_go HZ.out (by rw [HZE.out]; exact HO7.out.ok))
          clear HY7 FR
          go_wp2_with (go_at_call 23; refine HON.out.mono ?_; rintro e wq ⟨rfl, f⟩; have HOQ := hid (HO7.out.fre f); have HZQ := hid (HZ.out.fre f); clear f)
          go_roundw
          case rel => exact ⟨i + 1, _, _, _, zs, by omega, by go_num, HOQ.out, HZQ.out, HZE.out, HLS.out⟩
          case measure => simp [intOf]; omega
    · have hor : (40 : Int) ≤ (i : Int) ∨ (L.length : Int) ≤ (i : Int) := by omega
      have FZ := hid HOS.out.fr
      rcases hor with h12 | h12
      all_goals
        go_wp2_with (fail)
        all_goals (go_ret; exact ⟨rfl, FZ.out⟩)
end Go.Proofs.YtgkfdlpijefgkaaDoor
namespace Go.Proofs.YtgkfdlpijefgkaaDoor.catalogKeeps
open Go.ChangeShapes Go.WideShapes Go.ChangeAt Go.RowKit Go.VB Go.VB.Rec
set_option maxHeartbeats 400000 in
set_option maxRecDepth 100000 in
theorem lifted (os : Os) (started : os.Started) (H : Type) (enc : TypeId × Value → H) :
    ReturnsInHanded {} Tryd.checked os 4 .any (fun w args => (Rows.catalogKeepsSpec.pre enc Tryd.prog Tryd.f4 Rows.catalogKeepsRow.domain false w args ∧ laidMetH Tryd.prog Rows.catalogKeepsRow.laid w) ∧ sizedMet enc Tryd.prog Tryd.f4 (OpenSpec.ofChange Rows.catalogKeepsSpec) false w args) (Rows.catalogKeepsSpec.post enc Tryd.prog Tryd.f4 false true false false) := by
  refine handed_and_shaped (C := Tryd.checked) (X := fun w _ => laidMetH Tryd.prog Rows.catalogKeepsRow.laid w) (fun _ _ _ hh h => h.of_heap hh) own started (by kernel_rfl) Tryd.func4
    (ChangeSpec.witness_shaped (enc := enc) (C := Tryd.checked) (os := os) (X := fun w _ => laidMetH Tryd.prog Rows.catalogKeepsRow.laid w) false (startW os) #[.slice none 0 0] 8 rfl (start_shaped os _) (by kernel_rfl) (by kernel_rfl) (by kernel_rfl) (start_met os _)) ?_
  intro W base args ds gs before hval0 hW hL hsh
  have GV : Hid (Gv W) := hid (gv_of hL hsh)
  clear hL hsh
  have hval : ∀ (j : Nat) t v, Tryd.f4.params[j]? = some t → args[j]? = some v → Value.okWide Tryd.prog W .any base t v := hval0
  have hW' := hW
  obtain ⟨p, q, hA0, hV, rfl, hfz, hnd⟩ := hW
  have hA : DataW.TrodAll enc Tryd.prog W 0 (fun _ => true) true Tryd.f4.params.toList args.toList ds p := hA0
  rw [Tryd.params4] at hA hval
  obtain ⟨v0, vs0, d0, ds0, p0, q0, hargs, rfl, rfl, h0, r0⟩ := trodAll_cons hA
  obtain ⟨rfl, rfl, rfl⟩ := trodAll_nil r0
  obtain rfl : args = #[v0] := by cases args; simp_all
  obtain ⟨rfl, rfl⟩ := trodVars_none hV
  clear hA0 hval0
  refine Calls.mono (R := fun e w' => e = .returned (.bool true) ∧ Fr (fun _ => False) W w') ?_ fun e W' ⟨he, hf⟩ => ⟨_, he, post_law sound (by decide +kernel) rfl rfl (ht := Tryd.underlying4) (by rfl) hW' hf⟩
  obtain ⟨L, hL⟩ := open_ints2 (hval 0 42 v0 rfl rfl) h0
  obtain ⟨a, c1, rfl, -, -⟩ := id hL.s
  exact Keeps_walk GV.out hL
theorem row_holds : Rows.CatalogKeepsSaid :=
  OpenClaim.holds_of_wide 4 Tryd.f4 rfl rfl rfl rfl rfl rfl rfl ⟨rfl, rfl, rfl, rfl, rfl⟩ rfl rfl rfl rfl rfl (by kernel_rfl) Tryd.func4 (by kernel_rfl)
    (of_decide_eq_true (by kernel_rfl)) (by unfold Func.isWrapper; first | (rw [if_pos (by decide +kernel)]; kernel_rfl) | (rw [if_neg (by decide +kernel)]; exact ⟨rfl, rfl⟩))
    (fun os started H enc _ => lifted os started H enc)
theorem proved : Rows.CatalogKeepsCardSaid :=
  Claim7.holds_tied_plain_at .later [] Rows.catalogKeepsCard.laidKinds true Rows.catalogKeepsCard.stood.harness Rows.catalogKeepsCard.stood.looks row_holds (fun _ h => by cases h) (by kernel_rfl) (fun _ h => by cases h) catalogKeeps_row_tie rfl ⟨rfl, rfl⟩ (by kernel_rfl) rfl
    (fun f fn hf hfn => by
      obtain rfl : f = 4 := Option.some.inj ((show Tryd.prog.funcNamed "vintner/vintnerlaw14.CatalogKeeps" = some 4 by kernel_rfl).symm.trans hf) |>.symm
      obtain rfl : fn = Tryd.f4 := (Option.some.inj (Tryd.func4.symm.trans hfn)).symm
      exact ⟨by kernel_rfl, fun j t ht => by
        rw [Tryd.params4] at ht
        have hm : t ∈ [42] := by simpa using Array.mem_of_getElem? ht
        have hall : ([42].all fun u => !Tryd.prog.wantsStandIn u) = true := by kernel_rfl
        exact (show Tryd.prog.wantsStandIn t = false by simpa using List.all_eq_true.1 hall t hm)⟩)
    (by kernel_rfl)
end Go.Proofs.YtgkfdlpijefgkaaDoor.catalogKeeps
