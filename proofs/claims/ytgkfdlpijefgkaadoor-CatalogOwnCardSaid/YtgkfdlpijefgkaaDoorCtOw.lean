import Derived.Test.YtgkfdlpijefgkaaDoorCtAw
import Derived.Test.YtgkfdlpijefgkaaDoorCtFr
import Derived.Test.YtgkfdlpijefgkaaDoorCards
import Derived.Test.YtgkfdlpijefgkaaDoorTie
import Derived.SevenTiedAt
import Derived.Deep.CutBlock
/-
For every list of integer lists what a catalog gives out and what it was given share no memory with it, and nil and zero catalogs behave as specified (CatalogOwn).
Conditions: none beyond the row's own.
-/
set_option linter.unusedVariables false
namespace Go.Proofs.YtgkfdlpijefgkaaDoor
open Go.RowKit Go.VB Go.VB.Oct Go.VB.Cat Go.VB.Rec
theorem CR.zero {W : World} {z : Nat} (b : Blk W z [.slice none 0 0] 75) : CR 75 (fun k => k = z) W z [] :=
  ⟨_, [], ⟨b, rfl, Row.nil, fun k hk => by simp [Value.ownBlock] at hk, fun t ht => by simp at ht, List.Pairwise.nil, List.Pairwise.nil, fun k hk => by subst hk; exact b.lt⟩, rfl⟩
set_option maxRecDepth 20000 in
set_option maxHeartbeats 8000000 in
theorem Own_walk {w : World} (G : Gv w) {a : Option Addr} {c1 : Nat} {L : List Arg} (HL : ArgsR w (.slice a L.length c1) L) :
    Calls Tryd.prog 9 #[.slice a L.length c1] w fun e w' => e = .returned (.bool true) ∧ Fr (fun _ => False) w w' := by
  have HLA := hid HL
  have HSA := hid (sanity_go G.kn)
  clear HL G
  go_enter Tryd.func9, Tryd.ntmps9
  go_upto_region 2 with (go_at_call 10; refine HSA.out.mono ?_; rintro e w1 ⟨rfl, f1⟩; have F1 := hid f1; clear f1)
  have HNW := hid (New_go w1)
  go_upto_region 5 with (go_at_call 17; refine HNW.out.mono ?_; rintro e w2 ⟨rfl, hc, f⟩; have HC2 := hid ((OS.new hc f).base F1.out); clear hc f)
  obtain ⟨c, hce⟩ : ∃ c, c = w1.heap.size := ⟨_, rfl⟩
  rw [← hce] at HC2 ⊢
  clear hce HNW HSA F1
  go_upto_block 0 with fail
  go_cut [5] (fun v5 wx => ∃ (S : Nat → Prop) (m : List Tab), OS w S wx c m)
  case first =>
    go_wp2_with (fail)
    go_loopw [5] (fun s5 wr => ∃ (i : Nat) (S : Nat → Prop) (m : List Tab), i ≤ 40 ∧ s5 = .int .i64 i ∧ OS w S wr c m) (fun s5 _ => 40 - (intOf s5).toNat)
    case atStart => exact ⟨0, _, _, by omega, rfl, HC2.out⟩
    case round =>
      obtain ⟨i, S, m, hi, rfl, hos⟩ := hrel
      have HOS := hid hos
      clear hos HC2
      have HWR := hid HOS.out.fr.size
      obtain ⟨BW, hBW⟩ : ∃ BW, BW = wr.heap.size := ⟨_, rfl⟩
      have i1 : (0 : Int) ≤ (i : Int) := by omega
      by_cases hc12 : i < L.length ∧ i < 40
      · obtain ⟨hiL, h40⟩ := hc12
        have i2 : (i : Int) < L.length := by omega
        have i3 : (i : Int) < 40 := by omega
        obtain ⟨g, o, v, x, rfl, hcell, hsl, hxl⟩ := HLA.out.at_ HOS.out.fr hiL
        have HMD := hid (Made_go hsl hxl)
        obtain ⟨ax, cx, rfl, -, -⟩ := hsl
        go_upto_region 9 with (go_at_call 19; refine HMD.out.mono ?_; rintro e w3 ⟨s, vc, vn, root, rfl, hg, hcr, hnr, f⟩; obtain ⟨oc, cc, rfl, -⟩ := hcr.slice; obtain ⟨on, cn, rfl, -⟩ := hnr.slice; have HK0 := hid (MK.made hcr hnr hg f); have HO3 := hid (HOS.out.fre f); clear hcr hnr hg f; dsimp only [mcells])
        generalize hw4 : w3.alloc _ = W4
        have HK := hid (show MK wr.heap.size W4 w3.heap.size s (.slice oc s.cols.length cc) (.slice on s.names.length cn) root from by rw [← hw4]; exact HK0.out)
        have HO4 := hid (show OS w S W4 c m from by rw [← hw4]; exact HO3.out.fre ((Fr.refl (fun _ => False) w3).alloc _))
        have HG := hid HK.out.g
        have HSW := hid (fun k (hk : S k) => HOS.out.lt hk)
        generalize w3.heap.size = d at *
        clear hw4 HK0 HO3 HMD hcell HOS
        have HDO := hid (HO4.out.madeDo HK.out)
        have k15 := HK.out.at15
        have HR := hid HK.out.rng
        have HSD := hid (fun k (hk : S k) => (HSW.out k hk : k < wr.heap.size))
        unfold scells at HDO HR
        go_upto_region 10 with (first
          | (refine wpList_load_mid rfl 51 (.tmp 44) rfl d 0 rfl _ _ HR.out Tryd.underlying51 rfl size_stmt ?_)
          | (go_at_call 21; refine HDO.out.mono ?_; rintro e w5 ⟨rfl, ho, f⟩; have HO5 := hid ho; have HK5 := hid (HK.out.fr f HSD.out); have HSE := hid (show ∀ k, Ext S W4 w5 k → k < wr.heap.size ∨ W4.heap.size ≤ k from fun k hk => hk.elim (fun h => .inl (HSD.out k h)) (fun h => .inr h.1)); clear ho f))
        clear HDO k15 HR HO4 HSD HSW
        have HB5 := hid HK5.out.b
        have HC5 := hid HK5.out.c
        have HGE := hid HK5.out.ge
        have HKL := hid (fun k hk => HK.out.c.lt (k := k) hk)
        obtain ⟨S2, hS2⟩ : ∃ S2 : Nat → Prop, S2 = Ext S W4 w5 := ⟨_, rfl⟩
        obtain ⟨m2, hm2⟩ : ∃ m2, m2 = (doM m s root).1 := ⟨_, rfl⟩
        rw [← hS2, ← hm2] at HO5
        rw [← hS2] at HSE
        have HSG := hid (show ∀ k, (Value.slice oc s.cols.length cc).ownBlock = some k → ¬ S2 k ∧ w.heap.size ≤ k from fun k hk => by
          have h1 := HKL.out k hk
          have h2 := HC5.out.new k hk
          refine ⟨fun hs => ?_, ?_⟩
          · rcases HSE.out k hs with h | h <;> omega
          · have := HWR.out; omega)
        have HA5 := hid (show Arr 40 2 BW w5 (.slice oc s.cols.length cc) s.cols.length from by rw [hBW]; exact HC5.out.arr)
        clear hBW
        have HNC := hid (show s.cols.length ≤ 3 from HG.out.cols)
        clear hS2 hm2 HK HSE HKL HC5 HGE HK5 HG
        go_wp2_with (fail)
        go_loopw [7] (fun s7 wr => ∃ n : Nat, n ≤ s.cols.length ∧ s7 = .int .i64 n ∧ OS w S2 wr c m2 ∧ Blk wr d (mcells s (.slice oc s.cols.length cc) (.slice on s.names.length cn) root) 53 ∧ Arr 40 2 BW wr (.slice oc s.cols.length cc) s.cols.length) (fun s7 _ => s.cols.length - (intOf s7).toNat)
        case atStart => exact ⟨0, by omega, rfl, HO5.out, HB5.out, HA5.out⟩
        case round =>
          obtain ⟨n, hn, rfl, ho, hb, ha⟩ := hrel
          have HO6 := hid ho
          have HB6 := hid hb
          have HA6 := hid ha
          clear ho hb ha HO5 HB5 HA5
          have q3 : wr.cell? ⟨d, 3, none⟩ = some (.slice oc s.cols.length cc) := HB6.out.cell 3
          have n1 : (0 : Int) ≤ (n : Int) := by omega
          have n5 : IntKind.i64.wrap ((n : Int) + 1) = (n : Int) + 1 := IntWalk.i64_in _ (by have := HNC.out; omega)
          by_cases hnc : n < s.cols.length
          · have n2 : (n : Int) < (s.cols.length : Int) := by omega
            obtain ⟨gc, l, rfl, hgc, hbl, hll⟩ := HA6.out.blk (by omega)
            have HTH := hid (hbl.there (n * 2) 2 (by omega))
            have hsg := HSG.out gc rfl
            have f := (Fr.refl (fun k => k = gc) wr).put gc (n * 2) [.string ⟨#[122, 122]⟩, .int .i64 0] (fun _ => rfl)
            have HO7 := hid (HO6.out.keep f (fun k hk => by subst hk; exact hsg))
            have HB7 := hid (HB6.out.fr f (fun e => Blk.ne_of_type HB6.out hbl (by decide) e))
            have HA7 := hid (HA6.out.put (g := gc) [.string ⟨#[122, 122]⟩, .int .i64 0] (n * 2) wr)
            clear hbl hsg f HO6 HB6 HA6
            go_wp2_with (refine wpList_store_mid rfl 40 (.tmp 62) (.tmp 61) rfl gc (n * 2) #[.string ⟨#[122, 122]⟩, .int .i64 0] rfl rfl HTH.out size_col (by simp [Value.oneCell']) ?_)
            go_roundw
            case rel => exact ⟨n + 1, by omega, by go_num, HO7.out, HB7.out, HA7.out⟩
            case measure => simp [intOf]; omega
          · obtain rfl : n = s.cols.length := by omega
            have n2 : ¬ (s.cols.length : Int) < (s.cols.length : Int) := by omega
            go_wp2_with (fail)
            go_roundw
            case rel => exact ⟨i + 1, _, _, by omega, by go_num, HO6.out⟩
            case measure => simp [intOf]; omega
      · have hor : (40 : Int) ≤ (i : Int) ∨ (L.length : Int) ≤ (i : Int) := by omega
        rcases hor with h12 | h12
        all_goals
          go_wp2_with (fail)
          all_goals (go_meet; exact ⟨S, m, HOS.out⟩)
  case rest =>
  obtain ⟨S, m, hos⟩ := hcut
  have HOS := hid hos
  clear hos HC2 HLA
  have HBY := hid (Bytes_go HOS.out.cr HOS.out.ok)
  go_upto_region 15 with (go_at_call 20; refine HBY.out.mono ?_; rintro e w6 ⟨rfl, f⟩; have HO6 := hid (HOS.out.fre f); clear f)
  clear HBY HOS
  have HAL := hid (All_go HO6.out.cr HO6.out.ok)
  go_upto_region 16 with (go_at_call 18; refine HAL.out.mono ?_; rintro e w7 ⟨v, ys, rfl, hys, hr, f⟩; have HYE := hid hys; have HOA := hid (show OA w w7 S c m w6.heap.size v ys from ⟨HO6.out.fre f, fun k hk => HO6.out.lt hk, HO6.out.fr.size, f.size, hr.r, fun y hy => ⟨Row.arr ⟨(hr.t y hy).c.own, (hr.t y hy).cS⟩, Row.arr ⟨(hr.t y hy).i.own, (hr.t y hy).iS⟩⟩⟩); clear hr f hys)
  clear HAL
  obtain ⟨ay, cy, hv, -⟩ := HOA.out.r.slice
  subst hv
  have HYL := hid (show ys.length = m.length from by have := congrArg List.length HYE.out; simpa using this)
  have hy8 : ys.length ≤ 8 := by have := HYL.out; have := HO6.out.ok.len; omega
  obtain ⟨B, hB⟩ : ∃ B, B = w6.heap.size := ⟨_, rfl⟩
  rw [← hB] at HOA
  clear hB HO6
  go_upto_block 4 with fail
  go_cut [10] (fun _ wx => OS w S wx c m)
  case first =>
    go_wp2_with (fail)
    go_loopw [10] (fun s10 wr => ∃ i : Nat, i ≤ ys.length ∧ s10 = .int .i64 i ∧ OA w wr S c m B (.slice ay ys.length cy) ys) (fun s10 _ => ys.length - (intOf s10).toNat)
    case atStart => exact ⟨0, by omega, rfl, HOA.out⟩
    case round =>
      obtain ⟨i, hi, rfl, ho⟩ := hrel
      replace HOA := hid ho
      clear ho
      have i1 : (0 : Int) ≤ (i : Int) := by omega
      have i5 : IntKind.i64.wrap ((i : Int) + 1) = (i : Int) + 1 := IntWalk.i64_in _ (by omega)
      by_cases hiy : i < ys.length
      · have i2 : (i : Int) < (ys.length : Int) := by omega
        have him : i < m.length := by have := HYL.out; omega
        have HAT := hid (At_go HOA.out.os.cr HOA.out.os.ok ((i : Int) + 1) (by omega))
        rw [show atM m ((i : Int) + 1) = (m[i], true) from by unfold atM; rw [if_pos (by omega), show ((i : Int) + 1 - 1).toNat = i by omega, List.getElem?_eq_getElem him]] at HAT
        unfold TabV.agg TabV.cells at HAT
        have HTA := hid (fun (W : World) (f : Fr (fun _ => False) wr W) => Table_go (HOA.out.os.cr.fre f) HOA.out.os.ok m[i].name)
        rw [show tableM m m[i].name = (m[i], true) from by unfold tableM; rw [find_of_at HOA.out.os.ok.nodup him]; unfold atM; rw [if_pos (by omega), show ((i : Int) + 1 - 1).toNat = i by omega, List.getElem?_eq_getElem him]] at HTA
        unfold TabV.agg TabV.cells at HTA
        have HPO := hid (HOA.out.os.ok.tab _ (List.getElem_mem him)).pos
        have HIX := hid (HOA.out.os.ok.tab _ (List.getElem_mem him)).ixs
        have HXA := hid (HOA.out.y _ (List.getElem_mem hiy))
        have HXM := hid (List.getElem_mem hiy)
        have HXT := hid (show ys[i].t = m[i] from by have := congrArg (fun l => l[i]?) HYE.out; simp only [List.getElem?_map, List.getElem?_eq_getElem hiy, List.getElem?_eq_getElem him, Option.map_some, Option.some.injEq] at this; exact this)
        obtain ⟨gy, rfl, -, hry⟩ := tab_at HOA.out.r hiy
        have q1 := hry 1
        have q2 := hry 2
        have q3 := hry 3
        clear hry
        obtain ⟨x, hx⟩ : ∃ x, x = ys[i] := ⟨_, rfl⟩
        rw [← hx] at q1 q2 q3 HXA HXT HXM
        have HXE := hid hx
        clear hx
        obtain ⟨ac, c3, e1, _⟩ := HXA.out.1.slice
        obtain ⟨ai, c4, e2, _⟩ := HXA.out.2.slice
        obtain ⟨tx, vcx, vix, ixx⟩ := x
        dsimp only at e1 e2 HXT
        obtain ⟨tm, htm⟩ : ∃ tm, tm = m[i] := ⟨_, rfl⟩
        rw [← htm] at HXT HAT HTA HPO HIX
        clear htm
        have e3 := HXT.out
        subst e1 e2 e3
        simp only [TabV.cells, List.getElem?_cons_zero, List.getElem?_cons_succ, Option.some.injEq, forall_eq'] at q1 q2 q3
        have HQ := hid (And.intro q1 (And.intro q2 q3))
        have HGI := hid (fun k hk => HXA.out.2.lt (k := k) hk)
        have HBW := hid HOA.out.bs
        clear q1 q2 q3
        go_upto_region 20 with (go_at_call 28; refine HAT.out.mono ?_; rintro e w8 ⟨⟨t1, vc1, vi1, ix1⟩, rfl, et, ho, f⟩; dsimp only at et; obtain ⟨a1, d1, e2, _⟩ := ho.c.slice; obtain ⟨a2, d2, e3, _⟩ := ho.i.slice; dsimp only at e2 e3; subst et e2 e3; have HTO := hid ho; have FT := hid f; clear ho f)
        generalize hw9 : w8.alloc _ = W9
        have HT9 := hid (show OT W9 B wr.heap.size w8.heap.size ⟨t1, .slice a1 t1.cols.length d1, .slice a2 ix1.length d2, ix1⟩ from by rw [← hw9]; exact OT.new (S := fun _ => True) HTO.out HBW.out)
        have F9 := hid (show Fr (fun _ => False) wr W9 from by rw [← hw9]; exact FT.out.alloc _)
        have HIL := hid (show ix1.length ≤ 4 from by
          have e := HTO.out.e
          dsimp only at e
          have h := HIX.out
          rw [e, List.length_map] at h
          exact h)
        generalize w8.heap.size = dt at *
        clear hw9 HTO FT HAT HIX
        have q1 := cell_fr HQ.out.1 F9.out (fun h => h)
        go_upto_region 21 with (go_at_call 29; refine (HTA.out _ F9.out).mono ?_; rintro e w10 ⟨⟨t2, vc2, vi2, ix2⟩, rfl, et, ho, f⟩; dsimp only at et; obtain ⟨a5, d5, e2, _⟩ := ho.c.slice; obtain ⟨a6, d6, e3, _⟩ := ho.i.slice; dsimp only at e2 e3; subst et e2 e3; have HUO := hid ho; have FU := hid f; clear ho f)
        clear q1
        generalize hw11 : w10.alloc _ = W11
        have HBW9 := hid (Nat.le_trans HBW.out F9.out.size)
        have HU := hid (show OT W11 B W9.heap.size w10.heap.size ⟨t2, .slice a5 t2.cols.length d5, .slice a6 ix2.length d6, ix2⟩ from by rw [← hw11]; exact OT.new (S := fun _ => True) HUO.out HBW9.out)
        have FU9 := hid (show Fr (fun _ => False) W9 W11 from by rw [← hw11]; exact FU.out.alloc _)
        have HT := hid (HT9.out.fre FU9.out)
        have F11 := hid (F9.out.trans FU9.out (fun _ h _ => h))
        replace HOA := hid (HOA.out.fre F11.out)
        have HQ2 := hid (cell_fr HQ.out.2.1 F11.out (fun h => h))
        have HQ3 := hid (cell_fr HQ.out.2.2 F11.out (fun h => h))
        generalize w10.heap.size = du at *
        clear hw11 HUO FU HTA HT9 F9 FU9 HQ HBW9
        have hpos : 0 < t2.cols.length := HPO.out
        have p0 : ((t2.cols.length : Int) == 0) = false := beq_eq_false_iff_ne.2 (by omega)
        have p1 : (0 : Int) < (t2.cols.length : Int) := by omega
        have b2 : W11.cell? ⟨dt, 2, none⟩ = some (.slice a1 t2.cols.length d1) := HT.out.b.cell 2
        have u2 : W11.cell? ⟨du, 2, none⟩ = some (.slice a5 t2.cols.length d5) := HU.out.b.cell 2
        have q2 := HQ2.out
        go_upto_region 23 with fail
        clear u2 q2 p0 HPO HBW
        obtain ⟨g1, v1, rfl, hg1, y1, z1, l1, hb1⟩ := HT.out.c.cellAt (i := 0) hpos (by omega)
        have HTn := hid (HT.out.set hb1 (by decide) (.inl (by decide)) 0 (.string ⟨#[109, 105, 110, 101]⟩))
        have HUn := hid (HU.out.set hb1 (by decide) (.inl (by decide)) 0 (.string ⟨#[109, 105, 110, 101]⟩))
        have HOn := hid (HOA.out.set hb1 (by decide) hg1 0 (.string ⟨#[109, 105, 110, 101]⟩))
        clear HT HU HOA hb1
        go_upto_region 24 with fail
        clear b2 y1 z1
        generalize W11.setCell _ _ = W12 at *
        have u2 : W12.cell? ⟨du, 2, none⟩ = some (.slice a5 t2.cols.length d5) := HUn.out.b.cell 2
        obtain ⟨g2, v2, rfl, hg2, y1, z1, l2, hb1⟩ := HUn.out.c.cellAt (i := 1) hpos (by omega)
        have HT := hid (HTn.out.set hb1 (by decide) (.inl (by decide)) 1 (.int .i64 9))
        have HOA := hid (HOn.out.set hb1 (by decide) hg2 1 (.int .i64 9))
        clear HTn HUn HOn hb1
        go_upto_region 25 with fail
        clear u2 y1 z1
        generalize W12.setCell _ _ = W13 at *
        obtain ⟨gy2, hgy2, -, hry⟩ := tab_at HOA.out.r hiy
        rw [← HXE.out] at hry
        simp only [Option.some.injEq, Addr.mk.injEq, and_true] at hgy2
        subst hgy2
        have q2 : W13.cell? ⟨gy, i * 4 + 2, none⟩ = some (.slice ac t2.cols.length c3) := hry 2 _ rfl
        have HXC := hid (HOA.out.y _ HXM.out)
        obtain ⟨g3, v3, hg3e, hg3, y1, z1, l3, hb1⟩ := HXC.out.1.cellAt (i := 0) hpos (by omega)
        subst hg3e
        have HTn := hid (HT.out.set hb1 (by decide) (.inl (by decide)) 0 (.string ⟨#[121, 111, 117, 114, 115]⟩))
        have HOn := hid (HOA.out.set hb1 (by decide) hg3 0 (.string ⟨#[121, 111, 117, 114, 115]⟩))
        clear HT HOA hb1 HXC hry
        go_upto_region 26 with fail
        clear q2 y1 z1
        generalize W13.setCell _ _ = W14 at *
        obtain ⟨Bt, hBt⟩ : ∃ Bt, Bt = wr.heap.size := ⟨_, rfl⟩
        rw [← hBt] at HTn HGI
        clear hBt F11 HQ2 HQ3 hpos p1
        go_wp2_with (fail)
        go_loopw [15] (fun s15 wr => ∃ n : Nat, n ≤ 4 ∧ s15 = .int .i64 n ∧ OA w wr S c m B (.slice (some ⟨gy, 0, none⟩) ys.length cy) ys ∧ OT wr B Bt dt ⟨t2, .slice (some ⟨g1, 0, none⟩) t2.cols.length d1, .slice a2 ix1.length d2, ix1⟩) (fun s15 _ => 4 - (intOf s15).toNat)
        case atStart => exact ⟨0, by omega, rfl, HOn.out, HTn.out⟩
        case round =>
          obtain ⟨n, hn, rfl, ho, ht⟩ := hrel
          have HO := hid ho
          have HT := hid ht
          clear ho ht HOn HTn
          have n1 : (0 : Int) ≤ (n : Int) := by omega
          have n5 : IntKind.i64.wrap ((n : Int) + 1) = (n : Int) + 1 := IntWalk.i64_in _ (by omega)
          obtain ⟨gy2, hgy2, -, hry⟩ := tab_at HO.out.r hiy
          rw [← HXE.out] at hry
          simp only [Option.some.injEq, Addr.mk.injEq, and_true] at hgy2
          subst hgy2
          have q3 : wr.cell? ⟨gy, i * 4 + 3, none⟩ = some (.slice ai ixx.length c4) := hry 3 _ rfl
          have b3 : wr.cell? ⟨dt, 3, none⟩ = some (.slice a2 ix1.length d2) := HT.out.b.cell 3
          clear hry
          by_cases hc : n < ixx.length ∧ n < ix1.length
          · obtain ⟨hc1, hc2⟩ := hc
            have n2 : (n : Int) < (ixx.length : Int) := by omega
            have n3 : (n : Int) < (ix1.length : Int) := by omega
            obtain ⟨gi, vi, hgie, hgi, y1, z1, li, hbi⟩ := (HO.out.y _ HXM.out).2.cellAt (i := n * 3) (by omega) (by omega)
            have hgb := HGI.out
            subst hgie
            have hgt : gi < Bt := hgb gi rfl
            have HTn := hid (HT.out.set hbi (by decide) (.inr hgt) (n * 3) (.string ⟨#[120]⟩))
            have HOn := hid (HO.out.set hbi (by decide) hgi (n * 3) (.string ⟨#[120]⟩))
            clear hbi hgb HT HO
            go_upto_region 30 with fail
            clear q3 b3 y1 z1
            generalize wr.setCell _ _ = W15 at *
            have b3 : W15.cell? ⟨dt, 3, none⟩ = some (.slice a2 ix1.length d2) := HTn.out.b.cell 3
            obtain ⟨gt, o, hgte, -, hq⟩ := slK (k := 3) (f := IxV.cells) (by decide) ix_len (HTn.out.i.sl' (R := fun _ => True) (fun _ _ => trivial)) hc2
            have HXX := hid (HTn.out.x _ (List.getElem_mem hc2))
            obtain ⟨ax, cx, hax, _⟩ := HXX.out.slice
            have r1 : W15.cell? ⟨gt, o + n * 3 + 1, none⟩ = some (.slice ax ix1[n].x.cols.length cx) := by rw [← hax]; exact hq 1 (by decide)
            rw [hax] at HXX
            clear hax hq
            generalize ix1[n].x.cols.length = xl at *
            subst hgte
            by_cases hxl : 0 < xl
            · have x1 : (0 : Int) < (xl : Int) := by omega
              obtain ⟨gx, vx, rfl, hgx, y1, z1, lx, hbx⟩ := HXX.out.cellAt (i := 0) hxl (by omega)
              have HTp := hid (HTn.out.set hbx (by decide) (.inl (by decide)) 0 (.int .i64 5))
              have HOp := hid (HOn.out.set hbx (by decide) hgx 0 (.int .i64 5))
              clear hbx HXX HTn HOn
              go_wp2_with (fail)
              go_roundw
              case rel => exact ⟨n + 1, by have := HIL.out; omega, by go_num, HOp.out, HTp.out⟩
              case measure => simp [intOf]; have := HIL.out; omega
            · have x1 : ¬ (0 : Int) < (xl : Int) := by omega
              clear HXX
              go_wp2_with (fail)
              go_roundw
              case rel => exact ⟨n + 1, by have := HIL.out; omega, by go_num, HOn.out, HTn.out⟩
              case measure => simp [intOf]; have := HIL.out; omega
          · have hor : (ixx.length : Int) ≤ (n : Int) ∨ (ix1.length : Int) ≤ (n : Int) := by omega
            rcases hor with h12 | h12
            all_goals
              go_wp2_with (fail)
              all_goals (go_roundw; (case rel => exact ⟨i + 1, by omega, by go_num, HO.out⟩); (case measure => simp [intOf]; omega))
      · obtain rfl : i = ys.length := by omega
        have i2 : ¬ (ys.length : Int) < (ys.length : Int) := by omega
        go_wp2_with (fail)
        go_meet
        exact HOA.out.os
  case rest =>
  have HOZ := hid hcut
  have HZN := hid (show ¬ S wc.heap.size ∧ w.heap.size ≤ wc.heap.size from ⟨fun h => by have := HOZ.out.lt h; omega, HOZ.out.fr.size⟩)
  clear hcut HOA
  have HBZ := hid (Blk.new wc [.slice none 0 0] 75)
  have fz := (Fr.refl (fun _ => False) wc).alloc (.cells #[.slice none 0 0] 75)
  have HO1 := hid (HOZ.out.fre fz)
  clear HOZ fz
  go_upto_region 34 with fail
  generalize wc.heap.size = z at *
  generalize wc.alloc _ = W1 at *
  have HZ1 := hid (CR.zero HBZ.out)
  have HZS := hid (show ¬ S z ∧ w.heap.size ≤ z from HZN.out)
  clear HBZ
  have HTN := hid (fun W => Table_nil_go [116] W)
  have HAN := hid (fun W => At_nil_go 1 W)
  unfold zeroT TabV.agg TabV.cells at HTN HAN
  dsimp only at HTN HAN
  have F1 := hid (Fr.refl (fun _ => False) W1)
  go_upto_region 35 with (go_at_call 29; refine (HTN.out _).mono ?_; rintro e w2 ⟨rfl, f⟩; have F2 := hid ((F1.out.trans f (fun _ h _ => h)).alloc (.cells #[.int .i64 0, .string (bs []), .slice none 0 0, .slice none 0 0] 25)); clear f)
  go_upto_region 36 with (go_at_call 28; refine (HAN.out _).mono ?_; rintro e w3 ⟨rfl, f⟩; have F3 := hid ((F2.out.trans f (fun _ h _ => h)).alloc (.cells #[.int .i64 0, .string (bs []), .slice none 0 0, .slice none 0 0] 25)); clear f)
  clear HTN HAN F1 F2
  generalize hw4 : World.alloc w3 _ = W4
  have F4 := hid (show Fr (fun _ => False) W1 W4 from by rw [← hw4]; exact F3.out)
  clear hw4 F3
  have HCN := hid (fun W => Clone_nil_go W)
  go_upto_region 37 with (go_at_call 27; refine (HCN.out _).mono ?_; rintro e w5 ⟨d, rfl, hd, f⟩; have HD5 := hid hd; have F5 := hid (F4.out.trans f (fun _ h _ => h)); clear hd f)
  clear HCN F4
  go_upto_region 39 with fail
  have HO5 := hid (HO1.out.fre F5.out)
  have HZ5 := hid (HZ1.out.fre F5.out)
  clear HO1 HZ1 F5
  have HTB := hid (fun W => table_go W)
  unfold stc nilS at HTB
  have HDN := hid (fun (g : Nat) (W : World) => Do_nil_go 1 (bs [116]) (bs []) ⟨#[]⟩ ⟨#[]⟩ ⟨#[]⟩ (some ⟨g, 0, none⟩) none none none none none 2 0 0 0 0 0 2 0 0 0 0 0 0 0 0 0 W)
  have HAL := hid (fun W => All_nil_go W)
  have HBN : Hid (∀ W, Calls Tryd.prog 20 #[.pointer none] W fun e w' => e = .returned (.string ⟨#[0]⟩) ∧ Fr (fun _ => False) W w') := hid (fun W => by have := Bytes_nil_go W; rw [bytes_none] at this; exact this)
  have HBZ : Hid (∀ W, Fr (fun _ => False) w5 W → Calls Tryd.prog 20 #[.pointer (some ⟨z, 0, none⟩)] W fun e w' => e = .returned (.string ⟨#[0]⟩) ∧ Fr (fun _ => False) W w') := hid (fun W f => by have := Bytes_go (HZ5.out.fre f) ok_nil; rw [bytes_none] at this; exact this)
  have HAZ := hid (fun (W : World) (f : Fr (fun _ => False) w5 W) => All_go (HZ5.out.fre f) ok_nil)
  have F0 := hid (Fr.refl (fun _ => False) w5)
  go_upto_region 40 with (first
    | (go_at_call 25; refine (HTB.out _).mono ?_; rintro e w6 ⟨g, rfl, hr, f⟩; have F6 := hid (F0.out.trans f (fun _ h _ => h)); clear hr f)
    | (go_at_call 21; refine (HDN.out _ _).mono ?_; rintro e w7 ⟨rfl, f⟩; have F7 := hid (F6.out.trans f (fun _ h _ => h)); clear f)
    | (go_at_call 18; (with_reducible refine (HAL.out _).mono ?_); rintro e w8 ⟨rfl, rfl⟩)
    | (go_at_call 20; (with_reducible refine (HBN.out _).mono ?_); rintro e w9 ⟨rfl, f⟩; have F9 := hid (F7.out.trans f (fun _ h _ => h)); clear f)
    | (go_at_call 20; (with_reducible refine (HBZ.out _ F9.out).mono ?_); rintro e wA ⟨rfl, f⟩; have FA := hid (F9.out.trans f (fun _ h _ => h)); clear f)
    | (go_at_call 18; (with_reducible refine (HAZ.out _ FA.out).mono ?_); rintro e wB ⟨v, zs, rfl, hzs, hr, f⟩; obtain rfl : zs = [] := (by simpa using hzs); obtain ⟨az, cz, rfl, _⟩ := hr.r.slice; have FB := hid (FA.out.trans f (fun _ h _ => h)); clear hr f hzs))
  clear HAZ HBZ HBN HAL HDN F0 F6 F7 F9 FA
  have HBC : Hid (∀ W, Fr (fun _ => False) w5 W → Calls Tryd.prog 20 #[.pointer (some ⟨c, 0, none⟩)] W fun e w' => e = .returned (.string (bs (Cat.bytes m))) ∧ Fr (fun _ => False) W w') := hid (fun W f => Bytes_go (HO5.out.cr.fre f) HO5.out.ok)
  have HBD : Hid (∀ W, Fr (fun _ => False) w5 W → Calls Tryd.prog 20 #[.pointer (some ⟨d, 0, none⟩)] W fun e w' => e = .returned (.string ⟨#[0]⟩) ∧ Fr (fun _ => False) W w') := hid (fun W f => by have := Bytes_go (HD5.out.fre f) ok_nil; rw [bytes_none] at this; exact this)
  have HDZ := hid (fun (W W2 : World) (g B : Nat) (f : Fr (fun _ => False) w5 W2) (hr : Row 40 2 B W2 (.slice (some ⟨g, 0, none⟩) 2 2) 2 ([(⟨[97], 1⟩ : Col), ⟨[98], 2⟩].flatMap Col.cells)) => Do_tab (HZ5.out.fre f) hr)
  have HWZ := hid HZS.out.2
  have FO5 := hid HO5.out.fr
  go_wp2_with (first
    | (go_at_call 20; (with_reducible refine (HBC.out _ FB.out).mono ?_); rintro e wC ⟨rfl, f⟩; have FC := hid (FB.out.trans f (fun _ h _ => h)); clear f)
    | (go_at_call 20; (with_reducible refine (HBD.out _ FC.out).mono ?_); rintro e wD ⟨rfl, f⟩; have FD := hid (FC.out.trans f (fun _ h _ => h)); clear f)
    | (go_at_call 25; refine (HTB.out _).mono ?_; rintro e wE ⟨g, rfl, hr, f⟩; have FE := hid (FD.out.trans f (fun _ h _ => h)); have HRE := hid hr; clear hr f)
    | (go_at_call 21; refine (HDZ.out wE wE _ _ FE.out HRE.out).mono ?_; rintro e wF ⟨rfl, -, f⟩; have FF := hid ((FO5.out.trans FE.out (fun _ h _ => h)).trans f (fun k hk hl => by have := HWZ.out; omega)); clear f))
  go_ret
  exact ⟨rfl, FF.out⟩
end Go.Proofs.YtgkfdlpijefgkaaDoor
namespace Go.Proofs.YtgkfdlpijefgkaaDoor.catalogOwn
open Go.ChangeShapes Go.WideShapes Go.ChangeAt Go.RowKit Go.VB Go.VB.Rec
set_option maxHeartbeats 400000 in
set_option maxRecDepth 100000 in
theorem lifted (os : Os) (started : os.Started) (H : Type) (enc : TypeId × Value → H) :
    ReturnsInHanded {} Tryd.checked os 9 .any (fun w args => (Rows.catalogOwnSpec.pre enc Tryd.prog Tryd.f9 Rows.catalogOwnRow.domain false w args ∧ laidMetH Tryd.prog Rows.catalogOwnRow.laid w) ∧ sizedMet enc Tryd.prog Tryd.f9 (OpenSpec.ofChange Rows.catalogOwnSpec) false w args) (Rows.catalogOwnSpec.post enc Tryd.prog Tryd.f9 false true false false) := by
  refine handed_and_shaped (C := Tryd.checked) (X := fun w _ => laidMetH Tryd.prog Rows.catalogOwnRow.laid w) (fun _ _ _ hh h => h.of_heap hh) own started (by kernel_rfl) Tryd.func9
    (ChangeSpec.witness_shaped (enc := enc) (C := Tryd.checked) (os := os) (X := fun w _ => laidMetH Tryd.prog Rows.catalogOwnRow.laid w) false (startW os) #[.slice none 0 0] 8 rfl (start_shaped os _) (by kernel_rfl) (by kernel_rfl) (by kernel_rfl) (start_met os _)) ?_
  intro W base args ds gs before hval0 hW hL hsh
  have GV : Hid (Gv W) := hid (gv_of hL hsh)
  clear hL hsh
  have hval : ∀ (j : Nat) t v, Tryd.f9.params[j]? = some t → args[j]? = some v → Value.okWide Tryd.prog W .any base t v := hval0
  have hW' := hW
  obtain ⟨p, q, hA0, hV, rfl, hfz, hnd⟩ := hW
  have hA : DataW.TrodAll enc Tryd.prog W 0 (fun _ => true) true Tryd.f9.params.toList args.toList ds p := hA0
  rw [Tryd.params9] at hA hval
  obtain ⟨v0, vs0, d0, ds0, p0, q0, hargs, rfl, rfl, h0, r0⟩ := trodAll_cons hA
  obtain ⟨rfl, rfl, rfl⟩ := trodAll_nil r0
  obtain rfl : args = #[v0] := by cases args; simp_all
  obtain ⟨rfl, rfl⟩ := trodVars_none hV
  clear hA0 hval0
  refine Calls.mono (R := fun e w' => e = .returned (.bool true) ∧ Fr (fun _ => False) W w') ?_ fun e W' ⟨he, hf⟩ => ⟨_, he, post_law sound (by decide +kernel) rfl rfl (ht := Tryd.underlying4) (by rfl) hW' hf⟩
  obtain ⟨L, hL⟩ := open_ints2 (hval 0 42 v0 rfl rfl) h0
  obtain ⟨a, c1, rfl, -, -⟩ := id hL.s
  exact Own_walk GV.out hL
theorem row_holds : Rows.CatalogOwnSaid :=
  OpenClaim.holds_of_wide 9 Tryd.f9 rfl rfl rfl rfl rfl rfl rfl ⟨rfl, rfl, rfl, rfl, rfl⟩ rfl rfl rfl rfl rfl (by kernel_rfl) Tryd.func9 (by kernel_rfl)
    (of_decide_eq_true (by kernel_rfl)) (by unfold Func.isWrapper; first | (rw [if_pos (by decide +kernel)]; kernel_rfl) | (rw [if_neg (by decide +kernel)]; exact ⟨rfl, rfl⟩))
    (fun os started H enc _ => lifted os started H enc)
theorem proved : Rows.CatalogOwnCardSaid :=
  Claim7.holds_tied_plain_at .later [] Rows.catalogOwnCard.laidKinds true Rows.catalogOwnCard.stood.harness Rows.catalogOwnCard.stood.looks row_holds (fun _ h => by cases h) (by kernel_rfl) (fun _ h => by cases h) catalogOwn_row_tie rfl ⟨rfl, rfl⟩ (by kernel_rfl) rfl
    (fun f fn hf hfn => by
      obtain rfl : f = 9 := Option.some.inj ((show Tryd.prog.funcNamed "vintner/vintnerlaw14.CatalogOwn" = some 9 by kernel_rfl).symm.trans hf) |>.symm
      obtain rfl : fn = Tryd.f9 := (Option.some.inj (Tryd.func9.symm.trans hfn)).symm
      exact ⟨by kernel_rfl, fun j t ht => by
        rw [Tryd.params9] at ht
        have hm : t ∈ [42] := by simpa using Array.mem_of_getElem? ht
        have hall : ([42].all fun u => !Tryd.prog.wantsStandIn u) = true := by kernel_rfl
        exact (show Tryd.prog.wantsStandIn t = false by simpa using List.all_eq_true.1 hall t hm)⟩)
    (by kernel_rfl)
end Go.Proofs.YtgkfdlpijefgkaaDoor.catalogOwn
