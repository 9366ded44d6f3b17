/- Proved: for every two slices of integers and every integer the law ClockBelow of chapter 07 returns true, and its arguments read afterwards as before. Conditions: none beyond the given statement. -/
import Derived.Test.YtbkebjgoaeddjaaClkArgs
import Derived.Test.YtbkebjgoaeddjaaClkBelM
import Derived.Test.YtbkebjgoaeddjaaFin
set_option linter.unusedVariables false
namespace Go.Proofs.Ytbkebjgoaeddjaa
open Go.RowKit Go.VB Go.VB.Clk
theorem iv_cell {R : Nat → Prop} {w : World} {a : Option Addr} {l : List Int} (h : iv l ≠ [] → ∃ g o, a = some ⟨g, o, none⟩ ∧ R g ∧ w.rangeAt g o (iv l)) {j : Nat} (hj : j < l.length) : ∃ g o, a = some ⟨g, o, none⟩ ∧ R g ∧ w.cell? ⟨g, o + j, none⟩ = some (.int .i64 l[j]) := by
  obtain ⟨g, o, rfl, hR, hr⟩ := h (by intro e; have : (iv l).length = 0 := congrArg List.length e; simp [iv] at this; subst this; simp at hj)
  exact ⟨g, o, rfl, hR, hr j _ (by simp [iv, hj])⟩
structure BelW (w w1 wr : World) (c : Nat) (va : Option Addr) (vc k : Nat) (m : CM) : Prop where
  rep : CRep wr c m
  tree : Tree m 100 k
  row : NumRow w1 wr (.slice va (k + 1) vc) (xs 100 k)
  cap : k + 1 ≤ vc
  fr : Fr (fun _ => False) w wr
theorem BelW.fre {w w1 wr wz : World} {c : Nat} {va : Option Addr} {vc k : Nat} {m : CM} (h : BelW w w1 wr c va vc k m) (f : Fr (fun _ => False) wr wz) : BelW w w1 wz c va vc k m :=
  ⟨CRep.fr h.rep f (fun h => h), h.tree, ⟨own_fr h.row.own f (fun _ _ h => h), h.row.new⟩, h.cap, h.fr.trans f (fun _ h _ => h)⟩
/-- a cell of the given ones -/
theorem BelW.cell {w w1 wr : World} {c : Nat} {va : Option Addr} {vc k : Nat} {m : CM} (h : BelW w w1 wr c va vc k m) {r : Nat} (hr : r ≤ k) : ∃ g o, va = some ⟨g, o, none⟩ ∧ wr.cell? ⟨g, o + r, none⟩ = some (.int .i64 (xat 100 r : Nat)) := by
  obtain ⟨a, q, hs, hq, hrr⟩ := nv_range h.row
  obtain ⟨rfl, rfl⟩ : va = a ∧ vc = q := by simp at hs; exact ⟨hs.1, hs.2.2⟩
  obtain ⟨g, o, rfl, hc⟩ := nv_cell (n := 0) (c := 0) hrr (j := r) (by rw [xs_length]; omega)
  rw [xs_get] at hc
  exact ⟨g, o, rfl, hc⟩
/-- a clock changed, the rest kept -/
theorem BelW.clk {w w1 wr wz : World} {c : Nat} {va : Option Addr} {vc k : Nat} {m m' : CM} (h : BelW w w1 wr c va vc k m) (hc : w.heap.size ≤ c) (f : Fr (fun k => k = c) wr wz) (hr : CRep wz c m') (ht : Tree m' 100 k) : BelW w w1 wz c va vc k m' :=
  ⟨hr, ht, ⟨own_fr h.row.own f (fun k hk e => ownsRow_ne h.rep (by decide) h.row.own k hk e), h.row.new⟩, h.cap, h.fr.trans f (fun i hi hl => by omega)⟩
theorem BelW.frS {S : Nat → Prop} {w w1 wr wz : World} {c : Nat} {va : Option Addr} {vc k : Nat} {m : CM} (h : BelW w w1 wr c va vc k m) (f : Fr S wr wz) (hc : ¬ S c) (hv : ∀ j, (Value.slice va (k + 1) vc).ownBlock = some j → ¬ S j) (hS : ∀ i, S i → i < w.heap.size → False) : BelW w w1 wz c va vc k m :=
  ⟨CRep.fr h.rep f hc, h.tree, ⟨own_fr h.row.own f hv, h.row.new⟩, h.cap, h.fr.trans f hS⟩
theorem updG {f : Lit → Value} {L : List Nat} (hf : ∀ y : Nat, f (.int .i64 (y : Int)) = .bool (decide (y ∈ L))) (x : Nat) : ∀ y : Nat, upd f (.int .i64 (x : Int)) (.bool true) (.int .i64 (y : Int)) = .bool (decide (y ∈ L ++ [x])) := by
  intro y
  by_cases h : y = x
  · subst h
    rw [upd_same]
    simp
  · rw [upd_ne _ _ (by simp; omega), hf y]
    simp [h]
structure AbtW (w w1 wr : World) (c bm : Nat) (va : Option Addr) (vc k : Nat) (m : CM) (G : List Nat) (n : Nat) : Prop where
  bel : BelW w w1 wr c va vc k m
  gone : Gone m G
  off : xat 100 0 ∉ G
  map : ∃ (q : Nat) (f : Lit → Value), q ≤ n ∧ MapF Try.prog 3 wr bm q (.bool false) f ∧ ∀ y : Nat, f (.int .i64 (y : Int)) = .bool (decide (y ∈ G))
theorem AbtW.fre {w w1 wr wz : World} {c bm : Nat} {va : Option Addr} {vc k : Nat} {m : CM} {G : List Nat} {n : Nat} (h : AbtW w w1 wr c bm va vc k m G n) (f : Fr (fun _ => False) wr wz) : AbtW w w1 wz c bm va vc k m G n := by
  obtain ⟨h1, h2, h3, q, g, h4, h5, h6⟩ := h
  exact ⟨h1.fre f, h2, h3, q, g, h4, h5.fr f (fun h => h), h6⟩
set_option maxRecDepth 20000 in
set_option maxHeartbeats 8000000 in
theorem ClockBelow_walk (A B : List Int) (how : Int) (w : World) (va vb : Value) (hA : Sl (fun k => k < w.heap.size) w va A.length (iv A)) (hB : Sl (fun k => k < w.heap.size) w vb B.length (iv B)) (hAl : A.length ≤ maxLen) (hBl : B.length ≤ maxLen) :
    Calls Try.prog 4 #[va, vb, .int .i64 how] w fun e w' => e = .returned (.bool true) ∧ Fr (fun _ => False) w w' := by
  have e63 : maxLen = 9223372036854775807 := rfl
  rw [e63] at hAl hBl
  obtain ⟨aa, ac, rfl, hac, ha⟩ := hA
  obtain ⟨ba, bc, rfl, hbc, hb⟩ := hB
  have HA := hid (fun j (hj : j < A.length) => iv_cell ha hj)
  have HB := hid (fun j (hj : j < B.length) => iv_cell hb hj)
  obtain ⟨t1, t2, t3, t4⟩ := tree_new
  clear e63 ha hb
  have hmm := @run_makeMap Try.prog
  go_enter Try.func4, Try.ntmps4
  go_wp2_with (fail)
  refine (sanity_go w).mono ?_
  rintro e w1 ⟨rfl, f1⟩
  go_wp2_with (fail)
  refine (New_go 100 w1).mono ?_
  rintro e w2 ⟨rfl, h2, f2⟩
  have hBg := Begin_go h2 (Ok_new 100) 0
  rw [t2] at hBg
  have s1 := f1.size
  generalize hc : w1.heap.size = c at *
  have HC := hid hc
  have F2 := hid (f1.trans f2 (fun _ h _ => h))
  clear h2 f2 hc f1
  go_wp2_with (fail)
  refine hBg.mono ?_
  rintro e w3 ⟨rfl, h3, f3⟩
  have F3 := F2.out.trans f3 (fun i hi hl => by omega)
  have inv0 : BelW w w1 (w3.alloc (.cells #[Value.int .i64 100] 3)) c (some ⟨w3.heap.size, 0, none⟩) 1 0 ((CM.new 100).add 0) := by
    refine ⟨Blk.alloc h3 _, t1, ⟨?_, fun k hk => ?_⟩, by omega, F3.alloc _⟩
    · have := own_new (w := w3) (e := 3) (size := 1) (n := 1) (l := [.int .i64 100]) rfl (by unfold maxLen; omega)
      have e : nv (xs 100 0) = [.int .i64 100] := by simp [nv, xs, t4]
      rw [e]
      exact this
    · obtain rfl : w3.heap.size = k := by simpa [Value.ownBlock] using hk
      have := f3.size
      have := F2.out.size
      have := HC.out
      have := Blk.lt h3
      omega
  have INV := hid inv0
  have ST := hid t3
  have T4 := hid (show ((xat 100 0 : Nat) : Int) = 100 by rw [t4]; rfl)
  clear hBg h3 f3 F3 F2 inv0 t1 t2 t3 t4
  go_wp2_with (fail)
  obtain ⟨W0, hW0⟩ : ∃ W0, W0 = w3.alloc (.cells #[Value.int .i64 100] 3) := ⟨_, rfl⟩
  rw [← hW0] at INV ⊢
  clear hW0
  generalize (CM.new 100).add 0 = m0 at *
  generalize w3.heap.size = b3 at *
  go_loopw [11, 12] (fun v i wr => ∃ (k : Nat) (va : Option Addr) (vc : Nat) (m : CM), k ≤ 30 ∧ k ≤ A.length ∧ i = .int .i64 k ∧ v = .slice va (k + 1) vc ∧ BelW w w1 wr c va vc k m ∧ ∀ y : Nat, m.knows y = true → m.st y = 1) (fun _ i _ => 30 - (intOf i).toNat)
  case atStart => exact ⟨0, _, _, m0, by omega, by omega, rfl, rfl, INV.out, ST.out⟩
  case round =>
    obtain ⟨k, va, vc, m, hk, hkl, rfl, rfl, inv, hst⟩ := hrel
    clear INV ST
    have hcap := inv.cap
    by_cases hlt : k < A.length ∧ k < 30
    · obtain ⟨h1, h30⟩ := hlt
      obtain ⟨g, o, rfl, hg, hcell⟩ := HA.out k h1
      have hcell := cell_fr hcell inv.fr (fun h => h)
      obtain ⟨r, hr⟩ : ∃ r : Nat, A[k] % ((k : Int) + 1) = r := ⟨(A[k] % ((k : Int) + 1)).toNat, by have := Int.emod_nonneg A[k] (show ((k : Int) + 1) ≠ 0 by omega); omega⟩
      have hrk : r ≤ k := by have := Int.emod_lt_of_pos A[k] (show (0 : Int) < (k : Int) + 1 by omega); omega
      have RR := hid (fun w => rest_any w A[k] ((k : Int) + 1) (by omega) (by omega))
      rw [hr] at RR
      obtain ⟨g2, o2, rfl, hc2⟩ := inv.cell hrk
      obtain ⟨e1, e2, e3⟩ := inv.tree.begins (by omega) hst hrk
      have hBg := Begin_go inv.rep inv.tree.ok (xat 100 r : Nat)
      rw [e1] at hBg
      generalize A[k] = ak at *
      have INV := hid inv
      have TR := hid e2
      have ST := hid e3
      have hx := xat_on 100 (k + 1)
      clear inv e1 e2 e3 hst hr
      go_wp2_with (fail)
      refine (RR.out _).mono ?_
      rintro e w5 ⟨rfl, rfl⟩
      go_wp2_with (fail)
      refine hBg.mono ?_
      rintro e w6 ⟨rfl, h6, f6⟩
      have H6 := hid h6
      have F6 := hid f6
      have row6 : NumRow w1 w6 (.slice (some ⟨g2, o2, none⟩) (k + 1) vc) (xs 100 k) := ⟨own_fr INV.out.row.own f6 (fun j hj e => ownsRow_ne INV.out.rep (by decide) INV.out.row.own j hj e), INV.out.row.new⟩
      have F7 := hid ((Fr.refl (fun _ => False) w6).alloc (.cells #[Value.int .i64 (xat 100 (k + 1) : Nat)] 3))
      have hsrc : Src Try.prog (w6.alloc (.cells #[Value.int .i64 (xat 100 (k + 1) : Nat)] 3)) 1 (.slice (some ⟨w6.heap.size, 0, none⟩) 1 1) 1 [Value.int .i64 (xat 100 (k + 1) : Nat)] := Src.slice (by simp) (by simp [Value.oneCell']) (Blk.new w6 [Value.int .i64 (xat 100 (k + 1) : Nat)] 3).all
      have ho := own_fr row6.own F7.out (fun _ _ h => h)
      rw [xs_length] at ho
      have ROW6 := hid row6
      have hs6 : w1.heap.size ≤ w6.heap.size := by have := HC.out; have := Blk.lt h6; omega
      clear hBg h6 f6 row6 hcell hc2
      go_wp2_with (first
        | (refine wpList_append rfl (s := .tmp 61) (x := .tmp 63) (t := 26) (tx := 26) rfl Try.underlying26 Try.underlying26 (.inr ⟨_, rfl⟩) Try.info_int rfl rfl rfl ho hsrc (by omega) (by omega) ?_
           intro ab aq wg hown hg hat
           have hg : World.grownBy _ wg (Value.slice (some ⟨g2, o2, none⟩) (k + 1) vc).ownBlock := hg
           have hat : ∀ k', (Value.slice ab (k + 1 + 1) aq).ownBlock = some k' → (Value.slice (some ⟨g2, o2, none⟩) (k + 1) vc).ownBlock = some k' ∨ k' = _ := hat
           obtain ⟨row', fg⟩ := NumRow.app ROW6.out F7.out (by simp; omega) hg (by rw [xs_length]; exact hown) hat
           rw [← xs_succ] at row'
           have ROW := hid row'
           have FG := hid fg
           have CAP := hid (own_slice hown)
           clear hg hown hat row' fg ho hsrc))
      have hinv : BelW w w1 wg c ab aq (k + 1) (m.add (xat 100 r)) := by
        have hne := ownsRow_ne H6.out (by decide) ROW6.out.own
        refine ⟨CRep.fr H6.out FG.out (fun h => hne _ h rfl), TR.out, ROW.out, ?_, (INV.out.fr.trans F6.out (fun i hi hl => by omega)).trans FG.out (fun i hi hl => by have := ROW6.out.new i hi; have := HC.out; omega)⟩
        obtain ⟨a, q, hs, hq⟩ := CAP.out
        simp at hs
        omega
      have HI := hid hinv
      clear hinv ROW FG CAP F7 ROW6 F6 H6 TR INV
      go_roundw
      case rel => exact ⟨k + 1, ab, aq, _, by omega, by omega, by go_num, rfl, HI.out, ST.out⟩
      case measure => simp [intOf]; omega
    · have hvl : ∀ j, (Value.slice va (k + 1) vc).ownBlock = some j → j < wr.heap.size := fun j hj => own_lt inv.row.own hj
      have hcl : c < wr.heap.size := Blk.lt inv.rep
      have F8 := (Fr.refl (fun _ => False) wr).alloc (.map #[] 0)
      have abt0 : AbtW w w1 (wr.alloc (.map #[] 0)) c wr.heap.size va vc k m [] 0 := ⟨inv.fre F8, fun y hy => by rw [hst y hy]; simp, by simp, 0, _, Nat.le_refl _, MapF.new _ _ _ _, fun y => by simp⟩
      have hbig : w.heap.size ≤ wr.heap.size := inv.fr.size
      have ABT := hid abt0
      have HVL := hid hvl
      have hkk := inv.tree.hk
      clear abt0 hvl inv hst F8
      by_cases hk1 : k < A.length
      all_goals
        go_wp2_with (fail)
        obtain ⟨W4, hW4⟩ : ∃ W4, W4 = wr.alloc (.map #[] 0) := ⟨_, rfl⟩
        rw [← hW4] at ABT ⊢
        clear hW4
        generalize hbm : wr.heap.size = bm at *
        clear hbm hmm
        go_loopw [16] (fun i wz => ∃ (j : Nat) (mj : CM) (G : List Nat), j ≤ 4 ∧ j ≤ B.length ∧ i = .int .i64 j ∧ AbtW w w1 wz c bm va vc k mj G (j * 100)) (fun i _ => 4 - (intOf i).toNat)
        case atStart => exact ⟨0, m, [], by omega, by omega, rfl, ABT.out⟩
        case round =>
          obtain ⟨j, mj, G, hj4, hjl, rfl, abt⟩ := hrel
          clear ABT
          by_cases hg1 : j < B.length ∧ j < 4 ∧ 1 ≤ k
          · obtain ⟨g1, g2, g3⟩ := hg1
            obtain ⟨gb, ob, rfl, hgb, hcb⟩ := HB.out j g1
            have hcb := cell_fr hcb abt.bel.fr (fun h => h)
            obtain ⟨s, hs⟩ : ∃ s : Nat, B[j] % (k : Int) = s := ⟨(B[j] % (k : Int)).toNat, by have := Int.emod_nonneg B[j] (show (k : Int) ≠ 0 by omega); omega⟩
            have hsk : s < k := by have := Int.emod_lt_of_pos B[j] (show (0 : Int) < (k : Int) by omega); omega
            have RR := hid (fun w => rest_any w B[j] (k : Int) (by omega) (by omega))
            rw [hs] at RR
            obtain ⟨g5, o5, rfl, hc5⟩ := abt.bel.cell (r := 1 + s) (by omega)
            generalize B[j] = bj at *
            have hx := xat_on 100 (1 + s)
            obtain ⟨q, f, hq, hmap, hf⟩ := abt.map
            have hfx := hf (xat 100 (1 + s))
            have hx64 : xat 100 (1 + s) < 9223372036854775808 := by omega
            have HF := hid hf
            clear hs hf
            by_cases hin : xat 100 (1 + s) ∈ G
            · rw [decide_eq_true hin] at hfx
              have hlk := hmap.get (Go.Maps.int_keyed Try.underlying3) Try.underlying32 (zero_bool _) (key_nat hx64) trivial
              rw [hfx] at hlk
              have AB := hid abt
              clear abt hin
              go_wp2_with (first
                | (go_at_call 14; refine (RR.out _).mono ?_; rintro e w5 ⟨rfl, rfl⟩)
                | fail)
              go_roundw
              case rel => exact ⟨j + 1, mj, G, by omega, by omega, by go_num, by obtain ⟨a1, a2, a3, q1, q2, q3, q4, q5⟩ := AB.out; exact ⟨a1, a2, a3, q1, q2, by omega, q4, q5⟩⟩
              case measure => simp [intOf]; omega
            · rw [decide_eq_false hin] at hfx
              have hlk := hmap.get (Go.Maps.int_keyed Try.underlying3) Try.underlying32 (zero_bool _) (key_nat hx64) trivial
              rw [hfx] at hlk
              have tr := abt.bel.tree
              obtain ⟨e1, e2, e3⟩ := tr.abort abt.gone abt.off (i := 1 + s) (by omega) (by omega) hin
              have tr2 := tr.ends (xat 100 (1 + s) : Nat) 3
              have hBl := Below_go abt.bel.rep tr.ok (xat 100 (1 + s) : Nat)
              have hbl := mj.below_le (xat 100 (1 + s) : Nat)
              have hbm2 := hid (fun y (hy : y ∈ mj.below (xat 100 (1 + s) : Nat)) => mj.below_mem tr.ok hy)
              have hn60 := tr.ok.far
              have AB := hid abt
              have TR2 := hid tr2
              have OKM := hid tr.ok
              have E1 := hid e1
              have E2 := hid e2
              have E3 := hid e3
              generalize hbw : mj.below (xat 100 (1 + s) : Nat) = bw at *
              clear abt hin tr tr2 e1 e2 e3
              go_wp2_with (first
                | (go_at_call 14; refine (RR.out _).mono ?_; rintro e w5 ⟨rfl, rfl⟩)
                | fail)
              refine hBl.mono ?_
              rintro e w6 ⟨v6, rfl, row6, f6⟩
              have bel6 := AB.out.bel.fre f6
              have mp6 := hmap.fr f6 (fun h => h)
              have hEn := End_go bel6.rep OKM.out (xat 100 (1 + s) : Nat) 3
              rw [E1.out] at hEn
              obtain ⟨a6, c6, rfl, hc6⟩ := own_slice row6.own
              have hbc : bm ≠ c := by omega
              have hw6 := f6.size
              have hlm := hmap.lt
              have ROW6 := hid row6
              have BEL6 := hid bel6
              clear hBl row6 f6 bel6 hmap hlk hc5 hcb hfx
              go_wp2_with (fail)
              refine hEn.mono ?_
              rintro e w7 ⟨rfl, h7, f7⟩
              have bel7 := BEL6.out.clk s1 f7 h7 TR2.out
              have mp7 := mp6.fr f7 hbc
              have hne6 := ownsRow_ne BEL6.out.rep (by decide) ROW6.out.own
              have sl7 := own_sl (R := fun g => g ≠ bm) (own_fr ROW6.out.own f7 (fun g hg e => hne6 g hg e)) (fun g hg e => by have := ROW6.out.new g hg; omega)
              have BEL7 := hid bel7
              have SL7 := hid sl7
              have hqm : q < maxLen := small_max (by omega)
              clear hEn h7 f7 bel7 mp6 BEL6 ROW6 hne6 sl7
              go_wp2_with (first
                | (at_mapUpdate
                   refine wpList_update_F rfl (m := .tmp 104) (x := .tmp 105) (v := .const (.bool true)) rfl rfl mp7 (Go.Maps.int_keyed Try.underlying3) Try.underlying32 hqm rfl rfl (key_nat hx64) trivial ?_
                   intro w8 mp8 f8
                   have BEL8 := hid (BEL7.out.frS f8 (Ne.symm hbc) (fun g hg e => by have := HVL.out g hg; omega) (fun i hi hl => by omega))
                   have SL8 := hid (SL7.out.fr f8 (fun g hg e => hg e))
                   have MP8 := hid (show MapF Try.prog 3 w8 bm (q + 1) (.bool false) (upd f (.int .i64 (xat 100 (1 + s) : Nat)) (.bool true)) from mp8)
                   clear mp8 f8))
              have hf1 := hid (updG HF.out (xat 100 (1 + s)))
              have hwf := hid (wf_nat hx64)
              generalize upd f (.int .i64 (xat 100 (1 + s) : Nat)) (.bool true) = f1 at *
              obtain ⟨wo, rfl⟩ : ∃ wo : World, wo = wr := ⟨_, rfl⟩
              go_loopw [20] (fun i wy => ∃ (t q1 : Nat) (f2 : Lit → Value), t ≤ bw.length ∧ i = .int .i64 t ∧ q1 ≤ q + 1 + t ∧ BelW w w1 wy c (some ⟨g5, o5, none⟩) vc k (mj.end_ (xat 100 (1 + s) : Nat) 3).1 ∧ Sl (fun g => g ≠ bm) wy (.slice a6 bw.length c6) bw.length (nv bw) ∧ MapF Try.prog 3 wy bm q1 (.bool false) f2 ∧ Hid (∀ y : Nat, f2 (.int .i64 (y : Int)) = .bool (decide (y ∈ (G ++ [xat 100 (1 + s)]) ++ bw.take t)))) (fun i _ => bw.length - (intOf i).toNat)
              case atStart => exact ⟨0, q + 1, f1, by omega, rfl, by omega, BEL8.out, SL8.out, MP8.out, hid (by rw [List.take_zero, List.append_nil]; exact hf1.out)⟩
              case round =>
                obtain ⟨t, q1, f2, ht, rfl, hq1, bel, sl, mp, hf2⟩ := hrel
                clear BEL8 SL8 MP8
                by_cases htl : t < bw.length
                · obtain ⟨a7, c7, hs7, -, hr7⟩ := sl
                  obtain ⟨rfl, rfl⟩ : a6 = a7 ∧ c6 = c7 := by simpa using hs7
                  have SL := hid (show Sl (fun g => g ≠ bm) _ (.slice a6 bw.length c6) bw.length (nv bw) from ⟨_, _, rfl, by omega, hr7⟩)
                  obtain ⟨g7, o7, rfl, hc7⟩ := nv_cell (n := 0) (c := 0) hr7 htl
                  have hyk := CM.knows_iff.1 (hbm2.out _ (List.getElem_mem htl))
                  have htk : bw.take (t + 1) = bw.take t ++ [bw[t]] := by rw [List.take_add_one, List.getElem?_eq_getElem htl]; rfl
                  have HT := hid htk
                  have BEL := hid bel
                  have hq1m : q1 < maxLen := small_max (by omega)
                  clear htk hs7 hr7 bel
                  generalize bw[t] = y at *
                  have hy64 : y < 9223372036854775808 := by omega
                  go_wp2_with (first
                    | (at_mapUpdate
                       refine wpList_update_F rfl (m := .tmp 112) (x := .tmp 116) (v := .const (.bool true)) rfl rfl mp (Go.Maps.int_keyed Try.underlying3) Try.underlying32 hq1m rfl rfl (key_nat hy64) trivial ?_
                       intro w8 mp8 f8
                       have BEL8 := hid (BEL.out.frS f8 (Ne.symm hbc) (fun g hg e => by have := HVL.out g hg; omega) (fun i hi hl => by omega))
                       have SL8 := hid (SL.out.fr f8 (fun g hg e => hg e))
                       have MP8 := hid (show MapF Try.prog 3 w8 bm (q1 + 1) (.bool false) (upd f2 (.int .i64 (y : Nat)) (.bool true)) from mp8)
                       clear mp8 f8))
                  go_roundw
                  case rel => exact ⟨t + 1, q1 + 1, _, by omega, by go_num, by omega, BEL8.out, SL8.out, MP8.out, hid (by rw [HT.out, ← List.append_assoc]; exact updG hf2.out y)⟩
                  case measure => simp [intOf]; omega
                · obtain rfl : t = bw.length := by omega
                  have hf3 := hf2.out
                  rw [List.take_length, List.append_assoc] at hf3
                  have HF3 := hid hf3
                  clear hf3 hf2
                  go_wp2_with (fail)
                  go_roundw
                  case rel => exact ⟨j + 1, _, G ++ xat 100 (1 + s) :: bw, by omega, by omega, by go_num, ⟨bel, E2.out, E3.out, q1, f2, by omega, mp, HF3.out⟩⟩
                  case measure => simp [intOf]; omega
          · obtain ⟨q, hq⟩ : ∃ q : Int, how % 3 = q := ⟨_, rfl⟩
            have hq1 : 0 ≤ q ∧ q < 3 := by have := Int.emod_nonneg how (show (3 : Int) ≠ 0 by omega); have := Int.emod_lt_of_pos how (show (0 : Int) < 3 by omega); omega
            have RH := hid (fun w => rest_any w how 3 (by omega) (by omega))
            rw [hq] at RH
            clear hq
            have tr := abt.bel.tree
            obtain ⟨e1, e2⟩ := tr.finish abt.gone abt.off (2 + q) ⟨by omega, by omega⟩
            have tr2 := tr.ends (xat 100 0 : Nat) (2 + q)
            have hEn := End_go abt.bel.rep tr.ok (xat 100 0 : Nat) (2 + q)
            rw [e1] at hEn
            rw [T4.out] at hEn e2 tr2
            have AB := hid abt
            have E2 := hid e2
            have TR2 := hid tr2
            have hcm := abt.map
            have h3 : ¬ j < B.length ∨ (j < B.length ∧ ¬ j < 4) ∨ (j < B.length ∧ j < 4 ∧ ¬ 1 ≤ k) := by omega
            clear abt tr e1 e2 tr2 hg1
            have hEN := hid hEn
            clear hEn
            obtain ⟨qn, f, -, hmap, hf⟩ := hcm
            have HF := hid hf
            have hbc : bm ≠ c := by omega
            clear hf
            rcases h3 with h3 | ⟨h3, h4⟩ | ⟨h3, h4, h5⟩
            try any_goals (exfalso; omega)
            all_goals
              go_wp2_with (fail)
              refine (RH.out _).mono ?_
              rintro e w5 ⟨rfl, rfl⟩
              have hw2 : IntKind.i64.wrap (2 + q) = 2 + q := IntWalk.i64_in _ (by omega)
              go_wp2_with (fail)
              refine hEN.out.mono ?_
              rintro e w7 ⟨rfl, h7, f7⟩
              have bel7 := AB.out.bel.clk s1 f7 h7 TR2.out
              have mp7 := hmap.fr f7 hbc
              have BEL7 := hid bel7
              generalize hmz : (mj.end_ 100 (2 + q)).1 = mz at *
              clear hmz f7 h7 bel7 hmap
              go_wp2_with (fail)
              go_loopw [23] (fun i wz => ∃ t : Nat, t ≤ k + 1 ∧ i = .int .i64 t ∧ Fr (fun _ => False) w7 wz) (fun i _ => k + 1 - (intOf i).toNat)
              case atStart => exact ⟨0, by omega, rfl, Fr.refl _ _⟩
              case round =>
                obtain ⟨t, ht, rfl, fz⟩ := hrel
                have BELz := hid (BEL7.out.fre fz)
                have mpz := mp7.fr fz (fun h => h)
                by_cases htk : t < k + 1
                · obtain ⟨g5, o5, rfl, hc5⟩ := BELz.out.cell (r := t) (by omega)
                  have hx := xat_on 100 t
                  have hx64 : xat 100 t < 9223372036854775808 := by omega
                  have hst := E2.out t (by omega)
                  have htop := BELz.out.tree.topI (i := t) (by omega)
                  have hfx := HF.out (xat 100 t)
                  have hlk := mpz.get (Go.Maps.int_keyed Try.underlying3) Try.underlying32 (zero_bool _) (key_nat hx64) trivial
                  have hS := State_go BELz.out.rep BELz.out.tree.ok (xat 100 t : Nat)
                  rw [hst] at hS
                  have HTOP := hid htop
                  clear htop hst
                  by_cases hin : xat 100 t ∈ G
                  · rw [hfx, decide_eq_true hin] at hlk
                    rw [if_pos hin] at hS
                    have HS := hid hS
                    clear hin hfx hS mpz
                    go_wp2_with (first
                      | (go_at_call 25; refine HS.out.mono ?_; rintro e w8 ⟨rfl, f8⟩; (have hc5 := cell_fr hc5 f8 (fun h => h)))
                      | fail)
                    have hT := Top_go (CRep.fr BELz.out.rep f8 (fun h => h)) BELz.out.tree.ok (xat 100 t : Nat)
                    rw [HTOP.out, T4.out] at hT
                    refine hT.mono ?_
                    rintro e w9 ⟨rfl, f9⟩
                    have F9 := hid ((fz.trans f8 (fun _ h _ => h)).trans f9 (fun _ h _ => h))
                    clear f8 f9 hT hc5
                    go_wp2_with (fail)
                    go_roundw
                    case rel => exact ⟨t + 1, by omega, by go_num, F9.out⟩
                    case measure => simp [intOf]; omega
                  · rw [hfx, decide_eq_false hin] at hlk
                    rw [if_neg hin] at hS
                    have HS := hid hS
                    clear hin hfx hS mpz
                    go_wp2_with (first
                      | (go_at_call 25; refine HS.out.mono ?_; rintro e w8 ⟨rfl, f8⟩; (have hc5 := cell_fr hc5 f8 (fun h => h)))
                      | fail)
                    have hT := Top_go (CRep.fr BELz.out.rep f8 (fun h => h)) BELz.out.tree.ok (xat 100 t : Nat)
                    rw [HTOP.out, T4.out] at hT
                    refine hT.mono ?_
                    rintro e w9 ⟨rfl, f9⟩
                    have F9 := hid ((fz.trans f8 (fun _ h _ => h)).trans f9 (fun _ h _ => h))
                    clear f8 f9 hT hc5
                    go_wp2_with (fail)
                    go_roundw
                    case rel => exact ⟨t + 1, by omega, by go_num, F9.out⟩
                    case measure => simp [intOf]; omega
                · obtain rfl : t = k + 1 := by omega
                  have hlen := (BELz.out.tree.below0).1
                  have hBl := Below_go BELz.out.rep BELz.out.tree.ok (xat 100 0 : Nat)
                  rw [T4.out] at hBl hlen
                  have HLEN := hid hlen
                  clear hlen mpz
                  go_wp2_with (fail)
                  refine hBl.mono ?_
                  rintro e w9 ⟨v9, rfl, row9, f9⟩
                  obtain ⟨a9, c9, rfl, -⟩ := own_slice row9.own
                  rw [HLEN.out]
                  clear row9 hBl
                  go_wp2_with (fail)
                  go_ret
                  exact ⟨rfl, BELz.out.fr.trans f9 (fun _ h _ => h)⟩
end Go.Proofs.Ytbkebjgoaeddjaa
namespace Go.Proofs.Ytbkebjgoaeddjaa.clockBelow
open Go.ChangeShapes Go.WideShapes Go.ChangeAt Go.RowKit Go.VB Go.VB.Clk
set_option maxHeartbeats 400000 in
set_option maxRecDepth 100000 in
theorem lifted (os : Os) (started : os.Started) (H : Type) (enc : TypeId × Value → H) :
    ReturnsInHanded {} Try.checked os 4 .any (Rows.clockBelowSpec.pre6 enc Try.prog Try.f4 Rows.clockBelowRow.domain false) (Rows.clockBelowSpec.post enc Try.prog Try.f4 false true false false) := by
  refine returnsInHanded_of_change (C := Try.checked) own started (by kernel_rfl) Try.func4
    (ChangeSpec.witness6 (enc := enc) (C := Try.checked) false ⟨#[], #[.slice none 0 0, .slice none 0 0, .int .i64 0], []⟩ 8 (by kernel_rfl) (by kernel_rfl) (by kernel_rfl) (by kernel_rfl)) ?_
  intro W base args ds gs before hval0 hW hcnd _
  have hval : ∀ (j : Nat) t v, Try.f4.params[j]? = some t → args[j]? = some v → Value.okWide Try.prog W .any base t v := hval0
  have hW' := hW
  obtain ⟨p, q, hA0, hV, rfl, hfz, hnd⟩ := hW
  have hA : DataW.TrodAll enc Try.prog W 0 (fun _ => true) true Try.f4.params.toList args.toList ds p := hA0
  rw [Try.params4] at hA hval
  obtain ⟨v0, vs0, d0, ds0, p0, q0, hargs, rfl, rfl, h0, r0⟩ := trodAll_cons hA
  obtain ⟨v1, vs1, d1, ds1, p1, q1, rfl, rfl, rfl, h1, r1⟩ := trodAll_cons r0
  obtain ⟨v2, vs2, d2, ds2, p2, q2, rfl, rfl, rfl, h2, r2⟩ := trodAll_cons r1
  obtain ⟨rfl, rfl, rfl⟩ := trodAll_nil r2
  obtain rfl : args = #[v0, v1, v2] := by cases args; simp_all
  obtain ⟨rfl, rfl⟩ := trodVars_none hV
  clear hA0 hval0
  refine Calls.mono (R := fun e w' => e = .returned (.bool true) ∧ Fr (fun _ => False) W w') ?_ fun e W' ⟨he, hf⟩ => ⟨_, he, post_law sound (by decide +kernel) rfl rfl (ht := Try.underlying4) (by rfl) hW' hf⟩
  obtain ⟨A, sa, la, -⟩ := open_ins (hval 0 26 v0 rfl rfl) h0
  obtain ⟨B, sb, lb, -⟩ := open_ins (hval 1 26 v1 rfl rfl) h1
  obtain ⟨a2, rfl, -, -, w2⟩ := open_int Try.underlying3 (hval 2 3 v2 rfl rfl) h2
  exact ClockBelow_walk A B a2 W v0 v1 sa sb la lb
theorem proved : Rows.ClockBelowSaid :=
  OpenClaim.holds_of_wide 4 Try.f4 rfl rfl rfl rfl rfl rfl rfl ⟨rfl, rfl, rfl, rfl, rfl⟩ rfl rfl rfl rfl rfl (by kernel_rfl) Try.func4 (by kernel_rfl)
    (of_decide_eq_true (by kernel_rfl)) (by unfold Func.isWrapper; first | (rw [if_pos (by decide +kernel)]; kernel_rfl) | (rw [if_neg (by decide +kernel)]; exact ⟨rfl, rfl⟩))
    (fun os started H enc _ => lifted os started H enc)
end Go.Proofs.Ytbkebjgoaeddjaa.clockBelow
