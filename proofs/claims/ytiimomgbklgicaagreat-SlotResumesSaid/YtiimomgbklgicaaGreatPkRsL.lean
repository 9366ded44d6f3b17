import Derived.Deep.CutBlock
import Derived.Test.YtiimomgbklgicaaGreatPkRsK
set_option linter.unusedVariables false
namespace Go.VB.Cat
open Go.VB Go.VB.Oct Go.VB.Rec
def nms : List Bs := [[97], [98], [99], [100], [101], [102], [103], [116, 119, 101, 108, 118, 101, 95, 98, 121, 116, 101, 115], [116, 104, 105, 114, 116, 101, 101, 110, 95, 108, 111, 110, 103], []]
def tbs : List Bs := [[116], [117], [118], [119], [120], [121], [122], [112], [113], [114]]
def nm (k : Nat) : Bs := nms.getD k []
def tb (k : Nat) : Bs := tbs.getD k []
/-- a name as Made gives it -/
def GoodN (n : Bs) : Prop := n.length ≤ 13 ∧ n ≠ [126]
instance (n : Bs) : Decidable (GoodN n) := inferInstanceAs (Decidable (_ ∧ _))
theorem good_nil : GoodN [] := by decide
theorem good_nm (k : Nat) : GoodN (nm k) := by
  have h : ∀ n ∈ nms, GoodN n := by decide
  by_cases hk : k < nms.length
  · exact h _ (getD_mem hk)
  · unfold nm
    rw [List.getD_eq_getElem?_getD, List.getElem?_eq_none (by omega)]
    exact good_nil
theorem good_tb (k : Nat) : GoodN (tb k) := by
  have h : ∀ n ∈ tbs, GoodN n := by decide
  by_cases hk : k < tbs.length
  · exact h _ (getD_mem hk)
  · unfold tb
    rw [List.getD_eq_getElem?_getD, List.getElem?_eq_none (by omega)]
    exact good_nil
/-- a statement as Made gives it -/
structure GoodS (s : St) (root : Int) : Prop where
  kind : 1 ≤ s.kind ∧ s.kind ≤ 3
  table : GoodN s.table
  name : GoodN s.name
  join : GoodN s.join
  cols : s.cols.length ≤ 3
  names : s.names.length ≤ 3
  col : ∀ c ∈ s.cols, GoodN c.name
  nam : ∀ n ∈ s.names, GoodN n
  root : -1 ≤ root ∧ root ≤ 402
def mcells (s : St) (vc vn : Value) (root : Int) : List Value := [.int .i64 s.kind, .string (bs s.table), .string (bs s.name), vc, vn, .slice none 0 0, .slice none 0 0, .slice none 0 0, .string (bs s.join), .string ⟨#[]⟩, .string ⟨#[]⟩, .int .i64 0, .slice none 0 0, .int .i64 0, .int .i64 0, .int .i64 root]
def zSt : St := ⟨0, [], [], [], [], []⟩
def xcells (X : Nat → Nat) : List Value := (List.range 10).map fun i => .int .i64 (X i : Int)
theorem xcells_len (X : Nat → Nat) : (xcells X).length = 10 := by simp [xcells]
theorem xcells_at (X : Nat → Nat) {i : Nat} (h : i < 10) : (xcells X)[i]? = some (.int .i64 (X i : Int)) := by simp [xcells, h]
theorem modf (x : Nat) (n : Int) (hn : 0 < n) : ∃ k : Nat, (x : Int).tmod n = k ∧ (x : Int) % n = k ∧ (k : Int) < n :=
  ⟨((x : Int) % n).toNat, by rw [Int.tmod_eq_emod_of_nonneg (by omega), Int.toNat_of_nonneg (Int.emod_nonneg _ (by omega))], by rw [Int.toNat_of_nonneg (Int.emod_nonneg _ (by omega))], by rw [Int.toNat_of_nonneg (Int.emod_nonneg _ (by omega))]; exact Int.emod_lt_of_pos _ hn⟩
/-- the numbers that Made reads -/
def mdX (L : List Int) (i : Nat) : Nat := if i < 10 then ((L[i]?.map fun x => (x % 65536).toNat).getD 0) else 0
def mdCol (X : Nat → Nat) (i : Nat) : Col := ⟨nm ((X 3 + i * (1 + X 4 % 2)) % 8), ((1 + X (5 + i) % 2 : Nat) : Int)⟩
def mdNam (X : Nat → Nat) (i : Nat) : Bs := nm ((X 4 + i * (X 5 % 3)) % 8)
def mdS (X : Nat → Nat) : St × Int :=
  (if X 0 % 3 = 0 then ⟨1, tb (X 1 % 10), [], (List.range (1 + X 2 % 3)).map (mdCol X), [], []⟩
   else if X 0 % 3 = 1 then ⟨2, tb (X 1 % 10), nm (X 3 % 10), [], (List.range (1 + X 2 % 3)).map (mdNam X), []⟩
   else ⟨3, tb (X 1 % 10), nm (X 3 % 8), [], [], nm (X 4 % 10)⟩, ((X 9 % 403 : Nat) : Int) - 1)
theorem mdX_end {L : List Int} {X : Nat → Nat} {j : Nat} (h : ∀ i, X i = if i < j then mdX L i else 0) (hj : 10 ≤ j ∨ L.length ≤ j) : X = mdX L := by
  funext i
  rw [h]
  split
  · rfl
  · unfold mdX
    split
    · rw [List.getElem?_eq_none (by omega)]; rfl
    · rfl
end Go.VB.Cat
namespace Go.Proofs.YtiimomgbklgicaaGreat
open Go.RowKit Go.VB Go.VB.Oct Go.VB.Cat Go.VB.Rec
theorem size_call : (Tryz.prog.info? 92).map (·.size) = some 16 := by kernel_rfl
structure MS (w0 W : World) (X : Nat → Nat) (s : St) (vc vn : Value) (root : Int) : Prop where
  res : Blk W w0.heap.size (mcells zSt (.slice none 0 0) (.slice none 0 0) 0) 92
  bl : Blk W (w0.heap.size + 1) (xcells X) 3
  nb : Blk W (w0.heap.size + 2) (sv nms) 9
  tb : Blk W (w0.heap.size + 3) (sv tbs) 9
  cc : Blk W (w0.heap.size + 4) (mcells s vc vn root) 92
  c : Row 171 2 (w0.heap.size + 5) W vc s.cols.length (s.cols.flatMap Col.cells)
  n : Row 9 1 (w0.heap.size + 5) W vn s.names.length (sv s.names)
  fr : Fr (fun _ => False) w0 W
namespace MS
variable {w0 W W' wg : World} {X : Nat → Nat} {s : St} {vc vn v' : Value} {root : Int}
theorem at_ (h : MS w0 W X s vc vn root) {i : Nat} (hi : i < 10) : W.cell? ⟨w0.heap.size + 1, i, none⟩ = some (.int .i64 (X i : Int)) := by rw [h.bl.cell, xcells_at X hi]
theorem nm (h : MS w0 W X s vc vn root) {i : Nat} (hi : i < 10) : W.cell? ⟨w0.heap.size + 2, i, none⟩ = some (.string (bs (nm i))) := by rw [h.nb.cell]; exact sv_at (getD_at hi)
theorem tbl (h : MS w0 W X s vc vn root) {i : Nat} (hi : i < 10) : W.cell? ⟨w0.heap.size + 3, i, none⟩ = some (.string (bs (Cat.tb i))) := by rw [h.tb.cell]; exact sv_at (getD_at hi)
theorem size (h : MS w0 W X s vc vn root) : w0.heap.size + 5 ≤ W.heap.size := h.cc.lt
theorem fre (h : MS w0 W X s vc vn root) (f : Fr (fun _ => False) W W') : MS w0 W' X s vc vn root :=
  ⟨Blk.fr h.res f (fun h => h), Blk.fr h.bl f (fun h => h), Blk.fr h.nb f (fun h => h), Blk.fr h.tb f (fun h => h), Blk.fr h.cc f (fun h => h), h.c.fre f, h.n.fre f, h.fr.trans f (fun _ h _ => h)⟩
theorem put (h : MS w0 W X s vc vn root) (i : Nat) (u : Value) {s' : St} {vc' vn' : Value} (hs : (mcells s vc vn root).set i u = mcells s' vc' vn' root)
    (c : Row 171 2 (w0.heap.size + 5) W vc' s'.cols.length (s'.cols.flatMap Col.cells)) (n : Row 9 1 (w0.heap.size + 5) W vn' s'.names.length (sv s'.names)) :
    MS w0 (W.setCell ⟨w0.heap.size + 4, i, none⟩ u) X s' vc' vn' root := by
  have f := (Fr.refl (fun k => k = w0.heap.size + 4) W).setCell ⟨w0.heap.size + 4, i, none⟩ u (fun _ => rfl)
  have hq := h.cc.set i u
  rw [hs] at hq
  exact ⟨h.res.fr f (fun e => by omega), h.bl.fr f (fun e => by omega), h.nb.fr f (fun e => by omega), h.tb.fr f (fun e => by omega), hq, c.fr f (fun k hk e => by have := c.new k hk; omega), n.fr f (fun k hk e => by have := n.new k hk; omega), h.fr.trans f (fun k hk hl => by omega)⟩
theorem growC (h : MS w0 W X s vc vn root) {x : Col} (hg : App 171 2 (w0.heap.size + 5) W wg vc v' s.cols.length (s.cols.flatMap Col.cells) x.cells) :
    MS w0 (wg.setCell ⟨w0.heap.size + 4, 3, none⟩ v') X { s with cols := s.cols ++ [x] } v' vn root := by
  have n' := h.n.fr hg.fr (rows_ne h.n h.c (by decide))
  have hr : ∀ k, vc.ownBlock = some k → w0.heap.size + 5 ≤ k := h.c.new
  have f1 := hg.fr
  have fs := (Fr.refl (fun k => k = w0.heap.size + 4) wg).setCell ⟨w0.heap.size + 4, 3, none⟩ v' (fun _ => rfl)
  have cc := (h.cc.fr f1 (fun e => by have := hr _ e; omega)).set 3 v'
  have c' : Row 171 2 (w0.heap.size + 5) wg v' (s.cols ++ [x]).length ((s.cols ++ [x]).flatMap Col.cells) := hg.row.cast (by simp) (by simp)
  exact ⟨(h.res.fr f1 (fun e => by have := hr _ e; omega)).fr fs (fun e => by omega), (h.bl.fr f1 (fun e => by have := hr _ e; omega)).fr fs (fun e => by omega), (h.nb.fr f1 (fun e => by have := hr _ e; omega)).fr fs (fun e => by omega), (h.tb.fr f1 (fun e => by have := hr _ e; omega)).fr fs (fun e => by omega), cc,
    c'.fr fs (fun k hk e => by have := c'.new k hk; omega), n'.fr fs (fun k hk e => by have := n'.new k hk; omega), (h.fr.trans f1 (fun k hk hl => by have := hr _ hk; omega)).trans fs (fun k hk hl => by omega)⟩
theorem growN (h : MS w0 W X s vc vn root) {x : Bs} (hg : App 9 1 (w0.heap.size + 5) W wg vn v' s.names.length (sv s.names) [.string (bs x)]) :
    MS w0 (wg.setCell ⟨w0.heap.size + 4, 4, none⟩ v') X { s with names := s.names ++ [x] } vc v' root := by
  have c' := h.c.fr hg.fr (rows_ne h.c h.n (by decide))
  have hr : ∀ k, vn.ownBlock = some k → w0.heap.size + 5 ≤ k := h.n.new
  have f1 := hg.fr
  have fs := (Fr.refl (fun k => k = w0.heap.size + 4) wg).setCell ⟨w0.heap.size + 4, 4, none⟩ v' (fun _ => rfl)
  have cc := (h.cc.fr f1 (fun e => by have := hr _ e; omega)).set 4 v'
  have n' : Row 9 1 (w0.heap.size + 5) wg v' (s.names ++ [x]).length (sv (s.names ++ [x])) := hg.row.cast (by simp) (by simp [sv])
  exact ⟨(h.res.fr f1 (fun e => by have := hr _ e; omega)).fr fs (fun e => by omega), (h.bl.fr f1 (fun e => by have := hr _ e; omega)).fr fs (fun e => by omega), (h.nb.fr f1 (fun e => by have := hr _ e; omega)).fr fs (fun e => by omega), (h.tb.fr f1 (fun e => by have := hr _ e; omega)).fr fs (fun e => by omega), cc,
    c'.fr fs (fun k hk e => by have := c'.new k hk; omega), n'.fr fs (fun k hk e => by have := n'.new k hk; omega), (h.fr.trans f1 (fun k hk hl => by have := hr _ hk; omega)).trans fs (fun k hk hl => by omega)⟩
theorem far {U : Nat → Prop} (h : MS w0 W X s vc vn root) (f : Fr U W wg) (hU : ∀ k, U k → w0.heap.size + 5 ≤ k) : (∀ i, i < 10 → wg.cell? ⟨w0.heap.size + 1, i, none⟩ = some (.int .i64 (X i : Int))) ∧ (∀ i, i < 10 → wg.cell? ⟨w0.heap.size + 2, i, none⟩ = some (.string (bs (Cat.nm i)))) ∧ Blk wg (w0.heap.size + 4) (mcells s vc vn root) 92 :=
  ⟨fun i hi => cell_fr (h.at_ hi) f (fun e => by have := hU _ e; omega), fun i hi => cell_fr (h.nm hi) f (fun e => by have := hU _ e; omega), h.cc.fr f (fun e => by have := hU _ e; omega)⟩
theorem start {w1 : World} (hb : Blk W w0.heap.size (mcells zSt (.slice none 0 0) (.slice none 0 0) 0) 92) (hl : Blk W (w0.heap.size + 1) (xcells X) 3) (fr : Fr (fun _ => False) w0 W) (hz : W.heap.size = w0.heap.size + 2) (hw : w1 = ((W.alloc (.cells (sv nms).toArray 9)).alloc (.cells (sv tbs).toArray 9)).alloc (.cells (mcells zSt (.slice none 0 0) (.slice none 0 0) root).toArray 92)) :
    MS w0 w1 X zSt (.slice none 0 0) (.slice none 0 0) root := by
  subst hw
  have b2 := Blk.new W (sv nms) 9
  have b3 := Blk.new (W.alloc (.cells (sv nms).toArray 9)) (sv tbs) 9
  have b4 := Blk.new ((W.alloc (.cells (sv nms).toArray 9)).alloc (.cells (sv tbs).toArray 9)) (mcells zSt (.slice none 0 0) (.slice none 0 0) root) 92
  rw [World.size_alloc] at b3
  rw [World.size_alloc, World.size_alloc] at b4
  rw [hz] at b2 b3 b4
  exact ⟨((hb.alloc _).alloc _).alloc _, ((hl.alloc _).alloc _).alloc _, (b2.alloc _).alloc _, b3.alloc _, b4, Row.nil, Row.nil, ((fr.alloc _).alloc _).alloc _⟩
theorem fin (h : MS w0 W X s vc vn root) : Blk (W.setCells w0.heap.size 0 (mcells s vc vn root)) w0.heap.size (mcells s vc vn root) 92 ∧ Row 171 2 w0.heap.size (W.setCells w0.heap.size 0 (mcells s vc vn root)) vc s.cols.length (s.cols.flatMap Col.cells) ∧ Row 9 1 w0.heap.size (W.setCells w0.heap.size 0 (mcells s vc vn root)) vn s.names.length (sv s.names) ∧ Fr (fun _ => False) w0 (W.setCells w0.heap.size 0 (mcells s vc vn root)) := by
  have f := (Fr.refl (fun k => k = w0.heap.size) W).put w0.heap.size 0 (mcells s vc vn root) (fun _ => rfl)
  have b := h.res.put 0 (mcells s vc vn root) (by simp [mcells])
  exact ⟨b, (h.c.fr f (fun k hk e => by have := h.c.new k hk; omega)).low (by omega), (h.n.fr f (fun k hk e => by have := h.n.new k hk; omega)).low (by omega), h.fr.trans f (fun k hk hl => by omega)⟩
end MS
set_option maxRecDepth 20000 in
set_option maxHeartbeats 20000000 in
theorem Made_go {P : Nat → Prop} {w0 : World} {va : Value} {L : List Int} (h : Sl P w0 va L.length (L.flatMap icell)) (hl : L.length ≤ 9223372036854775807) :
    Calls Tryz.prog 39 #[va] w0 fun e w' => ∃ (s : St) (vc vn : Value) (root : Int), e = .returned (.agg (mcells s vc vn root).toArray) ∧ GoodS s root ∧ (s, root) = mdS (mdX L) ∧ Row 171 2 w0.heap.size w' vc s.cols.length (s.cols.flatMap Col.cells) ∧ Row 9 1 w0.heap.size w' vn s.names.length (sv s.names) ∧ Fr (fun _ => False) w0 w' := by
  obtain ⟨a, c, rfl, hc, hx⟩ := h
  have HX := hid (show Sl P w0 (.slice a L.length c) L.length (L.flatMap icell) from ⟨a, c, rfl, hc, hx⟩)
  clear hx
  obtain ⟨Z, HZ, hk⟩ : ∃ Z, Hid (xcells (fun _ => 0) = Z) ∧ ∀ W : World, (Instr.makeSlice 22 (.int .i64 10) (.int .i64 10)).run Tryz.prog W = .ok (.slice (some ⟨W.heap.size, 0, none⟩) 10 10) (W.alloc (.cells Z.toArray 3)) :=
    ⟨_, hid rfl, fun W => run_make_rows W (t := 22) (z := [.int .i64 0]) Tryz.underlying22 info_int rfl rfl 10 (by omega) (by omega) (by omega)⟩
  have B0 := hid (Blk.new w0 (mcells zSt (.slice none 0 0) (.slice none 0 0) 0) 92)
  have F0 := hid ((Fr.refl (fun _ => False) w0).alloc (.cells (mcells zSt (.slice none 0 0) (.slice none 0 0) 0).toArray 92))
  have B1 := hid (B0.out.alloc (.cells Z.toArray 3))
  have F1 := hid (F0.out.alloc (.cells Z.toArray 3))
  have L1 : Hid (Blk ((w0.alloc (.cells (mcells zSt (.slice none 0 0) (.slice none 0 0) 0).toArray 92)).alloc (.cells Z.toArray 3)) (w0.heap.size + 1) (xcells (fun _ => 0)) 3) := by
    have := Blk.new (w0.alloc (.cells (mcells zSt (.slice none 0 0) (.slice none 0 0) 0).toArray 92)) Z 3
    rw [World.size_alloc] at this
    rw [HZ.out]
    exact hid this
  have S1 := hid (show ((w0.alloc (.cells (mcells zSt (.slice none 0 0) (.slice none 0 0) 0).toArray 92)).alloc (.cells Z.toArray 3)).heap.size = w0.heap.size + 2 from by rw [World.size_alloc, World.size_alloc])
  go_enter Tryz.func39, Tryz.ntmps39
  go_upto_block 0 with fail
  go_cut [4] (fun v4 wx => ∃ (X : Nat → Nat), X = mdX L ∧ (∀ i, X i < 65536) ∧ Blk wx w0.heap.size (mcells zSt (.slice none 0 0) (.slice none 0 0) 0) 92 ∧ Blk wx (w0.heap.size + 1) (xcells X) 3 ∧ wx.heap.size = w0.heap.size + 2 ∧ Fr (fun _ => False) w0 wx)
  case first =>
    go_wp2_with (fail)
    go_loopw [4] (fun i wr => ∃ (j : Nat) (X : Nat → Nat), j ≤ 10 ∧ i = .int .i64 j ∧ (∀ i, X i = if i < j then mdX L i else 0) ∧ (∀ i, X i < 65536) ∧ Blk wr w0.heap.size (mcells zSt (.slice none 0 0) (.slice none 0 0) 0) 92 ∧ Blk wr (w0.heap.size + 1) (xcells X) 3 ∧ wr.heap.size = w0.heap.size + 2 ∧ Fr (fun _ => False) w0 wr) (fun i _ => 10 - (intOf i).toNat)
    case atStart => exact ⟨0, fun _ => 0, by omega, rfl, fun i => (if_neg (Nat.not_lt_zero i)).symm, fun _ => by dsimp only; omega, B1.out, L1.out, S1.out, F1.out⟩
    case round =>
      obtain ⟨j, X, hj, rfl, hXE, hX, hb, hbl, hsz, fr⟩ := hrel
      have HXE := hid hXE
      clear hXE
      have HB := hid hb
      have HL := hid hbl
      have FR := hid fr
      have HXX := hid hX
      have HSZ := hid hsz
      clear hb hbl fr hX hsz B0 F0 B1 F1 L1 HZ hk S1
      have i1 : (0 : Int) ≤ (j : Int) := by omega
      by_cases hc12 : j < 10 ∧ j < L.length
      · obtain ⟨h12, hjL⟩ := hc12
        obtain ⟨g, o, rfl, hg, hcell⟩ := sl_cell1 (f := icell) (fun _ => rfl) (HX.out.fr FR.out (fun _ _ h => h)) (fun hn => by rw [hn] at hjL; simp at hjL)
        have hcj : wr.cell? ⟨g, o + j, none⟩ = some (.int .i64 L[j]) := hcell j hjL
        obtain ⟨x, hx, hx2, hx3⟩ := and_16 L[j]
        have HMX := hid (show mdX L j = x from by unfold mdX; rw [if_pos h12, List.getElem?_eq_getElem hjL]; show (L[j] % 65536).toNat = x; omega)
        clear hx3
        have i2 : (j : Int) < L.length := by omega
        have i3 : (j : Int) < 10 := by omega
        have cj : wr.cell? ⟨w0.heap.size + 1, j, none⟩ = some (.int .i64 (X j : Int)) := by rw [HL.out.cell, xcells_at X h12]
        have zj := HL.out.frozen j
        clear hcell
        go_wp2_with (fail)
        go_roundw
        case rel =>
          have fs := FR.out.setCell ⟨w0.heap.size + 1, j, none⟩ (.int .i64 (x : Int)) (fun hlt => by have : w0.heap.size + 1 < w0.heap.size := hlt; omega)
          refine ⟨j + 1, fun i => if i = j then x else X i, by omega, by simp, fun i => by
            dsimp only
            by_cases hij : i = j
            · subst hij; rw [if_pos rfl, if_pos (by omega), HMX.out]
            · rw [if_neg hij, HXE.out i]
              by_cases h : i < j
              · rw [if_pos h, if_pos (by omega)]
              · rw [if_neg h, if_neg (by omega)], fun i => by dsimp only; split; exact hx2; exact HXX.out i, HB.out.set_ne _ _ (fun e => by simp at e), ?_, by rw [World.size_setCell]; exact HSZ.out, fs⟩
          have hs := HL.out.set j (.int .i64 (x : Int))
          have e : (xcells X).set j (.int .i64 (x : Int)) = xcells (fun i => if i = j then x else X i) := by
            apply List.ext_getElem?
            intro i
            rw [List.getElem?_set]
            by_cases hij : j = i
            · subst hij
              rw [if_pos rfl, if_pos (by rw [xcells_len]; exact h12), xcells_at _ h12, if_pos rfl]
            · rw [if_neg hij]
              by_cases h : i < 10
              · rw [xcells_at _ h, xcells_at _ h, if_neg (fun e => hij e.symm)]
              · rw [List.getElem?_eq_none (by rw [xcells_len]; omega), List.getElem?_eq_none (by rw [xcells_len]; omega)]
          rw [← e]
          exact hs
        case measure => simp [intOf]; omega
      · have hor : (10 : Int) ≤ (j : Int) ∨ (L.length : Int) ≤ (j : Int) := by omega
        have HEN := hid (mdX_end HXE.out (by omega : 10 ≤ j ∨ L.length ≤ j))
        rcases hor with h12 | h12
        all_goals
          go_wp2_with (fail)
          all_goals (go_meet; exact ⟨X, HEN.out, HXX.out, HB.out, HL.out, HSZ.out, FR.out⟩)
  case rest =>
  obtain ⟨X, hXE, hX, hb, hbl, hsz, fr⟩ := hcut
  have HXE := hid hXE
  clear hXE
  have HXX := hid hX
  have HB := hid hb
  have HL := hid hbl
  have FR := hid fr
  have HSZ := hid hsz
  clear hX hb hbl fr hsz B0 F0 B1 F1 L1 HZ hk HX S1
  obtain ⟨k9, a9, b9, h9⟩ := modf (X 9) 403 (by omega)
  have HK9 := hid (show X 9 % 403 = k9 from by omega)
  have i9 : IntKind.i64.wrap ((k9 : Int) - 1) = (k9 : Int) - 1 := IntWalk.i64_in _ (by omega)
  go_upto_region 8 with fail
  rw [show wc.heap.size + 1 = w0.heap.size + 3 from by rw [HSZ.out], HSZ.out]
  generalize hWT : (wc.alloc _).alloc _ = WT
  have HST := hid (fun root => (MS.start HB.out HL.out FR.out HSZ.out (show WT.alloc (.cells (mcells zSt (.slice none 0 0) (.slice none 0 0) root).toArray 92) = _ by rw [← hWT]; rfl) : MS w0 (WT.alloc (.cells (mcells zSt (.slice none 0 0) (.slice none 0 0) root).toArray 92)) X zSt (.slice none 0 0) (.slice none 0 0) root))
  have HZ4 := hid (show WT.heap.size = w0.heap.size + 4 from by rw [← hWT, World.size_alloc, World.size_alloc, HSZ.out])
  have r9 : WT.cell? ⟨w0.heap.size + 1, 9, none⟩ = some (.int .i64 (X 9 : Int)) := by rw [← hWT, ((HL.out.alloc _).alloc _).cell, xcells_at X (by omega)]
  clear hWT
  go_upto_region 9 with fail
  rw [HZ4.out]
  generalize hW9 : WT.alloc _ = W9
  replace HST := hid (show MS w0 W9 X zSt (.slice none 0 0) (.slice none 0 0) ((k9 : Int) - 1) from by rw [← hW9]; exact HST.out _)
  clear hW9 HZ4
  obtain ⟨k0, a0, b0, h0⟩ := modf (X 0) 3 (by omega)
  obtain ⟨k1, a1, b1, h1⟩ := modf (X 1) 10 (by omega)
  obtain ⟨k2, a2, b2, h2⟩ := modf (X 2) 3 (by omega)
  obtain ⟨κ, hκe, hκ, hκ0⟩ : ∃ κ : Int, IntKind.i64.wrap (1 + (k0 : Int)) = κ ∧ (κ = 1 ∨ κ = 2 ∨ κ = 3) ∧ κ = 1 + (k0 : Int) := ⟨1 + (k0 : Int), IntWalk.i64_in _ (by omega), by omega, rfl⟩
  obtain ⟨n, hn, hn3, hn4⟩ : ∃ n : Nat, IntKind.i64.wrap (1 + (k2 : Int)) = (n : Int) ∧ (1 ≤ n ∧ n ≤ 3) ∧ n = 1 + k2 := ⟨1 + k2, by rw [IntWalk.i64_in _ (by omega)]; omega, ⟨by omega, by omega⟩, rfl⟩
  obtain ⟨root, hroot⟩ : ∃ root : Int, root = (k9 : Int) - 1 := ⟨_, rfl⟩
  have HK0 := hid (show X 0 % 3 = k0 ∧ κ = 1 + (k0 : Int) from ⟨by omega, hκ0⟩)
  have HK1 := hid (show X 1 % 10 = k1 from by omega)
  have HK2 := hid (show 1 + X 2 % 3 = n from by omega)
  have HRO := hid (show ((X 9 % 403 : Nat) : Int) - 1 = root from by rw [HK9.out]; exact hroot.symm)
  clear hκ0 hn4 HK9
  have HRT := hid (show -1 ≤ root ∧ root ≤ 402 from by omega)
  have HKAP := hid hκ
  rw [← hroot] at HST
  clear hroot a9 b9 h9 i9 r9 hκ
  have r0 := HST.out.at_ (i := 0) (by omega)
  have z0 : W9.frozen? ⟨w0.heap.size + 4, 0, none⟩ = false := HST.out.cc.frozen 0
  have y0 : W9.cell? ⟨w0.heap.size + 4, 0, none⟩ = some (.int .i64 0) := HST.out.cc.cell 0
  replace HST := hid (HST.out.put 0 (.int .i64 κ) (s' := ⟨κ, [], [], [], [], []⟩) rfl HST.out.c HST.out.n)
  go_upto_region 10 with fail
  generalize W9.setCell _ _ = W10 at *
  clear r0 z0 y0 hκe a0 b0 h0
  have r1 := HST.out.at_ (i := 1) (by omega)
  have t1 := HST.out.tbl (i := k1) (by omega)
  have i1 : (k1 : Int) < 10 := by omega
  have i2 : (0 : Int) ≤ (k1 : Int) := by omega
  have z0 : W10.frozen? ⟨w0.heap.size + 4, 1, none⟩ = false := HST.out.cc.frozen 1
  have y0 : W10.cell? ⟨w0.heap.size + 4, 1, none⟩ = some (.string (bs [])) := HST.out.cc.cell 1
  replace HST := hid (HST.out.put 1 (.string (bs (Cat.tb k1))) (s' := ⟨κ, Cat.tb k1, [], [], [], []⟩) rfl HST.out.c HST.out.n)
  have HGT := hid (good_tb k1)
  obtain ⟨t, ht⟩ : ∃ t, Cat.tb k1 = t := ⟨_, rfl⟩
  rw [ht] at t1 HST HGT
  have HTE := hid (show Cat.tb (X 1 % 10) = t from by rw [HK1.out]; exact ht)
  clear ht HK1
  go_upto_region 11 with fail
  generalize W10.setCell _ _ = W11 at *
  clear r1 t1 z0 y0 i1 i2 a1 b1 h1
  have r2 := HST.out.at_ (i := 2) (by omega)
  have y0 : W11.cell? ⟨w0.heap.size + 4, 0, none⟩ = some (.int .i64 κ) := HST.out.cc.cell 0
  go_upto_region 13 with fail
  clear r2 a2 b2 h2 hn y0
  have hκ := HKAP.out
  rcases hκ with rfl | rfl | rfl
  · have HMD := hid (fun (l : List Col) (hl : l = (List.range n).map (mdCol X)) => show (((⟨1, t, [], l, [], []⟩ : St)), root) = mdS (mdX L) from by
      have h0 : X 0 % 3 = 0 := by have := HK0.out; omega
      rw [← HXE.out]
      unfold mdS
      rw [if_pos h0, HTE.out, HK2.out, HRO.out, hl])
    go_wp2_with (fail)
    go_loopw [9] (fun s9 wr => ∃ (j : Nat) (cols : List Col) (ac : Option Addr) (cc : Nat), j ≤ n ∧ s9 = .int .i64 j ∧ cols.length = j ∧ cols = (List.range j).map (mdCol X) ∧ (∀ c ∈ cols, GoodN c.name) ∧ MS w0 wr X ⟨1, t, [], cols, [], []⟩ (.slice ac j cc) (.slice none 0 0) root) (fun s9 _ => n - (intOf s9).toNat)
    case atStart => exact ⟨0, [], none, 0, by omega, rfl, rfl, rfl, by simp, HST.out⟩
    case round =>
      obtain ⟨j, cols, ac, cc, hj, rfl, rfl, hce, hg, hS⟩ := hrel
      have HCE := hid hce
      clear hce
      replace HST := hid hS
      have HG := hid hg
      clear hS hg
      by_cases hjn : cols.length < n
      · obtain ⟨k4, a4, b4, h4⟩ := modf (X 4) 2 (by omega)
        obtain ⟨q, hq, hq2, hq3⟩ : ∃ q : Nat, IntKind.i64.wrap (1 + (k4 : Int)) = (q : Int) ∧ q ≤ 2 ∧ q = 1 + k4 := ⟨1 + k4, by rw [IntWalk.i64_in _ (by omega)]; omega, by omega, rfl⟩
        have hp4 : cols.length * q ≤ 4 := Nat.le_trans (Nat.mul_le_mul (show cols.length ≤ 2 by omega) hq2) (by decide)
        obtain ⟨p, hp⟩ : ∃ p : Nat, cols.length * q = p := ⟨_, rfl⟩
        have hpw : IntKind.i64.wrap ((cols.length : Int) * (q : Int)) = (p : Int) := by rw [← Int.natCast_mul, hp, IntWalk.i64_in _ (by omega)]
        have hx3 := HXX.out 3
        obtain ⟨y, hy⟩ : ∃ y : Nat, X 3 + p = y := ⟨_, rfl⟩
        have hyw : IntKind.i64.wrap ((X 3 : Int) + (p : Int)) = (y : Int) := by rw [IntWalk.i64_in _ (by omega)]; omega
        obtain ⟨k8, a8, b8, h8⟩ := modf y 8 (by omega)
        obtain ⟨z, hz, hz10, hz3⟩ : ∃ z : Nat, IntKind.i64.wrap (5 + (cols.length : Int)) = (z : Int) ∧ z < 10 ∧ z = 5 + cols.length := ⟨5 + cols.length, by rw [IntWalk.i64_in _ (by omega)]; omega, by omega, rfl⟩
        obtain ⟨ke, ae, be, he⟩ := modf (X z) 2 (by omega)
        obtain ⟨kd, hkd, hkd2, hkd3⟩ : ∃ q : Int, IntKind.i64.wrap (1 + (ke : Int)) = q ∧ (q = 1 ∨ q = 2) ∧ q = 1 + (ke : Int) := ⟨1 + ke, IntWalk.i64_in _ (by omega), by omega, rfl⟩
        have HCOL := hid (show mdCol X cols.length = ⟨nm k8, kd⟩ from by
          unfold mdCol
          rw [show 1 + X 4 % 2 = q from by omega, hp, hy, show y % 8 = k8 from by omega, ← hz3, show ((1 + X z % 2 : Nat) : Int) = kd from by omega])
        clear hq3 hz3 hkd3
        have i1 : (cols.length : Int) < (n : Int) := by omega
        have i2 : (0 : Int) ≤ (k8 : Int) := by omega
        have i3 : (k8 : Int) < 10 := by omega
        have i4 : (0 : Int) ≤ (z : Int) := by omega
        have i5 : (z : Int) < 10 := by omega
        have i6 : IntKind.i64.wrap ((cols.length : Int) + 1) = (cols.length : Int) + 1 := IntWalk.i64_in _ (by omega)
        have HNL := hid (show cols.length ≤ 2 by omega)
        clear hp hy hp4 b4 b8 be hx3
        go_upto_region 17 with fail
        replace HST := hid (HST.out.fre ((Fr.refl (fun _ => False) _).drew))
        refine wp_region_scr (.take 0 (.take 1 (.take 2 (.take 3 (.take 4 (.take 5 (.take 6 (.take 7 (.take 8 (.take 9 (.take 10 (.take 11 (.take 12 (.take 13 (.take 14 (.take 15 (.take 16 (.take 17 (.take 18 (.take 19 (.take 20 (.take 21 (.take 22 (.take 23 (.take 24 (.op 25 (.op 26 (.op 27 (.take 28 (.take 29 (.op 30 .done))))))))))))))))))))))))))))))) (fun kz w => (kz ≤ 30 → (w.cell? ⟨w0.heap.size + 1, 3, none⟩ = some (.int .i64 (X 3 : Int)) ∧ w.cell? ⟨w0.heap.size + 1, 4, none⟩ = some (.int .i64 (X 4 : Int)) ∧ w.cell? ⟨w0.heap.size + 1, z, none⟩ = some (.int .i64 (X z : Int)) ∧ w.cell? ⟨w0.heap.size + 2, k8, none⟩ = some (.string (bs (nm k8))) ∧ w.cell? ⟨w0.heap.size + 4, 3, none⟩ = some (.slice ac cols.length cc))) ∧ Hid True) (by kernel_rfl) (by kernel_rfl) (by intro c a d v w h; cases d <;> exact h) ?_
        repeat
          first
          | (refine wpT_pure rfl rfl rfl ?_; apply Exists.intro; refine ⟨?_, ?_⟩; intro w; (first | (first | (go_simp; done) | (obtain ⟨q1, q2, q3, q4, q5⟩ := qa; go_simp <;> rfl)) | (go_simp <;> rfl)); simp only [Act.put, List.setIfInBounds_toArray, List.set_cons_zero, List.set_cons_succ])
          | (refine wpT_take 30 rfl rfl (by decide +kernel) ⟨fun _ => ⟨HST.out.at_ (by omega), HST.out.at_ (by omega), HST.out.at_ (by omega), HST.out.nm (by omega), HST.out.cc.cell 3⟩, hid trivial⟩ ?_; apply Exists.intro; refine ⟨?_, ?_⟩; intro w hw; (have qa := hw.1 (Nat.le_refl _); have qb := hw.2); (first | (first | (go_simp; done) | (obtain ⟨q1, q2, q3, q4, q5⟩ := qa; go_simp <;> rfl)) | (go_simp <;> rfl)); simp only [Act.put, List.setIfInBounds_toArray, List.set_cons_zero, List.set_cons_succ])
          | (refine wpT_skip rfl rfl ?_; simp only [Act.put, List.setIfInBounds_toArray, List.set_cons_zero, List.set_cons_succ])
        generalize World.drew _ = WA at *
        have HSZ := hid HST.out.size
        refine wpT_op rfl ?_
        go_wp2_with (fail)
        (refine ⟨?_, ?_⟩; focus (intro kz hk hk2 hh; first | (exfalso; simp at hk2; omega) | exact hh | exact (fun h => absurd h (by omega)) | obtain ⟨qa, qb⟩ := hh; first | exact ⟨qa, qb⟩ | (refine ⟨fun h => absurd h (by omega), ?_⟩; first | exact qb | (exact qa)) | (refine ⟨fun h => ?_, ?_⟩; (have qa := qa h); all_goals (first | exact qa | exact qb | (exact qa)))))
        have HFB := hid (fun o => HST.out.far ((Fr.refl (fun _ => False) WA).alloc o) (fun _ h => h.elim))
        refine wpT_op rfl ?_
        go_wp2_with (fail)
        (refine ⟨?_, ?_⟩; focus (intro kz hk hk2 hh; first | (exfalso; simp at hk2; omega) | exact hh | exact (fun h => absurd h (by omega)) | obtain ⟨qa, qb⟩ := hh; first | exact ⟨qa, qb⟩ | (refine ⟨fun h => absurd h (by omega), ?_⟩; first | exact qb | (exact ⟨(HFB.out _).1 _ (by omega), (HFB.out _).1 _ (by omega), (HFB.out _).1 _ (by omega), (HFB.out _).2.1 _ (by omega), (HFB.out _).2.2.cell 3⟩)) | (refine ⟨fun h => ?_, ?_⟩; (have qa := qa h); all_goals (first | exact qa | exact qb | (exact ⟨(HFB.out _).1 _ (by omega), (HFB.out _).1 _ (by omega), (HFB.out _).1 _ (by omega), (HFB.out _).2.1 _ (by omega), (HFB.out _).2.2.cell 3⟩)))))
        refine wpT_op rfl ?_
        go_wp2_with ((at_builtin; refine wpList_app1 rfl (s := .tmp 71) (x := .tmp 95) (t := 86) rfl Tryz.underlying86 info_col rfl rfl rfl HST.out.c HSZ.out rfl (by simp [Value.oneCell']) (by have := HNL.out; dsimp only; omega) (by have := HNL.out; dsimp only; omega) ?_; intro ab ac7 wg APP; have HFC := hid (HST.out.far APP.fr HST.out.c.new); have HGR := hid (HST.out.growC (x := ⟨nm k8, kd⟩) APP); clear APP))
        (refine ⟨?_, ?_⟩; focus (intro kz hk hk2 hh; first | (exfalso; simp at hk2; omega) | exact hh | exact (fun h => absurd h (by omega)) | obtain ⟨qa, qb⟩ := hh; first | exact ⟨qa, qb⟩ | (refine ⟨fun h => absurd h (by omega), ?_⟩; first | exact qb | (exact ⟨HFC.out.1 _ (by omega), HFC.out.1 _ (by omega), HFC.out.1 _ (by omega), HFC.out.2.1 _ (by omega), HFC.out.2.2.cell 3⟩)) | (refine ⟨fun h => ?_, ?_⟩; (have qa := qa h); all_goals (first | exact qa | exact qb | (exact ⟨HFC.out.1 _ (by omega), HFC.out.1 _ (by omega), HFC.out.1 _ (by omega), HFC.out.2.1 _ (by omega), HFC.out.2.2.cell 3⟩)))))
        repeat
          first
          | (refine wpT_pure rfl rfl rfl ?_; apply Exists.intro; refine ⟨?_, ?_⟩; intro w; ((go_simp <;> rfl)); simp only [Act.put, List.setIfInBounds_toArray, List.set_cons_zero, List.set_cons_succ])
          | (refine wpT_take 30 rfl rfl (by decide +kernel) ⟨fun _ => ⟨HFC.out.1 _ (by omega), HFC.out.1 _ (by omega), HFC.out.1 _ (by omega), HFC.out.2.1 _ (by omega), HFC.out.2.2.cell 3⟩, hid trivial⟩ ?_; apply Exists.intro; refine ⟨?_, ?_⟩; intro w hw; (have qa := hw.1 (Nat.le_refl _); have qb := hw.2); ((go_simp <;> rfl)); simp only [Act.put, List.setIfInBounds_toArray, List.set_cons_zero, List.set_cons_succ])
          | (refine wpT_skip rfl rfl ?_; simp only [Act.put, List.setIfInBounds_toArray, List.set_cons_zero, List.set_cons_succ])
        have k5 : wg.cell? ⟨w0.heap.size + 4, 3, none⟩ = some (.slice ac cols.length cc) := HFC.out.2.2.cell 3
        have z5 : wg.frozen? ⟨w0.heap.size + 4, 3, none⟩ = false := HFC.out.2.2.frozen 3
        refine wpT_op rfl ?_
        go_wp2_with (fail)
        (refine ⟨?_, ?_⟩; focus (intro kz hk hk2 hh; first | (exfalso; simp at hk2; omega) | exact hh | exact (fun h => absurd h (by omega)) | obtain ⟨qa, qb⟩ := hh; first | exact ⟨qa, qb⟩ | (refine ⟨fun h => absurd h (by omega), ?_⟩; first | exact qb | (exact hid trivial)) | (refine ⟨fun h => ?_, ?_⟩; (have qa := qa h); all_goals (first | exact qa | exact qb | (exact hid trivial)))))
        refine wpT_nil ?_
        clear k5 z5 HFB HFC HST hq hpw hyw hz hkd a4 a8 ae
        go_wp2_with (fail)
        go_roundw
        case rel => exact ⟨cols.length + 1, cols ++ [⟨nm k8, kd⟩], ab, ac7, by omega, by simp, by simp, by rw [List.range_succ, List.map_append, List.map_singleton, HCOL.out, ← HCE.out], fun c hc => (List.mem_append.1 hc).elim (HG.out c) (fun h => by obtain rfl := List.mem_singleton.1 h; exact good_nm k8), HGR.out⟩
        case measure => simp [intOf]; omega
      · obtain rfl : cols.length = n := by omega
        have HFI := hid HST.out.fin
        have HTH := hid (HST.out.res.there 0 16 (by simp [mcells]))
        have HCC := hid (Blk.all _ HST.out.cc)
        go_wp2_with (first
          | (refine wpList_load_mid rfl 92 (.tmp 7) rfl _ 0 rfl _ _ HCC.out Tryz.underlying92 rfl size_call ?_)
          | (refine wpList_store_mid rfl 92 (.tmp 2) (.tmp 156) rfl w0.heap.size 0 (mcells ⟨1, t, [], cols, [], []⟩ (.slice ac cols.length cc) (.slice none 0 0) root).toArray rfl rfl HTH.out size_call (by simp [Value.oneCell', mcells]) ?_; rw [List.toList_toArray]))
        refine bodyPost_ret (v := .agg (mcells ⟨1, t, [], cols, [], []⟩ (.slice ac cols.length cc) (.slice none 0 0) root).toArray) (results_cell_mid (b := w0.heap.size) (o := 0) rfl _ _ rfl (cs := mcells ⟨1, t, [], cols, [], []⟩ (.slice ac cols.length cc) (.slice none 0 0) root) (Blk.all _ HFI.out.1) Tryz.underlying92 rfl size_call) rfl ?_
        exact ⟨⟨1, t, [], cols, [], []⟩, _, _, root, rfl, ⟨⟨by dsimp only; omega, by dsimp only; omega⟩, HGT.out, good_nil, good_nil, by dsimp only; omega, by dsimp only [List.length_nil]; omega, HG.out, by simp, HRT.out⟩, HMD.out cols HCE.out, HFI.out.2.1, HFI.out.2.2.1, HFI.out.2.2.2⟩
  · obtain ⟨k3, a3, b3, h3⟩ := modf (X 3) 10 (by omega)
    have HMD := hid (fun (nn : Bs) (l : List Bs) (hn : nm k3 = nn) (hl : l = (List.range n).map (mdNam X)) => show (((⟨2, t, nn, [], l, []⟩ : St)), root) = mdS (mdX L) from by
      have h0 : X 0 % 3 = 1 := by have := HK0.out; omega
      have h3 : X 3 % 10 = k3 := by omega
      rw [← HXE.out]
      unfold mdS
      rw [if_neg (by omega), if_pos h0, HTE.out, HK2.out, HRO.out, h3, hn, hl])
    have r3 := HST.out.at_ (i := 3) (by omega)
    have t3 := HST.out.nm (i := k3) (by omega)
    have i1 : (k3 : Int) < 10 := by omega
    have i2 : (0 : Int) ≤ (k3 : Int) := by omega
    have z0 : W11.frozen? ⟨w0.heap.size + 4, 2, none⟩ = false := HST.out.cc.frozen 2
    have y0 : W11.cell? ⟨w0.heap.size + 4, 2, none⟩ = some (.string (bs [])) := HST.out.cc.cell 2
    replace HST := hid (HST.out.put 2 (.string (bs (nm k3))) (s' := ⟨2, t, nm k3, [], [], []⟩) rfl HST.out.c HST.out.n)
    have HGN := hid (good_nm k3)
    obtain ⟨nn, hnn⟩ : ∃ nn, nm k3 = nn := ⟨_, rfl⟩
    rw [hnn] at t3 HST HGN
    replace HMD := hid (fun (l : List Bs) => HMD.out nn l hnn)
    clear hnn
    go_upto_region 20 with fail
    generalize W11.setCell _ _ = W12 at *
    clear r3 t3 z0 y0 i1 i2 a3 b3 h3
    go_wp2_with (fail)
    go_loopw [10] (fun s10 wr => ∃ (j : Nat) (names : List Bs) (ac : Option Addr) (cc : Nat), j ≤ n ∧ s10 = .int .i64 j ∧ names.length = j ∧ names = (List.range j).map (mdNam X) ∧ (∀ x ∈ names, GoodN x) ∧ MS w0 wr X ⟨2, t, nn, [], names, []⟩ (.slice none 0 0) (.slice ac j cc) root) (fun s10 _ => n - (intOf s10).toNat)
    case atStart => exact ⟨0, [], none, 0, by omega, rfl, rfl, rfl, by simp, HST.out⟩
    case round =>
      obtain ⟨j, names, ac, cc, hj, rfl, rfl, hce, hg, hS⟩ := hrel
      have HCE := hid hce
      clear hce
      replace HST := hid hS
      have HG := hid hg
      clear hS hg
      by_cases hjn : names.length < n
      · obtain ⟨q, a4, b4, h4⟩ := modf (X 5) 3 (by omega)
        have hp4 : names.length * q ≤ 4 := Nat.le_trans (Nat.mul_le_mul (show names.length ≤ 2 by omega) (show q ≤ 2 by omega)) (by decide)
        obtain ⟨p, hp⟩ : ∃ p : Nat, names.length * q = p := ⟨_, rfl⟩
        have hpw : IntKind.i64.wrap ((names.length : Int) * (q : Int)) = (p : Int) := by rw [← Int.natCast_mul, hp, IntWalk.i64_in _ (by omega)]
        have hx3 := HXX.out 4
        obtain ⟨y, hy⟩ : ∃ y : Nat, X 4 + p = y := ⟨_, rfl⟩
        have hyw : IntKind.i64.wrap ((X 4 : Int) + (p : Int)) = (y : Int) := by rw [IntWalk.i64_in _ (by omega)]; omega
        obtain ⟨k8, a8, b8, h8⟩ := modf y 8 (by omega)
        have HCOL := hid (show mdNam X names.length = nm k8 from by
          unfold mdNam
          rw [show X 5 % 3 = q from by omega, hp, hy, show y % 8 = k8 from by omega])
        have i1 : (names.length : Int) < (n : Int) := by omega
        have i2 : (0 : Int) ≤ (k8 : Int) := by omega
        have i3 : (k8 : Int) < 10 := by omega
        have i6 : IntKind.i64.wrap ((names.length : Int) + 1) = (names.length : Int) + 1 := IntWalk.i64_in _ (by omega)
        have HNL := hid (show names.length ≤ 2 by omega)
        clear hp hy hp4 b4 b8 hx3
        go_upto_region 23 with fail
        replace HST := hid (HST.out.fre ((Fr.refl (fun _ => False) _).drew))
        refine wp_region_scr (.take 0 (.take 1 (.take 2 (.take 3 (.take 4 (.take 5 (.take 6 (.take 7 (.take 8 (.take 9 (.take 10 (.take 11 (.take 12 (.take 13 (.take 14 (.take 15 (.take 16 (.op 17 (.op 18 (.take 19 (.take 20 (.op 21 .done)))))))))))))))))))))) (fun kz w => (kz ≤ 21 → (w.cell? ⟨w0.heap.size + 1, 4, none⟩ = some (.int .i64 (X 4 : Int)) ∧ w.cell? ⟨w0.heap.size + 1, 5, none⟩ = some (.int .i64 (X 5 : Int)) ∧ w.cell? ⟨w0.heap.size + 2, k8, none⟩ = some (.string (bs (nm k8))) ∧ w.cell? ⟨w0.heap.size + 4, 4, none⟩ = some (.slice ac names.length cc))) ∧ Hid True) (by kernel_rfl) (by kernel_rfl) (by intro c a d v w h; cases d <;> exact h) ?_
        repeat
          first
          | (refine wpT_pure rfl rfl rfl ?_; apply Exists.intro; refine ⟨?_, ?_⟩; intro w; (first | (first | (go_simp; done) | (obtain ⟨q1, q2, q3, q4⟩ := qa; go_simp <;> rfl)) | (go_simp <;> rfl)); simp only [Act.put, List.setIfInBounds_toArray, List.set_cons_zero, List.set_cons_succ])
          | (refine wpT_take 21 rfl rfl (by decide +kernel) ⟨fun _ => ⟨HST.out.at_ (by omega), HST.out.at_ (by omega), HST.out.nm (by omega), HST.out.cc.cell 4⟩, hid trivial⟩ ?_; apply Exists.intro; refine ⟨?_, ?_⟩; intro w hw; (have qa := hw.1 (Nat.le_refl _); have qb := hw.2); (first | (first | (go_simp; done) | (obtain ⟨q1, q2, q3, q4⟩ := qa; go_simp <;> rfl)) | (go_simp <;> rfl)); simp only [Act.put, List.setIfInBounds_toArray, List.set_cons_zero, List.set_cons_succ])
          | (refine wpT_skip rfl rfl ?_; simp only [Act.put, List.setIfInBounds_toArray, List.set_cons_zero, List.set_cons_succ])
        generalize World.drew _ = WA at *
        have HSZ := hid HST.out.size
        have HFB := hid (fun o => HST.out.far ((Fr.refl (fun _ => False) WA).alloc o) (fun _ h => h.elim))
        refine wpT_op rfl ?_
        go_wp2_with (fail)
        (refine ⟨?_, ?_⟩; focus (intro kz hk hk2 hh; first | (exfalso; simp at hk2; omega) | exact hh | exact (fun h => absurd h (by omega)) | obtain ⟨qa, qb⟩ := hh; first | exact ⟨qa, qb⟩ | (refine ⟨fun h => absurd h (by omega), ?_⟩; first | exact qb | (exact ⟨(HFB.out _).1 _ (by omega), (HFB.out _).1 _ (by omega), (HFB.out _).2.1 _ (by omega), (HFB.out _).2.2.cell 4⟩)) | (refine ⟨fun h => ?_, ?_⟩; (have qa := qa h); all_goals (first | exact qa | exact qb | (exact ⟨(HFB.out _).1 _ (by omega), (HFB.out _).1 _ (by omega), (HFB.out _).2.1 _ (by omega), (HFB.out _).2.2.cell 4⟩)))))
        refine wpT_op rfl ?_
        go_wp2_with ((at_builtin; refine wpList_app1 rfl (s := .tmp 117) (x := .tmp 132) (t := 78) rfl Tryz.underlying78 info_str rfl rfl rfl HST.out.n HSZ.out rfl (by simp [Value.oneCell']) (by have := HNL.out; dsimp only; omega) (by have := HNL.out; dsimp only; omega) ?_; intro ab ac7 wg APP; have HFC := hid (HST.out.far APP.fr HST.out.n.new); have HGR := hid (HST.out.growN (x := nm k8) APP); clear APP))
        (refine ⟨?_, ?_⟩; focus (intro kz hk hk2 hh; first | (exfalso; simp at hk2; omega) | exact hh | exact (fun h => absurd h (by omega)) | obtain ⟨qa, qb⟩ := hh; first | exact ⟨qa, qb⟩ | (refine ⟨fun h => absurd h (by omega), ?_⟩; first | exact qb | (exact ⟨HFC.out.1 _ (by omega), HFC.out.1 _ (by omega), HFC.out.2.1 _ (by omega), HFC.out.2.2.cell 4⟩)) | (refine ⟨fun h => ?_, ?_⟩; (have qa := qa h); all_goals (first | exact qa | exact qb | (exact ⟨HFC.out.1 _ (by omega), HFC.out.1 _ (by omega), HFC.out.2.1 _ (by omega), HFC.out.2.2.cell 4⟩)))))
        repeat
          first
          | (refine wpT_pure rfl rfl rfl ?_; apply Exists.intro; refine ⟨?_, ?_⟩; intro w; ((go_simp <;> rfl)); simp only [Act.put, List.setIfInBounds_toArray, List.set_cons_zero, List.set_cons_succ])
          | (refine wpT_take 21 rfl rfl (by decide +kernel) ⟨fun _ => ⟨HFC.out.1 _ (by omega), HFC.out.1 _ (by omega), HFC.out.2.1 _ (by omega), HFC.out.2.2.cell 4⟩, hid trivial⟩ ?_; apply Exists.intro; refine ⟨?_, ?_⟩; intro w hw; (have qa := hw.1 (Nat.le_refl _); have qb := hw.2); ((go_simp <;> rfl)); simp only [Act.put, List.setIfInBounds_toArray, List.set_cons_zero, List.set_cons_succ])
          | (refine wpT_skip rfl rfl ?_; simp only [Act.put, List.setIfInBounds_toArray, List.set_cons_zero, List.set_cons_succ])
        have k5 : wg.cell? ⟨w0.heap.size + 4, 4, none⟩ = some (.slice ac names.length cc) := HFC.out.2.2.cell 4
        have z5 : wg.frozen? ⟨w0.heap.size + 4, 4, none⟩ = false := HFC.out.2.2.frozen 4
        refine wpT_op rfl ?_
        go_wp2_with (fail)
        (refine ⟨?_, ?_⟩; focus (intro kz hk hk2 hh; first | (exfalso; simp at hk2; omega) | exact hh | exact (fun h => absurd h (by omega)) | obtain ⟨qa, qb⟩ := hh; first | exact ⟨qa, qb⟩ | (refine ⟨fun h => absurd h (by omega), ?_⟩; first | exact qb | (exact hid trivial)) | (refine ⟨fun h => ?_, ?_⟩; (have qa := qa h); all_goals (first | exact qa | exact qb | (exact hid trivial)))))
        refine wpT_nil ?_
        clear k5 z5 HFB HFC HST hpw hyw a4 a8
        go_wp2_with (fail)
        go_roundw
        case rel => exact ⟨names.length + 1, names ++ [nm k8], ab, ac7, by omega, by simp, by simp, by rw [List.range_succ, List.map_append, List.map_singleton, HCOL.out, ← HCE.out], fun c hc => (List.mem_append.1 hc).elim (HG.out c) (fun h => by obtain rfl := List.mem_singleton.1 h; exact good_nm k8), HGR.out⟩
        case measure => simp [intOf]; omega
      · obtain rfl : names.length = n := by omega
        have HFI := hid HST.out.fin
        have HTH := hid (HST.out.res.there 0 16 (by simp [mcells]))
        have HCC := hid (Blk.all _ HST.out.cc)
        go_wp2_with (first
          | (refine wpList_load_mid rfl 92 (.tmp 7) rfl _ 0 rfl _ _ HCC.out Tryz.underlying92 rfl size_call ?_)
          | (refine wpList_store_mid rfl 92 (.tmp 2) (.tmp 156) rfl w0.heap.size 0 (mcells ⟨2, t, nn, [], names, []⟩ (.slice none 0 0) (.slice ac names.length cc) root).toArray rfl rfl HTH.out size_call (by simp [Value.oneCell', mcells]) ?_; rw [List.toList_toArray]))
        refine bodyPost_ret (v := .agg (mcells ⟨2, t, nn, [], names, []⟩ (.slice none 0 0) (.slice ac names.length cc) root).toArray) (results_cell_mid (b := w0.heap.size) (o := 0) rfl _ _ rfl (cs := mcells ⟨2, t, nn, [], names, []⟩ (.slice none 0 0) (.slice ac names.length cc) root) (Blk.all _ HFI.out.1) Tryz.underlying92 rfl size_call) rfl ?_
        exact ⟨⟨2, t, nn, [], names, []⟩, _, _, root, rfl, ⟨⟨by dsimp only; omega, by dsimp only; omega⟩, HGT.out, HGN.out, good_nil, by dsimp only [List.length_nil]; omega, by dsimp only; omega, by simp, HG.out, HRT.out⟩, HMD.out names HCE.out, HFI.out.2.1, HFI.out.2.2.1, HFI.out.2.2.2⟩
  · obtain ⟨k3, a3, b3, h3⟩ := modf (X 3) 8 (by omega)
    obtain ⟨k4, a4, b4, h4⟩ := modf (X 4) 10 (by omega)
    have HMD := hid (fun (nn jn : Bs) (hn : nm k3 = nn) (hj : nm k4 = jn) => show (((⟨3, t, nn, [], [], jn⟩ : St)), root) = mdS (mdX L) from by
      have h0 : X 0 % 3 = 2 := by have := HK0.out; omega
      have h3 : X 3 % 8 = k3 := by omega
      have h4 : X 4 % 10 = k4 := by omega
      rw [← HXE.out]
      unfold mdS
      rw [if_neg (by omega), if_neg (by omega), HTE.out, HRO.out, h3, h4, hn, hj])
    have r3 := HST.out.at_ (i := 3) (by omega)
    have t3 := HST.out.nm (i := k3) (by omega)
    have i1 : (k3 : Int) < 10 := by omega
    have i2 : (0 : Int) ≤ (k3 : Int) := by omega
    have z0 : W11.frozen? ⟨w0.heap.size + 4, 2, none⟩ = false := HST.out.cc.frozen 2
    have y0 : W11.cell? ⟨w0.heap.size + 4, 2, none⟩ = some (.string (bs [])) := HST.out.cc.cell 2
    replace HST := hid (HST.out.put 2 (.string (bs (nm k3))) (s' := ⟨3, t, nm k3, [], [], []⟩) rfl HST.out.c HST.out.n)
    have HGN := hid (good_nm k3)
    obtain ⟨nn, hnn⟩ : ∃ nn, nm k3 = nn := ⟨_, rfl⟩
    rw [hnn] at t3 HST HGN
    replace HMD := hid (fun (jn : Bs) => HMD.out nn jn hnn)
    clear hnn
    go_upto_region 26 with fail
    generalize W11.setCell _ _ = W12 at *
    clear r3 t3 z0 y0 i1 i2 a3 b3 h3
    have r3 := HST.out.at_ (i := 4) (by omega)
    have t3 := HST.out.nm (i := k4) (by omega)
    have i1 : (k4 : Int) < 10 := by omega
    have i2 : (0 : Int) ≤ (k4 : Int) := by omega
    have z0 : W12.frozen? ⟨w0.heap.size + 4, 8, none⟩ = false := HST.out.cc.frozen 8
    have y0 : W12.cell? ⟨w0.heap.size + 4, 8, none⟩ = some (.string (bs [])) := HST.out.cc.cell 8
    replace HST := hid (HST.out.put 8 (.string (bs (nm k4))) (s' := ⟨3, t, nn, [], [], nm k4⟩) rfl HST.out.c HST.out.n)
    have HGJ := hid (good_nm k4)
    obtain ⟨jn, hjn⟩ : ∃ jn, nm k4 = jn := ⟨_, rfl⟩
    rw [hjn] at t3 HST HGJ
    replace HMD := hid (HMD.out jn hjn)
    clear hjn
    go_upto_region 27 with fail
    generalize W12.setCell _ _ = W13 at *
    clear r3 t3 z0 y0 i1 i2 a4 b4 h4
    have HFI := hid HST.out.fin
    have HTH := hid (HST.out.res.there 0 16 (by simp [mcells]))
    have HCC := hid (Blk.all _ HST.out.cc)
    go_wp2_with (first
      | (refine wpList_load_mid rfl 92 (.tmp 7) rfl _ 0 rfl _ _ HCC.out Tryz.underlying92 rfl size_call ?_)
      | (refine wpList_store_mid rfl 92 (.tmp 2) (.tmp 156) rfl w0.heap.size 0 (mcells ⟨3, t, nn, [], [], jn⟩ (.slice none 0 0) (.slice none 0 0) root).toArray rfl rfl HTH.out size_call (by simp [Value.oneCell', mcells]) ?_; rw [List.toList_toArray]))
    refine bodyPost_ret (v := .agg (mcells ⟨3, t, nn, [], [], jn⟩ (.slice none 0 0) (.slice none 0 0) root).toArray) (results_cell_mid (b := w0.heap.size) (o := 0) rfl _ _ rfl (cs := mcells ⟨3, t, nn, [], [], jn⟩ (.slice none 0 0) (.slice none 0 0) root) (Blk.all _ HFI.out.1) Tryz.underlying92 rfl size_call) rfl ?_
    exact ⟨⟨3, t, nn, [], [], jn⟩, _, _, root, rfl, ⟨⟨by dsimp only; omega, by dsimp only; omega⟩, HGT.out, HGN.out, HGJ.out, by dsimp only [List.length_nil]; omega, by dsimp only [List.length_nil]; omega, by simp, by simp, HRT.out⟩, HMD.out, HFI.out.2.1, HFI.out.2.2.1, HFI.out.2.2.2⟩
def scells (s : St) (vc vn : Value) : List Value := [.int .i64 s.kind, .string (bs s.table), .string (bs s.name), vc, vn, .slice none 0 0, .slice none 0 0, .slice none 0 0, .string (bs s.join), .string ⟨#[]⟩, .string ⟨#[]⟩, .int .i64 0, .slice none 0 0, .int .i64 0, .int .i64 0]
theorem mcells_split (s : St) (vc vn : Value) (root : Int) : mcells s vc vn root = [] ++ scells s vc vn ++ [.int .i64 root] := rfl
/-- a statement that Made gave, in a block of its own -/
structure MK (B : Nat) (W : World) (d : Nat) (s : St) (vc vn : Value) (root : Int) : Prop where
  b : Blk W d (mcells s vc vn root) 92
  c : Row 171 2 B W vc s.cols.length (s.cols.flatMap Col.cells)
  n : Row 9 1 B W vn s.names.length (sv s.names)
  g : GoodS s root
  ge : B ≤ d
namespace MK
variable {B : Nat} {W W' : World} {d : Nat} {s : St} {vc vn : Value} {root : Int}
theorem fr {S : Nat → Prop} (h : MK B W d s vc vn root) (f : Fr S W W') (hS : ∀ k, S k → k < B) : MK B W' d s vc vn root :=
  ⟨h.b.fr f (fun k => by have := hS _ k; have := h.ge; omega), h.c.fr f (fun k hk e => by have := hS _ e; have := h.c.new k hk; omega), h.n.fr f (fun k hk e => by have := hS _ e; have := h.n.new k hk; omega), h.g, h.ge⟩
theorem fre (h : MK B W d s vc vn root) (f : Fr (fun _ => False) W W') : MK B W' d s vc vn root := h.fr f (fun _ h => h.elim)
theorem rng (h : MK B W d s vc vn root) : W.rangeAt d 0 (scells s vc vn) := h.b.range [] (scells s vc vn) [.int .i64 root] (mcells_split s vc vn root)
theorem at15 (h : MK B W d s vc vn root) : W.cell? ⟨d, 15, none⟩ = some (.int .i64 root) := h.b.cell 15
theorem made {w w' : World} {s : St} {vc vn : Value} {root : Int} (hc : Row 171 2 w.heap.size w' vc s.cols.length (s.cols.flatMap Col.cells)) (hn : Row 9 1 w.heap.size w' vn s.names.length (sv s.names)) (hg : GoodS s root) (f : Fr (fun _ => False) w w') :
    MK w.heap.size (w'.alloc (.cells (mcells s vc vn root).toArray 92)) w'.heap.size s vc vn root := by
  have f1 := (Fr.refl (fun _ => False) w').alloc (.cells (mcells s vc vn root).toArray 92)
  exact ⟨Blk.new w' _ _, hc.fre f1, hn.fre f1, hg, f.size⟩
end MK
theorem size_stmt : (Tryz.prog.info? 90).map (·.size) = some 15 := by kernel_rfl
end Go.Proofs.YtiimomgbklgicaaGreat
