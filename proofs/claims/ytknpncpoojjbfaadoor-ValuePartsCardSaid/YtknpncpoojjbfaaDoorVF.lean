import Derived.Test.YtknpncpoojjbfaaDoorVL
/- vintnerlaw02's bounded copies of rows. -/
set_option linter.unusedVariables false
namespace Go.Proofs.YtknpncpoojjbfaaDoor
open Go.RowKit Go.VB Go.VB.Oct Go.VB.Rec
set_option maxRecDepth 20000 in
set_option maxHeartbeats 4000000 in
theorem few2_go {P : Nat → Prop} {w : World} {va : Value} {r : List V} (h : Sl P w va r.length (r.flatMap V.cells)) (hn : r.length ≤ 9223372036854775807) :
    Calls Tryd.prog 14 #[va] w fun e w' => ∃ (a : Option Addr) (c : Nat), e = .returned (.slice a (cutRow r).length c) ∧ Row 28 3 w.heap.size w' (.slice a (cutRow r).length c) (cutRow r).length ((cutRow r).flatMap V.cells) ∧ Fr (fun _ => False) w w' := by
  obtain ⟨a, c, rfl, hc, hx⟩ := h
  have HX := hid (show Sl P w (.slice a r.length c) r.length (r.flatMap V.cells) from ⟨a, c, rfl, hc, hx⟩)
  clear hx
  have F0 := hid ((Fr.refl (fun _ => False) w).alloc (.cells #[] 28))
  have R0 := hid (Row.built (e := 28) (n := 0) (size := 3) (B := w.heap.size) w (l := []) rfl (by decide) (Nat.le_refl _))
  go_enter Tryd.func14, Tryd.ntmps14
  go_wp2_with (fail)
  go_loopw [3, 4] (fun v3 i wr => ∃ (j : Nat) (l : List V), j ≤ 8 ∧ j ≤ r.length ∧ i = .int .i64 j ∧ l = (r.take j).map V.cut ∧ l.length = j ∧ Row 28 3 w.heap.size wr v3 l.length (l.flatMap V.cells) ∧ Fr (fun _ => False) w wr) (fun _ i _ => 8 - (intOf i).toNat)
  case atStart => exact ⟨0, [], by omega, by omega, rfl, rfl, rfl, R0.out, F0.out⟩
  case round =>
    obtain ⟨j, l, hj8, hjr, rfl, hl, hll, hrow, fr⟩ := hrel
    have HROW := hid hrow
    have FR := hid fr
    have HL := hid hl
    have HLL := hid hll
    obtain ⟨va, cc, rfl, _⟩ := hrow.slice
    clear hrow fr hl hll F0 R0
    have i1 : (0 : Int) ≤ (j : Int) := by omega
    by_cases hc : j < 8 ∧ j < r.length
    · obtain ⟨h8, hjl⟩ := hc
      have i2 : (j : Int) < r.length := by omega
      have i3 : (j : Int) < 8 := by omega
      obtain ⟨g, o, rfl, hg, q0, q1, q2⟩ := sl_three (f := V.cells) vcells_len (HX.out.fr FR.out (fun _ _ h => h)) hjl
      have HSN := hid (map_snoc V.cut r hjl)
      obtain ⟨x, hx⟩ : ∃ x, x = r[j] := ⟨_, rfl⟩
      rw [← hx] at q0 q1 q2 HSN
      clear hx
      obtain ⟨k, n, s⟩ := x
      simp only [V.cells, List.getElem?_cons_zero, List.getElem?_cons_succ] at q0 q1 q2
      obtain ⟨q, hm, e1, hq⟩ := cut_str s 60
      obtain ⟨hm1, hm2⟩ := hm 60 rfl
      have e2 := bs_size s
      have i4 : (0 : Int) ≤ (q : Int) := by omega
      clear hm
      have HROW2 := hid (HROW.out.fre ((Fr.refl (fun _ => False) wr).alloc (.cells #[.int .i64 k, .int .i64 n, .string (bs (s.take 60))] 28)))
      have FR2 := hid (FR.out.alloc (.cells #[.int .i64 k, .int .i64 n, .string (bs (s.take 60))] 28))
      have HCE := hid (show V.cells (V.cut ⟨k, n, s⟩) = [.int .i64 k, .int .i64 n, .string (bs (s.take 60))] from rfl)
      go_wp2_with (first | (at_builtin; refine wpList_app1 rfl (s := .tmp 29) (x := .tmp 31) (t := 23) rfl Tryd.underlying23 info_val val_cells rfl (by rw [World.size_alloc]; rfl) HROW2.out FR2.out.size rfl (by simp [Value.oneCell']) (by have := HLL.out; omega) (by have := HLL.out; omega) ?_; intro ab ac wg APP; have HG := hid (show Row 28 3 w.heap.size wg (.slice ab (l.length + 1) ac) (l ++ [V.cut ⟨k, n, s⟩]).length ((l ++ [V.cut ⟨k, n, s⟩]).flatMap V.cells) ∧ Fr (fun _ => False) w wg from ⟨APP.row.cast (by simp) (by simp [HCE.out]), APP.frB HROW2.out FR2.out (Nat.le_refl _)⟩); clear APP))
      go_roundw
      case rel => exact ⟨j + 1, l ++ [V.cut ⟨k, n, s⟩], by omega, by omega, by simp, by rw [HSN.out, HL.out], by have := HLL.out; simp; omega, HG.out.1, HG.out.2⟩
      case measure => simp [intOf]; omega
    · have hcut : l = cutRow r := by
        rw [HL.out]
        unfold cutRow
        congr 1
        have : j = min 8 r.length := by omega
        rw [this, take_min]
      have HCU := hid hcut
      clear hcut
      have hor : (8 : Int) ≤ (j : Int) ∨ (r.length : Int) ≤ (j : Int) := by omega
      rcases hor with h8 | h8
      all_goals
        go_wp2_with (fail)
        all_goals (go_ret; rw [← HCU.out]; exact ⟨_, _, rfl, HROW.out, FR.out⟩)
end Go.Proofs.YtknpncpoojjbfaaDoor
