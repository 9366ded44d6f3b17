import Derived.Test.YtfhkmiifndhacaaDoorMdA
import Derived.Deep.CutBlock
/- The reference's Made of a row: some valid, plain row of at most three values. -/
set_option linter.unusedVariables false
namespace Go.Proofs.YtfhkmiifndhacaaDoor
open Go.RowKit Go.VB Go.VB.Oct Go.VB.Rec
def Fine (l : List V) : Prop := ∀ v ∈ l, v.right = true ∧ v.plain = v ∧ v.In
theorem Fine.snoc {l : List V} {v : V} (h : Fine l) (hv : v.right = true ∧ v.plain = v ∧ v.In) : Fine (l ++ [v]) := fun x hx => by
  rcases List.mem_append.1 hx with hx | hx
  · exact h x hx
  · obtain rfl := List.mem_singleton.1 hx; exact hv
theorem fine_null : (⟨0, 0, []⟩ : V).right = true ∧ (⟨0, 0, []⟩ : V).plain = ⟨0, 0, []⟩ ∧ V.In ⟨0, 0, []⟩ := ⟨rfl, rfl, by unfold V.In; dsimp only; omega⟩
theorem fine_text {s : List UInt8} (h : s.length ≤ 40) : (⟨2, 0, s⟩ : V).right = true ∧ (⟨2, 0, s⟩ : V).plain = ⟨2, 0, s⟩ ∧ V.In ⟨2, 0, s⟩ := ⟨by simp [V.right, h], rfl, by unfold V.In; dsimp only; omega⟩
theorem fine_int {n : Int} (h : -9223372036854775808 ≤ n ∧ n ≤ 9223372036854775807) : (⟨1, n, []⟩ : V).right = true ∧ (⟨1, n, []⟩ : V).plain = ⟨1, n, []⟩ ∧ V.In ⟨1, n, []⟩ := ⟨rfl, rfl, h⟩
/-- one more value to a row -/
theorem row_snoc {w0 w wg : World} {va v' : Value} {l : List V} {v : V} (hr : Row 50 3 w0.heap.size w va l.length (l.flatMap V.cells)) (hg : App 50 3 w0.heap.size w wg va v' l.length (l.flatMap V.cells) v.cells) (f : Fr (fun _ => False) w0 w) :
    Row 50 3 w0.heap.size wg v' (l ++ [v]).length ((l ++ [v]).flatMap V.cells) ∧ Fr (fun _ => False) w0 wg :=
  ⟨hg.row.cast (by simp) (by simp), hg.frB hr f (Nat.le_refl _)⟩
set_option maxRecDepth 20000 in
set_option maxHeartbeats 4000000 in
theorem rMade_go {R : Nat → Prop} {w : World} {va : Value} {L : List Int} (h : Sl R w va L.length (L.flatMap icell)) (hR : ∀ k, R k → k < w.heap.size) (hl : L.length ≤ 1099511627776) (many : Nat) (hm : many ≤ 3) :
    Calls Tryd.prog 18 #[.int .i64 many, va] w fun e w' => ∃ (v : Value) (l : List V), e = .returned v ∧ Row 50 3 w.heap.size w' v l.length (l.flatMap V.cells) ∧ Fine l ∧ l.length ≤ 3 ∧ Fr (fun _ => False) w w' := by
  obtain ⟨a, c, rfl, hc, hx⟩ := h
  have HX := hid (show Sl R w (.slice a L.length c) L.length (L.flatMap icell) from ⟨a, c, rfl, hc, hx⟩)
  clear hx
  have F0 := hid ((Fr.refl (fun _ => False) w).alloc (.cells #[] 50))
  have R0 := hid (Row.built (e := 50) (n := 0) (size := 3) (B := w.heap.size) w (l := []) rfl (by decide) (Nat.le_refl _))
  go_enter Tryd.func18, Tryd.ntmps18
  go_wp2_with (fail)
  go_loopw [5, 6] (fun v5 i wr => ∃ (j : Nat) (l : List V), j ≤ many ∧ i = .int .i64 j ∧ l.length = j ∧ Row 50 3 w.heap.size wr v5 l.length (l.flatMap V.cells) ∧ Fine l ∧ Fr (fun _ => False) w wr) (fun _ i _ => many - (intOf i).toNat)
  case atStart => exact ⟨0, [], by omega, rfl, rfl, R0.out, fun v hv => by simp at hv, F0.out⟩
  case round =>
    obtain ⟨j, l, hj, rfl, hlj, hrow, hfine, fr⟩ := hrel
    have HROW := hid hrow
    have HF := hid hfine
    have FR := hid fr
    have HLJ := hid hlj
    obtain ⟨va, cc, rfl, _⟩ := hrow.slice
    clear hrow hfine fr hlj F0 R0
    by_cases hjm : j < many
    · go_upto_if 17 with fail
      go_cut [7] (fun v7 wx => ∃ x : Nat, v7 = .int .i64 x ∧ x < 65536 ∧ wx = wr)
      case first =>
        have i1 : (0 : Int) ≤ (j : Int) := by omega
        by_cases hjL : j < L.length
        · obtain ⟨g, o, rfl, hg, hcell⟩ := sl_cell1 (f := icell) (fun _ => rfl) (HX.out.fr FR.out (fun _ _ h => h)) (fun hn => by rw [hn] at hjL; simp at hjL)
          have hcj : wr.cell? ⟨g, o + j, none⟩ = some (.int .i64 L[j]) := hcell j hjL
          obtain ⟨x, hx, hx2, -⟩ := and_16 L[j]
          have i2 : (j : Int) < L.length := by omega
          clear hcell
          go_wp2_with (fail)
          go_meet
          exact ⟨x, rfl, hx2, rfl⟩
        · have i2 : ¬ (j : Int) < L.length := by omega
          go_wp2_with (fail)
          go_meet
          exact ⟨0, rfl, by omega, rfl⟩
      case rest =>
        obtain ⟨x, rfl, hx2, rfl⟩ := hcut
        obtain ⟨q, hq, hq2, hq0, hq5⟩ : ∃ q : Int, (x : Int).tmod 5 = q ∧ (x : Int) % 5 = q ∧ 0 ≤ q ∧ q < 5 := ⟨(x : Int) % 5, by rw [Int.tmod_eq_emod_of_nonneg (by omega)], rfl, by omega, by omega⟩
        obtain ⟨y, hy, hy2, hy3⟩ : ∃ y : Nat, (x : Int).tdiv 5 = y ∧ (x : Int) / 5 = y ∧ y ≤ 13107 := ⟨x / 5, by rw [Int.tdiv_eq_ediv_of_nonneg (by omega)]; omega, by omega, by omega⟩
        have i1 : (0 : Int) ≤ (x : Int) := by omega
        have i3 : (0 : Int) ≤ (y : Int) := by omega
        rcases (by omega : q = 0 ∨ q = 1 ∨ q = 2 ∨ (q = 3 ∨ q = 4)) with rfl | rfl | rfl | hq34
        focus
          clear hy hy2
          go_wp2_with (first | (at_builtin; refine wpList_app1 rfl (s := .tmp 35) (x := .tmp 37) (t := 23) rfl Tryd.underlying23 info_val val_cells rfl rfl HROW.out FR.out.size rfl (by simp [Value.oneCell']) (by have := HLJ.out; omega) (by have := HLJ.out; omega) ?_; intro ab ac wg APP; have HG := hid (row_snoc (v := ⟨0, 0, []⟩) HROW.out APP FR.out); clear APP))
          go_roundw
          case rel => exact ⟨j + 1, l ++ [⟨0, 0, []⟩], by omega, by simp, by have := HLJ.out; simp; omega, HG.out.1, HF.out.snoc (fine_null), HG.out.2⟩
          case measure => simp [intOf]; omega
        focus
          obtain ⟨k, hk, hk2, hk3⟩ : ∃ k : Nat, (y : Int).tmod 4 = k ∧ (y : Int) % 4 = k ∧ k ≤ 3 := ⟨y % 4, by rw [Int.tmod_eq_emod_of_nonneg (by omega)]; omega, by omega, by omega⟩
          have hex : (⟨#[97, 98, 99]⟩ : ByteArray).extract 0 k = bs (([97, 98, 99] : List UInt8).take k) := by apply ByteArray.ext; simp [bs]
          have htl := hid (show (([97, 98, 99] : List UInt8).take k).length ≤ 40 by simp; omega)
          have i4 : (0 : Int) ≤ (k : Int) := by omega
          have i5 : (k : Int) ≤ 3 := by omega
          generalize ([97, 98, 99] : List UInt8).take k = tx at *
          go_wp2_with (first | (at_builtin; refine wpList_app1 rfl (s := .tmp 41) (x := .tmp 47) (t := 23) rfl Tryd.underlying23 info_val val_cells rfl rfl HROW.out FR.out.size rfl (by simp [Value.oneCell']) (by have := HLJ.out; omega) (by have := HLJ.out; omega) ?_; intro ab ac wg APP; have HG := hid (row_snoc (v := ⟨2, 0, tx⟩) HROW.out APP FR.out); clear APP))
          go_roundw
          case rel => exact ⟨j + 1, l ++ [⟨2, 0, tx⟩], by omega, by simp, by have := HLJ.out; simp; omega, HG.out.1, HF.out.snoc (fine_text htl.out), HG.out.2⟩
          case measure => simp [intOf]; omega
        focus
          have HDG := hid (fun w => Digits_go y (by omega) w)
          go_wp2_with (first | (go_at_call 56; refine (HDG.out _).mono ?_; rintro e w8 ⟨tx, rfl, htl, f⟩; have HTL := hid htl; have FR8 := hid (FR.out.trans f (fun _ h _ => h)); have HROW8 := hid (HROW.out.fre f); clear f htl) | (at_builtin; refine wpList_app1 rfl (s := .tmp 51) (x := .tmp 56) (t := 23) rfl Tryd.underlying23 info_val val_cells rfl rfl HROW8.out FR8.out.size rfl (by simp [Value.oneCell']) (by have := HLJ.out; omega) (by have := HLJ.out; omega) ?_; intro ab ac wg APP; have HG := hid (row_snoc (v := ⟨2, 0, tx⟩) HROW8.out APP FR8.out); clear APP))
          go_roundw
          case rel => exact ⟨j + 1, l ++ [⟨2, 0, tx⟩], by omega, by simp, by have := HLJ.out; simp; omega, HG.out.1, HF.out.snoc (fine_text (by have := HTL.out; omega)), HG.out.2⟩
          case measure => simp [intOf]; omega
        focus
          obtain ⟨k, hk, hk2, hk3⟩ : ∃ k : Nat, (y : Int).tmod 9 = k ∧ (y : Int) % 9 = k ∧ k ≤ 8 := ⟨y % 9, by rw [Int.tmod_eq_emod_of_nonneg (by omega)]; omega, by omega, by omega⟩
          have hq0' : (q == 0) = false := by simp; omega
          have hq1' : (q == 1) = false := by simp; omega
          have hq2' : (q == 2) = false := by simp; omega
          go_wp2_with (first | (at_builtin; refine wpList_app1 rfl (s := .tmp 25) (x := .tmp 31) (t := 23) rfl Tryd.underlying23 info_val val_cells rfl rfl HROW.out FR.out.size rfl (by simp [Value.oneCell']) (by have := HLJ.out; omega) (by have := HLJ.out; omega) ?_; intro ab ac wg APP; have HG := hid (row_snoc (v := ⟨1, (k : Int) - 2, []⟩) HROW.out APP FR.out); clear APP))
          go_roundw
          case rel => exact ⟨j + 1, l ++ [⟨1, (k : Int) - 2, []⟩], by omega, by simp, by have := HLJ.out; simp; omega, HG.out.1, HF.out.snoc (fine_int (by omega)), HG.out.2⟩
          case measure => simp [intOf]; omega
    · go_wp2_with (fail)
      go_ret
      exact ⟨_, l, rfl, HROW.out, HF.out, by have := HLJ.out; omega, FR.out⟩
end Go.Proofs.YtfhkmiifndhacaaDoor
