import Derived.Test.YtfhkmiifndhacaaDoorRecA
import Derived.Lib.OthersKept
import Derived.WalkSmall
/- record: row, edit, Right. -/
set_option linter.unusedVariables false
namespace Go.Proofs.YtfhkmiifndhacaaDoor
open Go.RowKit Go.VB Go.VB.Oct Go.VB.Rec
theorem beq_dec (a b : List UInt8) : ((bs a).toList == (bs b).toList) = decide (a = b) := by
  rw [Lib.toList_data, Lib.toList_data]
  by_cases h : a = b
  · simp [h]
  · simp [h, bs]
set_option maxHeartbeats 2000000 in
theorem within_go (n a b : Int) (w : World) : Calls Tryd.prog 49 #[.int .i64 n, .int .i64 a, .int .i64 b] w fun e w' => e = .returned (.bool (decide (a ≤ n) && decide (n ≤ b))) ∧ w = w' := by
  go_enter Tryd.func49, Tryd.ntmps49
  go_wp2
  all_goals (go_ret; exact ⟨ret_bool (by simp_all <;> omega), rfl⟩)
theorem row1_go (v : V) (w : World) : Calls Tryd.prog 68 #[vagg v] w fun e w' => e = .returned (.bool (!v.right)) ∧ Fr (fun _ => False) w w' := by
  have HV := hid (fun w => VRight_go v w)
  obtain ⟨k, n, s⟩ := v
  have F0 := hid ((Fr.refl (fun _ => False) w).alloc (.cells #[.int .i64 k, .int .i64 n, .string (bs s)] 50))
  generalize V.right ⟨k, n, s⟩ = b at *
  unfold vagg V.cells at *
  dsimp only at *
  go_enter Tryd.func68, Tryd.ntmps68
  go_wp2_with (go_at_call 59; refine (HV.out _).mono ?_; rintro e w' ⟨rfl, f⟩; have F1 := hid (F0.out.trans f (fun _ h _ => h)); clear f)
  go_ret
  exact ⟨rfl, F1.out⟩
theorem right2_go (x : Int) (w : World) : Calls Tryd.prog 54 #[.int .i64 x] w fun e w' => e = .returned (.bool (!(decide (3 ≤ x) && decide (x ≤ 127)))) ∧ Fr (fun _ => False) w w' := by
  have HW := hid (fun w => within_go x 3 127 w)
  go_enter Tryd.func54, Tryd.ntmps54
  go_wp2_with (go_at_call 49; refine (HW.out _).mono ?_; rintro e w' ⟨rfl, rfl⟩)
  go_ret
  exact ⟨ret_bool (by simp), Fr.refl _ _⟩
theorem run_rune0 (w : World) : (convert 21 9 (.int .i32 0)).run Tryd.prog w = .ok (.string (bs [0])) w := by kernel_rfl
theorem run_rune1 (w : World) : (convert 21 9 (.int .i32 1)).run Tryd.prog w = .ok (.string (bs [1])) w := by kernel_rfl
theorem run_rune2 (w : World) : (convert 21 9 (.int .i32 2)).run Tryd.prog w = .ok (.string (bs [2])) w := by kernel_rfl
/-- where the loop over the kinds stands -/
structure KR (w wr : World) (p : Int) (s : List UInt8) (b j : Nat) : Prop where
  it : wr.heap[b + 1]? = some (.stringIter ⟨#[0, 1, 2]⟩ j)
  blk : Blk wr b [.int .i64 p, .int .i64 (-1), .string (bs s)] 48
  fr : Fr (fun _ => False) w wr
  at_ : b = w.heap.size
theorem KR.step {w wr : World} {p : Int} {s : List UInt8} {b j : Nat} (h : KR w wr p s b j) (k : Nat) : KR w (wr.iterAt (b + 1) ⟨#[0, 1, 2]⟩ k) p s b k :=
  have f : Fr (fun x => x = b + 1) wr (wr.iterAt (b + 1) ⟨#[0, 1, 2]⟩ k) := ⟨rfl, rfl, rfl, by rw [Go.Lib.iterAt_size]; exact Nat.le_refl _, fun i hi hn => Go.Lib.iterAt_other wr (b + 1) i _ k hn⟩
  ⟨Go.Lib.iterAt_heap wr (b + 1) _ j k h.it, h.blk.fr f (by omega), h.fr.trans f (fun x hx hl => by have := h.at_; omega), h.at_⟩
set_option maxRecDepth 20000 in
theorem edit_go (x : E) (w : World) : Calls Tryd.prog 52 #[eagg x] w fun e w' => e = .returned (.bool x.right) ∧ Fr (fun _ => False) w w' := by
  obtain ⟨p, k, s⟩ := x
  have e1 := bs_size s
  have HW := hid (fun a b c w => within_go a b c w)
  have F0 := hid ((Fr.refl (fun _ => False) w).alloc (.cells #[.int .i64 p, .int .i64 k, .string (bs s)] 48))
  unfold eagg E.cells E.right
  dsimp only
  by_cases hk : k = -1
  · subst hk
    have B0 := hid (Blk.new w [.int .i64 p, .int .i64 (-1), .string (bs s)] 48)
    go_enter Tryd.func52, Tryd.ntmps52
    go_wp2_with (fail)
    have HK : Hid (KR w ((w.alloc (Obj.cells #[Value.int IntKind.i64 p, Value.int IntKind.i64 (-1), Value.string (bs s)] 48)).iter ⟨#[0, 1, 2]⟩ 0) p s w.heap.size 0) := hid ⟨by have := World.iter_heap (w.alloc (Obj.cells #[Value.int IntKind.i64 p, Value.int IntKind.i64 (-1), Value.string (bs s)] 48)) ⟨#[0, 1, 2]⟩ 0; rwa [World.size_alloc] at this, B0.out.alloc _, F0.out.alloc _, rfl⟩
    clear B0 F0
    generalize w.heap.size = b at *
    go_loopw [] (fun wr => ∃ j : Nat, j ≤ 3 ∧ KR w wr p s b j ∧ ∀ i, i < j → s ≠ [UInt8.ofNat i]) (fun wr => 3 - wr.iterPos (b + 1))
    case atStart => exact ⟨0, by omega, HK.out, fun i hi => by omega⟩
    case round =>
      obtain ⟨j, hj, hkr, hne⟩ := hrel
      have HKR := hid hkr
      have HNE := hid hne
      have hb := hkr.blk
      have hit := hkr.it
      clear hkr hne
      have q0 := hb.cell 0
      have q2 := hb.cell 2
      have h4 : j = 0 ∨ j = 1 ∨ j = 2 ∨ j = 3 := by omega
      rcases h4 with rfl | rfl | rfl | rfl
      · have hn : (Instr.next (.pointer (some ⟨b + 1, 0, none⟩)) true 0).run Tryd.prog wr = .ok (.tuple #[.bool true, .int .i64 0, .int .i32 0]) (wr.iterAt (b + 1) ⟨#[0, 1, 2]⟩ 1) := Go.Lib.run_next_ascii_at (P := Tryd.prog) wr (b + 1) ⟨#[0, 1, 2]⟩ 0 0 hit (by decide) (by decide)
        have K1 := hid (HKR.out.step 1)
        have r0 := K1.out.blk.cell 0
        have r2 := K1.out.blk.cell 2
        have hr := run_rune0
        clear hb hit q0 q2
        by_cases hs : s = [0]
        · subst hs
          have hsb : ((bs [0]).toList == (bs [0]).toList) = true := by rw [beq_dec]; exact decide_eq_true rfl
          go_wp2_with (go_at_call 49; refine (HW.out _ _ _ _).mono ?_; rintro e w' ⟨rfl, rfl⟩)
          go_ret
          exact ⟨ret_bool (by simp), K1.out.fr⟩
        · have hsb : ((bs s).toList == (bs [0]).toList) = false := by rw [beq_dec]; exact decide_eq_false hs
          have HS := hid hs
          clear hs
          go_wp2_with (fail)
          go_roundw
          case rel => exact ⟨1, by omega, K1.out, fun i hi => by
            by_cases hij : i = 0
            · subst hij; exact HS.out
            · exact HNE.out i (by omega)⟩
          case measure => rw [iterPos_of HKR.out.it, iterPos_of K1.out.it]; omega
      · have hn : (Instr.next (.pointer (some ⟨b + 1, 0, none⟩)) true 0).run Tryd.prog wr = .ok (.tuple #[.bool true, .int .i64 1, .int .i32 1]) (wr.iterAt (b + 1) ⟨#[0, 1, 2]⟩ 2) := Go.Lib.run_next_ascii_at (P := Tryd.prog) wr (b + 1) ⟨#[0, 1, 2]⟩ 1 0 hit (by decide) (by decide)
        have K1 := hid (HKR.out.step 2)
        have r0 := K1.out.blk.cell 0
        have r2 := K1.out.blk.cell 2
        have hr := run_rune1
        clear hb hit q0 q2
        by_cases hs : s = [1]
        · subst hs
          have hsb : ((bs [1]).toList == (bs [1]).toList) = true := by rw [beq_dec]; exact decide_eq_true rfl
          go_wp2_with (go_at_call 49; refine (HW.out _ _ _ _).mono ?_; rintro e w' ⟨rfl, rfl⟩)
          go_ret
          exact ⟨ret_bool (by simp), K1.out.fr⟩
        · have hsb : ((bs s).toList == (bs [1]).toList) = false := by rw [beq_dec]; exact decide_eq_false hs
          have HS := hid hs
          clear hs
          go_wp2_with (fail)
          go_roundw
          case rel => exact ⟨2, by omega, K1.out, fun i hi => by
            by_cases hij : i = 1
            · subst hij; exact HS.out
            · exact HNE.out i (by omega)⟩
          case measure => rw [iterPos_of HKR.out.it, iterPos_of K1.out.it]; omega
      · have hn : (Instr.next (.pointer (some ⟨b + 1, 0, none⟩)) true 0).run Tryd.prog wr = .ok (.tuple #[.bool true, .int .i64 2, .int .i32 2]) (wr.iterAt (b + 1) ⟨#[0, 1, 2]⟩ 3) := Go.Lib.run_next_ascii_at (P := Tryd.prog) wr (b + 1) ⟨#[0, 1, 2]⟩ 2 0 hit (by decide) (by decide)
        have K1 := hid (HKR.out.step 3)
        have r0 := K1.out.blk.cell 0
        have r2 := K1.out.blk.cell 2
        have hr := run_rune2
        clear hb hit q0 q2
        by_cases hs : s = [2]
        · subst hs
          have hsb : ((bs [2]).toList == (bs [2]).toList) = true := by rw [beq_dec]; exact decide_eq_true rfl
          go_wp2_with (go_at_call 49; refine (HW.out _ _ _ _).mono ?_; rintro e w' ⟨rfl, rfl⟩)
          go_ret
          exact ⟨ret_bool (by simp), K1.out.fr⟩
        · have hsb : ((bs s).toList == (bs [2]).toList) = false := by rw [beq_dec]; exact decide_eq_false hs
          have HS := hid hs
          clear hs
          go_wp2_with (fail)
          go_roundw
          case rel => exact ⟨3, by omega, K1.out, fun i hi => by
            by_cases hij : i = 2
            · subst hij; exact HS.out
            · exact HNE.out i (by omega)⟩
          case measure => rw [iterPos_of HKR.out.it, iterPos_of K1.out.it]; omega
      · have hn := Go.Lib.run_next_end_at (P := Tryd.prog) wr (b + 1) ⟨#[0, 1, 2]⟩ 3 0 hit (by decide)
        have hrr : (s = [0] || s = [1] || s = [2]) = false := by
          have h0 := HNE.out 0 (by omega)
          have h1 := HNE.out 1 (by omega)
          have h2 := HNE.out 2 (by omega)
          simp only [Bool.or_eq_false_iff]
          exact ⟨⟨decide_eq_false h0, decide_eq_false h1⟩, decide_eq_false h2⟩
        go_wp2_with (fail)
        go_ret
        exact ⟨ret_bool (by simp_all), HKR.out.fr⟩
  · go_enter Tryd.func52, Tryd.ntmps52
    go_wp2_with (go_at_call 49; refine (HW.out _ _ _ _).mono ?_; rintro e w' ⟨rfl, rfl⟩)
    all_goals (go_ret; exact ⟨ret_bool (by simp_all <;> omega), F0.out⟩)
end Go.Proofs.YtfhkmiifndhacaaDoor
