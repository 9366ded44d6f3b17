import Derived.Test.YtknpncpoojjbfaaDoorVG
import Derived.Laws.BitsAllLaws
/- value.Key: strings.ReplaceAll of one byte, the builder. -/
set_option linter.unusedVariables false
namespace Go.VB
theorem xor_top (a : Nat) (ha : a < 18446744073709551616) : a ^^^ 9223372036854775808 = (a + 9223372036854775808) % 18446744073709551616 := by
  have e63 : (9223372036854775808 : Nat) = 2 ^ 63 := by decide
  have e64 : (18446744073709551616 : Nat) = 2 ^ 64 := by decide
  rw [e63, e64, Nat.add_comm]
  rw [e64] at ha
  apply Nat.eq_of_testBit_eq
  intro i
  rw [Nat.testBit_xor, Nat.testBit_two_pow, Nat.testBit_mod_two_pow]
  rcases (by omega : i < 63 ∨ i = 63 ∨ 64 ≤ i) with h | h | h
  · rw [Nat.testBit_two_pow_add_gt h, decide_eq_true (show i < 64 by omega), decide_eq_false (show ¬ 63 = i by omega)]; simp
  · subst h
    rw [Nat.testBit_two_pow_add_eq, decide_eq_true (show 63 < 64 by omega)]; simp
  · rw [decide_eq_false (show ¬ i < 64 by omega), decide_eq_false (show ¬ 63 = i by omega), Nat.testBit_lt_two_pow (Nat.lt_of_lt_of_le ha (Nat.pow_le_pow_right (by omega) h))]; rfl
end Go.VB
namespace Go.VB.Rec
open Go.VB.Oct
theorem vkey_le (v : V) (h : v.right = true) : v.key.length ≤ 83 := by
  unfold V.right at h
  simp at h
  unfold V.key
  rw [List.length_cons]
  split
  · rw [be8_length]; omega
  · split
    · have := esc_len 0 [0, 255] (by simp) v.s
      rw [List.length_append]
      simp only [List.length_cons, List.length_nil]
      omega
    · simp
theorem ksum_le (r : List V) (h : ∀ v ∈ r, v.right = true) (hn : r.length ≤ 6) : (r.flatMap V.key).length ≤ 498 := by
  have key : ∀ l : List V, (∀ v ∈ l, v.right = true) → (l.flatMap V.key).length ≤ 83 * l.length := by
    intro l hl
    induction l with
    | nil => simp
    | cons v l ih =>
      have := ih (fun x hx => hl x (List.mem_cons_of_mem _ hx))
      have := vkey_le v (hl v List.mem_cons_self)
      rw [List.flatMap_cons, List.length_append, List.length_cons]
      omega
  have := key r h
  omega
end Go.VB.Rec
namespace Go.Proofs.YtknpncpoojjbfaaDoor
open Go.RowKit Go.VB Go.VB.Oct Go.VB.Rec
/-- the library's variable that strings.Index reads -/
def Ml (w : World) : Prop := ∃ m, w.cell? ⟨2, 0, none⟩ = some (.int .i64 m)
theorem Ml.fre {w w' : World} (h : Ml w) (f : Fr (fun _ => False) w w') : Ml w' := by
  obtain ⟨m, hm⟩ := h
  exact ⟨m, cell_fr hm f (fun h => h)⟩
theorem Ml.fr {S : Nat → Prop} {w w' : World} (h : Ml w) (f : Fr S w w') (hS : ¬ S 2) : Ml w' := by
  obtain ⟨m, hm⟩ := h
  exact ⟨m, cell_fr hm f hS⟩
theorem Repl_go (s : List UInt8) (hs : s.length ≤ 65536) (c : UInt8) (new : List UInt8) (hn : new.length = 2) (hne : [c] ≠ new) {w : World} (hm : Ml w) :
    Calls Tryd.prog 50 #[.string (bs s), .string (bs [c]), .string (bs new)] w fun e w' => e = .returned (.string (bs (esc c new s))) ∧ Fr (fun _ => False) w w' := by
  obtain ⟨m, hm⟩ := hm
  have h1 : (bs s).size = s.length := bs_size s
  have h2 : (bs new).size = 2 := by rw [bs_size, hn]
  have h3 : Lib.countB (bs s) (bs [c]) ≤ s.length + 1 := Lib.count_le _ _
  refine (Tryd.strings_ReplaceAll (bs s) (bs [c]) (bs new) m w (by rw [h1]; omega) hm (by rw [bs_size]; simp) (by rw [h1, h2]; omega)).mono ?_
  rintro e w' ⟨rfl, hb⟩
  refine ⟨?_, Fr.of_below hb⟩
  have e1 : (bs s).data.toList = s := rfl
  have e2 : (bs [c]).data.toList = [c] := rfl
  have e3 : (bs new).data.toList = new := rfl
  rw [e1, e2, e3, replaceAll_esc c new hne s]
  rfl
set_option maxRecDepth 20000 in
set_option maxHeartbeats 4000000 in
theorem VKey_go {R : Nat → Prop} {w : World} {va : Value} {r : List V} (h : Sl R w va r.length (r.flatMap V.cells)) (hR : ∀ k, R k → k < w.heap.size) (hn : r.length ≤ 1099511627776) (hm : Ml w) : Calls Tryd.prog 24 #[va] w fun e w' => e = .returned (.string (bs (rowKey r))) ∧ Fr (fun _ => False) w w' := by
  have HR := hid (right_go h hR hn)
  have HM := hid hm
  obtain ⟨a, c, rfl, hc, hx⟩ := h
  have HX := hid (show Sl R w (.slice a r.length c) r.length (r.flatMap V.cells) from ⟨a, c, rfl, hc, hx⟩)
  clear hx hm
  cases hr : row r with
  | false =>
    rw [hr] at HR
    have hb : rowKey r = [] := by unfold rowKey; rw [hr]; rfl
    rw [hb]
    go_enter Tryd.func24, Tryd.ntmps24
    go_wp2_with (go_at_call 45; refine HR.out.mono ?_; rintro e w1 ⟨rfl, f1⟩; clear HR)
    go_ret
    exact ⟨rfl, f1⟩
  | true =>
    have hb : rowKey r = r.flatMap V.key := by unfold rowKey; rw [hr]; rfl
    rw [hr] at HR
    rw [hb]
    have hlen : r.length ≤ 6 := by unfold row at hr; simp at hr; exact hr.1
    have hall := hid (show ∀ v ∈ r, v.right = true by unfold row at hr; simp at hr; exact hr.2)
    clear hb hr
    go_enter Tryd.func24, Tryd.ntmps24
    go_upto_region 4 with (go_at_call 45; refine HR.out.mono ?_; rintro e w1 ⟨rfl, f1⟩; have F1 := hid f1; clear HR f1)
    have HB0 := hid (Bld.new w1 (Nat.le_refl _))
    have HF2 := hid (F1.out.alloc (.cells #[.pointer none, .slice none 0 0] 62))
    have HS2 := hid (show w1.heap.size + 1 ≤ (w1.alloc (.cells #[.pointer none, .slice none 0 0] 62)).heap.size by simp)
    generalize w1.alloc _ = w2 at *
    generalize hb : w1.heap.size = b at *
    have HBB := hid hb
    clear hb
    go_wp2_with (fail)
    go_loopw [11] (fun i wr => ∃ (j : Nat) (v' : Value), j ≤ r.length ∧ i = .int .i64 j ∧ Bld b wr b ((r.take j).flatMap V.key) v' ∧ Fr (fun _ => False) w wr ∧ b < wr.heap.size) (fun i _ => r.length - (intOf i).toNat)
    case atStart => exact ⟨0, _, by omega, rfl, HB0.out, HF2.out, by have := HS2.out; omega⟩
    case round =>
      obtain ⟨j, v3, hj, rfl, hbl, fr, hbs⟩ := hrel
      by_cases hjl : j < r.length
      · obtain ⟨g, o, rfl, hg, hcell⟩ := sl_cell3 (f := V.cells) vcells_len (HX.out.fr fr (fun _ _ h => h)) (fun h => by subst h; cases hjl)
        have q0 : wr.cell? ⟨g, o + j * 3, none⟩ = some (.int .i64 r[j].k) := hcell j hjl 0 (by omega)
        have q1 : wr.cell? ⟨g, o + j * 3 + 1, none⟩ = some (.int .i64 r[j].n) := hcell j hjl 1 (by omega)
        have q2 : wr.cell? ⟨g, o + j * 3 + 2, none⟩ = some (.string (bs r[j].s)) := hcell j hjl 2 (by omega)
        have FR := hid fr
        have i1 : (0 : Int) ≤ (j : Int) := by omega
        have i2 : (j : Int) < r.length := by omega
        have HT := hid (take_flat r V.key j hjl)
        have hright := hall.out r[j] (List.getElem_mem hjl)
        have HLE := hid (vkey_le r[j] hright)
        have HSUM := hid (show ((r.take j).flatMap V.key).length ≤ 498 from ksum_le _ (fun v hv => hall.out v (List.mem_of_mem_take hv)) (by rw [List.length_take]; omega))
        have HBL := hid hbl
        clear hcell fr hbl HB0 HF2
        generalize r[j] = x at *
        obtain ⟨k, n, s⟩ := x
        have hk : k = 0 ∨ k = 1 ∨ k = 2 := by unfold V.right at hright; simp at hright; omega
        have HB4 := hid ((HBL.out.fre ((Fr.refl (fun _ => False) wr).alloc (.cells #[.int .i64 k, .int .i64 n, .string (bs s)] 28))))
        have HD4 := hid (show Blk (wr.alloc (.cells #[.int .i64 k, .int .i64 n, .string (bs s)] 28)) wr.heap.size [.int .i64 k, .int .i64 n, .string (bs s)] 28 from Blk.new wr [.int .i64 k, .int .i64 n, .string (bs s)] 28)
        have HF4 := hid (FR.out.alloc (.cells #[.int .i64 k, .int .i64 n, .string (bs s)] 28))
        have hb4 : b ≤ (wr.alloc (.cells #[.int .i64 k, .int .i64 n, .string (bs s)] 28)).heap.size := by rw [World.size_alloc]; omega
        have hl4 : ((r.take j).flatMap V.key).length + 1 ≤ 1099511627776 := by have := HSUM.out; omega
        have hsz : w.heap.size ≤ b := Nat.le_trans F1.out.size (Nat.le_of_eq HBB.out)
        have HSZ := hid hsz
        clear hsz
        rcases hk with rfl | rfl | rfl
        · have HWK := hid (WriteByteN_go HB4.out hb4 hl4 1 (by omega))
          go_wp2_with (go_at_call 46; refine HWK.out.mono ?_; rintro e w5 ⟨rfl, v5, hw5⟩; have D5 := hid (Blk.fr HD4.out hw5.fr (fun h => h.elim (fun h => by omega) (fun h => HB4.out.row.ne HD4.out (by decide) _ h rfl))); have k50 := Blk.cell D5.out 0; have k51 := Blk.cell D5.out 1; have k52 := Blk.cell D5.out 2; have HW5 := hid hw5; clear hw5)
          go_roundw
          case rel => exact ⟨j + 1, v5, by omega, by go_num, HW5.out.bld.cast (by rw [HT.out]; simp [V.key]), HW5.out.frB HB4.out HF4.out HSZ.out (Nat.le_refl _), by have := HW5.out.fr.size; rw [World.size_alloc] at this; omega⟩
          case measure => simp [intOf]; omega
        · have HWK := hid (WriteByteN_go HB4.out hb4 hl4 2 (by omega))
          have hwr := word_wrap n
          have hxr : bits .xor .u64 ((word n : Nat) : Int) 9223372036854775808 = (((word n + 9223372036854775808) % 18446744073709551616 : Nat) : Int) := by
            rw [← xor_top (word n) (word_lt n)]
            exact u64_xor_nat (word n) 9223372036854775808 (word_lt n) (by decide)
          obtain ⟨X, hX⟩ : ∃ X : Nat, (word n + 9223372036854775808) % 18446744073709551616 = X := ⟨_, rfl⟩
          have HWH := hid (fun w => whole_go X (by omega) w)
          rw [hX] at hxr
          have HXX := hid hX
          clear hX
          go_wp2_with (first
            | (go_at_call 46; refine HWK.out.mono ?_; rintro e w5 ⟨rfl, v5, hw5⟩; have D5 := hid (Blk.fr HD4.out hw5.fr (fun h => h.elim (fun h => by omega) (fun h => HB4.out.row.ne HD4.out (by decide) _ h rfl))); have k50 := Blk.cell D5.out 0; have k51 := Blk.cell D5.out 1; have k52 := Blk.cell D5.out 2; have HW5 := hid hw5; clear hw5)
            | (go_at_call 48; refine (HWH.out _).mono ?_; rintro e w6 ⟨rfl, f6⟩; have F6 := hid f6; clear f6)
            | (go_at_call 47; refine (WriteString_go (HW5.out.bld.fre F6.out) (Nat.le_trans hb4 (Nat.le_trans HW5.out.fr.size F6.out.size)) (be8 X) (by have := HSUM.out; simp only [List.length_append, List.length_cons, List.length_nil, be8_length]; omega)).mono ?_; rintro e w7 ⟨rfl, v7, hw7⟩; have HW7 := hid hw7; clear hw7))
          go_roundw
          case rel => exact ⟨j + 1, v7, by omega, by go_num, HW7.out.bld.cast (by rw [HT.out]; simp [V.key, HXX.out]), HW7.out.frB (HW5.out.bld.fre F6.out) ((HW5.out.frB HB4.out HF4.out HSZ.out (Nat.le_refl _)).trans F6.out (fun _ h _ => h)) HSZ.out (Nat.le_refl _), by have := HW5.out.fr.size; have := F6.out.size; have := HW7.out.fr.size; rw [World.size_alloc] at *; omega⟩
          case measure => simp [intOf]; omega
        · have HWK := hid (WriteByteN_go HB4.out hb4 hl4 3 (by omega))
          have hs40 : s.length ≤ 40 := by unfold V.right at hright; simp at hright; exact hright
          have HES := hid (esc_len 0 [0, 255] (by simp) s)
          have HRA := hid (fun w' (f : Fr (fun _ => False) w w') => Repl_go s (by omega) 0 [0, 255] rfl (by simp) (HM.out.fre f))
          generalize hes : esc 0 [0, 255] s = es at *
          have HEQ := hid hes
          clear hes
          go_wp2_with (fail)
          refine HWK.out.mono ?_
          rintro e w5 ⟨rfl, v5, hw5⟩
          have D5 := hid (Blk.fr HD4.out hw5.fr (fun h => h.elim (fun h => by omega) (fun h => HB4.out.row.ne HD4.out (by decide) _ h rfl)))
          have k50 := Blk.cell D5.out 0
          have k51 := Blk.cell D5.out 1
          have k52 := Blk.cell D5.out 2
          have HW5 := hid hw5
          clear hw5 q0 q1 q2
          have F5 := hid (HW5.out.frB HB4.out HF4.out HSZ.out (Nat.le_refl _))
          go_wp2_with (fail)
          refine (HRA.out _ F5.out).mono ?_
          rintro e w6 ⟨rfl, f6⟩
          have F6 := hid f6
          clear f6 k50 k51 k52
          have HWS := hid (WriteString_go (HW5.out.bld.fre F6.out) (Nat.le_trans hb4 (Nat.le_trans HW5.out.fr.size F6.out.size)) es (by have := HSUM.out; have := HES.out; simp only [List.length_append, List.length_cons, List.length_nil]; omega))
          go_wp2_with (fail)
          refine HWS.out.mono ?_
          rintro e w7 ⟨rfl, v7, hw7⟩
          have HW7 := hid hw7
          clear hw7 HWS
          have HWS : Hid (Calls Tryd.prog 47 #[.pointer (some ⟨b, 0, none⟩), .string ⟨#[0, 1]⟩] w7 _) := hid (WriteString_go HW7.out.bld (Nat.le_trans hb4 (Nat.le_trans HW5.out.fr.size (Nat.le_trans F6.out.size HW7.out.fr.size))) [0, 1] (by have := HSUM.out; have := HES.out; simp only [List.length_append, List.length_cons, List.length_nil]; omega))
          go_wp2_with (fail)
          refine HWS.out.mono ?_
          rintro e w8 ⟨rfl, v8, hw8⟩
          have HW8 := hid hw8
          clear hw8 HWS
          go_wp2_with (fail)
          go_roundw
          case rel => exact ⟨j + 1, v8, by omega, by go_num, HW8.out.bld.cast (by rw [HT.out]; simp [V.key, HEQ.out]), HW8.out.frB HW7.out.bld (HW7.out.frB (HW5.out.bld.fre F6.out) ((HW5.out.frB HB4.out HF4.out HSZ.out (Nat.le_refl _)).trans F6.out (fun _ h _ => h)) HSZ.out (Nat.le_refl _)) HSZ.out (Nat.le_refl _), by have := HW5.out.fr.size; have := F6.out.size; have := HW7.out.fr.size; have := HW8.out.fr.size; rw [World.size_alloc] at *; omega⟩
          case measure => simp [intOf]; omega
      · obtain rfl : j = r.length := by omega
        rw [List.take_length] at hbl
        have HST := hid (String_go hbl (Nat.le_of_lt hbs) (Nat.le_refl _))
        have FR := hid fr
        clear hbl fr HX hc HB0 HF2
        go_wp2_with (go_at_call 49; refine HST.out.mono ?_; rintro e w9 ⟨rfl, f9⟩)
        go_ret
        have hsz : w.heap.size ≤ b := Nat.le_trans F1.out.size (Nat.le_of_eq HBB.out)
        exact ⟨rfl, FR.out.trans (S := fun _ => False) (T := fun k => b ≤ k) ⟨f9.os, f9.tape, f9.output, f9.size, fun k _ hn => f9.block k (by omega)⟩ (fun k hk hl => by omega)⟩
end Go.Proofs.YtknpncpoojjbfaaDoor
