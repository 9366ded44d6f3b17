import Derived.Test.YtgkfdlpijefgkaaGreatDoorCpV
import Derived.Defers
import Derived.IntWalk
import Derived.Laws.BitsAllLaws
import Derived.Laws.Closers25
import Derived.Laws.Externs
import Derived.Lib.Builder
import Derived.Lib.ItoaNum
import Derived.Lib.UnsafeStr
import Derived.Recover
import Derived.RowKit
/- from XIn.lean.tpl -/
set_option linter.unusedVariables false
namespace Go.VB.Rec
def in64 (n : Int) : Prop := -9223372036854775808 ≤ n ∧ n ≤ 9223372036854775807
end Go.VB.Rec

/- from XBld.lean.tpl -/
namespace Go.Proofs.YtgkfdlpijefgkaaGreatDoor
open Go.RowKit Go.VB
namespace Bld
variable {B : Nat} {w w' : World} {b : Nat} {l : List UInt8} {v : Value}
end Bld
variable {B : Nat} {w : World} {b : Nat} {l : List UInt8} {v : Value}
set_option maxRecDepth 20000 in
theorem WriteByte_go (h : Bld B w b l v) (hB : B ≤ w.heap.size) (hl : l.length + 1 ≤ 1099511627776) (c : UInt8) : Calls Tryz.prog 35 #[.pointer (some ⟨b, 0, none⟩), .int .u8 (c.toNat : Int)] w fun e w' => e = .returned .nilIface ∧ ∃ v', BldW B w w' b (l ++ [c]) v v' := by
  have HC := hid (copyCheck_go h)
  have HH := hid h
  clear h
  go_enter Tryz.func35, Tryz.ntmps35
  go_wp2_with (first | (go_at_call 69; refine HC.out.mono ?_; rintro e w1 ⟨rfl, h1, f1⟩; have c1 := h1.cell 1; have H1 := hid h1; have F1 := hid f1; have hrow := hid (HH.out.row.fr F1.out HH.out.ne); have hB1 := Nat.le_trans hB F1.out.size; clear h1 f1 HC) | (refine wpList_app1 rfl (s := .tmp 11) (x := .tmp 13) (t := 64) rfl Tryz.underlying64 info_u8 rfl rfl rfl hrow.out hB1 rfl (by simp [Value.oneCell']) (by omega) (by omega) ?_; intro ab ac wg APP; have g1 := Blk.fr H1.out APP.fr (fun h => HH.out.ne _ h rfl); have c2 := Blk.cell g1 1; have z2 := Blk.frozen g1 1; clear g1))
  go_ret
  replace APP : App 5 1 B w1 wg v (.slice ab (l.length + 1) ac) l.length (bv l) [.int .u8 (c.toNat : Int)] := APP
  refine ⟨rfl, _, bld_ends HH.out H1.out F1.out APP.fr (APP.row.cast (by simp) (by rw [bv_append]; rfl)) (fun k hk => (APP.at_ k hk).imp (fun h => h) (fun h => by omega))⟩
end Go.Proofs.YtgkfdlpijefgkaaGreatDoor

/- from XJoin.lean.tpl -/
namespace Go.Proofs.YtgkfdlpijefgkaaGreatDoor
open Go.RowKit Go.VB
end Go.Proofs.YtgkfdlpijefgkaaGreatDoor

/- from XValA.lean.tpl -/
namespace Go.Proofs.YtgkfdlpijefgkaaGreatDoor
open Go.RowKit Go.VB Go.VB.Oct Go.VB.Rec
set_option maxRecDepth 20000 in
theorem right_go {R : Nat → Prop} {w : World} {va : Value} {r : List V} (h : Sl R w va r.length (r.flatMap V.cells)) (hR : ∀ k, R k → k < w.heap.size) (hn : r.length ≤ 1099511627776) : Calls Tryz.prog 34 #[va] w fun e w' => e = .returned (.bool (row r)) ∧ Fr (fun _ => False) w w' := by
  obtain ⟨a, c, rfl, hc, hx⟩ := h
  have HX := hid (show Sl R w (.slice a r.length c) r.length (r.flatMap V.cells) from ⟨a, c, rfl, hc, hx⟩)
  clear hx
  have HV := hid (fun v w => VRight_go v w)
  have F0 := hid (Fr.refl (fun _ => False) w)
  go_enter Tryz.func34, Tryz.ntmps34
  go_wp2_with (fail)
  go_loopw [7] (fun i wr => ∃ j : Nat, j ≤ r.length ∧ i = .int .i64 j ∧ (r.take j).all V.right = true ∧ Fr (fun _ => False) w wr) (fun i _ => r.length - (intOf i).toNat)
  case atStart => exact ⟨0, by omega, rfl, rfl, F0.out⟩
  case round =>
    obtain ⟨j, hj, rfl, hall, fr⟩ := hrel
    by_cases hjl : j < r.length
    · obtain ⟨g, o, rfl, hg, hcell⟩ := sl_cell3 (f := V.cells) vcells_len (HX.out.fr fr (fun _ _ h => h)) (fun h => by subst h; cases hjl)
      have q0 : wr.cell? ⟨g, o + j * 3, none⟩ = some (.int .i64 r[j].k) := hcell j hjl 0 (by omega)
      have q1 : wr.cell? ⟨g, o + j * 3 + 1, none⟩ = some (.int .i64 r[j].n) := hcell j hjl 1 (by omega)
      have q2 : wr.cell? ⟨g, o + j * 3 + 2, none⟩ = some (.string (bs r[j].s)) := hcell j hjl 2 (by omega)
      have FR := hid fr
      have i1 : (0 : Int) ≤ (j : Int) := by omega
      have i2 : (j : Int) < r.length := by omega
      clear hcell fr
      go_wp2_with (fail)
      refine (HV.out r[j] _).mono ?_
      rintro e w1 ⟨rfl, f1⟩
      have F1 := hid ((FR.out.alloc (.cells #[.int .i64 r[j].k, .int .i64 r[j].n, .string (bs r[j].s)] 46)).trans f1 (fun _ h _ => h))
      have HT := hid (show r.take (j + 1) = r.take j ++ [r[j]] by rw [List.take_add_one, List.getElem?_eq_getElem hjl]; rfl)
      clear f1 q0 q1 q2
      cases hr : r[j].right with
      | true =>
        go_wp2_with (fail)
        go_roundw
        case rel => exact ⟨j + 1, by omega, by go_num, by rw [HT.out, List.all_append, hall]; simp [hr], F1.out⟩
        case measure => simp [intOf]; omega
      | false =>
        go_wp2_with (fail)
        go_ret
        refine ⟨ret_bool ?_, F1.out⟩
        have : r.all V.right = false := by
          rw [List.all_eq_false]
          exact ⟨r[j], List.getElem_mem hjl, by simp [hr]⟩
        unfold row
        rw [this, Bool.and_false]
    · obtain rfl : j = r.length := by omega
      rw [List.take_length] at hall
      clear HX hc
      go_wp2_with (fail)
      go_ret
      refine ⟨ret_bool ?_, fr⟩
      unfold row
      rw [hall, Bool.and_true]
      exact decide_eq_decide.2 (by omega)
set_option maxRecDepth 20000 in
set_option maxHeartbeats 2000000 in
theorem whole_go (x : Nat) (hx : x < 18446744073709551616) (w : World) : Calls Tryz.prog 37 #[.int .u64 x] w fun e w' => e = .returned (.string (bs (be8 x))) ∧ Fr (fun _ => False) w w' := by
  have n1 : (0 : Int) ≤ x := by omega
  have n2 : (x : Int) < 18446744073709551616 := by omega
  have HL8 := hid (be8_length x)
  have HB0 := hid (Blk.new w (List.replicate 8 (Value.int .u8 0)) 127)
  have HF0 := hid ((Fr.refl (fun _ => False) w).alloc (.cells (List.replicate 8 (Value.int .u8 0)).toArray 127))
  go_enter Tryz.func37, Tryz.ntmps37
  go_wp2_with (fail)
  generalize hb : w.heap.size = b at *
  have HBB := hid hb
  clear hb
  go_loopw [5] (fun i wr => ∃ j : Nat, j ≤ 8 ∧ i = .int .i64 j ∧ Blk wr b (List.replicate (8 - j) (.int .u8 0) ++ bv ((be8 x).drop (8 - j))) 127 ∧ Fr (fun _ => False) w wr) (fun i _ => 8 - (intOf i).toNat)
  case atStart => exact ⟨0, by omega, rfl, by rw [List.drop_of_length_le (by rw [HL8.out]; exact Nat.le_refl _)]; exact HB0.out, HF0.out⟩
  case round =>
    obtain ⟨j, hj, rfl, hB, fr⟩ := hrel
    by_cases hj8 : j < 8
    · have hj' : 7 - j < (be8 x).length := by rw [HL8.out]; omega
      have i1 : (0 : Int) ≤ (j : Int) := by omega
      have i2 : (j : Int) < 8 := by omega
      have z := hB.frozen (7 - j)
      rw [show 8 - j = (7 - j) + 1 by omega] at hB
      have c0 : wr.cell? ⟨b, 7 - j, none⟩ = some (.int .u8 0) := by
        rw [hB.cell, List.getElem?_append_left (by simp)]
        simp
      have hB2 := hB.set (7 - j) (.int .u8 (((be8 x)[7 - j]).toNat : Int))
      rw [bv_back_set _ _ hj'] at hB2
      have hval : (be8 x)[7 - j] = byteAt x (7 - j) := by
        have := be8_at x (7 - j) (by omega)
        rw [List.getElem?_eq_getElem hj'] at this
        exact Option.some.inj this
      rw [hval, ← byteAt_val x (show 7 - j < 8 by omega), show 56 - 8 * (7 - j) = 8 * j by omega] at hB2
      have HB2 := hid hB2
      have HF2 := hid (fr.setCell ⟨b, 7 - j, none⟩ (.int .u8 ((x : Int) / 2 ^ (8 * j) % 256)) (fun h => absurd (show b < w.heap.size from h) (by have := HBB.out; omega)))
      have t7 : ((7 : Int) - j).toNat = 7 - j := by omega
      clear hB hB2 fr hval hj'
      go_wp2_with (fail)
      go_roundw
      case rel => exact ⟨j + 1, by omega, by go_num, by rw [show 8 - (j + 1) = 7 - j by omega]; exact HB2.out, HF2.out⟩
      case measure => simp [intOf]; omega
    · obtain rfl : j = 8 := by omega
      have hB' : Blk wr b (bv (be8 x)) 127 := hB
      have hr : wr.rangeAt b 0 (bv (be8 x)) := hB'.range [] (bv (be8 x)) [] (by simp)
      have HR := hid hr
      have FR := hid fr
      have hcv := run_bytes_string (P := Tryz.prog) (w := wr) (l := be8 x) HR.out (src := 64) (dst := 9) Tryz.underlying64 Tryz.underlying5 Tryz.underlying9 8 8 (be8_length x).symm
      clear hB hB' hr fr
      go_wp2_with (fail)
      go_ret
      exact ⟨rfl, FR.out⟩
theorem WriteByteN_go {B : Nat} {w : World} {b : Nat} {l : List UInt8} {v : Value} (h : Bld B w b l v) (hB : B ≤ w.heap.size) (hl : l.length + 1 ≤ 1099511627776) (n : Nat) (hn : n < 256) : Calls Tryz.prog 35 #[.pointer (some ⟨b, 0, none⟩), .int .u8 (n : Int)] w fun e w' => e = .returned .nilIface ∧ ∃ v', BldW B w w' b (l ++ [UInt8.ofNat n]) v v' := by
  have := WriteByte_go h hB hl (UInt8.ofNat n)
  rwa [UInt8.toNat_ofNat', Nat.mod_eq_of_lt (show n < 2 ^ 8 from hn)] at this
set_option maxRecDepth 20000 in
set_option maxHeartbeats 4000000 in
theorem VBytes_go {R : Nat → Prop} {w : World} {va : Value} {r : List V} (h : Sl R w va r.length (r.flatMap V.cells)) (hR : ∀ k, R k → k < w.heap.size) (hn : r.length ≤ 1099511627776) : Calls Tryz.prog 10 #[va] w fun e w' => e = .returned (.string (bs (rowBytes r))) ∧ Fr (fun _ => False) w w' := by
  have HR := hid (right_go h hR hn)
  obtain ⟨a, c, rfl, hc, hx⟩ := h
  have HX := hid (show Sl R w (.slice a r.length c) r.length (r.flatMap V.cells) from ⟨a, c, rfl, hc, hx⟩)
  clear hx
  cases hr : row r with
  | false =>
    rw [hr] at HR
    have hb : rowBytes r = [] := by unfold rowBytes; rw [hr]; rfl
    rw [hb]
    go_enter Tryz.func10, Tryz.ntmps10
    go_wp2_with (go_at_call 34; refine HR.out.mono ?_; rintro e w1 ⟨rfl, f1⟩; clear HR)
    go_ret
    exact ⟨rfl, f1⟩
  | true =>
    have hb : rowBytes r = UInt8.ofNat r.length :: r.flatMap V.bytes := by unfold rowBytes; rw [hr]; rfl
    rw [hr] at HR
    rw [hb]
    have hlen : r.length ≤ 6 := by unfold row at hr; simp at hr; exact hr.1
    have hall := hid (show ∀ v ∈ r, v.right = true by unfold row at hr; simp at hr; exact hr.2)
    clear hb hr
    go_enter Tryz.func10, Tryz.ntmps10
    go_wp2_with (go_at_call 34; refine HR.out.mono ?_; rintro e w1 ⟨rfl, f1⟩; clear HR)
    have F1 := hid f1
    have hlt : r.length < 256 := by omega
    have HB0 := hid (Bld.new w1 (Nat.le_refl _))
    have HW0 := hid (WriteByteN_go HB0.out (by simp) (by simp) r.length hlt)
    clear f1
    go_wp2_with (go_at_call 35; refine HW0.out.mono ?_; rintro e w2 ⟨rfl, v2, hw2⟩)
    have HF2 := hid (hw2.frB HB0.out (F1.out.alloc _) F1.out.size (Nat.le_refl _))
    have HB2 := hid hw2.bld
    have HS2 := hid (Nat.le_trans (by simp) hw2.fr.size : w1.heap.size + 1 ≤ w2.heap.size)
    clear hw2 HW0 HB0
    generalize hb : w1.heap.size = b at *
    have HBB := hid hb
    clear hb
    go_loopw [15] (fun i wr => ∃ (j : Nat) (v' : Value), j ≤ r.length ∧ i = .int .i64 j ∧ Bld b wr b (UInt8.ofNat r.length :: (r.take j).flatMap V.bytes) v' ∧ Fr (fun _ => False) w wr ∧ b < wr.heap.size) (fun i _ => r.length - (intOf i).toNat)
    case atStart => exact ⟨0, v2, by omega, rfl, HB2.out, HF2.out, by have := HS2.out; omega⟩
    case round =>
      obtain ⟨j, v3, hj, rfl, hbl, fr, hbs⟩ := hrel
      by_cases hjl : j < r.length
      · obtain ⟨g, o, rfl, hg, hcell⟩ := sl_cell3 (f := V.cells) vcells_len (HX.out.fr fr (fun _ _ h => h)) (fun h => by subst h; cases hjl)
        have q0 : wr.cell? ⟨g, o + j * 3, none⟩ = some (.int .i64 r[j].k) := hcell j hjl 0 (by omega)
        have q1 : wr.cell? ⟨g, o + j * 3 + 1, none⟩ = some (.int .i64 r[j].n) := hcell j hjl 1 (by omega)
        have q2 : wr.cell? ⟨g, o + j * 3 + 2, none⟩ = some (.string (bs r[j].s)) := hcell j hjl 2 (by omega)
        have FR := hid fr
        have i1 : (0 : Int) ≤ (j : Int) := by omega
        have i2 : (j : Int) < r.length := by omega
        have HT := hid (take_flat r V.bytes j hjl)
        have hright := hall.out r[j] (List.getElem_mem hjl)
        have HLE := hid (vbytes_le r[j] hright)
        have HSUM := hid (show ((r.take j).flatMap V.bytes).length ≤ 252 from vsum_le _ (fun v hv => hall.out v (List.mem_of_mem_take hv)) (by rw [List.length_take]; omega))
        have HBL := hid hbl
        clear hcell fr hbl
        generalize r[j] = x at *
        obtain ⟨k, n, s⟩ := x
        have hk : k = 0 ∨ k = 1 ∨ k = 2 := by unfold V.right at hright; simp at hright; omega
        have HB4 := hid ((HBL.out.fre ((Fr.refl (fun _ => False) wr).alloc (.cells #[.int .i64 k, .int .i64 n, .string (bs s)] 46))))
        have HD4 := hid (show Blk (wr.alloc (.cells #[.int .i64 k, .int .i64 n, .string (bs s)] 46)) wr.heap.size [.int .i64 k, .int .i64 n, .string (bs s)] 46 from Blk.new wr [.int .i64 k, .int .i64 n, .string (bs s)] 46)
        have HF4 := hid (FR.out.alloc (.cells #[.int .i64 k, .int .i64 n, .string (bs s)] 46))
        have hb4 : b ≤ (wr.alloc (.cells #[.int .i64 k, .int .i64 n, .string (bs s)] 46)).heap.size := by rw [World.size_alloc]; omega
        have hl4 : (UInt8.ofNat r.length :: (r.take j).flatMap V.bytes).length + 1 ≤ 1099511627776 := by have := HSUM.out; rw [List.length_cons]; omega
        rcases hk with rfl | rfl | rfl
        · have HWK := hid (WriteByteN_go HB4.out hb4 hl4 0 (by omega))
          go_wp2_with (go_at_call 35; refine HWK.out.mono ?_; rintro e w5 ⟨rfl, v5, hw5⟩; have D5 := hid (Blk.fr HD4.out hw5.fr (fun h => h.elim (fun h => by omega) (fun h => HB4.out.row.ne HD4.out (by decide) _ h rfl))); have k50 := Blk.cell D5.out 0; have k51 := Blk.cell D5.out 1; have k52 := Blk.cell D5.out 2; have HW5 := hid hw5; clear hw5)
          go_roundw
          case rel => exact ⟨j + 1, v5, by omega, by go_num, HW5.out.bld.cast (by rw [HT.out]; simp [V.bytes]), HW5.out.frB HB4.out HF4.out (Nat.le_trans F1.out.size (Nat.le_of_eq HBB.out)) (Nat.le_refl _), by have := HW5.out.fr.size; rw [World.size_alloc] at this; omega⟩
          case measure => simp [intOf]; omega
        · have HWK := hid (WriteByteN_go HB4.out hb4 hl4 1 (by omega))
          have HWH := hid (fun w => whole_go (word n) (word_lt n) w)
          have hwr := word_wrap n
          go_wp2_with (first
            | (go_at_call 35; refine HWK.out.mono ?_; rintro e w5 ⟨rfl, v5, hw5⟩; have D5 := hid (Blk.fr HD4.out hw5.fr (fun h => h.elim (fun h => by omega) (fun h => HB4.out.row.ne HD4.out (by decide) _ h rfl))); have k50 := Blk.cell D5.out 0; have k51 := Blk.cell D5.out 1; have k52 := Blk.cell D5.out 2; have HW5 := hid hw5; clear hw5)
            | (go_at_call 37; refine (HWH.out _).mono ?_; rintro e w6 ⟨rfl, f6⟩; have F6 := hid f6; clear f6)
            | (go_at_call 36; refine (WriteString_go (HW5.out.bld.fre F6.out) (Nat.le_trans hb4 (Nat.le_trans HW5.out.fr.size F6.out.size)) (be8 (word n)) (by have := HSUM.out; simp only [List.length_append, List.length_cons, List.length_nil, be8_length]; omega)).mono ?_; rintro e w7 ⟨rfl, v7, hw7⟩; have HW7 := hid hw7; clear hw7))
          go_roundw
          case rel => exact ⟨j + 1, v7, by omega, by go_num, HW7.out.bld.cast (by rw [HT.out]; simp [V.bytes]), HW7.out.frB (HW5.out.bld.fre F6.out) ((HW5.out.frB HB4.out HF4.out (Nat.le_trans F1.out.size (Nat.le_of_eq HBB.out)) (Nat.le_refl _)).trans F6.out (fun _ h _ => h)) (Nat.le_trans F1.out.size (Nat.le_of_eq HBB.out)) (Nat.le_refl _), by have := HW5.out.fr.size; have := F6.out.size; have := HW7.out.fr.size; rw [World.size_alloc] at *; omega⟩
          case measure => simp [intOf]; omega
        · have HWK := hid (WriteByteN_go HB4.out hb4 hl4 2 (by omega))
          have hs40 : s.length ≤ 40 := by unfold V.right at hright; simp at hright; exact hright
          have e1 := bs_size s
          go_wp2_with (first
            | (go_at_call 36; refine (WriteString_go HW6.out.bld (Nat.le_trans hb4 (Nat.le_trans HW5.out.fr.size HW6.out.fr.size)) s (by have := HSUM.out; simp only [List.length_append, List.length_cons, List.length_nil]; omega)).mono ?_; rintro e w7 ⟨rfl, v7, hw7⟩; have HW7 := hid hw7; clear hw7)
            | (go_at_call 35; refine (WriteByteN_go HW5.out.bld (Nat.le_trans hb4 HW5.out.fr.size) (by have := HSUM.out; simp only [List.length_append, List.length_cons, List.length_nil]; omega) s.length (by omega)).mono ?_; rintro e w6 ⟨rfl, v6, hw6⟩; have D6 := hid (Blk.fr D5.out hw6.fr (fun h => h.elim (fun h => by omega) (fun h => HW5.out.bld.row.ne D5.out (by decide) _ h rfl))); have k60 := Blk.cell D6.out 0; have k61 := Blk.cell D6.out 1; have k62 := Blk.cell D6.out 2; have HW6 := hid hw6; clear hw6)
            | (go_at_call 35; refine HWK.out.mono ?_; rintro e w5 ⟨rfl, v5, hw5⟩; have D5 := hid (Blk.fr HD4.out hw5.fr (fun h => h.elim (fun h => by omega) (fun h => HB4.out.row.ne HD4.out (by decide) _ h rfl))); have k50 := Blk.cell D5.out 0; have k51 := Blk.cell D5.out 1; have k52 := Blk.cell D5.out 2; have HW5 := hid hw5; clear hw5))
          go_roundw
          case rel => exact ⟨j + 1, v7, by omega, by go_num, HW7.out.bld.cast (by rw [HT.out]; simp [V.bytes]), HW7.out.frB HW6.out.bld (HW6.out.frB HW5.out.bld (HW5.out.frB HB4.out HF4.out (Nat.le_trans F1.out.size (Nat.le_of_eq HBB.out)) (Nat.le_refl _)) (Nat.le_trans F1.out.size (Nat.le_of_eq HBB.out)) (Nat.le_refl _)) (Nat.le_trans F1.out.size (Nat.le_of_eq HBB.out)) (Nat.le_refl _), by have := HW5.out.fr.size; have := HW6.out.fr.size; have := HW7.out.fr.size; rw [World.size_alloc] at *; omega⟩
          case measure => simp [intOf]; omega
      · obtain rfl : j = r.length := by omega
        rw [List.take_length] at hbl
        have HST := hid (String_go hbl (Nat.le_of_lt hbs) (Nat.le_refl _))
        have FR := hid fr
        clear hbl fr HX hc
        go_wp2_with (go_at_call 38; refine HST.out.mono ?_; rintro e w9 ⟨rfl, f9⟩)
        go_ret
        have hsz : w.heap.size ≤ b := Nat.le_trans F1.out.size (Nat.le_of_eq HBB.out)
        exact ⟨rfl, FR.out.trans (S := fun _ => False) (T := fun k => b ≤ k) ⟨f9.os, f9.tape, f9.output, f9.size, fun k _ hn => f9.block k (by omega)⟩ (fun k hk hl => by omega)⟩
end Go.Proofs.YtgkfdlpijefgkaaGreatDoor

/- from XValB.lean.tpl -/
namespace Go.Proofs.YtgkfdlpijefgkaaGreatDoor
open Go.RowKit Go.VB Go.VB.Oct Go.VB.Rec
/-- the panic that carries an error -/
def trouble (e : Int) : PanicEntry := { v := .iface 82 (.agg #[.int .i64 e]), recovered := false }
theorem must_true (e : Int) (w : World) : Calls Tryz.prog 31 #[.bool true, .int .i64 e] w fun x w' => x = .returned (.tuple #[]) ∧ w = w' := by
  go_enter Tryz.func31, Tryz.ntmps31
  go_wp2
  go_end0
  exact ⟨rfl, rfl⟩
theorem must_false (e : Int) (w : World) : Calls Tryz.prog 31 #[.bool false, .int .i64 e] w fun x w' => x = .panicked [trouble e] ∧ w = w' := by
  go_enter Tryz.func31, Tryz.ntmps31
  go_wp2
  exact ⟨rfl, rfl, rfl⟩
theorem catch_idle (p q : Nat) (w : World) : CallsD Tryz.prog 29 #[.pointer (some ⟨p, 0, none⟩), .pointer (some ⟨q, 0, none⟩)] .returning w fun e u' w' => e = .returned (.tuple #[]) ∧ u' = .returning ∧ w' = w := by
  refine callsD_of_wpS Tryz.func29 rfl fun c₀ cs hu => ?_
  apply wpS_seq
  apply wpS_region
  simp [wpOpsS, go_sem, recoverD, hu, Tryz.ntmps29, Exit.thenS]
  refine wpS_of_wp ?_
  go_wp2
  cases c₀
  simp_all [bodyPostS, results, Tryz.results29]
theorem run_trouble (v : Value) (w : World) : (Instr.typeAssert (.iface 82 v) 20 82 true).run Tryz.prog w = .ok (.tuple #[v, .bool true]) w := by kernel_rfl
set_option maxRecDepth 20000 in
theorem catch_panicking (p q : Nat) (x y : Value) (e : Int) (w : World) (hp : Blk w p [x] 24) (hq : Blk w q [y] 36) (hpq : p ≠ q) :
    CallsD Tryz.prog 29 #[.pointer (some ⟨p, 0, none⟩), .pointer (some ⟨q, 0, none⟩)] (.panicking [trouble e]) w fun r u' w' =>
      r = .returned (.tuple #[]) ∧ u' = .panicking [{ trouble e with recovered := true }] ∧ Blk w' p [.slice none 0 0] 24 ∧ Blk w' q [.int .i64 e] 36 ∧ Fr (fun k => k = p ∨ k = q) w w' := by
  refine callsD_of_wpS Tryz.func29 rfl fun c₀ cs hu => ?_
  show Code.wpS Tryz.prog _ _ { tmps := #[.pointer (some ⟨p, 0, none⟩), .pointer (some ⟨q, 0, none⟩)] ++ Array.replicate (Tryz.f29.ntmps - 2) undef, defers := [] } _ _
  rw [show (#[.pointer (some ⟨p, 0, none⟩), .pointer (some ⟨q, 0, none⟩)] ++ Array.replicate (Tryz.f29.ntmps - 2) undef : Array Value) = #[.pointer (some ⟨p, 0, none⟩), .pointer (some ⟨q, 0, none⟩), undef, undef, undef, undef, undef, undef, undef, undef, undef, undef, undef] by rw [Tryz.ntmps29]; rfl]
  apply wpS_seq
  apply wpS_region
  simp [wpOpsS, go_sem, recoverD, hu, Exit.thenS, trouble]
  have cp : w.cell? ⟨p, 0, none⟩ = some x := hp.cell 0
  have cq : w.cell? ⟨q, 0, none⟩ = some y := hq.cell 0
  have zp := hp.frozen 0
  have zq := hq.frozen 0
  have HP := hid hp
  have HQ := hid hq
  have FA := (Fr.refl (fun _ => False) w).alloc (.cells #[.int .i64 e] 82)
  have BA := Blk.new w [Value.int .i64 e] 82
  have PA := Blk.fr hp FA (fun h => h)
  have QA := Blk.fr hq FA (fun h => h)
  have hlp := hid (show w.heap.size ≠ p from fun h => by have := Blk.lt hp; omega)
  have hlq := hid (show w.heap.size ≠ q from fun h => by have := Blk.lt hq; omega)
  clear hp hq
  have hta := run_trouble
  refine wpS_of_wp ?_
  go_wp2_with (fail)
  generalize hW : w.alloc (.cells #[.int .i64 e] 82) = W at *
  generalize hd : w.heap.size = d at *
  have c1 : W.cell? ⟨p, 0, none⟩ = some x := PA.cell 0
  have c2 : W.cell? ⟨q, 0, none⟩ = some y := QA.cell 0
  have c3 : W.cell? ⟨d, 0, none⟩ = some (.int .i64 e) := BA.cell 0
  have z1 := PA.frozen 0
  have z2 := QA.frozen 0
  have HFA := hid FA
  have HPA := hid PA
  have HQA := hid QA
  clear HP HQ cp cq zp zq hW hd
  have c4 : (W.setCell ⟨p, 0, none⟩ (.slice none 0 0)).cell? ⟨d, 0, none⟩ = some (.int .i64 e) := (BA.set_ne ⟨p, 0, none⟩ (.slice none 0 0) hlp.out).cell 0
  have c5 : (W.setCell ⟨p, 0, none⟩ (.slice none 0 0)).cell? ⟨q, 0, none⟩ = some y := (QA.set_ne ⟨p, 0, none⟩ (.slice none 0 0) (Ne.symm hpq)).cell 0
  have c6 : (W.setCell ⟨q, 0, none⟩ (.int .i64 e)).cell? ⟨p, 0, none⟩ = some x := (PA.set_ne ⟨q, 0, none⟩ (.int .i64 e) hpq).cell 0
  have z3 := (QA.set_ne ⟨p, 0, none⟩ (.slice none 0 0) (Ne.symm hpq)).frozen 0
  have z4 := (PA.set_ne ⟨q, 0, none⟩ (.int .i64 e) hpq).frozen 0
  clear FA BA PA QA
  go_region
  · refine ⟨rfl, .panicking [{ trouble e with recovered := true }], rfl, .tuple #[], by simp [results, Tryz.results29], rfl, rfl, ?_, ?_, ?_⟩
    · exact ((HPA.out.set 0 (.slice none 0 0)).set_ne ⟨q, 0, none⟩ (.int .i64 e) hpq).drew
    · exact ((HQA.out.set_ne ⟨p, 0, none⟩ (.slice none 0 0) (Ne.symm hpq)).set 0 (.int .i64 e)).drew
    · exact (((HFA.out.mono (T := fun k => k = p ∨ k = q) (fun _ h _ => h.elim)).setCell ⟨p, 0, none⟩ (.slice none 0 0) (fun _ => .inl rfl)).setCell ⟨q, 0, none⟩ (.int .i64 e) (fun _ => .inr rfl)).drew
theorem ex_drop (s : List UInt8) (n : Nat) : (bs s).extract n s.length = bs (s.drop n) := by
  apply ByteArray.ext
  simp [bs, List.take_of_length_le]
theorem ex_take0 (s : List UInt8) (n : Nat) : (bs s).extract 0 n = bs (s.take n) := by
  apply ByteArray.ext
  simp [bs]
theorem take_ok {w : World} {a : Nat} {s : List UInt8} (h : Blk w a [.string (bs s)] 9) (hs : s.length ≤ 1099511627776) (n : Nat) (hn : n ≤ s.length) : Calls Tryz.prog 30 #[.int .i64 n, .pointer (some ⟨a, 0, none⟩)] w fun e w' => e = .returned (.string (bs (s.take n))) ∧ Blk w' a [.string (bs (s.drop n))] 9 ∧ Fr (fun k => k = a) w w' := by
  have c0 : w.cell? ⟨a, 0, none⟩ = some (.string (bs s)) := h.cell 0
  have z0 := h.frozen 0
  have e1 := bs_size s
  have q0 : (0 : Int) ≤ n := by omega
  have q1 : (n : Int) ≤ s.length := by omega
  have x1 := ex_drop s n
  have x2 := ex_take0 s n
  have HM := hid (fun w => must_true 10 w)
  have HB := hid (h.set 0 (.string (bs (s.drop n))))
  have HF := hid ((Fr.refl (fun k => k = a) w).setCell ⟨a, 0, none⟩ (.string (bs (s.drop n))) (fun _ => rfl))
  clear h
  go_enter Tryz.func30, Tryz.ntmps30
  go_wp2_with (go_at_call 31; refine (HM.out _).mono ?_; rintro e w' ⟨rfl, rfl⟩)
  go_ret
  exact ⟨rfl, HB.out, HF.out⟩
theorem take_bad {w : World} {a : Nat} {s : List UInt8} (h : Blk w a [.string (bs s)] 9) (n : Nat) (hn : s.length < n) : Calls Tryz.prog 30 #[.int .i64 n, .pointer (some ⟨a, 0, none⟩)] w fun e w' => e = .panicked [trouble 10] ∧ w = w' := by
  have c0 : w.cell? ⟨a, 0, none⟩ = some (.string (bs s)) := h.cell 0
  have e1 := bs_size s
  have q1 : ¬ ((n : Int) ≤ s.length) := by omega
  have q2 : ¬ (n ≤ s.length) := by omega
  have HM := hid (fun w => must_false 10 w)
  clear h
  go_enter Tryz.func30, Tryz.ntmps30
  go_wp2_with (go_at_call 31; refine (HM.out _).mono ?_; rintro e w' ⟨rfl, rfl⟩)
  exact ⟨rfl, rfl, rfl⟩
theorem one_ok {w : World} {a f : Nat} {c : UInt8} {s : List UInt8} (h : Blk w a [.string (bs (c :: s))] 9) (hf : Blk w f [.func (.func 30) #[] #[.pointer (some ⟨a, 0, none⟩)]] 84) (hs : s.length < 1099511627776) : Calls Tryz.prog 32 #[.pointer (some ⟨f, 0, none⟩)] w fun e w' => e = .returned (.int .i64 (c.toNat : Int)) ∧ Blk w' a [.string (bs s)] 9 ∧ Fr (fun k => k = a) w w' := by
  have c0 : w.cell? ⟨f, 0, none⟩ = some (.func (.func 30) #[] #[.pointer (some ⟨a, 0, none⟩)]) := hf.cell 0
  have HT := hid (take_ok h (by simp; omega) 1 (by simp))
  have hc := c.toNat_lt
  have h1 : (bs [c]).size = 1 := rfl
  clear h hf
  go_enter Tryz.func32, Tryz.ntmps32
  go_wp2_with (go_at_call 30; refine HT.out.mono ?_; rintro e w' ⟨rfl, hb, f1⟩; simp only [List.take_succ_cons, List.take_zero, List.drop_succ_cons, List.drop_zero] at hb ⊢; have HB := hid hb; have HF := hid f1; clear hb f1)
  go_ret
  have hw : wrap64 ((c.toNat : Nat) : Int) = (c.toNat : Int) := by unfold wrap64; omega
  exact ⟨ret_int hw, HB.out, HF.out⟩
theorem one_bad {w : World} {a f : Nat} (h : Blk w a [.string (bs [])] 9) (hf : Blk w f [.func (.func 30) #[] #[.pointer (some ⟨a, 0, none⟩)]] 84) : Calls Tryz.prog 32 #[.pointer (some ⟨f, 0, none⟩)] w fun e w' => e = .panicked [trouble 10] ∧ w = w' := by
  have c0 : w.cell? ⟨f, 0, none⟩ = some (.func (.func 30) #[] #[.pointer (some ⟨a, 0, none⟩)]) := hf.cell 0
  have HT := hid (take_bad h 1 (by simp))
  clear h hf
  go_enter Tryz.func32, Tryz.ntmps32
  go_wp2_with (go_at_call 30; refine HT.out.mono ?_; rintro e w' ⟨rfl, rfl⟩)
  exact ⟨rfl, rfl, rfl⟩
end Go.Proofs.YtgkfdlpijefgkaaGreatDoor

/- from XValM.lean.tpl -/
namespace Go.VB.Rec
open Go.VB.Oct
/-- eight bytes as an int64 -/
def int8 (s : List UInt8) : Int := IntKind.i64.wrap (num s)
def readOne : List UInt8 → Except Int (V × List UInt8)
  | [] => .error 10
  | k :: s =>
    if k = 0 then .ok (⟨0, 0, []⟩, s)
    else if k = 1 then (if s.length < 8 then .error 10 else .ok (⟨1, int8 (s.take 8), []⟩, s.drop 8))
    else if k = 2 then
      match s with
      | [] => .error 10
      | m :: s => if 40 < m.toNat then .error 2 else if s.length < m.toNat then .error 10 else .ok (⟨2, 0, s.take m.toNat⟩, s.drop m.toNat)
    else .error 11
def readN : Nat → List UInt8 → Except Int (List V × List UInt8)
  | 0, s => .ok ([], s)
  | n + 1, s =>
    match readOne s with
    | .error e => .error e
    | .ok (v, t) =>
      match readN n t with
      | .error e => .error e
      | .ok (l, u) => .ok (v :: l, u)
def readV : List UInt8 → List V × Int
  | [] => ([], 10)
  | n :: s =>
    if 6 < n.toNat then ([], 2) else
      match readN n.toNat s with
      | .error e => ([], e)
      | .ok (l, []) => (l, 0)
      | .ok (_, _ :: _) => ([], 11)
/-- the reading so far and what is still to be read -/
def more (acc : List V) : Except Int (List V × List UInt8) → Except Int (List V × List UInt8)
  | .error e => .error e
  | .ok (l, u) => .ok (acc ++ l, u)
theorem more_nil (x : Except Int (List V × List UInt8)) : more [] x = x := by
  cases x with
  | error e => rfl
  | ok p => rfl
theorem more_err {acc : List V} {n : Nat} {s : List UInt8} {e : Int} (h : readOne s = .error e) : more acc (readN (n + 1) s) = .error e := by simp [readN, h, more]
theorem more_step {acc : List V} {n : Nat} {s t : List UInt8} {v : V} (h : readOne s = .ok (v, t)) : more acc (readN (n + 1) s) = more (acc ++ [v]) (readN n t) := by
  simp only [readN, h]
  cases readN n t with
  | error e => rfl
  | ok p => simp [more]
theorem readOne_le {s t : List UInt8} {v : V} (h : readOne s = .ok (v, t)) : t.length ≤ s.length := by
  unfold readOne at h
  cases s with
  | nil => cases h
  | cons k s =>
    dsimp only at h
    split at h
    · cases h; simp
    · split at h
      · split at h
        · cases h
        · cases h; simp; omega
      · split at h
        · cases s with
          | nil => cases h
          | cons m s =>
            dsimp only at h
            split at h
            · cases h
            · split at h
              · cases h
              · cases h; simp; omega
        · cases h
end Go.VB.Rec

/- from XValC.lean.tpl -/
namespace Go.Proofs.YtgkfdlpijefgkaaGreatDoor
open Go.RowKit Go.VB Go.VB.Oct Go.VB.Rec
theorem or_i64w (y x : Nat) (hy : y < 72057594037927936) (hx : x < 256) : bits .or .i64 (IntKind.i64.wrap ((y : Int) * 256)) (x : Int) = IntKind.i64.wrap ((y * 256 + x : Nat) : Int) := by
  have h1 : (BitVec.ofInt 64 (IntKind.i64.wrap ((y : Int) * 256))).toNat = y * 256 := by
    rw [BitVec.toNat_ofInt, IntKind.wrap_i64]
    omega
  show IntKind.i64.wrap ((BitVec.ofInt 64 (IntKind.i64.wrap ((y : Int) * 256)) ||| BitVec.ofInt 64 (x : Int)).toNat : Int) = _
  rw [BitVec.toNat_or, h1, ofInt_u64 x (by omega), Nat.mul_comm y 256, ← Nat.two_pow_add_eq_or_of_lt (i := 8) (by simpa using hx) y]
theorem bs_empty (l : List UInt8) : (bs l).toList.isEmpty = l.isEmpty := by
  rw [← Go.decide_eq_emptyBytes]
  cases l with
  | nil => exact decide_eq_true rfl
  | cons x l =>
    refine decide_eq_false fun h => ?_
    have := congrArg ByteArray.size h
    rw [bs_size] at this
    cases this
/-- where the reading stands: s is left, l is read -/
structure VR (w0 W : World) (a : Nat) (s : List UInt8) (va : Value) (l : List V) : Prop where
  str : Blk W a [.string (bs s)] 9
  row : Blk W (a + 1) [va] 24
  err : Blk W (a + 1 + 1) [.int .i64 0] 36
  fn : Blk W (a + 1 + 1 + 1) [.func (.func 30) #[] #[.pointer (some ⟨a, 0, none⟩)]] 84
  own : Row 46 3 w0.heap.size W va l.length (l.flatMap V.cells)
  fr : Fr (fun _ => False) w0 W
  at_ : a = w0.heap.size
theorem vread_start (w : World) (s : List UInt8) : VR w ((((w.alloc (.cells #[.string (bs s)] 9)).alloc (.cells #[.slice none 0 0] 24)).alloc (.cells #[.int .i64 0] 36)).alloc (.cells #[(.func (.func 30) #[] #[.pointer (some ⟨w.heap.size, 0, none⟩)])] 84)) w.heap.size s (.slice none 0 0) [] := by
  have h1 := (((Blk.new w [Value.string (bs s)] 9).alloc (.cells #[.slice none 0 0] 24)).alloc (.cells #[.int .i64 0] 36)).alloc (.cells #[(.func (.func 30) #[] #[.pointer (some ⟨w.heap.size, 0, none⟩)])] 84)
  have h2 := ((Blk.new (w.alloc (.cells #[.string (bs s)] 9)) [Value.slice none 0 0] 24).alloc (.cells #[.int .i64 0] 36)).alloc (.cells #[(.func (.func 30) #[] #[.pointer (some ⟨w.heap.size, 0, none⟩)])] 84)
  have h3 := (Blk.new ((w.alloc (.cells #[.string (bs s)] 9)).alloc (.cells #[.slice none 0 0] 24)) [Value.int .i64 0] 36).alloc (.cells #[(.func (.func 30) #[] #[.pointer (some ⟨w.heap.size, 0, none⟩)])] 84)
  have h4 := Blk.new (((w.alloc (.cells #[.string (bs s)] 9)).alloc (.cells #[.slice none 0 0] 24)).alloc (.cells #[.int .i64 0] 36)) [Value.func (.func 30) #[] #[.pointer (some ⟨w.heap.size, 0, none⟩)]] 84
  have f := ((((Fr.refl (fun _ => False) w).alloc (.cells #[.string (bs s)] 9)).alloc (.cells #[.slice none 0 0] 24)).alloc (.cells #[.int .i64 0] 36)).alloc (.cells #[(.func (.func 30) #[] #[.pointer (some ⟨w.heap.size, 0, none⟩)])] 84)
  simp only [World.size_alloc] at h2 h3 h4
  exact ⟨h1, h2, h3, h4, Row.nil, f, rfl⟩
theorem VR.eat {w0 W W' : World} {a : Nat} {s t : List UInt8} {va : Value} {l : List V} (h : VR w0 W a s va l) (hs : Blk W' a [.string (bs t)] 9) (f : Fr (fun k => k = a) W W') : VR w0 W' a t va l :=
  ⟨hs, h.row.fr f (fun h => by omega), h.err.fr f (fun h => by omega), h.fn.fr f (fun h => by omega), h.own.fr f (fun k hk => h.own.ne h.str (by decide) k hk), h.fr.trans f (fun k hk hl => by have := h.at_; omega), h.at_⟩
theorem VR.one {w0 W : World} {a : Nat} {c : UInt8} {s : List UInt8} {va : Value} {l : List V} (h : VR w0 W a (c :: s) va l) (hs : s.length < 1099511627776) : Calls Tryz.prog 32 #[.pointer (some ⟨a + 1 + 1 + 1, 0, none⟩)] W fun e W' => e = .returned (.int .i64 (c.toNat : Int)) ∧ VR w0 W' a s va l ∧ Fr (fun k => k = a) W W' := by
  refine (one_ok h.str h.fn hs).mono ?_
  rintro e W' ⟨rfl, hb, f⟩
  exact ⟨rfl, h.eat hb f, f⟩
theorem VR.one_bad {w0 W : World} {a : Nat} {va : Value} {l : List V} (h : VR w0 W a [] va l) : Calls Tryz.prog 32 #[.pointer (some ⟨a + 1 + 1 + 1, 0, none⟩)] W fun e W' => e = .panicked [trouble 10] ∧ W = W' := Go.Proofs.YtgkfdlpijefgkaaGreatDoor.one_bad h.str h.fn
theorem VR.take {w0 W : World} {a : Nat} {s : List UInt8} {va : Value} {l : List V} (h : VR w0 W a s va l) (hs : s.length ≤ 1099511627776) (n : Nat) (hn : n ≤ s.length) : Calls Tryz.prog 30 #[.int .i64 n, .pointer (some ⟨a, 0, none⟩)] W fun e W' => e = .returned (.string (bs (s.take n))) ∧ VR w0 W' a (s.drop n) va l ∧ Fr (fun k => k = a) W W' := by
  refine (take_ok h.str hs n hn).mono ?_
  rintro e W' ⟨rfl, hb, f⟩
  exact ⟨rfl, h.eat hb f, f⟩
theorem VR.fr' {w0 W W' : World} {a : Nat} {s : List UInt8} {va : Value} {l : List V} (h : VR w0 W a s va l) (f : Fr (fun _ => False) W W') : VR w0 W' a s va l :=
  ⟨h.str.fr f (fun h => h), h.row.fr f (fun h => h), h.err.fr f (fun h => h), h.fn.fr f (fun h => h), h.own.fre f, h.fr.trans f (fun _ h _ => h), h.at_⟩
theorem info_val : (Tryz.prog.info? 46).map (fun i => (i.zero, i.size, i.bytes)) = some (some (.agg #[.int .i64 0, .int .i64 0, .string .empty]), 3, 32) := by kernel_rfl
theorem val_cells : (Value.agg #[.int .i64 0, .int .i64 0, .string .empty]).cells.size = 3 := by kernel_rfl
theorem VR.add {w0 W wg : World} {a : Nat} {s : List UInt8} {va va' : Value} {l : List V} (h : VR w0 W a s va l) (v : V) (hA : App 46 3 w0.heap.size W wg va va' l.length (l.flatMap V.cells) v.cells) : VR w0 (wg.setCell ⟨a + 1, 0, none⟩ va') a s va' (l ++ [v]) := by
  have f := hA.fr
  have fs := (Fr.refl (fun k => k = a + 1) wg).setCell ⟨a + 1, 0, none⟩ va' (fun _ => rfl)
  have r1 := h.row.fr f (fun hk => h.own.ne h.row (by decide) _ hk rfl)
  refine ⟨(h.str.fr f (fun hk => h.own.ne h.str (by decide) _ hk rfl)).fr fs (fun h => by omega), r1.set 0 va', (h.err.fr f (fun hk => h.own.ne h.err (by decide) _ hk rfl)).fr fs (fun h => by omega), (h.fn.fr f (fun hk => h.own.ne h.fn (by decide) _ hk rfl)).fr fs (fun h => by omega), ?_, ?_, h.at_⟩
  · refine (hA.row.fr fs (fun k hk => hA.row.ne r1 (by decide) k hk)).cast (by simp) (by simp)
  · refine (hA.frB h.own h.fr (Nat.le_refl _)).trans fs (fun k hk hl => by have := h.at_; omega)

set_option maxRecDepth 20000 in
theorem vread_panic {w0 W : World} {a : Nat} {s : List UInt8} {va : Value} {l : List V} (h : VR w0 W a s va l) (e : Int) {tm : Array Value} (h2 : tm[2]? = some (.pointer (some ⟨a + 1, 0, none⟩))) (h3 : tm[3]? = some (.pointer (some ⟨a + 1 + 1, 0, none⟩))) {Q : Ending → World → Prop}
    (hq : ∀ W', Fr (fun _ => False) w0 W' → Q (.returned (.tuple #[.slice none 0 0, .int .i64 e])) W') :
    bodyPostD Tryz.prog Tryz.f9 Q (Exit.panic [trouble e]) { tmps := tm, defers := [{ target := Target.fn (Fn.func 29) #[.pointer (some ⟨a + 1, 0, none⟩), .pointer (some ⟨a + 1 + 1, 0, none⟩)], args := #[] }] } W := by
  refine leaves_cons (f := 29) (args := #[.pointer (some ⟨a + 1, 0, none⟩), .pointer (some ⟨a + 1 + 1, 0, none⟩)]) (by simp) (by simp [go_sem]) ?_
  refine (catch_panicking (a + 1) (a + 1 + 1) va (.int .i64 0) e W h.row h.err (by omega)).mono ?_
  rintro r u' W' ⟨rfl, rfl, hp, hq', f⟩
  have c1 : W'.cell? ⟨a + 1, 0, none⟩ = some (.slice none 0 0) := hp.cell 0
  have c2 : W'.cell? ⟨a + 1 + 1, 0, none⟩ = some (.int .i64 e) := hq'.cell 0
  have hQ := hq W' (h.fr.trans f (fun k hk hl => by have := h.at_; omega))
  refine ⟨.tuple #[.slice none 0 0, .int .i64 e], ?_, hQ⟩
  simp [results, Tryz.results9, go_sem, h2, h3, c1, c2]
set_option maxRecDepth 20000 in
theorem vread_ret {W : World} {a : Nat} {va : Value} (c1 : W.cell? ⟨a + 1, 0, none⟩ = some va) (c2 : W.cell? ⟨a + 1 + 1, 0, none⟩ = some (.int .i64 0)) {tm : Array Value} (h2 : tm[2]? = some (.pointer (some ⟨a + 1, 0, none⟩))) (h3 : tm[3]? = some (.pointer (some ⟨a + 1 + 1, 0, none⟩))) {Q : Ending → World → Prop}
    (hq : Q (.returned (.tuple #[va, .int .i64 0])) W) :
    bodyPostD Tryz.prog Tryz.f9 Q Exit.ret { tmps := tm, defers := [{ target := Target.fn (Fn.func 29) #[.pointer (some ⟨a + 1, 0, none⟩), .pointer (some ⟨a + 1 + 1, 0, none⟩)], args := #[] }] } W := by
  refine leaves_cons (f := 29) (args := #[.pointer (some ⟨a + 1, 0, none⟩), .pointer (some ⟨a + 1 + 1, 0, none⟩)]) (by simp) (by simp [go_sem]) ?_
  refine (catch_idle (a + 1) (a + 1 + 1) W).mono ?_
  rintro r u' W' ⟨rfl, rfl, rfl⟩
  refine ⟨.tuple #[va, .int .i64 0], ?_, hq⟩
  simp [results, Tryz.results9, go_sem, h2, h3, c1, c2]
theorem VR.put {w0 W : World} {a d o : Nat} {u : Value} {s : List UInt8} {va : Value} {l : List V} (h : VR w0 W a s va l) (hd : a + 1 + 1 + 1 < d) (hn : ∀ k, va.ownBlock = some k → k ≠ d) : VR w0 (W.setCell ⟨d, o, none⟩ u) a s va l :=
  ⟨h.str.set_ne _ _ (fun e => by have : a = d := e; omega), h.row.set_ne _ _ (fun e => by have : a + 1 = d := e; omega), h.err.set_ne _ _ (fun e => by have : a + 1 + 1 = d := e; omega), h.fn.set_ne _ _ (fun e => by have : a + 1 + 1 + 1 = d := e; omega),
    h.own.fr ((Fr.refl (fun k => k = d) W).setCell ⟨d, o, none⟩ u (fun _ => rfl)) (fun k hk => hn k hk), h.fr.setCell _ _ (fun hlt => by have := h.at_; have : d < w0.heap.size := hlt; omega), h.at_⟩
theorem VR.far {w0 W : World} {a : Nat} {s : List UInt8} {va : Value} {l : List V} (h : VR w0 W a s va l) : a + 1 + 1 + 1 < W.heap.size := h.fn.lt
theorem VR.new {w0 W : World} {a : Nat} {s : List UInt8} {va : Value} {l : List V} (h : VR w0 W a s va l) : ∀ k, va.ownBlock = some k → k ≠ W.heap.size := fun k hk e => by have := h.own.lt hk; omega
end Go.Proofs.YtgkfdlpijefgkaaGreatDoor

/- from XValD.lean.tpl -/
namespace Go.Proofs.YtgkfdlpijefgkaaGreatDoor
open Go.RowKit Go.VB Go.VB.Oct Go.VB.Rec
set_option maxRecDepth 20000 in
set_option maxHeartbeats 4000000 in
theorem VRead_go (s : List UInt8) (hs : s.length ≤ 1099511627776) (w : World) : Calls Tryz.prog 9 #[.string (bs s)] w fun e w' => ∃ va, e = .returned (.tuple #[va, .int .i64 (readV s).2]) ∧ Row 46 3 w.heap.size w' va (readV s).1.length ((readV s).1.flatMap V.cells) ∧ Fr (fun _ => False) w w' := by
  have hmf : ∀ (fn : Fn) (first cap : Array Value) (w : World), (Instr.makeFunc fn first cap).run Tryz.prog w = .ok (.func fn first cap) w := fun _ _ _ _ => rfl
  have hsf : ∀ (a : Addr) (fn : Fn) (x y : Array Value) (w : World), (store a (.func fn x y)).run Tryz.prog w = stored Tryz.prog w a (.func fn x y) .plain := fun a fn x y w => run_store Tryz.prog w a _ .plain rfl
  have HV := hid (vread_start w s)
  go_enter_defers Tryz.func9, Tryz.ntmps9
  cases s with
  | nil =>
    have HO := hid HV.out.one_bad
    go_wp2_with (go_at_call 32; refine HO.out.mono ?_; rintro e w1 ⟨rfl, rfl⟩)
    exact vread_panic HV.out 10 rfl rfl (fun W' f => ⟨_, rfl, Row.nil, f⟩)
  | cons c s =>
    have HO := hid (HV.out.one (by simp at hs; omega))
    have hc := c.toNat_lt
    by_cases h6 : c.toNat ≤ 6
    · have h6' : decide ((c.toNat : Int) ≤ 6) = true := decide_eq_true (by omega)
      have HM := hid (fun w => h6' ▸ must_true 2 w)
      clear h6'
      go_wp2_with (first
        | (go_at_call 32; refine HO.out.mono ?_; rintro e w1 ⟨rfl, hv1, f1⟩; have HV1 := hid hv1; clear hv1 f1 HV HO)
        | (go_at_call 31; refine (HM.out _).mono ?_; rintro e w2 ⟨rfl, rfl⟩))
      have hrv : readV (c :: s) = (match readN c.toNat s with | .error e => ([], e) | .ok (l, []) => (l, 0) | .ok (_, _ :: _) => ([], 11)) := by unfold readV; dsimp only; rw [if_neg (Nat.not_lt.2 h6)] <;> rfl
      have HRV := hid hrv
      clear hrv
      generalize c.toNat = n at *
      have hs' : s.length ≤ 1099511627776 := by simp at hs; omega
      generalize hda : w.heap.size = a at *
      have HDA := hid hda
      clear hda hs hc HM
      go_loopw [20] (fun i wr => ∃ (j : Nat) (t : List UInt8) (va : Value) (acc : List V), j ≤ n ∧ i = .int .i64 j ∧ VR w wr a t va acc ∧ acc.length = j ∧ more acc (readN (n - j) t) = readN n s ∧ t.length ≤ 1099511627776) (fun i _ => n - (intOf i).toNat)
      case atStart => exact ⟨0, s, _, [], by omega, rfl, HV1.out, rfl, more_nil _, hs'⟩
      case round =>
        obtain ⟨j, t, va, acc, hj, rfl, hv, hal, hmore, ht⟩ := hrel
        have HVR := hid hv
        have HMO := hid hmore
        have HAL := hid hal
        clear hv hmore hal
        by_cases hjn : j < n
        · have hsub : n - j = (n - (j + 1)) + 1 := by omega
          cases t with
          | nil =>
            have HO := hid HVR.out.one_bad
            go_wp2_with (go_at_call 32; refine HO.out.mono ?_; rintro e w2 ⟨rfl, rfl⟩)
            have hx : readN n s = .error 10 := by rw [← HMO.out, hsub]; exact more_err rfl
            refine vread_panic HVR.out 10 rfl rfl (fun W' f => ?_)
            rw [HRV.out, hx]
            exact ⟨_, rfl, Row.nil, f⟩
          | cons k t =>
            have HO := hid (HVR.out.one (by simp at ht; omega))
            have hk := k.toNat_lt
            have HKN := hid (fun w => known_go k.toNat w)
            have HMK := hid (fun (w : World) (h : (decide (0 ≤ (k.toNat : Int)) && decide ((k.toNat : Int) ≤ 2)) = true) => h ▸ must_true 11 w)
            have HMK2 := hid (fun (w : World) (h : (decide (0 ≤ (k.toNat : Int)) && decide ((k.toNat : Int) ≤ 2)) = false) => h ▸ must_false 11 w)
            by_cases hk2 : k.toNat ≤ 2
            · have hkf : (decide (0 ≤ (k.toNat : Int)) && decide ((k.toNat : Int) ≤ 2)) = true := by rw [decide_eq_true (p := (k.toNat : Int) ≤ 2) (by omega), Bool.and_true]; exact decide_eq_true (by omega)
              have HKF := hid hkf
              clear hkf
              have h3 : k = 0 ∨ k = 1 ∨ k = 2 := by
                have : k.toNat = 0 ∨ k.toNat = 1 ∨ k.toNat = 2 := by omega
                rcases this with h | h | h
                · exact .inl (UInt8.toNat_inj.1 h)
                · exact .inr (.inl (UInt8.toNat_inj.1 h))
                · exact .inr (.inr (UInt8.toNat_inj.1 h))
              rcases h3 with rfl | rfl | rfl
              · have HR1 := hid (show readOne (0 :: t) = .ok (⟨0, 0, []⟩, t) from rfl)
                go_wp2_with (first
                  | (go_at_call 32; refine HO.out.mono ?_; rintro e w2 ⟨rfl, hv2, f2⟩; have HV2 := hid hv2; have HV3 := hid (hv2.fr' ((Fr.refl (fun _ => False) w2).alloc (.cells #[.int .i64 0, .int .i64 0, .string ⟨#[]⟩] 46))); have cr := HV3.out.row.cell 0; have hsz := HV3.out.fr.size; clear hv2 f2 HO)
                  | (go_at_call 33; refine (HKN.out _).mono ?_; rintro e w3 ⟨rfl, rfl⟩)
                  | (go_at_call 31; refine (HMK.out _ HKF.out).mono ?_; rintro e w4 ⟨rfl, rfl⟩)
                  | (at_builtin; refine wpList_app1 rfl (s := .tmp 60) (x := .tmp 62) (t := 24) rfl Tryz.underlying24 info_val val_cells rfl (by rw [World.size_alloc]; rfl) HV3.out.own hsz rfl (by simp [Value.oneCell']) (by rw [HAL.out]; omega) (by rw [HAL.out]; omega) ?_; intro ab ac wg APP; have gr := HV3.out.row.fr APP.fr (fun hk => HV3.out.own.ne HV3.out.row (by decide) _ hk rfl); have cg := gr.cell 0; have zg := gr.frozen 0; clear gr))
                go_roundw
                case rel => exact ⟨j + 1, t, _, acc ++ [⟨0, 0, []⟩], by omega, by go_num, HV3.out.add ⟨0, 0, []⟩ APP, by simp [HAL.out], by rw [← HMO.out, hsub]; exact (more_step HR1.out).symm, by simp at ht; omega⟩
                case measure => simp [intOf]; omega
              · by_cases h8 : t.length < 8
                · have HR1 := hid (show readOne (1 :: t) = .error 10 by simp [readOne, h8])
                  go_wp2_with (first
                    | (go_at_call 32; refine HO.out.mono ?_; rintro e w2 ⟨rfl, hv2, f2⟩; have HV3 := hid (hv2.fr' ((Fr.refl (fun _ => False) w2).alloc (.cells #[.int .i64 1, .int .i64 0, .string ⟨#[]⟩] 46))); have c3 := HV3.out.fn.cell 0; have HT3 := hid (take_bad HV3.out.str 8 h8); clear hv2 f2 HO)
                    | (go_at_call 33; refine (HKN.out _).mono ?_; rintro e w3 ⟨rfl, rfl⟩)
                    | (go_at_call 30; refine HT3.out.mono ?_; rintro e w6 ⟨rfl, rfl⟩)
                    | (go_at_call 31; refine (HMK.out _ HKF.out).mono ?_; rintro e w4 ⟨rfl, rfl⟩))
                  have hx : readN n s = .error 10 := by rw [← HMO.out, hsub]; exact more_err HR1.out
                  refine vread_panic HV3.out 10 rfl rfl (fun W' f => ?_)
                  rw [HRV.out, hx]
                  exact ⟨_, rfl, Row.nil, f⟩
                · have HR1 := hid (show readOne (1 :: t) = .ok (⟨1, int8 (t.take 8), []⟩, t.drop 8) by simp [readOne, h8])
                  have HT8 := hid (show (t.take 8).length = 8 by rw [List.length_take]; omega)
                  have htl : t.length ≤ 1099511627776 := by simp at ht; omega
                  have h8' : 8 ≤ t.length := by omega
                  have HTD := hid (show (t.drop 8).length ≤ 1099511627776 by rw [List.length_drop]; omega)
                  have HTK := hid (fun (w0 w : World) (a : Nat) (va : Value) (l : List V) (h : VR w0 w a t va l) => h.take htl 8 h8')
                  generalize t.take 8 = l at *
                  generalize t.drop 8 = u at *
                  clear htl h8 h8' ht
                  go_wp2_with (first
                    | (go_at_call 32; refine HO.out.mono ?_; rintro e w2 ⟨rfl, hv2, f2⟩; have HN2 := hid hv2.new; have HF2 := hid hv2.far; have HD3 := hid (Blk.new w2 [.int .i64 1, .int .i64 0, .string ⟨#[]⟩] 46); have HV3 := hid (hv2.fr' ((Fr.refl (fun _ => False) w2).alloc (.cells #[.int .i64 1, .int .i64 0, .string ⟨#[]⟩] 46))); have c3 := HV3.out.fn.cell 0; have HT3 := hid (HTK.out _ _ _ _ _ HV3.out); clear hv2 f2 HO HTK)
                    | (go_at_call 33; refine (HKN.out _).mono ?_; rintro e w3 ⟨rfl, rfl⟩)
                    | (go_at_call 30; refine HT3.out.mono ?_; rintro e w5 ⟨rfl, hv5, f5⟩; have HV5 := hid hv5; have D5 := hid (HD3.out.fr f5 (fun h => by have := HF2.out; omega)); clear hv5 f5)
                    | (go_at_call 31; refine (HMK.out _ HKF.out).mono ?_; rintro e w4 ⟨rfl, rfl⟩)
                    | (refine wpList_str_bytes rfl rfl Tryz.underlying9 Tryz.underlying64 Tryz.underlying5 rfl ?_; intro c w6 hb; have HC := hid hb.cap; have HBK := hid hb.blk; have HV6 := hid (HV5.out.fr' hb.fr); have D6 := hid (D5.out.fr hb.fr (fun h => h)); have HDB := hid (show w2.heap.size ≠ w5.heap.size from fun h => by have := D5.out.lt; omega); clear hb))
                  generalize w2.heap.size = d at *
                  generalize w5.heap.size = b at *
                  clear HT3 c3 HD3 HV3 D5 HV5
                  have HSN := hid (fun i (h : i < l.length) => show Go.VB.Oct.num (l.take (i + 1)) = Go.VB.Oct.num (l.take i) * 256 + l[i].toNat from by
                    rw [List.take_add_one, List.getElem?_eq_getElem h]; exact num_snoc _ _)
                  go_loopw [37] (fun i wr => ∃ j2 : Nat, j2 ≤ l.length ∧ i = .int .i64 j2 ∧ VR w wr a u va acc ∧ Blk wr d [.int .i64 1, .int .i64 (IntKind.i64.wrap (Go.VB.Oct.num (l.take j2))), .string ⟨#[]⟩] 46 ∧ SBlk wr b (bv l ++ List.replicate (c - l.length) (.int .u8 0)) 5) (fun i _ => l.length - (intOf i).toNat)
                  case atStart => exact ⟨0, by omega, rfl, HV6.out, D6.out, HBK.out⟩
                  case round =>
                    obtain ⟨j2, hj2, rfl, hv7, hd7, hb7⟩ := hrel
                    have HV7 := hid hv7
                    have HD7 := hid hd7
                    have HB7 := hid hb7
                    by_cases hjl : j2 < l.length
                    · have hc : wr.cell? ⟨b, j2, none⟩ = some (.int .u8 ((l[j2]).toNat : Int)) := by
                        rw [hb7.cell, List.getElem?_append_left (by rw [bv_length]; exact hjl)]; simp [bv, hjl]
                      have hsn := HSN.out j2 hjl
                      have i1 : (0 : Int) ≤ (j2 : Int) := by omega
                      have i2 : (j2 : Int) < l.length := by omega
                      have hlt : Go.VB.Oct.num (l.take j2) < 256 ^ 7 := by
                        refine Nat.lt_of_lt_of_le (Go.VB.Oct.num_lt _) (Nat.pow_le_pow_right (by omega) ?_)
                        have := HT8.out
                        rw [List.length_take]; omega
                      have hx := l[j2].toNat_lt
                      rw [show IntKind.i64.wrap (Go.VB.Oct.num (l.take j2) : Int) = (Go.VB.Oct.num (l.take j2) : Int) from IntWalk.i64_in _ (by omega)] at hd7
                      generalize l[j2].toNat = x at *
                      generalize Go.VB.Oct.num (l.take j2) = y at *
                      have HOR := hid (show bits .or .i64 (wrap64 ((y : Int) * 256)) (x : Int) = IntKind.i64.wrap ((y * 256 + x : Nat) : Int) from IntWalk.i64_left ((y : Int) * 256) ▸ or_i64w y x hlt (by omega))
                      have hl8 : l.length ≤ 8 := Nat.le_of_eq HT8.out
                      have x1 : (0 : Int) ≤ x := by omega
                      have x2 : (x : Int) < 256 := by omega
                      have y1 : (0 : Int) ≤ y := by omega
                      have y2 : (y : Int) < 72057594037927936 := by omega
                      have q1 := hd7.cell 1
                      have z1 := hd7.frozen 1
                      clear hlt hx
                      have HSS := hid hsn
                      have HBN := hid (hb7.fr ((Fr.refl (fun k => k = d) wr).setCell ⟨d, 1, none⟩ (.int .i64 (bits .or .i64 (wrap64 ((y : Int) * 256)) (x : Int))) (fun _ => rfl)) (fun h => HDB.out h.symm))
                      have HDN := hid (hd7.set 1 (.int .i64 (bits .or .i64 (wrap64 ((y : Int) * 256)) (x : Int))))
                      have HVN := hid (hv7.put (o := 1) (u := .int .i64 (bits .or .i64 (wrap64 ((y : Int) * 256)) (x : Int))) HF2.out HN2.out)
                      clear hsn hv7 hd7 hb7 HSN HRV HMO HAL
                      go_wp2_with (fail)
                      go_roundw
                      case rel => exact ⟨j2 + 1, by omega, by go_num, HVN.out, by rw [HSS.out, ← HOR.out]; exact HDN.out, HBN.out⟩
                      case measure => simp [intOf]; omega
                    · obtain rfl : j2 = l.length := by omega
                      rw [List.take_length, show IntKind.i64.wrap (Go.VB.Oct.num l : Int) = int8 l from rfl] at hd7 HD7
                      have m0 := hd7.cell 0
                      have m1 := hd7.cell 1
                      have m2 := hd7.cell 2
                      have cr := hv7.row.cell 0
                      have hsz := HV7.out.fr.size
                      clear hv7 hd7 hb7 HB7
                      go_wp2_with (first
                        | (at_builtin; refine wpList_app1 rfl (s := .tmp 60) (x := .tmp 62) (t := 24) rfl Tryz.underlying24 info_val val_cells rfl (by rfl) HV7.out.own hsz rfl (by simp [Value.oneCell']) (by rw [HAL.out]; omega) (by rw [HAL.out]; omega) ?_; intro ab ac wg APP; have gr := HV7.out.row.fr APP.fr (fun hk => HV7.out.own.ne HV7.out.row (by decide) _ hk rfl); have cg := gr.cell 0; have zg := gr.frozen 0; clear gr))
                      go_roundw
                      case rel => exact ⟨j + 1, _, _, acc ++ [⟨1, int8 l, []⟩], by omega, by go_num, HV7.out.add ⟨1, int8 l, []⟩ APP, by simp [HAL.out], by rw [← HMO.out, hsub]; exact (more_step HR1.out).symm, HTD.out⟩
                      case measure => simp [intOf]; omega
              · have hkn : ∀ x : Int, x = (UInt8.toNat 2 : Int) → x = 2 := fun x h => h
                cases t with
                | nil =>
                  have HR1 := hid (show readOne (2 :: []) = .error 10 from rfl)
                  go_wp2_with (first
                    | (go_at_call 32; refine HO3.out.mono ?_; rintro e w5 ⟨rfl, rfl⟩)
                    | (go_at_call 32; refine HO.out.mono ?_; rintro e w2 ⟨rfl, hv2, f2⟩; have HV3 := hid (hv2.fr' ((Fr.refl (fun _ => False) w2).alloc (.cells #[.int .i64 2, .int .i64 0, .string ⟨#[]⟩] 46))); have HO3 := hid HV3.out.one_bad; clear hv2 f2 HO)
                    | (go_at_call 33; refine (HKN.out _).mono ?_; rintro e w3 ⟨rfl, rfl⟩)
                    | (go_at_call 31; refine (HMK.out _ HKF.out).mono ?_; rintro e w4 ⟨rfl, rfl⟩))
                  have hx : readN n s = .error 10 := by rw [← HMO.out, hsub]; exact more_err HR1.out
                  refine vread_panic HV3.out 10 rfl rfl (fun W' f => ?_)
                  rw [HRV.out, hx]
                  exact ⟨_, rfl, Row.nil, f⟩
                | cons m u =>
                  have hm := m.toNat_lt
                  by_cases h40 : m.toNat ≤ 40
                  · have h6' : decide ((m.toNat : Int) ≤ 40) = true := decide_eq_true (by omega)
                    have HM4 := hid (fun w => (h6' ▸ must_true 2 w : Calls Tryz.prog 31 #[.bool (decide ((m.toNat : Int) ≤ 40)), .int .i64 2] w fun x w' => x = .returned (.tuple #[]) ∧ w = w'))
                    clear h6'
                    by_cases hmu : m.toNat ≤ u.length
                    · have HR1 := hid (show readOne (2 :: m :: u) = .ok (⟨2, 0, u.take m.toNat⟩, u.drop m.toNat) by simp [readOne, Nat.not_lt.2 h40, Nat.not_lt.2 hmu])
                      have hul : u.length ≤ 1099511627776 := by simp at ht; omega
                      go_wp2_with (first
                        | (go_at_call 32; refine HO3.out.mono ?_; rintro e w5 ⟨rfl, hv5, f5⟩; have HV5 := hid hv5; have c5 := hv5.fn.cell 0; have HT5 := hid (hv5.take hul m.toNat hmu); have D5 := hid (HD3.out.fr f5 (fun h => by have := HF2.out; omega)); clear hv5 f5)
                        | (go_at_call 32; refine HO.out.mono ?_; rintro e w2 ⟨rfl, hv2, f2⟩; have HN2 := hid hv2.new; have HF2 := hid hv2.far; have HD3 := hid (Blk.new w2 [.int .i64 2, .int .i64 0, .string ⟨#[]⟩] 46); have HV3 := hid (hv2.fr' ((Fr.refl (fun _ => False) w2).alloc (.cells #[.int .i64 2, .int .i64 0, .string ⟨#[]⟩] 46))); have HO3 := hid (HV3.out.one (by simp at ht; omega)); clear hv2 f2 HO)
                        | (go_at_call 33; refine (HKN.out _).mono ?_; rintro e w3 ⟨rfl, rfl⟩)
                        | (go_at_call 30; refine HT5.out.mono ?_; rintro e w6 ⟨rfl, hv6, f6⟩; have D6 := hid (D5.out.fr f6 (fun h => by have := HF2.out; omega)); have k2 := D6.out.cell 2; have z2 := D6.out.frozen 2; have D7 := hid (D6.out.set 2 (.string (bs (u.take m.toNat)))); have HV7 := hid (hv6.put (o := 2) (u := .string (bs (u.take m.toNat))) HF2.out HN2.out); have cr := HV7.out.row.cell 0; have m0 := D7.out.cell 0; have m1 := D7.out.cell 1; have m2 := D7.out.cell 2; have hsz := HV7.out.fr.size; have HSZ := hid (show (w6.setCell ⟨w2.heap.size, 2, none⟩ (.string (bs (u.take m.toNat)))).heap.size = w6.heap.size by simp); clear hv6 f6)
                        | (go_at_call 31; refine (HM4.out _).mono ?_; rintro e w4 ⟨rfl, rfl⟩)
                        | (go_at_call 31; refine (HMK.out _ HKF.out).mono ?_; rintro e w4 ⟨rfl, rfl⟩)
                        | (at_builtin; refine wpList_app1 rfl (s := .tmp 60) (x := .tmp 62) (t := 24) rfl Tryz.underlying24 info_val val_cells rfl (by rw [HSZ.out]; rfl) HV7.out.own hsz rfl (by simp [Value.oneCell']) (by rw [HAL.out]; omega) (by rw [HAL.out]; omega) ?_; intro ab ac wg APP; have gr := HV7.out.row.fr APP.fr (fun hk => HV7.out.own.ne HV7.out.row (by decide) _ hk rfl); have cg := gr.cell 0; have zg := gr.frozen 0; clear gr))
                      go_roundw
                      case rel => exact ⟨j + 1, _, _, acc ++ [⟨2, 0, u.take m.toNat⟩], by omega, by go_num, HV7.out.add ⟨2, 0, u.take m.toNat⟩ APP, by simp [HAL.out], by rw [← HMO.out, hsub]; exact (more_step HR1.out).symm, by simp at ht; rw [List.length_drop]; omega⟩
                      case measure => simp [intOf]; omega
                    · have HR1 := hid (show readOne (2 :: m :: u) = .error 10 by simp [readOne, Nat.not_lt.2 h40, Nat.lt_of_not_le hmu])
                      go_wp2_with (first
                        | (go_at_call 32; refine HO3.out.mono ?_; rintro e w5 ⟨rfl, hv5, f5⟩; have HV5 := hid hv5; have c5 := hv5.fn.cell 0; have HT5 := hid (take_bad hv5.str m.toNat (Nat.lt_of_not_le hmu)); clear hv5 f5)
                        | (go_at_call 32; refine HO.out.mono ?_; rintro e w2 ⟨rfl, hv2, f2⟩; have HV3 := hid (hv2.fr' ((Fr.refl (fun _ => False) w2).alloc (.cells #[.int .i64 2, .int .i64 0, .string ⟨#[]⟩] 46))); have HO3 := hid (HV3.out.one (by simp at ht; omega)); clear hv2 f2 HO)
                        | (go_at_call 33; refine (HKN.out _).mono ?_; rintro e w3 ⟨rfl, rfl⟩)
                        | (go_at_call 30; refine HT5.out.mono ?_; rintro e w6 ⟨rfl, rfl⟩)
                        | (go_at_call 31; refine (HM4.out _).mono ?_; rintro e w4 ⟨rfl, rfl⟩)
                        | (go_at_call 31; refine (HMK.out _ HKF.out).mono ?_; rintro e w4 ⟨rfl, rfl⟩))
                      have hx : readN n s = .error 10 := by rw [← HMO.out, hsub]; exact more_err HR1.out
                      refine vread_panic HV5.out 10 rfl rfl (fun W' f => ?_)
                      rw [HRV.out, hx]
                      exact ⟨_, rfl, Row.nil, f⟩
                  · have h6' : decide ((m.toNat : Int) ≤ 40) = false := decide_eq_false (by omega)
                    have HM4 := hid (fun w => (h6' ▸ must_false 2 w : Calls Tryz.prog 31 #[.bool (decide ((m.toNat : Int) ≤ 40)), .int .i64 2] w fun x w' => x = .panicked [trouble 2] ∧ w = w'))
                    clear h6'
                    have HR1 := hid (show readOne (2 :: m :: u) = .error 2 by simp [readOne, Nat.lt_of_not_le h40])
                    go_wp2_with (first
                      | (go_at_call 32; refine HO3.out.mono ?_; rintro e w5 ⟨rfl, hv5, f5⟩; have HV5 := hid hv5; clear hv5 f5)
                      | (go_at_call 32; refine HO.out.mono ?_; rintro e w2 ⟨rfl, hv2, f2⟩; have HV3 := hid (hv2.fr' ((Fr.refl (fun _ => False) w2).alloc (.cells #[.int .i64 2, .int .i64 0, .string ⟨#[]⟩] 46))); have HO3 := hid (HV3.out.one (by simp at ht; omega)); clear hv2 f2 HO)
                      | (go_at_call 33; refine (HKN.out _).mono ?_; rintro e w3 ⟨rfl, rfl⟩)
                      | (go_at_call 31; refine (HM4.out _).mono ?_; rintro e w4 ⟨rfl, rfl⟩)
                      | (go_at_call 31; refine (HMK.out _ HKF.out).mono ?_; rintro e w4 ⟨rfl, rfl⟩))
                    have hx : readN n s = .error 2 := by rw [← HMO.out, hsub]; exact more_err HR1.out
                    refine vread_panic HV5.out 2 rfl rfl (fun W' f => ?_)
                    rw [HRV.out, hx]
                    exact ⟨_, rfl, Row.nil, f⟩
            · have hkf : (decide (0 ≤ (k.toNat : Int)) && decide ((k.toNat : Int) ≤ 2)) = false := by rw [decide_eq_false (p := (k.toNat : Int) ≤ 2) (by omega), Bool.and_false]
              have HKF := hid hkf
              clear hkf
              go_wp2_with (first
                | (go_at_call 32; refine HO.out.mono ?_; rintro e w2 ⟨rfl, hv2, f2⟩; have HV2 := hid hv2; clear hv2 f2 HO)
                | (go_at_call 33; refine (HKN.out _).mono ?_; rintro e w3 ⟨rfl, rfl⟩)
                | (go_at_call 31; refine (HMK2.out _ HKF.out).mono ?_; rintro e w4 ⟨rfl, rfl⟩))
              have hx : readN n s = .error 11 := by
                rw [← HMO.out, hsub]
                refine more_err ?_
                have k0 : k ≠ 0 := fun h => by subst h; exact hk2 (by decide)
                have k1 : k ≠ 1 := fun h => by subst h; exact hk2 (by decide)
                have k2 : k ≠ 2 := fun h => by subst h; exact hk2 (by decide)
                simp [readOne, k0, k1, k2]
              refine vread_panic (HV2.out.fr' ((Fr.refl (fun _ => False) w2).alloc _)) 11 rfl rfl (fun W' f => ?_)
              rw [HRV.out, hx]
              exact ⟨_, rfl, Row.nil, f⟩
        · obtain rfl : j = n := by omega
          have hx : readN j s = .ok (acc, t) := by rw [← HMO.out, Nat.sub_self]; simp [readN, more]
          have HX := hid hx
          clear hx HMO
          cases t with
          | nil =>
            obtain ⟨aa, cc, rfl, _⟩ := HVR.out.own.slice
            have cs := HVR.out.str.cell 0
            have cr := HVR.out.row.cell 0
            have ce := HVR.out.err.cell 0
            have zr := HVR.out.row.frozen 0
            have ze := HVR.out.err.frozen 0
            have HM := hid (fun w => (bs_empty []) ▸ must_true 11 w : ∀ w, Calls Tryz.prog 31 #[.bool (bs []).toList.isEmpty, .int .i64 11] w fun x w' => x = .returned (.tuple #[]) ∧ w = w')
            go_wp2_with (first | (go_at_call 31; refine (HM.out _).mono ?_; rintro e w2 ⟨rfl, rfl⟩))
            have F1 := (Fr.refl (fun k => k = a + 1 ∨ k = a + 1 + 1) wr).setCell ⟨a + 1, 0, none⟩ (.slice aa acc.length cc) (fun _ => .inl rfl)
            have F2 := F1.setCell ⟨a + 1 + 1, 0, none⟩ (.int .i64 0) (fun _ => .inr rfl)
            have n1 := HVR.out.own.ne HVR.out.row (by decide)
            have n2 := HVR.out.own.ne HVR.out.err (by decide)
            have hat := HVR.out.at_
            refine vread_ret (((HVR.out.row.set 0 (.slice aa acc.length cc)).set_ne ⟨a + 1 + 1, 0, none⟩ (.int .i64 0) (by show a + 1 ≠ a + 1 + 1; omega)).cell 0) (((HVR.out.err.set_ne ⟨a + 1, 0, none⟩ (.slice aa acc.length cc) (by show a + 1 + 1 ≠ a + 1; omega)).set 0 (.int .i64 0)).cell 0) rfl rfl ?_
            rw [HRV.out, HX.out]
            exact ⟨_, rfl, HVR.out.own.fr F2 (fun k hk h => h.elim (n1 k hk) (n2 k hk)), HVR.out.fr.trans F2 (fun k hk hl => by omega)⟩
          | cons k t =>
            have cs := HVR.out.str.cell 0
            have HM := hid (fun w => (bs_empty (k :: t)) ▸ must_false 11 w : ∀ w, Calls Tryz.prog 31 #[.bool (bs (k :: t)).toList.isEmpty, .int .i64 11] w fun x w' => x = .panicked [trouble 11] ∧ w = w')
            go_wp2_with (first | (go_at_call 31; refine (HM.out _).mono ?_; rintro e w2 ⟨rfl, rfl⟩))
            refine vread_panic HVR.out 11 rfl rfl (fun W' f => ?_)
            rw [HRV.out, HX.out]
            exact ⟨_, rfl, Row.nil, f⟩
    · have h6' : decide ((c.toNat : Int) ≤ 6) = false := decide_eq_false (by omega)
      have HM := hid (fun w => h6' ▸ must_false 2 w)
      clear h6'
      go_wp2_with (first
        | (go_at_call 32; refine HO.out.mono ?_; rintro e w1 ⟨rfl, hv1, f1⟩; have HV1 := hid hv1; clear hv1 f1 HV HO)
        | (go_at_call 31; refine (HM.out _).mono ?_; rintro e w2 ⟨rfl, rfl⟩))
      have hr : readV (c :: s) = ([], 2) := by simp [readV, Nat.lt_of_not_le h6]
      refine vread_panic HV1.out 2 rfl rfl (fun W' f => ?_)
      rw [hr]
      exact ⟨_, rfl, Row.nil, f⟩
end Go.Proofs.YtgkfdlpijefgkaaGreatDoor

/- from XRdN.lean.tpl -/
namespace Go.VB.Rec
open Go.VB.Oct Go.Proofs.YtgkfdlpijefgkaaGreatDoor
/-- a value with the fields that its kind ignores set to zero -/
def V.plain (v : V) : V := ⟨v.k, if v.k = 1 then v.n else 0, if v.k = 2 then v.s else []⟩
def V.In (v : V) : Prop := -9223372036854775808 ≤ v.n ∧ v.n ≤ 9223372036854775807
def R.plain (r : R) : R := { r with old := r.old.map V.plain, new := r.new.map V.plain }
theorem Has_to {r : RM} {t u : List UInt8} (h : r.Has t) (e : t = u) : r.Has u := e ▸ h
theorem int8_word {n : Int} (h : -9223372036854775808 ≤ n ∧ n ≤ 9223372036854775807) : int8 (be8 (word n)) = n := by
  have e : be8 (word n) = be 8 (word n) := by simp [be]
  unfold int8
  rw [e, num_be_lt (by omega) (word_lt n), IntKind.wrap_i64]
  unfold word
  omega
theorem right_kind {v : V} (h : v.right = true) : v.k = 0 ∨ v.k = 1 ∨ (v.k = 2 ∧ v.s.length ≤ 40) := by
  unfold V.right at h
  simp only [Bool.and_eq_true, Bool.or_eq_true, decide_eq_true_eq] at h
  omega
theorem readOne_bytes {v : V} (h : v.right = true) (hi : v.In) (t : List UInt8) : readOne (v.bytes ++ t) = .ok (v.plain, t) := by
  obtain ⟨k, n, s⟩ := v
  rcases right_kind h with hk | hk | ⟨hk, hs⟩
  · dsimp only at hk
    subst hk
    rfl
  · dsimp only at hk
    subst hk
    have hl : (be8 (word n)).length = 8 := be8_length _
    simp [V.bytes, V.plain, readOne, List.take_left' hl, List.drop_left' hl, int8_word hi, hl]
  · dsimp only at hk hs
    subst hk
    have hlen : (UInt8.ofNat s.length).toNat = s.length := by simp; omega
    have e1 : V.bytes ⟨2, n, s⟩ ++ t = 2 :: UInt8.ofNat s.length :: (s ++ t) := rfl
    have e2 : V.plain ⟨2, n, s⟩ = ⟨2, 0, s⟩ := rfl
    rw [e1, e2]
    unfold readOne
    dsimp only
    rw [if_neg (by decide), if_neg (by decide), if_pos rfl, hlen, if_neg (by omega), if_neg (by simp), List.take_left, List.drop_left]
theorem readN_bytes : ∀ (l : List V), (∀ v ∈ l, v.right = true) → (∀ v ∈ l, v.In) → ∀ t, readN l.length (l.flatMap V.bytes ++ t) = .ok (l.map V.plain, t)
  | [], _, _, t => rfl
  | v :: l, h, hi, t => by
    rw [List.flatMap_cons, List.append_assoc, List.length_cons]
    unfold readN
    rw [readOne_bytes (h v (by simp)) (hi v (by simp))]
    dsimp only
    rw [readN_bytes l (fun x hx => h x (by simp [hx])) (fun x hx => hi x (by simp [hx]))]
    rfl
theorem row_parts {l : List V} (h : row l = true) : l.length ≤ 6 ∧ ∀ v ∈ l, v.right = true := by
  unfold row at h
  simp only [Bool.and_eq_true, decide_eq_true_eq, List.all_eq_true] at h
  exact h
theorem readV_bytes {l : List V} (h : row l = true) (hi : ∀ v ∈ l, v.In) : readV (rowBytes l) = (l.map V.plain, 0) := by
  obtain ⟨h1, h2⟩ := row_parts h
  have hlen : (UInt8.ofNat l.length).toNat = l.length := by simp; omega
  unfold rowBytes
  rw [if_pos h]
  unfold readV
  dsimp only
  rw [hlen, if_neg (by omega)]
  have := readN_bytes l h2 hi []
  rw [List.append_nil] at this
  rw [this]
end Go.VB.Rec

/- from XVK.lean.tpl -/
namespace Go.VB
theorem xor_top (a : Nat) (ha : a < 18446744073709551616) : a ^^^ 9223372036854775808 = (a + 9223372036854775808) % 18446744073709551616 := by
  have e63 : (9223372036854775808 : Nat) = 2 ^ 63 := by decide
  have e64 : (18446744073709551616 : Nat) = 2 ^ 64 := by decide
  rw [e63, e64, Nat.add_comm]
  rw [e64] at ha
  apply Nat.eq_of_testBit_eq
  intro i
  rw [Nat.testBit_xor, Nat.testBit_two_pow, Nat.testBit_mod_two_pow]
  rcases (by omega : i < 63 ∨ i = 63 ∨ 64 ≤ i) with h | h | h
  · rw [Nat.testBit_two_pow_add_gt h, decide_eq_true (show i < 64 by omega), decide_eq_false (show ¬ 63 = i by omega)]; simp
  · subst h
    rw [Nat.testBit_two_pow_add_eq, decide_eq_true (show 63 < 64 by omega)]; simp
  · rw [decide_eq_false (show ¬ i < 64 by omega), decide_eq_false (show ¬ 63 = i by omega), Nat.testBit_lt_two_pow (Nat.lt_of_lt_of_le ha (Nat.pow_le_pow_right (by omega) h))]; rfl
end Go.VB
namespace Go.VB.Rec
open Go.VB.Oct
theorem vkey_le (v : V) (h : v.right = true) : v.key.length ≤ 83 := by
  unfold V.right at h
  simp at h
  unfold V.key
  rw [List.length_cons]
  split
  · rw [be8_length]; omega
  · split
    · have := esc_len 0 [0, 255] (by simp) v.s
      rw [List.length_append]
      simp only [List.length_cons, List.length_nil]
      omega
    · simp
theorem ksum_le (r : List V) (h : ∀ v ∈ r, v.right = true) (hn : r.length ≤ 6) : (r.flatMap V.key).length ≤ 498 := by
  have key : ∀ l : List V, (∀ v ∈ l, v.right = true) → (l.flatMap V.key).length ≤ 83 * l.length := by
    intro l hl
    induction l with
    | nil => simp
    | cons v l ih =>
      have := ih (fun x hx => hl x (List.mem_cons_of_mem _ hx))
      have := vkey_le v (hl v List.mem_cons_self)
      rw [List.flatMap_cons, List.length_append, List.length_cons]
      omega
  have := key r h
  omega
end Go.VB.Rec
namespace Go.Proofs.YtgkfdlpijefgkaaGreatDoor
open Go.RowKit Go.VB Go.VB.Oct Go.VB.Rec
/-- the library's variable that strings.Index reads -/
def Ml (w : World) : Prop := ∃ m, w.cell? ⟨1, 0, none⟩ = some (.int .i64 m)
theorem Ml.fre {w w' : World} (h : Ml w) (f : Fr (fun _ => False) w w') : Ml w' := by
  obtain ⟨m, hm⟩ := h
  exact ⟨m, cell_fr hm f (fun h => h)⟩
theorem Ml.fr {S : Nat → Prop} {w w' : World} (h : Ml w) (f : Fr S w w') (hS : ¬ S 1) : Ml w' := by
  obtain ⟨m, hm⟩ := h
  exact ⟨m, cell_fr hm f hS⟩
theorem Repl_go (s : List UInt8) (hs : s.length ≤ 65536) (c : UInt8) (new : List UInt8) (hn : new.length = 2) (hne : [c] ≠ new) {w : World} (hm : Ml w) :
    Calls Tryz.prog 42 #[.string (bs s), .string (bs [c]), .string (bs new)] w fun e w' => e = .returned (.string (bs (esc c new s))) ∧ Fr (fun _ => False) w w' := by
  obtain ⟨m, hm⟩ := hm
  have h1 : (bs s).size = s.length := bs_size s
  have h2 : (bs new).size = 2 := by rw [bs_size, hn]
  have h3 : Lib.countB (bs s) (bs [c]) ≤ s.length + 1 := Lib.count_le _ _
  refine (Tryz.strings_ReplaceAll (bs s) (bs [c]) (bs new) m w (by rw [h1]; omega) hm (by rw [bs_size]; simp) (by rw [h1, h2]; omega)).mono ?_
  rintro e w' ⟨rfl, hb⟩
  refine ⟨?_, Fr.of_below hb⟩
  have e1 : (bs s).data.toList = s := rfl
  have e2 : (bs [c]).data.toList = [c] := rfl
  have e3 : (bs new).data.toList = new := rfl
  rw [e1, e2, e3, replaceAll_esc c new hne s]
  rfl
set_option maxRecDepth 20000 in
set_option maxHeartbeats 4000000 in
theorem VKey_go {R : Nat → Prop} {w : World} {va : Value} {r : List V} (h : Sl R w va r.length (r.flatMap V.cells)) (hR : ∀ k, R k → k < w.heap.size) (hn : r.length ≤ 1099511627776) (hm : Ml w) : Calls Tryz.prog 13 #[va] w fun e w' => e = .returned (.string (bs (rowKey r))) ∧ Fr (fun _ => False) w w' := by
  have HR := hid (right_go h hR hn)
  have HM := hid hm
  obtain ⟨a, c, rfl, hc, hx⟩ := h
  have HX := hid (show Sl R w (.slice a r.length c) r.length (r.flatMap V.cells) from ⟨a, c, rfl, hc, hx⟩)
  clear hx hm
  cases hr : row r with
  | false =>
    rw [hr] at HR
    have hb : rowKey r = [] := by unfold rowKey; rw [hr]; rfl
    rw [hb]
    go_enter Tryz.func13, Tryz.ntmps13
    go_wp2_with (go_at_call 34; refine HR.out.mono ?_; rintro e w1 ⟨rfl, f1⟩; clear HR)
    go_ret
    exact ⟨rfl, f1⟩
  | true =>
    have hb : rowKey r = r.flatMap V.key := by unfold rowKey; rw [hr]; rfl
    rw [hr] at HR
    rw [hb]
    have hlen : r.length ≤ 6 := by unfold row at hr; simp at hr; exact hr.1
    have hall := hid (show ∀ v ∈ r, v.right = true by unfold row at hr; simp at hr; exact hr.2)
    clear hb hr
    go_enter Tryz.func13, Tryz.ntmps13
    go_upto_region 4 with (go_at_call 34; refine HR.out.mono ?_; rintro e w1 ⟨rfl, f1⟩; have F1 := hid f1; clear HR f1)
    have HB0 := hid (Bld.new w1 (Nat.le_refl _))
    have HF2 := hid (F1.out.alloc (.cells #[.pointer none, .slice none 0 0] 91))
    have HS2 := hid (show w1.heap.size + 1 ≤ (w1.alloc (.cells #[.pointer none, .slice none 0 0] 91)).heap.size by simp)
    generalize w1.alloc _ = w2 at *
    generalize hb : w1.heap.size = b at *
    have HBB := hid hb
    clear hb
    go_wp2_with (fail)
    go_loopw [11] (fun i wr => ∃ (j : Nat) (v' : Value), j ≤ r.length ∧ i = .int .i64 j ∧ Bld b wr b ((r.take j).flatMap V.key) v' ∧ Fr (fun _ => False) w wr ∧ b < wr.heap.size) (fun i _ => r.length - (intOf i).toNat)
    case atStart => exact ⟨0, _, by omega, rfl, HB0.out, HF2.out, by have := HS2.out; omega⟩
    case round =>
      obtain ⟨j, v3, hj, rfl, hbl, fr, hbs⟩ := hrel
      by_cases hjl : j < r.length
      · obtain ⟨g, o, rfl, hg, hcell⟩ := sl_cell3 (f := V.cells) vcells_len (HX.out.fr fr (fun _ _ h => h)) (fun h => by subst h; cases hjl)
        have q0 : wr.cell? ⟨g, o + j * 3, none⟩ = some (.int .i64 r[j].k) := hcell j hjl 0 (by omega)
        have q1 : wr.cell? ⟨g, o + j * 3 + 1, none⟩ = some (.int .i64 r[j].n) := hcell j hjl 1 (by omega)
        have q2 : wr.cell? ⟨g, o + j * 3 + 2, none⟩ = some (.string (bs r[j].s)) := hcell j hjl 2 (by omega)
        have FR := hid fr
        have i1 : (0 : Int) ≤ (j : Int) := by omega
        have i2 : (j : Int) < r.length := by omega
        have HT := hid (take_flat r V.key j hjl)
        have hright := hall.out r[j] (List.getElem_mem hjl)
        have HLE := hid (vkey_le r[j] hright)
        have HSUM := hid (show ((r.take j).flatMap V.key).length ≤ 498 from ksum_le _ (fun v hv => hall.out v (List.mem_of_mem_take hv)) (by rw [List.length_take]; omega))
        have HBL := hid hbl
        clear hcell fr hbl HB0 HF2
        generalize r[j] = x at *
        obtain ⟨k, n, s⟩ := x
        have hk : k = 0 ∨ k = 1 ∨ k = 2 := by unfold V.right at hright; simp at hright; omega
        have HB4 := hid ((HBL.out.fre ((Fr.refl (fun _ => False) wr).alloc (.cells #[.int .i64 k, .int .i64 n, .string (bs s)] 46))))
        have HD4 := hid (show Blk (wr.alloc (.cells #[.int .i64 k, .int .i64 n, .string (bs s)] 46)) wr.heap.size [.int .i64 k, .int .i64 n, .string (bs s)] 46 from Blk.new wr [.int .i64 k, .int .i64 n, .string (bs s)] 46)
        have HF4 := hid (FR.out.alloc (.cells #[.int .i64 k, .int .i64 n, .string (bs s)] 46))
        have hb4 : b ≤ (wr.alloc (.cells #[.int .i64 k, .int .i64 n, .string (bs s)] 46)).heap.size := by rw [World.size_alloc]; omega
        have hl4 : ((r.take j).flatMap V.key).length + 1 ≤ 1099511627776 := by have := HSUM.out; omega
        have hsz : w.heap.size ≤ b := Nat.le_trans F1.out.size (Nat.le_of_eq HBB.out)
        have HSZ := hid hsz
        clear hsz
        rcases hk with rfl | rfl | rfl
        · have HWK := hid (WriteByteN_go HB4.out hb4 hl4 1 (by omega))
          go_wp2_with (go_at_call 35; refine HWK.out.mono ?_; rintro e w5 ⟨rfl, v5, hw5⟩; have D5 := hid (Blk.fr HD4.out hw5.fr (fun h => h.elim (fun h => by omega) (fun h => HB4.out.row.ne HD4.out (by decide) _ h rfl))); have k50 := Blk.cell D5.out 0; have k51 := Blk.cell D5.out 1; have k52 := Blk.cell D5.out 2; have HW5 := hid hw5; clear hw5)
          go_roundw
          case rel => exact ⟨j + 1, v5, by omega, by go_num, HW5.out.bld.cast (by rw [HT.out]; simp [V.key]), HW5.out.frB HB4.out HF4.out HSZ.out (Nat.le_refl _), by have := HW5.out.fr.size; rw [World.size_alloc] at this; omega⟩
          case measure => simp [intOf]; omega
        · have HWK := hid (WriteByteN_go HB4.out hb4 hl4 2 (by omega))
          have hwr := word_wrap n
          have hxr : bits .xor .u64 ((word n : Nat) : Int) 9223372036854775808 = (((word n + 9223372036854775808) % 18446744073709551616 : Nat) : Int) := by
            rw [← xor_top (word n) (word_lt n)]
            exact u64_xor_nat (word n) 9223372036854775808 (word_lt n) (by decide)
          obtain ⟨X, hX⟩ : ∃ X : Nat, (word n + 9223372036854775808) % 18446744073709551616 = X := ⟨_, rfl⟩
          have HWH := hid (fun w => whole_go X (by omega) w)
          rw [hX] at hxr
          have HXX := hid hX
          clear hX
          go_wp2_with (first
            | (go_at_call 35; refine HWK.out.mono ?_; rintro e w5 ⟨rfl, v5, hw5⟩; have D5 := hid (Blk.fr HD4.out hw5.fr (fun h => h.elim (fun h => by omega) (fun h => HB4.out.row.ne HD4.out (by decide) _ h rfl))); have k50 := Blk.cell D5.out 0; have k51 := Blk.cell D5.out 1; have k52 := Blk.cell D5.out 2; have HW5 := hid hw5; clear hw5)
            | (go_at_call 37; refine (HWH.out _).mono ?_; rintro e w6 ⟨rfl, f6⟩; have F6 := hid f6; clear f6)
            | (go_at_call 36; refine (WriteString_go (HW5.out.bld.fre F6.out) (Nat.le_trans hb4 (Nat.le_trans HW5.out.fr.size F6.out.size)) (be8 X) (by have := HSUM.out; simp only [List.length_append, List.length_cons, List.length_nil, be8_length]; omega)).mono ?_; rintro e w7 ⟨rfl, v7, hw7⟩; have HW7 := hid hw7; clear hw7))
          go_roundw
          case rel => exact ⟨j + 1, v7, by omega, by go_num, HW7.out.bld.cast (by rw [HT.out]; simp [V.key, HXX.out]), HW7.out.frB (HW5.out.bld.fre F6.out) ((HW5.out.frB HB4.out HF4.out HSZ.out (Nat.le_refl _)).trans F6.out (fun _ h _ => h)) HSZ.out (Nat.le_refl _), by have := HW5.out.fr.size; have := F6.out.size; have := HW7.out.fr.size; rw [World.size_alloc] at *; omega⟩
          case measure => simp [intOf]; omega
        · have HWK := hid (WriteByteN_go HB4.out hb4 hl4 3 (by omega))
          have hs40 : s.length ≤ 40 := by unfold V.right at hright; simp at hright; exact hright
          have HES := hid (esc_len 0 [0, 255] (by simp) s)
          have HRA := hid (fun w' (f : Fr (fun _ => False) w w') => Repl_go s (by omega) 0 [0, 255] rfl (by simp) (HM.out.fre f))
          generalize hes : esc 0 [0, 255] s = es at *
          have HEQ := hid hes
          clear hes
          go_wp2_with (fail)
          refine HWK.out.mono ?_
          rintro e w5 ⟨rfl, v5, hw5⟩
          have D5 := hid (Blk.fr HD4.out hw5.fr (fun h => h.elim (fun h => by omega) (fun h => HB4.out.row.ne HD4.out (by decide) _ h rfl)))
          have k50 := Blk.cell D5.out 0
          have k51 := Blk.cell D5.out 1
          have k52 := Blk.cell D5.out 2
          have HW5 := hid hw5
          clear hw5 q0 q1 q2
          have F5 := hid (HW5.out.frB HB4.out HF4.out HSZ.out (Nat.le_refl _))
          go_wp2_with (fail)
          refine (HRA.out _ F5.out).mono ?_
          rintro e w6 ⟨rfl, f6⟩
          have F6 := hid f6
          clear f6 k50 k51 k52
          have HWS := hid (WriteString_go (HW5.out.bld.fre F6.out) (Nat.le_trans hb4 (Nat.le_trans HW5.out.fr.size F6.out.size)) es (by have := HSUM.out; have := HES.out; simp only [List.length_append, List.length_cons, List.length_nil]; omega))
          go_wp2_with (fail)
          refine HWS.out.mono ?_
          rintro e w7 ⟨rfl, v7, hw7⟩
          have HW7 := hid hw7
          clear hw7 HWS
          have HWS : Hid (Calls Tryz.prog 36 #[.pointer (some ⟨b, 0, none⟩), .string ⟨#[0, 1]⟩] w7 _) := hid (WriteString_go HW7.out.bld (Nat.le_trans hb4 (Nat.le_trans HW5.out.fr.size (Nat.le_trans F6.out.size HW7.out.fr.size))) [0, 1] (by have := HSUM.out; have := HES.out; simp only [List.length_append, List.length_cons, List.length_nil]; omega))
          go_wp2_with (fail)
          refine HWS.out.mono ?_
          rintro e w8 ⟨rfl, v8, hw8⟩
          have HW8 := hid hw8
          clear hw8 HWS
          go_wp2_with (fail)
          go_roundw
          case rel => exact ⟨j + 1, v8, by omega, by go_num, HW8.out.bld.cast (by rw [HT.out]; simp [V.key, HEQ.out]), HW8.out.frB HW7.out.bld (HW7.out.frB (HW5.out.bld.fre F6.out) ((HW5.out.frB HB4.out HF4.out HSZ.out (Nat.le_refl _)).trans F6.out (fun _ h _ => h)) HSZ.out (Nat.le_refl _)) HSZ.out (Nat.le_refl _), by have := HW5.out.fr.size; have := F6.out.size; have := HW7.out.fr.size; have := HW8.out.fr.size; rw [World.size_alloc] at *; omega⟩
          case measure => simp [intOf]; omega
      · obtain rfl : j = r.length := by omega
        rw [List.take_length] at hbl
        have HST := hid (String_go hbl (Nat.le_of_lt hbs) (Nat.le_refl _))
        have FR := hid fr
        clear hbl fr HX hc HB0 HF2
        go_wp2_with (go_at_call 38; refine HST.out.mono ?_; rintro e w9 ⟨rfl, f9⟩)
        go_ret
        have hsz : w.heap.size ≤ b := Nat.le_trans F1.out.size (Nat.le_of_eq HBB.out)
        exact ⟨rfl, FR.out.trans (S := fun _ => False) (T := fun k => b ≤ k) ⟨f9.os, f9.tape, f9.output, f9.size, fun k _ hn => f9.block k (by omega)⟩ (fun k hk hl => by omega)⟩
end Go.Proofs.YtgkfdlpijefgkaaGreatDoor

/- from XVH.lean.tpl -/
namespace Go.VB.Rec
theorem rowsCmp_step : ∀ (l m : List V) (j : Nat) (h1 : j < l.length) (h2 : j < m.length), rowsCmp (l.drop j) (m.drop j) = if V.cmp l[j] m[j] ≠ 0 then V.cmp l[j] m[j] else rowsCmp (l.drop (j + 1)) (m.drop (j + 1)) := by
  intro l m j h1 h2
  rw [List.drop_eq_getElem_cons h1, List.drop_eq_getElem_cons h2]
  rfl
theorem rowsCmp_end (l m : List V) (j : Nat) (h : l.length ≤ j ∨ m.length ≤ j) (hj : j ≤ l.length) (hk : j ≤ m.length) : rowsCmp (l.drop j) (m.drop j) = Lib.compareInt l.length m.length := by
  unfold Lib.compareInt
  rcases (by omega : l.length = m.length ∨ l.length < m.length ∨ m.length < l.length) with e | e | e
  · rw [List.drop_of_length_le (by omega), List.drop_of_length_le (by omega), if_neg (by omega), if_neg (by omega)]; rfl
  · obtain ⟨x, t, ht⟩ : ∃ x t, m.drop j = x :: t := by
      cases hh : m.drop j with
      | nil => have := congrArg List.length hh; rw [List.length_drop] at this; simp at this; omega
      | cons x t => exact ⟨x, t, rfl⟩
    rw [List.drop_of_length_le (by omega), ht, if_pos (by omega)]; rfl
  · obtain ⟨x, t, ht⟩ : ∃ x t, l.drop j = x :: t := by
      cases hh : l.drop j with
      | nil => have := congrArg List.length hh; rw [List.length_drop] at this; simp at this; omega
      | cons x t => exact ⟨x, t, rfl⟩
    rw [List.drop_of_length_le (l := m) (by omega), ht, if_neg (by omega), if_pos (by omega)]; rfl
end Go.VB.Rec
namespace Go.Proofs.YtgkfdlpijefgkaaGreatDoor
open Go.RowKit Go.VB Go.VB.Oct Go.VB.Rec
set_option maxRecDepth 20000 in
theorem VRows_go {R R' : Nat → Prop} {w : World} {va vb : Value} {l m : List V} (h : Sl R w va l.length (l.flatMap V.cells)) (k : Sl R' w vb m.length (m.flatMap V.cells)) (hn : l.length ≤ 1099511627776) (hm : m.length ≤ 1099511627776) (K : Kn w) :
    Calls Tryz.prog 12 #[va, vb] w fun e w' => e = .returned (.int .i64 (rowsCmp l m)) ∧ Fr (fun _ => False) w w' := by
  obtain ⟨a, c, rfl, hc, hx⟩ := h
  obtain ⟨b, d, rfl, hd, hy⟩ := k
  have HX := hid (show Sl R w (.slice a l.length c) l.length (l.flatMap V.cells) from ⟨a, c, rfl, hc, hx⟩)
  have HY := hid (show Sl R' w (.slice b m.length d) m.length (m.flatMap V.cells) from ⟨b, d, rfl, hd, hy⟩)
  have KH := hid K
  have F0 := hid (Fr.refl (fun _ => False) w)
  have HC := hid (fun w => Tryz.cmp_Compare_int l.length m.length w)
  obtain ⟨z, hz⟩ : ∃ z, rowsCmp l m = z := ⟨_, rfl⟩
  rw [hz]
  have HZ := hid hz
  obtain ⟨N, hN⟩ : ∃ N : Nat, N = min l.length m.length := ⟨_, rfl⟩
  have HN := hid hN
  have hmin : min (l.length : Int) (m.length : Int) = (N : Int) := by omega
  have hmin2 : (if (m.length : Int) < (l.length : Int) then (m.length : Int) else (l.length : Int)) = (N : Int) := by split <;> omega
  have hN1 : N ≤ l.length := by omega
  have hN2 : N ≤ m.length := by omega
  clear hx hy K hz hN
  go_enter Tryz.func12, Tryz.ntmps12
  go_wp2_with (fail)
  go_loopw [12] (fun i wr => ∃ j : Nat, j ≤ N ∧ i = .int .i64 j ∧ rowsCmp (l.drop j) (m.drop j) = z ∧ Fr (fun _ => False) w wr) (fun i _ => N - (intOf i).toNat)
  case atStart => exact ⟨0, by omega, rfl, HZ.out, F0.out⟩
  case round =>
    obtain ⟨j, hj, rfl, hall, fr⟩ := hrel
    have FR := hid fr
    have HA := hid hall
    clear fr hall
    by_cases hjn : j < N
    · have hjl : j < l.length := by omega
      have hjm : j < m.length := by omega
      obtain ⟨g, o, rfl, hg, q0, q1, q2⟩ := sl_three (f := V.cells) vcells_len (HX.out.fr FR.out (fun _ _ h => h)) hjl
      obtain ⟨g', o', rfl, hg', r0, r1, r2⟩ := sl_three (f := V.cells) vcells_len (HY.out.fr FR.out (fun _ _ h => h)) hjm
      have i1 : (0 : Int) ≤ (j : Int) := by omega
      have i2 : (j : Int) < l.length := by omega
      have i3 : (j : Int) < m.length := by omega
      have i4 : (j : Int) < N := by omega
      simp only [V.cells, List.getElem?_cons_zero, List.getElem?_cons_succ] at q0 q1 q2 r0 r1 r2
      have HST := hid (rowsCmp_step l m j hjl hjm)
      obtain ⟨x, hx⟩ : ∃ x, x = l[j] := ⟨_, rfl⟩
      obtain ⟨y, hy⟩ : ∃ y, y = m[j] := ⟨_, rfl⟩
      rw [← hx] at q0 q1 q2 HST
      rw [← hy] at r0 r1 r2 HST
      clear hx hy
      have RX := hid (fun i u hu => cell_fr (range3 q0 q1 q2 i u hu) ((Fr.refl (fun _ => False) wr).drew) (fun h => h) : wr.drew.rangeAt g (o + j * 3) (V.cells x))
      have RY := hid (fun i u hu => cell_fr (range3 r0 r1 r2 i u hu) ((Fr.refl (fun _ => False) wr).drew) (fun h => h) : wr.drew.rangeAt g' (o' + j * 3) (V.cells y))
      have HVC := hid (VCompare_go x y ((KH.out.fre FR.out).fre ((Fr.refl (fun _ => False) wr).drew)))
      clear q0 q1 q2 r0 r1 r2
      obtain ⟨cc, hcc⟩ : ∃ cc, V.cmp x y = cc := ⟨_, rfl⟩
      rw [hcc] at HST HVC
      clear hcc
      go_upto_region 4 with fail
      refine wp_region_scr (.take 0 (.take 1 (.take 2 (.take 3 (.take 4 (.take 5 (.take 6 (.take 7 (.op 8 (.take 9 .done)))))))))) (fun kz w => (kz ≤ 9 → w.rangeAt g (o + j * 3) (V.cells x) ∧ w.rangeAt g' (o' + j * 3) (V.cells y)) ∧ True) (by kernel_rfl) (by kernel_rfl) (by intro c a d v w h; cases d <;> exact h) ?_
      repeat
        first
        | (refine wpT_pure rfl rfl rfl ?_; apply Exists.intro; refine ⟨?_, ?_⟩; intro w; (first | (first | exact run_load_mid _ _ rfl g _ rfl _ _ qa.1 Tryz.underlying46 rfl size_V | exact run_load_mid _ _ rfl g' _ rfl _ _ qa.2 Tryz.underlying46 rfl size_V | (go_simp; rw [if_pos ⟨i1, i2⟩]; done) | (go_simp; rw [if_pos ⟨i1, i3⟩]; done)) | (go_simp <;> rfl)); simp only [Act.put, List.setIfInBounds_toArray, List.set_cons_zero, List.set_cons_succ])
        | (refine wpT_take 9 rfl rfl (by decide +kernel) ⟨fun _ => ⟨RX.out, RY.out⟩, trivial⟩ ?_; apply Exists.intro; refine ⟨?_, ?_⟩; intro w hw; (have qa := hw.1 (Nat.le_refl _); have qb := hw.2); (first | (first | exact run_load_mid _ _ rfl g _ rfl _ _ qa.1 Tryz.underlying46 rfl size_V | exact run_load_mid _ _ rfl g' _ rfl _ _ qa.2 Tryz.underlying46 rfl size_V | (go_simp; rw [if_pos ⟨i1, i2⟩]; done) | (go_simp; rw [if_pos ⟨i1, i3⟩]; done)) | (go_simp <;> rfl)); simp only [Act.put, List.setIfInBounds_toArray, List.set_cons_zero, List.set_cons_succ])
        | (refine wpT_skip rfl rfl ?_; simp only [Act.put, List.setIfInBounds_toArray, List.set_cons_zero, List.set_cons_succ])
      refine wpT_op rfl ?_
      go_wp2_with ((go_at_call 40; refine HVC.out.mono ?_; rintro e w8 ⟨rfl, f⟩; have F8 := hid (FR.out.trans (((Fr.refl (fun _ => False) wr).drew).trans f (fun _ h _ => h)) (fun _ h _ => h)); have R2 := hid (fun i u hu => cell_fr (RX.out i u hu) f (fun h => h) : w8.rangeAt g (o + j * 3) (V.cells x)); have R3 := hid (fun i u hu => cell_fr (RY.out i u hu) f (fun h => h) : w8.rangeAt g' (o' + j * 3) (V.cells y)); clear f))
      (refine ⟨?_, ?_⟩; focus (intro kz hk hk2 hh; first | (exfalso; simp at hk2; omega) | exact hh | exact (fun h => absurd h (by omega)) | obtain ⟨qa, qb⟩ := hh; first | exact ⟨qa, qb⟩ | (refine ⟨fun h => absurd h (by omega), ?_⟩; first | exact qb | (exact ⟨R2.out, R3.out⟩)) | (refine ⟨fun h => ?_, ?_⟩; (have qa := qa h); all_goals (first | exact qa | exact qb | (exact ⟨R2.out, R3.out⟩)))))
      repeat
        first
        | (refine wpT_pure rfl rfl rfl ?_; apply Exists.intro; refine ⟨?_, ?_⟩; intro w; ((go_simp <;> rfl)); simp only [Act.put, List.setIfInBounds_toArray, List.set_cons_zero, List.set_cons_succ])
        | (refine wpT_take 9 rfl rfl (by decide +kernel) ⟨fun _ => ⟨R2.out, R3.out⟩, trivial⟩ ?_; apply Exists.intro; refine ⟨?_, ?_⟩; intro w hw; (have qa := hw.1 (Nat.le_refl _); have qb := hw.2); ((go_simp <;> rfl)); simp only [Act.put, List.setIfInBounds_toArray, List.set_cons_zero, List.set_cons_succ])
        | (refine wpT_skip rfl rfl ?_; simp only [Act.put, List.setIfInBounds_toArray, List.set_cons_zero, List.set_cons_succ])
      refine wpT_nil ?_
      by_cases hc0 : cc = 0
      · subst hc0
        go_wp2_with (fail)
        go_roundw
        case rel => exact ⟨j + 1, by omega, by go_num, by rw [← HA.out, HST.out]; simp, F8.out⟩
        case measure => simp [intOf]; omega
      · have hcb : (cc != 0) = true := by simpa using hc0
        go_wp2_with (fail)
        go_ret
        exact ⟨ret_int (by rw [← HA.out, HST.out, if_pos hc0]), F8.out⟩
    · obtain rfl : j = N := by omega
      have hend := rowsCmp_end l m j (by have := HN.out; omega) hN1 hN2
      have HE := hid hend
      clear hend
      go_wp2_with (go_at_call 41; refine (HC.out _).mono ?_; rintro e w1 ⟨rfl, rfl⟩)
      go_ret
      exact ⟨ret_int (by rw [← HE.out, HA.out]), FR.out⟩
end Go.Proofs.YtgkfdlpijefgkaaGreatDoor

/- from XVEq.lean.tpl -/
namespace Go.VB.Rec
def dval (l : List UInt8) : Nat := l.foldl (fun a c => a * 10 + (c.toNat - 48)) 0
theorem dval_dec : ∀ u : Nat, dval (Lib.decDigits u) = u
  | u => by
    rw [Lib.decDigits]
    by_cases h : u < 10
    · rw [dif_pos h]
      simp only [dval, List.foldl_cons, List.foldl_nil, UInt8.toNat_ofNat']
      omega
    · rw [dif_neg h]
      have ih := dval_dec (u / 10)
      unfold dval at ih ⊢
      rw [List.foldl_append, ih]
      simp only [List.foldl_cons, List.foldl_nil, UInt8.toNat_ofNat']
      omega
theorem dec_inj {a b : Nat} (h : Lib.decDigits a = Lib.decDigits b) : a = b := by rw [← dval_dec a, h, dval_dec]
theorem dec_head : ∀ u : Nat, ∃ c l, Lib.decDigits u = c :: l ∧ 48 ≤ c.toNat ∧ c.toNat ≤ 57
  | u => by
    rw [Lib.decDigits]
    by_cases h : u < 10
    · rw [dif_pos h]
      exact ⟨_, _, rfl, by simp only [UInt8.toNat_ofNat']; omega, by simp only [UInt8.toNat_ofNat']; omega⟩
    · rw [dif_neg h]
      obtain ⟨c, l, e, h1, h2⟩ := dec_head (u / 10)
      exact ⟨c, l ++ _, by rw [e]; rfl, h1, h2⟩
theorem itoa_inj {a b : Int} (h : Lib.itoa a = Lib.itoa b) : a = b := by
  unfold Lib.itoa at h
  obtain ⟨c, l, e, h1, h2⟩ := dec_head a.toNat
  obtain ⟨c', l', e', h1', h2'⟩ := dec_head b.toNat
  by_cases ha : a < 0 <;> by_cases hb : b < 0
  · rw [if_pos ha, if_pos hb] at h
    have := dec_inj (List.cons.inj h).2
    omega
  · rw [if_pos ha, if_neg hb, e'] at h
    have := (List.cons.inj h).1
    rw [← this] at h1'
    exact absurd h1' (by decide)
  · rw [if_neg ha, if_pos hb, e] at h
    have := (List.cons.inj h).1
    rw [this] at h1
    exact absurd h1 (by decide)
  · rw [if_neg ha, if_neg hb] at h
    have := dec_inj h
    omega
theorem itoa_head (n : Int) : ∃ c l, Lib.itoa n = c :: l ∧ c ≠ 110 ∧ c ≠ 39 := by
  unfold Lib.itoa
  by_cases h : n < 0
  · rw [if_pos h]; exact ⟨_, _, rfl, by decide, by decide⟩
  · rw [if_neg h]
    obtain ⟨c, l, e, h1, h2⟩ := dec_head n.toNat
    refine ⟨c, l, e, ?_, ?_⟩
    · rintro rfl; exact absurd h2 (by decide)
    · rintro rfl; exact absurd h1 (by decide)
theorem esc_inj : ∀ s t : List UInt8, esc 39 [39, 39] s = esc 39 [39, 39] t → s = t
  | [], [], _ => rfl
  | [], b :: t, h => by
    unfold esc at h
    rw [List.flatMap_nil, List.flatMap_cons] at h
    split at h <;> simp at h
  | a :: s, [], h => by
    unfold esc at h
    rw [List.flatMap_nil, List.flatMap_cons] at h
    split at h <;> simp at h
  | a :: s, b :: t, h => by
    have ih := esc_inj s t
    unfold esc at h ih
    rw [List.flatMap_cons, List.flatMap_cons] at h
    by_cases ha : a = 39 <;> by_cases hb : b = 39
    · rw [if_pos ha, if_pos hb] at h
      rw [ha, hb, ih (by simpa using h)]
    · rw [if_pos ha, if_neg hb] at h
      exact absurd (List.cons.inj h).1.symm hb
    · rw [if_neg ha, if_pos hb] at h
      exact absurd (List.cons.inj h).1 ha
    · rw [if_neg ha, if_neg hb] at h
      obtain ⟨h1, h2⟩ := List.cons.inj h
      rw [h1, ih h2]
theorem cmpInt0 {a b : Int} : Lib.compareInt a b = 0 ↔ a = b := by unfold Lib.compareInt; split <;> (try split) <;> omega
theorem cmpBytes0 : ∀ a b : List UInt8, Lib.compareBytes a b = 0 → a = b
  | a, b, h => by
    rw [bytes_lex] at h
    induction a generalizing b with
    | nil => cases b with
      | nil => rfl
      | cons y b => simp [lexC] at h
    | cons x a ih => cases b with
      | nil => simp [lexC] at h
      | cons y b =>
        unfold lexC at h
        split at h
        · omega
        · rename_i g
          have e : x = y := UInt8.toNat_inj.1 (by have := cmpInt0.1 (Decidable.not_not.1 g); omega)
          rw [e, ih b h]
theorem text_eq {a b : V} (ha : a.right = true) (hb : b.right = true) : (a.text == b.text) = (V.cmp a b == 0) := by
  unfold V.right at ha hb
  simp only [Bool.and_eq_true, decide_eq_true_eq] at ha hb
  obtain ⟨⟨a0, a2⟩, -⟩ := ha
  obtain ⟨⟨b0, b2⟩, -⟩ := hb
  have hc : V.cmp a b = 0 ↔ a.k = b.k ∧ (a.k = 1 → a.n = b.n) ∧ (a.k = 2 → a.s = b.s) := by
    unfold V.cmp
    have ra : rank a.k = a.k := by unfold rank; rw [if_pos (by omega)]
    have rb : rank b.k = b.k := by unfold rank; rw [if_pos (by omega)]
    rw [ra, rb]
    by_cases h : a.k = b.k
    · rw [if_neg (fun g => g h)]
      by_cases h1 : a.k = 1
      · rw [if_pos h1, cmpInt0]
        exact ⟨fun e => ⟨h, fun _ => e, fun g => by omega⟩, fun e => e.2.1 h1⟩
      · rw [if_neg h1]
        by_cases h2 : a.k = 2
        · rw [if_pos h2]
          exact ⟨fun e => ⟨h, fun g => by omega, fun _ => cmpBytes0 _ _ e⟩, fun e => by rw [e.2.2 h2]; exact ord_bytes.refl _⟩
        · rw [if_neg h2]
          exact ⟨fun _ => ⟨h, fun g => absurd g h1, fun g => absurd g h2⟩, fun _ => rfl⟩
    · rw [if_pos h, cmpInt0]
      exact ⟨fun e => absurd e h, fun e => e.1⟩
  have ht : a.text = b.text ↔ a.k = b.k ∧ (a.k = 1 → a.n = b.n) ∧ (a.k = 2 → a.s = b.s) := by
    obtain ⟨c, l, e, h1, h2⟩ := itoa_head a.n
    obtain ⟨c', l', e', h1', h2'⟩ := itoa_head b.n
    unfold V.text
    have ka : a.k = 0 ∨ a.k = 1 ∨ a.k = 2 := by omega
    have kb : b.k = 0 ∨ b.k = 1 ∨ b.k = 2 := by omega
    rcases ka with ka | ka | ka <;> rcases kb with kb | kb | kb <;> rw [ka, kb]
    · simp
    · simp [e', Ne.symm h1']
    · simp
    · simp [e, h1]
    · simpa using ⟨fun h => itoa_inj h, fun h => by rw [h]⟩
    · simp [e, h2]
    · simp
    · simp [e', Ne.symm h2']
    · simpa using ⟨fun h => esc_inj _ _ h, fun h => by rw [h]⟩
  by_cases h : a.text = b.text
  · rw [beq_iff_eq.2 h, beq_iff_eq.2 (hc.2 (ht.1 h))]
  · rw [beq_eq_false_iff_ne.2 h, beq_eq_false_iff_ne.2 (fun g => h (ht.2 (hc.1 g)))]
end Go.VB.Rec

/- from XVKeq.lean.tpl -/
namespace Go.VB.Rec
theorem cb_cons (x y : UInt8) (a b : List UInt8) : Lib.compareBytes (x :: a) (y :: b) = if Lib.compareInt x.toNat y.toNat ≠ 0 then Lib.compareInt x.toNat y.toNat else Lib.compareBytes a b := by
  rw [bytes_lex, bytes_lex a b]; rfl
theorem lexC_take {α : Type} (c : α → α → Int) : ∀ (n : Nat) (l m : List α), lexC c (l.take n) (m.take n) = lexC c l m ∨ lexC c (l.take n) (m.take n) = 0
  | 0, l, m => .inr (by simp [lexC])
  | n + 1, [], [] => .inl rfl
  | n + 1, [], _ :: _ => .inl rfl
  | n + 1, _ :: _, [] => .inl rfl
  | n + 1, a :: l, b :: m => by
    rw [List.take_succ_cons, List.take_succ_cons]
    unfold lexC
    by_cases h : c a b ≠ 0
    · rw [if_pos h, if_pos h]; exact .inl rfl
    · rw [if_neg h, if_neg h]; exact lexC_take c n l m
theorem esc_cmp : ∀ s t u v : List UInt8, Lib.compareBytes (esc 0 [0, 255] s ++ [0, 1] ++ u) (esc 0 [0, 255] t ++ [0, 1] ++ v) = if Lib.compareBytes s t ≠ 0 then Lib.compareBytes s t else Lib.compareBytes u v
  | [], [], u, v => by simp [esc, cb_cons, Lib.compareInt, Lib.compareBytes]
  | [], y :: t, u, v => by
    have e : Lib.compareBytes [] (y :: t) = -1 := rfl
    rw [e]
    unfold esc
    rw [List.flatMap_nil, List.flatMap_cons]
    by_cases h : y = 0
    · subst h; simp [cb_cons, Lib.compareInt]
    · have h1 : 0 < y.toNat := by rcases Nat.eq_zero_or_pos y.toNat with g | g; exact absurd (UInt8.toNat_inj.1 g) h; exact g
      have h3 : Lib.compareInt 0 (y.toNat : Int) = -1 := by unfold Lib.compareInt; rw [if_pos (by omega)]
      rw [if_neg h]; simp [cb_cons, h3]
  | x :: s, [], u, v => by
    have e : Lib.compareBytes (x :: s) [] = 1 := rfl
    rw [e]
    unfold esc
    rw [List.flatMap_nil, List.flatMap_cons]
    by_cases h : x = 0
    · subst h; simp [cb_cons, Lib.compareInt]
    · have h1 : 0 < x.toNat := by rcases Nat.eq_zero_or_pos x.toNat with g | g; exact absurd (UInt8.toNat_inj.1 g) h; exact g
      have h3 : Lib.compareInt (x.toNat : Int) 0 = 1 := by unfold Lib.compareInt; rw [if_neg (by omega), if_pos (by omega)]
      rw [if_neg h]; simp [cb_cons, h3]
  | x :: s, y :: t, u, v => by
    have ih := esc_cmp s t u v
    rw [cb_cons x y s t]
    unfold esc at ih ⊢
    rw [List.flatMap_cons, List.flatMap_cons]
    by_cases hx : x = 0 <;> by_cases hy : y = 0
    · subst hx; subst hy
      simpa [cb_cons, Lib.compareInt] using ih
    · subst hx
      have h1 : 0 < y.toNat := by rcases Nat.eq_zero_or_pos y.toNat with g | g; exact absurd (UInt8.toNat_inj.1 g) hy; exact g
      have h3 : Lib.compareInt 0 (y.toNat : Int) = -1 := by unfold Lib.compareInt; rw [if_pos (by omega)]
      rw [if_pos rfl, if_neg hy]; simp [cb_cons, h3]
    · subst hy
      have h1 : 0 < x.toNat := by rcases Nat.eq_zero_or_pos x.toNat with g | g; exact absurd (UInt8.toNat_inj.1 g) hx; exact g
      have h3 : Lib.compareInt (x.toNat : Int) 0 = 1 := by unfold Lib.compareInt; rw [if_neg (by omega), if_pos (by omega)]
      rw [if_neg hx, if_pos rfl]; simp [cb_cons, h3]
    · rw [if_neg hx, if_neg hy, List.singleton_append, List.singleton_append, List.cons_append, List.cons_append, List.cons_append, List.cons_append, cb_cons]
      by_cases h : Lib.compareInt x.toNat y.toNat ≠ 0
      · rw [if_pos h, if_pos h, if_pos h]
      · rw [if_neg h, if_neg h]; exact ih
def thn (a b : Int) : Int := if a ≠ 0 then a else b
theorem thn_assoc (a b c : Int) : thn (thn a b) c = thn a (thn b c) := by
  unfold thn
  by_cases h : a ≠ 0
  · rw [if_pos h, if_pos h, if_pos h]
  · rw [if_neg h, if_neg h]
open Go.VB.Oct in
theorem be8_eq (n : Nat) : be8 n = [byteAt n 0, byteAt n 1, byteAt n 2, byteAt n 3, byteAt n 4, byteAt n 5, byteAt n 6, byteAt n 7] := rfl
theorem cmp_step (a b : Nat) : Lib.compareInt a b = if Lib.compareInt (a / 256 : Nat) (b / 256 : Nat) ≠ 0 then Lib.compareInt (a / 256 : Nat) (b / 256 : Nat) else Lib.compareInt (a % 256 : Nat) (b % 256 : Nat) := by
  unfold Lib.compareInt
  repeat' split
  all_goals omega
open Go.VB.Oct in
theorem byteAt_toNat (n j : Nat) : (byteAt n j).toNat = n / 256 ^ (7 - j) % 256 := by simp [byteAt]
open Go.VB.Oct in
theorem be8_cmp (m n : Nat) (hm : m < 18446744073709551616) (hn : n < 18446744073709551616) (s t : List UInt8) : Lib.compareBytes (be8 m ++ s) (be8 n ++ t) = if Lib.compareInt m n ≠ 0 then Lib.compareInt m n else Lib.compareBytes s t := by
  show _ = thn _ _
  rw [be8_eq, be8_eq]
  simp only [List.cons_append, List.nil_append, cb_cons]
  generalize Lib.compareBytes s t = z
  simp only [byteAt_toNat]
  have th : ∀ a b : Int, (if a ≠ 0 then a else b) = thn a b := fun _ _ => rfl
  simp only [th]
  have st : ∀ k, Lib.compareInt (m / 256 ^ k : Nat) (n / 256 ^ k : Nat) = thn (Lib.compareInt (m / 256 ^ (k + 1) : Nat) (n / 256 ^ (k + 1) : Nat)) (Lib.compareInt (m / 256 ^ k % 256 : Nat) (n / 256 ^ k % 256 : Nat)) := fun k => by
    rw [cmp_step (m / 256 ^ k), Nat.div_div_eq_div_mul, Nat.div_div_eq_div_mul, ← Nat.pow_succ]; rfl
  have s8 : Lib.compareInt (m / 256 ^ 8 : Nat) (n / 256 ^ 8 : Nat) = 0 := by rw [Nat.div_eq_of_lt (by omega), Nat.div_eq_of_lt (by omega)]; rfl
  have hs : Lib.compareInt (m : Int) (n : Int) = Lib.compareInt (m / 256 ^ 0 : Nat) (n / 256 ^ 0 : Nat) := by rw [Nat.pow_zero, Nat.div_one, Nat.div_one]
  have z0 : ∀ a, thn 0 a = a := fun _ => rfl
  rw [hs, st 0, st 1, st 2, st 3, st 4, st 5, st 6, st 7, s8, z0]
  simp only [thn_assoc]
end Go.VB.Rec

/- from XVKp.lean.tpl -/
namespace Go.VB.Rec
open Go.VB.Oct
theorem word_shift {n : Int} (h : in64 n) : ((((word n + 9223372036854775808) % 18446744073709551616 : Nat)) : Int) = n + 9223372036854775808 := by
  unfold in64 at h
  unfold word
  omega
theorem cmpInt_shift (a b k : Int) : Lib.compareInt (a + k) (b + k) = Lib.compareInt a b := by
  unfold Lib.compareInt
  repeat' split
  all_goals omega
theorem cb_self (a s t : List UInt8) : Lib.compareBytes (a ++ s) (a ++ t) = Lib.compareBytes s t := by
  induction a with
  | nil => rfl
  | cons x a ih =>
    rw [List.cons_append, List.cons_append, cb_cons, ih, if_neg]
    exact fun h => h (cmpInt0.2 rfl)
theorem kinds3 {v : V} (h : v.right = true) : v.k = 0 ∨ v.k = 1 ∨ v.k = 2 := by
  unfold V.right at h
  simp only [Bool.and_eq_true, decide_eq_true_eq] at h
  omega
theorem key_cmp {x y : V} (hx : x.right = true) (hy : y.right = true) (ix : in64 x.n) (iy : in64 y.n) (s t : List UInt8) : Lib.compareBytes (x.key ++ s) (y.key ++ t) = thn (V.cmp x y) (Lib.compareBytes s t) := by
  have kx := kinds3 hx
  have ky := kinds3 hy
  have rx : rank x.k = x.k := by unfold rank; rw [if_pos (by omega)]
  have ry : rank y.k = y.k := by unfold rank; rw [if_pos (by omega)]
  by_cases h : x.k = y.k
  · have hc : V.cmp x y = if x.k = 1 then Lib.compareInt x.n y.n else if x.k = 2 then Lib.compareBytes x.s y.s else 0 := by
      unfold V.cmp; rw [rx, ry, if_neg (fun g => g h)]
    rw [hc]
    unfold V.key
    rw [← h]
    rcases kx with k | k | k <;> rw [k]
    · simp only [show ¬ ((0 : Int) = 1) by decide, show ¬ ((0 : Int) = 2) by decide, if_false, List.cons_append, List.nil_append]
      rw [cb_cons, if_neg (fun h => h (cmpInt0.2 rfl))]
      rfl
    · have e := be8_cmp ((word x.n + 9223372036854775808) % 18446744073709551616) ((word y.n + 9223372036854775808) % 18446744073709551616) (Nat.mod_lt _ (by decide)) (Nat.mod_lt _ (by decide)) s t
      rw [word_shift ix, word_shift iy, cmpInt_shift] at e
      simp only [List.cons_append]
      rw [cb_cons, if_neg (fun h => h (cmpInt0.2 rfl))]
      exact e
    · simp only [show ¬ ((2 : Int) = 1) by decide, if_false, if_true, List.cons_append]
      rw [cb_cons, if_neg (fun h => h (cmpInt0.2 rfl))]
      exact esc_cmp x.s y.s s t
  · have hc : V.cmp x y = Lib.compareInt x.k y.k := by
      unfold V.cmp; rw [rx, ry, if_pos h]
    rw [hc]
    unfold V.key
    rw [List.cons_append, List.cons_append, cb_cons]
    have e : Lib.compareInt ((UInt8.ofNat (x.k.toNat + 1)).toNat : Int) ((UInt8.ofNat (y.k.toNat + 1)).toNat : Int) = Lib.compareInt x.k y.k := by
      rcases kx with k | k | k <;> rcases ky with l | l | l <;> rw [k, l] <;> rfl
    rw [e]
    have hn : Lib.compareInt x.k y.k ≠ 0 := fun g => h (cmpInt0.1 g)
    rw [if_pos hn]
    unfold thn
    rw [if_pos hn]
theorem keys_rows : ∀ (a b : List V), a.length = b.length → (∀ v ∈ a, v.right = true ∧ in64 v.n) → (∀ v ∈ b, v.right = true ∧ in64 v.n) → ∀ s t, Lib.compareBytes (a.flatMap V.key ++ s) (b.flatMap V.key ++ t) = thn (rowsCmp a b) (Lib.compareBytes s t)
  | [], [], _, _, _, s, t => rfl
  | x :: a, y :: b, h, ha, hb, s, t => by
    obtain ⟨hx, ix⟩ := ha x (List.mem_cons_self ..)
    obtain ⟨hy, iy⟩ := hb y (List.mem_cons_self ..)
    rw [List.flatMap_cons, List.flatMap_cons, List.append_assoc, List.append_assoc, key_cmp hx hy ix iy,
      keys_rows a b (by simpa using h) (fun v hv => ha v (List.mem_cons_of_mem _ hv)) (fun v hv => hb v (List.mem_cons_of_mem _ hv)) s t, ← thn_assoc]
    rfl
theorem val_eq {x y : V} (hx : x.right = true) (hy : y.right = true) (px : x.plain = x) (py : y.plain = y) (h : V.cmp x y = 0) : x = y := by
  have kx := kinds3 hx
  have ky := kinds3 hy
  have rx : rank x.k = x.k := by unfold rank; rw [if_pos (by omega)]
  have ry : rank y.k = y.k := by unfold rank; rw [if_pos (by omega)]
  unfold V.cmp at h
  rw [rx, ry] at h
  by_cases g : x.k = y.k
  · rw [if_neg (fun e => e g)] at h
    rw [← px, ← py]
    unfold V.plain
    rw [← g]
    rcases kx with k | k | k <;> rw [k] at h ⊢
    · rfl
    · simp only [if_true] at h ⊢
      rw [cmpInt0.1 h]; rfl
    · simp only [show ¬ ((2 : Int) = 1) by decide, if_false, if_true] at h ⊢
      rw [cmpBytes0 _ _ h]
  · rw [if_pos g] at h
    exact absurd (cmpInt0.1 h) g
theorem rows_eq : ∀ (a b : List V), a.length = b.length → (∀ v ∈ a, v.right = true ∧ v.plain = v) → (∀ v ∈ b, v.right = true ∧ v.plain = v) → rowsCmp a b = 0 → a = b
  | [], [], _, _, _, _ => rfl
  | x :: a, y :: b, h, ha, hb, e => by
    obtain ⟨hx, px⟩ := ha x (List.mem_cons_self ..)
    obtain ⟨hy, py⟩ := hb y (List.mem_cons_self ..)
    unfold rowsCmp at e
    by_cases g : V.cmp x y = 0
    · rw [if_neg (fun h => h g)] at e
      rw [val_eq hx hy px py g, rows_eq a b (by simpa using h) (fun v hv => ha v (List.mem_cons_of_mem _ hv)) (fun v hv => hb v (List.mem_cons_of_mem _ hv)) e]
    · rw [if_pos g] at e; exact absurd e g
/-- a row that was made valid -/
structure VRow (a : List V) : Prop where
  row : row a = true
  in_ : ∀ v ∈ a, v.In
  plain : ∀ v ∈ a, v.plain = v
theorem row_all {a : List V} (h : row a = true) : ∀ v ∈ a, v.right = true := by
  unfold row at h
  simp only [Bool.and_eq_true, decide_eq_true_eq, List.all_eq_true] at h
  exact h.2
theorem rowKey_eq {a : List V} (h : row a = true) : rowKey a = a.flatMap V.key := by unfold rowKey; rw [if_pos h]
theorem cut_cmp (a b : List UInt8) : Lib.compareBytes (a.take 16) (b.take 16) = Lib.compareBytes a b ∨ Lib.compareBytes (a.take 16) (b.take 16) = 0 := by
  rw [bytes_lex, bytes_lex]; exact lexC_take _ 16 a b
theorem keys_law {a b : List V} (A : VRow a) (B : VRow b) (h : a.length = b.length) :
    Lib.compareBytes (rowKey a) (rowKey b) = rowsCmp a b ∧
    ((rowKey a).length ≤ (rowKey b).length ∧ (rowKey b).take (rowKey a).length = rowKey a ↔ rowsCmp a b = 0) ∧
    (rowKey a = rowKey b ↔ rowsCmp a b = 0) ∧ (rowBytes a = rowBytes b ↔ rowsCmp a b = 0) := by
  have hk := keys_rows a b h (fun v hv => ⟨row_all A.row v hv, A.in_ v hv⟩) (fun v hv => ⟨row_all B.row v hv, B.in_ v hv⟩)
  rw [← rowKey_eq A.row, ← rowKey_eq B.row] at hk
  have h1 : Lib.compareBytes (rowKey a) (rowKey b) = rowsCmp a b := by
    have := hk [] []
    rw [List.append_nil, List.append_nil] at this
    rw [this]
    unfold thn
    split
    · rfl
    · rename_i g; exact (Decidable.not_not.1 g).symm
  have h2 : rowKey a = rowKey b ↔ rowsCmp a b = 0 := by
    rw [← h1]
    exact ⟨fun e => by rw [e]; exact ord_bytes.refl _, cmpBytes0 _ _⟩
  have h3 : rowsCmp a b = 0 → a = b := rows_eq a b h (fun v hv => ⟨row_all A.row v hv, A.plain v hv⟩) (fun v hv => ⟨row_all B.row v hv, B.plain v hv⟩)
  refine ⟨h1, ⟨?_, ?_⟩, h2, ?_, ?_⟩
  · rintro ⟨hl, ht⟩
    have e : rowKey b = rowKey a ++ (rowKey b).drop (rowKey a).length := by
      conv => lhs; rw [← List.take_append_drop (rowKey a).length (rowKey b), ht]
    have := hk ((rowKey b).drop (rowKey a).length) []
    rw [← e, List.append_nil, ord_bytes.refl] at this
    unfold thn at this
    split at this
    · exact this.symm
    · rename_i g; exact Decidable.not_not.1 g
  · intro e
    rw [h2.2 e]
    exact ⟨Nat.le_refl _, List.take_length⟩
  · intro e
    have r1 := readV_bytes A.row A.in_
    have r2 := readV_bytes B.row B.in_
    rw [e, r2] at r1
    have e2 : b.map V.plain = a.map V.plain := congrArg Prod.fst r1
    have ea : ∀ l : List V, (∀ v ∈ l, v.plain = v) → l.map V.plain = l := fun l hl => by
      conv => rhs; rw [← List.map_id l]
      exact List.map_congr_left hl
    rw [ea a A.plain, ea b B.plain] at e2
    rw [e2]; exact ord_rows.refl _
  · intro e; rw [h3 e]
end Go.VB.Rec

