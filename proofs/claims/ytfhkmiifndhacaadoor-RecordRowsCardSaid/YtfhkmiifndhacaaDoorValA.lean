import Derived.Test.YtfhkmiifndhacaaDoorRecM
import Derived.Test.YtfhkmiifndhacaaDoorJoin
/- value: right, bytes. -/
set_option linter.unusedVariables false
namespace Go.Proofs.YtfhkmiifndhacaaDoor
open Go.RowKit Go.VB Go.VB.Oct Go.VB.Rec
def vagg (v : V) : Value := .agg v.cells.toArray
theorem known_go (k : Int) (w : World) : Calls Tryd.prog 33 #[.int .i64 k] w fun e w' => e = .returned (.bool (decide (0 ≤ k) && decide (k ≤ 2))) ∧ w = w' := by
  go_enter Tryd.func33, Tryd.ntmps33
  go_wp2
  all_goals (go_ret; exact ⟨ret_bool (by simp_all <;> omega), rfl⟩)
theorem VRight_go (v : V) (w : World) : Calls Tryd.prog 59 #[vagg v] w fun e w' => e = .returned (.bool v.right) ∧ Fr (fun _ => False) w w' := by
  obtain ⟨k, n, s⟩ := v
  have e1 := bs_size s
  have HK := hid (fun k w => known_go k w)
  unfold vagg V.cells V.right
  dsimp only
  go_enter Tryd.func59, Tryd.ntmps59
  go_wp2_with (go_at_call 33; refine (HK.out _ _).mono ?_; rintro e w' ⟨rfl, rfl⟩)
  all_goals (go_ret; exact ⟨ret_bool (by simp_all <;> omega), (Fr.refl _ w).alloc _⟩)
theorem vcells_len (v : V) : v.cells.length = 3 := rfl
theorem flat3 {α : Type} (f : α → List Value) (hf : ∀ x, (f x).length = 3) : ∀ (L : List α) (j : Nat) (h : j < L.length) (i : Nat), i < 3 → (L.flatMap f)[j * 3 + i]? = (f L[j])[i]?
  | x :: L, 0, _, i, hi => by simp [List.getElem?_append, hf, hi]
  | x :: L, j + 1, h, i, hi => by
    rw [List.flatMap_cons, List.getElem?_append_right (by rw [hf]; omega), hf, show (j + 1) * 3 + i - 3 = j * 3 + i by omega, flat3 f hf L j (by simpa using h) i hi]
    rfl
theorem sl_cell3 {α : Type} {R : Nat → Prop} {w : World} {a : Option Addr} {c : Nat} {f : α → List Value} (hf : ∀ x, (f x).length = 3) {L : List α} (h : Sl R w (.slice a L.length c) L.length (L.flatMap f)) (hL : L ≠ []) :
    ∃ g o, a = some ⟨g, o, none⟩ ∧ R g ∧ ∀ j (hj : j < L.length) i, i < 3 → w.cell? ⟨g, o + (j * 3 + i), none⟩ = (f L[j])[i]? := by
  obtain ⟨a', cap, he, hc, hx⟩ := h
  cases he
  obtain ⟨g, o, rfl, hR, hr⟩ := hx (by
    cases L with
    | nil => exact absurd rfl hL
    | cons x L => intro hh; have := congrArg List.length hh; simp [hf] at this)
  refine ⟨g, o, rfl, hR, fun j hj i hi => ?_⟩
  have hfl := flat3 f hf L j hj i hi
  cases hh : (f L[j])[i]? with
  | none => rw [List.getElem?_eq_none_iff, hf] at hh; omega
  | some u => rw [hh] at hfl; exact hr _ u hfl
set_option maxRecDepth 20000 in
theorem right_go {R : Nat → Prop} {w : World} {va : Value} {r : List V} (h : Sl R w va r.length (r.flatMap V.cells)) (hR : ∀ k, R k → k < w.heap.size) (hn : r.length ≤ 1099511627776) : Calls Tryd.prog 34 #[va] w fun e w' => e = .returned (.bool (row r)) ∧ Fr (fun _ => False) w w' := by
  obtain ⟨a, c, rfl, hc, hx⟩ := h
  have HX := hid (show Sl R w (.slice a r.length c) r.length (r.flatMap V.cells) from ⟨a, c, rfl, hc, hx⟩)
  clear hx
  have HV := hid (fun v w => VRight_go v w)
  have F0 := hid (Fr.refl (fun _ => False) w)
  go_enter Tryd.func34, Tryd.ntmps34
  go_wp2_with (fail)
  go_loopw [7] (fun i wr => ∃ j : Nat, j ≤ r.length ∧ i = .int .i64 j ∧ (r.take j).all V.right = true ∧ Fr (fun _ => False) w wr) (fun i _ => r.length - (intOf i).toNat)
  case atStart => exact ⟨0, by omega, rfl, rfl, F0.out⟩
  case round =>
    obtain ⟨j, hj, rfl, hall, fr⟩ := hrel
    by_cases hjl : j < r.length
    · obtain ⟨g, o, rfl, hg, hcell⟩ := sl_cell3 (f := V.cells) vcells_len (HX.out.fr fr (fun _ _ h => h)) (fun h => by subst h; cases hjl)
      have q0 : wr.cell? ⟨g, o + j * 3, none⟩ = some (.int .i64 r[j].k) := hcell j hjl 0 (by omega)
      have q1 : wr.cell? ⟨g, o + j * 3 + 1, none⟩ = some (.int .i64 r[j].n) := hcell j hjl 1 (by omega)
      have q2 : wr.cell? ⟨g, o + j * 3 + 2, none⟩ = some (.string (bs r[j].s)) := hcell j hjl 2 (by omega)
      have FR := hid fr
      have i1 : (0 : Int) ≤ (j : Int) := by omega
      have i2 : (j : Int) < r.length := by omega
      clear hcell fr
      go_wp2_with (fail)
      refine (HV.out r[j] _).mono ?_
      rintro e w1 ⟨rfl, f1⟩
      have F1 := hid ((FR.out.alloc (.cells #[.int .i64 r[j].k, .int .i64 r[j].n, .string (bs r[j].s)] 50)).trans f1 (fun _ h _ => h))
      have HT := hid (show r.take (j + 1) = r.take j ++ [r[j]] by rw [List.take_add_one, List.getElem?_eq_getElem hjl]; rfl)
      clear f1 q0 q1 q2
      cases hr : r[j].right with
      | true =>
        go_wp2_with (fail)
        go_roundw
        case rel => exact ⟨j + 1, by omega, by go_num, by rw [HT.out, List.all_append, hall]; simp [hr], F1.out⟩
        case measure => simp [intOf]; omega
      | false =>
        go_wp2_with (fail)
        go_ret
        refine ⟨ret_bool ?_, F1.out⟩
        have : r.all V.right = false := by
          rw [List.all_eq_false]
          exact ⟨r[j], List.getElem_mem hjl, by simp [hr]⟩
        unfold row
        rw [this, Bool.and_false]
    · obtain rfl : j = r.length := by omega
      rw [List.take_length] at hall
      clear HX hc
      go_wp2_with (fail)
      go_ret
      refine ⟨ret_bool ?_, fr⟩
      unfold row
      rw [hall, Bool.and_true]
      exact decide_eq_decide.2 (by omega)
theorem rep_set (n : Nat) (v z : Value) : (List.replicate (n + 1) z).set n v = List.replicate n z ++ [v] := by
  induction n with
  | zero => rfl
  | succ n ih => rw [List.replicate_succ, List.set_cons_succ, ih, List.replicate_succ]; rfl
theorem bv_back_set (l : List UInt8) (j : Nat) (hj : j < l.length) : (List.replicate (j + 1) (Value.int .u8 0) ++ bv (l.drop (j + 1))).set j (.int .u8 ((l[j]).toNat : Int)) = List.replicate j (Value.int .u8 0) ++ bv (l.drop j) := by
  rw [List.set_append_left _ _ (by simp), rep_set, List.append_assoc, List.drop_eq_getElem_cons hj]
  rfl
set_option maxRecDepth 20000 in
set_option maxHeartbeats 2000000 in
theorem whole_go (x : Nat) (hx : x < 18446744073709551616) (w : World) : Calls Tryd.prog 37 #[.int .u64 x] w fun e w' => e = .returned (.string (bs (be8 x))) ∧ Fr (fun _ => False) w w' := by
  have n1 : (0 : Int) ≤ x := by omega
  have n2 : (x : Int) < 18446744073709551616 := by omega
  have HL8 := hid (be8_length x)
  have HB0 := hid (Blk.new w (List.replicate 8 (Value.int .u8 0)) 95)
  have HF0 := hid ((Fr.refl (fun _ => False) w).alloc (.cells (List.replicate 8 (Value.int .u8 0)).toArray 95))
  go_enter Tryd.func37, Tryd.ntmps37
  go_wp2_with (fail)
  generalize hb : w.heap.size = b at *
  have HBB := hid hb
  clear hb
  go_loopw [5] (fun i wr => ∃ j : Nat, j ≤ 8 ∧ i = .int .i64 j ∧ Blk wr b (List.replicate (8 - j) (.int .u8 0) ++ bv ((be8 x).drop (8 - j))) 95 ∧ Fr (fun _ => False) w wr) (fun i _ => 8 - (intOf i).toNat)
  case atStart => exact ⟨0, by omega, rfl, by rw [List.drop_of_length_le (by rw [HL8.out]; exact Nat.le_refl _)]; exact HB0.out, HF0.out⟩
  case round =>
    obtain ⟨j, hj, rfl, hB, fr⟩ := hrel
    by_cases hj8 : j < 8
    · have hj' : 7 - j < (be8 x).length := by rw [HL8.out]; omega
      have i1 : (0 : Int) ≤ (j : Int) := by omega
      have i2 : (j : Int) < 8 := by omega
      have z := hB.frozen (7 - j)
      rw [show 8 - j = (7 - j) + 1 by omega] at hB
      have c0 : wr.cell? ⟨b, 7 - j, none⟩ = some (.int .u8 0) := by
        rw [hB.cell, List.getElem?_append_left (by simp)]
        simp
      have hB2 := hB.set (7 - j) (.int .u8 (((be8 x)[7 - j]).toNat : Int))
      rw [bv_back_set _ _ hj'] at hB2
      have hval : (be8 x)[7 - j] = byteAt x (7 - j) := by
        have := be8_at x (7 - j) (by omega)
        rw [List.getElem?_eq_getElem hj'] at this
        exact Option.some.inj this
      rw [hval, ← byteAt_val x (show 7 - j < 8 by omega), show 56 - 8 * (7 - j) = 8 * j by omega] at hB2
      have HB2 := hid hB2
      have HF2 := hid (fr.setCell ⟨b, 7 - j, none⟩ (.int .u8 ((x : Int) / 2 ^ (8 * j) % 256)) (fun h => absurd (show b < w.heap.size from h) (by have := HBB.out; omega)))
      have t7 : ((7 : Int) - j).toNat = 7 - j := by omega
      clear hB hB2 fr hval hj'
      go_wp2_with (fail)
      go_roundw
      case rel => exact ⟨j + 1, by omega, by go_num, by rw [show 8 - (j + 1) = 7 - j by omega]; exact HB2.out, HF2.out⟩
      case measure => simp [intOf]; omega
    · obtain rfl : j = 8 := by omega
      have hB' : Blk wr b (bv (be8 x)) 95 := hB
      have hr : wr.rangeAt b 0 (bv (be8 x)) := hB'.range [] (bv (be8 x)) [] (by simp)
      have HR := hid hr
      have FR := hid fr
      have hcv := run_bytes_string (P := Tryd.prog) (w := wr) (l := be8 x) HR.out (src := 64) (dst := 9) Tryd.underlying64 Tryd.underlying5 Tryd.underlying9 8 8 (be8_length x).symm
      clear hB hB' hr fr
      go_wp2_with (fail)
      go_ret
      exact ⟨rfl, FR.out⟩
theorem WriteByteN_go {B : Nat} {w : World} {b : Nat} {l : List UInt8} {v : Value} (h : Bld B w b l v) (hB : B ≤ w.heap.size) (hl : l.length + 1 ≤ 1099511627776) (n : Nat) (hn : n < 256) : Calls Tryd.prog 35 #[.pointer (some ⟨b, 0, none⟩), .int .u8 (n : Int)] w fun e w' => e = .returned .nilIface ∧ ∃ v', BldW B w w' b (l ++ [UInt8.ofNat n]) v v' := by
  have := WriteByte_go h hB hl (UInt8.ofNat n)
  rwa [UInt8.toNat_ofNat', Nat.mod_eq_of_lt (show n < 2 ^ 8 from hn)] at this
theorem vbytes_le (v : V) (h : v.right = true) : v.bytes.length ≤ 42 := by
  unfold V.right at h
  unfold V.bytes
  split
  · simp [be8_length]
  · split
    · simp_all
    · simp
theorem vsum_le (r : List V) (h : ∀ v ∈ r, v.right = true) (hn : r.length ≤ 6) : (r.flatMap V.bytes).length ≤ 252 := by
  have : ∀ l : List V, (∀ v ∈ l, v.right = true) → (l.flatMap V.bytes).length ≤ 42 * l.length := by
    intro l
    induction l with
    | nil => simp
    | cons x l ih =>
      intro h
      rw [List.flatMap_cons, List.length_append, List.length_cons]
      have h1 := vbytes_le x (h x (by simp))
      have h2 := ih (fun v hv => h v (by simp [hv]))
      omega
  have := this r h
  omega
theorem take_flat {α : Type} (r : List α) (f : α → List UInt8) (j : Nat) (hj : j < r.length) : (r.take (j + 1)).flatMap f = (r.take j).flatMap f ++ f r[j] := by
  rw [List.take_add_one, List.getElem?_eq_getElem hj, List.flatMap_append]
  simp
theorem word_wrap (n : Int) : IntKind.u64.wrap n = ((word n : Nat) : Int) := by
  rw [IntKind.wrap_u64]
  unfold word
  omega
theorem word_lt (n : Int) : word n < 18446744073709551616 := by unfold word; omega
set_option maxRecDepth 20000 in
set_option maxHeartbeats 4000000 in
theorem VBytes_go {R : Nat → Prop} {w : World} {va : Value} {r : List V} (h : Sl R w va r.length (r.flatMap V.cells)) (hR : ∀ k, R k → k < w.heap.size) (hn : r.length ≤ 1099511627776) : Calls Tryd.prog 10 #[va] w fun e w' => e = .returned (.string (bs (rowBytes r))) ∧ Fr (fun _ => False) w w' := by
  have HR := hid (right_go h hR hn)
  obtain ⟨a, c, rfl, hc, hx⟩ := h
  have HX := hid (show Sl R w (.slice a r.length c) r.length (r.flatMap V.cells) from ⟨a, c, rfl, hc, hx⟩)
  clear hx
  cases hr : row r with
  | false =>
    rw [hr] at HR
    have hb : rowBytes r = [] := by unfold rowBytes; rw [hr]; rfl
    rw [hb]
    go_enter Tryd.func10, Tryd.ntmps10
    go_wp2_with (go_at_call 34; refine HR.out.mono ?_; rintro e w1 ⟨rfl, f1⟩; clear HR)
    go_ret
    exact ⟨rfl, f1⟩
  | true =>
    have hb : rowBytes r = UInt8.ofNat r.length :: r.flatMap V.bytes := by unfold rowBytes; rw [hr]; rfl
    rw [hr] at HR
    rw [hb]
    have hlen : r.length ≤ 6 := by unfold row at hr; simp at hr; exact hr.1
    have hall := hid (show ∀ v ∈ r, v.right = true by unfold row at hr; simp at hr; exact hr.2)
    clear hb hr
    go_enter Tryd.func10, Tryd.ntmps10
    go_wp2_with (go_at_call 34; refine HR.out.mono ?_; rintro e w1 ⟨rfl, f1⟩; clear HR)
    have F1 := hid f1
    have hlt : r.length < 256 := by omega
    have HB0 := hid (Bld.new w1 (Nat.le_refl _))
    have HW0 := hid (WriteByteN_go HB0.out (by simp) (by simp) r.length hlt)
    clear f1
    go_wp2_with (go_at_call 35; refine HW0.out.mono ?_; rintro e w2 ⟨rfl, v2, hw2⟩)
    have HF2 := hid (hw2.frB HB0.out (F1.out.alloc _) F1.out.size (Nat.le_refl _))
    have HB2 := hid hw2.bld
    have HS2 := hid (Nat.le_trans (by simp) hw2.fr.size : w1.heap.size + 1 ≤ w2.heap.size)
    clear hw2 HW0 HB0
    generalize hb : w1.heap.size = b at *
    have HBB := hid hb
    clear hb
    go_loopw [15] (fun i wr => ∃ (j : Nat) (v' : Value), j ≤ r.length ∧ i = .int .i64 j ∧ Bld b wr b (UInt8.ofNat r.length :: (r.take j).flatMap V.bytes) v' ∧ Fr (fun _ => False) w wr ∧ b < wr.heap.size) (fun i _ => r.length - (intOf i).toNat)
    case atStart => exact ⟨0, v2, by omega, rfl, HB2.out, HF2.out, by have := HS2.out; omega⟩
    case round =>
      obtain ⟨j, v3, hj, rfl, hbl, fr, hbs⟩ := hrel
      by_cases hjl : j < r.length
      · obtain ⟨g, o, rfl, hg, hcell⟩ := sl_cell3 (f := V.cells) vcells_len (HX.out.fr fr (fun _ _ h => h)) (fun h => by subst h; cases hjl)
        have q0 : wr.cell? ⟨g, o + j * 3, none⟩ = some (.int .i64 r[j].k) := hcell j hjl 0 (by omega)
        have q1 : wr.cell? ⟨g, o + j * 3 + 1, none⟩ = some (.int .i64 r[j].n) := hcell j hjl 1 (by omega)
        have q2 : wr.cell? ⟨g, o + j * 3 + 2, none⟩ = some (.string (bs r[j].s)) := hcell j hjl 2 (by omega)
        have FR := hid fr
        have i1 : (0 : Int) ≤ (j : Int) := by omega
        have i2 : (j : Int) < r.length := by omega
        have HT := hid (take_flat r V.bytes j hjl)
        have hright := hall.out r[j] (List.getElem_mem hjl)
        have HLE := hid (vbytes_le r[j] hright)
        have HSUM := hid (show ((r.take j).flatMap V.bytes).length ≤ 252 from vsum_le _ (fun v hv => hall.out v (List.mem_of_mem_take hv)) (by rw [List.length_take]; omega))
        have HBL := hid hbl
        clear hcell fr hbl
        generalize r[j] = x at *
        obtain ⟨k, n, s⟩ := x
        have hk : k = 0 ∨ k = 1 ∨ k = 2 := by unfold V.right at hright; simp at hright; omega
        have HB4 := hid ((HBL.out.fre ((Fr.refl (fun _ => False) wr).alloc (.cells #[.int .i64 k, .int .i64 n, .string (bs s)] 50))))
        have HD4 := hid (show Blk (wr.alloc (.cells #[.int .i64 k, .int .i64 n, .string (bs s)] 50)) wr.heap.size [.int .i64 k, .int .i64 n, .string (bs s)] 50 from Blk.new wr [.int .i64 k, .int .i64 n, .string (bs s)] 50)
        have HF4 := hid (FR.out.alloc (.cells #[.int .i64 k, .int .i64 n, .string (bs s)] 50))
        have hb4 : b ≤ (wr.alloc (.cells #[.int .i64 k, .int .i64 n, .string (bs s)] 50)).heap.size := by rw [World.size_alloc]; omega
        have hl4 : (UInt8.ofNat r.length :: (r.take j).flatMap V.bytes).length + 1 ≤ 1099511627776 := by have := HSUM.out; rw [List.length_cons]; omega
        rcases hk with rfl | rfl | rfl
        · have HWK := hid (WriteByteN_go HB4.out hb4 hl4 0 (by omega))
          go_wp2_with (go_at_call 35; refine HWK.out.mono ?_; rintro e w5 ⟨rfl, v5, hw5⟩; have D5 := hid (Blk.fr HD4.out hw5.fr (fun h => h.elim (fun h => by omega) (fun h => HB4.out.row.ne HD4.out (by decide) _ h rfl))); have k50 := Blk.cell D5.out 0; have k51 := Blk.cell D5.out 1; have k52 := Blk.cell D5.out 2; have HW5 := hid hw5; clear hw5)
          go_roundw
          case rel => exact ⟨j + 1, v5, by omega, by go_num, HW5.out.bld.cast (by rw [HT.out]; simp [V.bytes]), HW5.out.frB HB4.out HF4.out (Nat.le_trans F1.out.size (Nat.le_of_eq HBB.out)) (Nat.le_refl _), by have := HW5.out.fr.size; rw [World.size_alloc] at this; omega⟩
          case measure => simp [intOf]; omega
        · have HWK := hid (WriteByteN_go HB4.out hb4 hl4 1 (by omega))
          have HWH := hid (fun w => whole_go (word n) (word_lt n) w)
          have hwr := word_wrap n
          go_wp2_with (first
            | (go_at_call 35; refine HWK.out.mono ?_; rintro e w5 ⟨rfl, v5, hw5⟩; have D5 := hid (Blk.fr HD4.out hw5.fr (fun h => h.elim (fun h => by omega) (fun h => HB4.out.row.ne HD4.out (by decide) _ h rfl))); have k50 := Blk.cell D5.out 0; have k51 := Blk.cell D5.out 1; have k52 := Blk.cell D5.out 2; have HW5 := hid hw5; clear hw5)
            | (go_at_call 37; refine (HWH.out _).mono ?_; rintro e w6 ⟨rfl, f6⟩; have F6 := hid f6; clear f6)
            | (go_at_call 36; refine (WriteString_go (HW5.out.bld.fre F6.out) (Nat.le_trans hb4 (Nat.le_trans HW5.out.fr.size F6.out.size)) (be8 (word n)) (by have := HSUM.out; simp only [List.length_append, List.length_cons, List.length_nil, be8_length]; omega)).mono ?_; rintro e w7 ⟨rfl, v7, hw7⟩; have HW7 := hid hw7; clear hw7))
          go_roundw
          case rel => exact ⟨j + 1, v7, by omega, by go_num, HW7.out.bld.cast (by rw [HT.out]; simp [V.bytes]), HW7.out.frB (HW5.out.bld.fre F6.out) ((HW5.out.frB HB4.out HF4.out (Nat.le_trans F1.out.size (Nat.le_of_eq HBB.out)) (Nat.le_refl _)).trans F6.out (fun _ h _ => h)) (Nat.le_trans F1.out.size (Nat.le_of_eq HBB.out)) (Nat.le_refl _), by have := HW5.out.fr.size; have := F6.out.size; have := HW7.out.fr.size; rw [World.size_alloc] at *; omega⟩
          case measure => simp [intOf]; omega
        · have HWK := hid (WriteByteN_go HB4.out hb4 hl4 2 (by omega))
          have hs40 : s.length ≤ 40 := by unfold V.right at hright; simp at hright; exact hright
          have e1 := bs_size s
          go_wp2_with (first
            | (go_at_call 36; refine (WriteString_go HW6.out.bld (Nat.le_trans hb4 (Nat.le_trans HW5.out.fr.size HW6.out.fr.size)) s (by have := HSUM.out; simp only [List.length_append, List.length_cons, List.length_nil]; omega)).mono ?_; rintro e w7 ⟨rfl, v7, hw7⟩; have HW7 := hid hw7; clear hw7)
            | (go_at_call 35; refine (WriteByteN_go HW5.out.bld (Nat.le_trans hb4 HW5.out.fr.size) (by have := HSUM.out; simp only [List.length_append, List.length_cons, List.length_nil]; omega) s.length (by omega)).mono ?_; rintro e w6 ⟨rfl, v6, hw6⟩; have D6 := hid (Blk.fr D5.out hw6.fr (fun h => h.elim (fun h => by omega) (fun h => HW5.out.bld.row.ne D5.out (by decide) _ h rfl))); have k60 := Blk.cell D6.out 0; have k61 := Blk.cell D6.out 1; have k62 := Blk.cell D6.out 2; have HW6 := hid hw6; clear hw6)
            | (go_at_call 35; refine HWK.out.mono ?_; rintro e w5 ⟨rfl, v5, hw5⟩; have D5 := hid (Blk.fr HD4.out hw5.fr (fun h => h.elim (fun h => by omega) (fun h => HB4.out.row.ne HD4.out (by decide) _ h rfl))); have k50 := Blk.cell D5.out 0; have k51 := Blk.cell D5.out 1; have k52 := Blk.cell D5.out 2; have HW5 := hid hw5; clear hw5))
          go_roundw
          case rel => exact ⟨j + 1, v7, by omega, by go_num, HW7.out.bld.cast (by rw [HT.out]; simp [V.bytes]), HW7.out.frB HW6.out.bld (HW6.out.frB HW5.out.bld (HW5.out.frB HB4.out HF4.out (Nat.le_trans F1.out.size (Nat.le_of_eq HBB.out)) (Nat.le_refl _)) (Nat.le_trans F1.out.size (Nat.le_of_eq HBB.out)) (Nat.le_refl _)) (Nat.le_trans F1.out.size (Nat.le_of_eq HBB.out)) (Nat.le_refl _), by have := HW5.out.fr.size; have := HW6.out.fr.size; have := HW7.out.fr.size; rw [World.size_alloc] at *; omega⟩
          case measure => simp [intOf]; omega
      · obtain rfl : j = r.length := by omega
        rw [List.take_length] at hbl
        have HST := hid (String_go hbl (Nat.le_of_lt hbs) (Nat.le_refl _))
        have FR := hid fr
        clear hbl fr HX hc
        go_wp2_with (go_at_call 38; refine HST.out.mono ?_; rintro e w9 ⟨rfl, f9⟩)
        go_ret
        have hsz : w.heap.size ≤ b := Nat.le_trans F1.out.size (Nat.le_of_eq HBB.out)
        exact ⟨rfl, FR.out.trans (S := fun _ => False) (T := fun k => b ≤ k) ⟨f9.os, f9.tape, f9.output, f9.size, fun k _ hn => f9.block k (by omega)⟩ (fun k hk hl => by omega)⟩
end Go.Proofs.YtfhkmiifndhacaaDoor
