import Derived.Test.YtbkebjgoaeddjaaClkArgs
/- Ended, of the clock under test and of the reference; the library's Contains. -/
set_option linter.unusedVariables false
namespace Go.VB.Clk
open Go.RowKit
theorem iv_length (l : List Int) : (iv l).length = l.length := by simp [iv]
theorem nv_iv (l : List Nat) : nv l = iv (l.map fun n : Nat => (n : Int)) := by simp [nv, iv]
end Go.VB.Clk
namespace Go.Proofs.Ytbkebjgoaeddjaa
open Go.RowKit Go.VB Go.VB.Clk
theorem iv_at {R : Nat → Prop} {w : World} {a : Option Addr} {l : List Int} (h : iv l ≠ [] → ∃ g o, a = some ⟨g, o, none⟩ ∧ R g ∧ w.rangeAt g o (iv l)) {j : Nat} (hj : j < l.length) : ∃ g o, a = some ⟨g, o, none⟩ ∧ R g ∧ w.cell? ⟨g, o + j, none⟩ = some (.int .i64 l[j]) := by
  obtain ⟨g, o, rfl, hR, hr⟩ := h (by intro e; have : (iv l).length = 0 := congrArg List.length e; rw [iv_length] at this; omega)
  exact ⟨g, o, rfl, hR, hr j _ (by simp [iv, hj])⟩
theorem not_mem_take {l : List Int} {x : Int} {j : Nat} (hj : j < l.length) (h : x ∉ l.take j) (hx : l[j] ≠ x) : x ∉ l.take (j + 1) := by
  rw [List.take_add_one, List.getElem?_eq_getElem hj]
  simp only [List.mem_append, not_or]
  exact ⟨h, by simp; exact fun e => hx e.symm⟩
set_option maxHeartbeats 1000000 in
theorem index_go {R : Nat → Prop} {w : World} {v : Value} {l : List Int} (h : Sl R w v l.length (iv l)) (hl : l.length ≤ 9223372036854775807) (x : Int) :
    Calls Try.prog 79 #[v, .int .i64 x] w fun e w' => (∃ i : Int, e = .returned (.int .i64 i) ∧ (0 ≤ i ↔ x ∈ l)) ∧ w = w' := by
  obtain ⟨a, c, rfl, hc, hr⟩ := h
  have HR := hid (fun j (hj : j < l.length) => iv_at hr hj)
  clear hr
  go_enter Try.func79, Try.ntmps79
  go_wp2_with (fail)
  go_loop [8] (fun i => ∃ j : Nat, j ≤ l.length ∧ i = .int .i64 j ∧ Hid (x ∉ l.take j)) (fun i => l.length - (intOf i).toNat)
  case atStart => exact ⟨0, by omega, rfl, hid (by simp)⟩
  case round =>
    obtain ⟨j, hj, rfl, hn⟩ := hrel
    by_cases hjl : j < l.length
    · obtain ⟨g, o, rfl, -, hcell⟩ := HR.out j hjl
      by_cases he : l[j] = x
      · have hm := hid (show x ∈ l from he ▸ List.getElem_mem hjl)
        have hb : (x == l[j]) = true := by simp [he]
        generalize l[j] = y at *
        clear he
        go_wp2_with (fail)
        go_ret
        exact ⟨⟨j, rfl, by simp [hm.out]⟩, rfl⟩
      · have hm := hid (not_mem_take hjl hn.out he)
        have hb : (x == l[j]) = false := by rw [Bool.eq_false_iff]; simp; exact fun e => he e.symm
        generalize l[j] = y at *
        clear he
        go_wp2_with (fail)
        go_round
        case rel => exact ⟨j + 1, by omega, by go_num, hm⟩
        case measure => simp [intOf]; omega
    · obtain rfl : j = l.length := by omega
      have hm := hn.out
      rw [List.take_length] at hm
      have HM := hid hm
      clear hm hn
      go_wp2_with (fail)
      go_ret
      exact ⟨⟨-1, rfl, by simp [HM.out]⟩, rfl⟩
theorem contains_go {R : Nat → Prop} {w : World} {v : Value} {l : List Int} (h : Sl R w v l.length (iv l)) (hl : l.length ≤ 9223372036854775807) (x : Int) :
    Calls Try.prog 60 #[v, .int .i64 x] w fun e w' => e = .returned (.bool (decide (x ∈ l))) ∧ w = w' := by
  have hI := hid (index_go h hl x)
  clear h
  go_enter Try.func60, Try.ntmps60
  go_wp2_with (fail)
  refine hI.out.mono ?_
  rintro e w' ⟨⟨i, rfl, hi⟩, rfl⟩
  by_cases h0 : 0 ≤ i
  · have hd : decide (0 ≤ i) = true := by simpa using h0
    have := hi.1 h0
    have HT := hid (show decide (x ∈ l) = true by simpa using this)
    clear hi this
    go_wp2_with (fail)
    go_ret
    exact ⟨ret_bool (by rw [HT.out]), rfl⟩
  · have hd : decide (0 ≤ i) = false := by simpa using h0
    have HT := hid (show decide (x ∈ l) = false by simp; exact fun h => h0 (hi.2 h))
    clear hi
    go_wp2_with (fail)
    go_ret
    exact ⟨ret_bool (by rw [HT.out]), rfl⟩
theorem meth_tab (st : Array Value) (w : World) : (method 224 40 (.agg st) "State").run Try.prog w = .ok (29, .agg st) w := by kernel_rfl
theorem meth_clk (a : Addr) (w : World) : (method 224 27 (.pointer (some a)) "State").run Try.prog w = .ok (25, .pointer (some a)) w := by kernel_rfl
theorem nil_clk (a : Addr) (w : World) : (nilAhead 224 27 (.pointer (some a)) "State").run Try.prog w = .ok (some false) w := by kernel_rfl
set_option maxRecDepth 20000 in
set_option maxHeartbeats 2000000 in
theorem Ended_tab {R : Nat → Prop} {w : World} {v : Value} {l : List Int} (h : Sl R w v l.length (iv l)) (hl : l.length ≤ 9223372036854775807) (high x : Int) (st : Array Value) (s : Int)
    (hS : ∀ w, Calls Try.prog 29 #[.agg st, .int .i64 x] w fun e w' => e = .returned (.int .i64 s) ∧ Fr (fun _ => False) w w') :
    Calls Try.prog 27 #[.agg #[.int .i64 high, v], .int .i64 x, .iface 40 (.agg st)] w fun e w' => e = .returned (.bool (endedI high l x s)) ∧ Fr (fun _ => False) w w' := by
  have hm := meth_tab st
  obtain ⟨a, c, rfl, hc, hr⟩ := h
  have F0 := (Fr.refl (fun _ => False) w).alloc (.cells #[Value.int .i64 high, .slice a l.length c] 37)
  have B0 := Blk.new w [Value.int .i64 high, .slice a l.length c] 37
  obtain ⟨w0, hw0⟩ : ∃ w0, w.alloc (.cells #[Value.int .i64 high, .slice a l.length c] 37) = w0 := ⟨_, rfl⟩
  have hC := contains_go (Sl.fr ⟨a, c, rfl, hc, hr⟩ F0 (fun _ _ h => h)) hl x
  have e0 : w.alloc (.cells [Value.int .i64 high, .slice a l.length c].toArray 37) = w0 := hw0
  rw [hw0] at F0 hC
  rw [e0] at B0
  have k0 : w0.cell? ⟨w.heap.size, 0, none⟩ = some (.int .i64 high) := B0.cell 0
  have k1 : w0.cell? ⟨w.heap.size, 1, none⟩ = some (.slice a l.length c) := B0.cell 1
  have HW := hid hw0
  have O := hid (fun w => on_go x w)
  have BE := hid (fun w => Before_go x high w)
  have HC := hid hC
  have HF := hid F0
  have HS := hid hS
  unfold endedI
  clear hS hC e0 hr B0 F0 hw0
  by_cases h2 : x = 2
  · rw [if_pos h2]
    have h2' : (x == 2) = true := by simpa using h2
    clear h2
    go_enter Try.func27, Try.ntmps27
    go_wp2_with (fail)
    rw [HW.out]
    go_ret
    exact ⟨rfl, HF.out⟩
  · rw [if_neg h2]
    have h2' : (x == 2) = false := by simpa using h2
    clear h2
    have hcc : l.contains x = decide (x ∈ l) := by rw [Bool.eq_iff_iff]; simp
    rw [hcc]
    clear hcc
    generalize on x = o at *
    generalize beforeI x high = b at *
    generalize decide (x ∈ l) = q at *
    cases o
    case' true =>
      cases b
      case' true => cases q
    all_goals
      go_enter Try.func27, Try.ntmps27
      go_wp2_with (first
        | (go_at_call 52; rw [HW.out]; refine (O.out _).mono ?_; rintro e w' ⟨rfl, rfl⟩)
        | (go_at_call 17; refine (BE.out _).mono ?_; rintro e w' ⟨rfl, rfl⟩)
        | (go_at_call 60; refine HC.out.mono ?_; rintro e w' ⟨rfl, rfl⟩)
        | (go_at_call 29; refine (HS.out _).mono ?_; rintro e w' ⟨rfl, f9⟩))
      go_ret
      first
        | exact ⟨rfl, HF.out⟩
        | exact ⟨ret_bool (by rw [Bool.eq_iff_iff]; simp), HF.out.trans f9 (fun _ h _ => h)⟩
set_option maxRecDepth 20000 in
set_option maxHeartbeats 2000000 in
theorem Ended_clk {R : Nat → Prop} {w : World} {v : Value} {l : List Int} (h : Sl R w v l.length (iv l)) (hl : l.length ≤ 9223372036854775807) (high x : Int) {cb : Nat} {m : CM} (hcb : CRep w cb m) (s : Int)
    (hS : ∀ w' : World, CRep w' cb m → Calls Try.prog 25 #[.pointer (some ⟨cb, 0, none⟩), .int .i64 x] w' fun e w'' => e = .returned (.int .i64 s) ∧ Fr (fun _ => False) w' w'') :
    Calls Try.prog 27 #[.agg #[.int .i64 high, v], .int .i64 x, .iface 27 (.pointer (some ⟨cb, 0, none⟩))] w fun e w' => e = .returned (.bool (endedI high l x s)) ∧ Fr (fun _ => False) w w' := by
  have hm := meth_clk ⟨cb, 0, none⟩
  have hm2 := nil_clk ⟨cb, 0, none⟩
  obtain ⟨a, c, rfl, hc, hr⟩ := h
  have F0 := (Fr.refl (fun _ => False) w).alloc (.cells #[Value.int .i64 high, .slice a l.length c] 37)
  have B0 := Blk.new w [Value.int .i64 high, .slice a l.length c] 37
  obtain ⟨w0, hw0⟩ : ∃ w0, w.alloc (.cells #[Value.int .i64 high, .slice a l.length c] 37) = w0 := ⟨_, rfl⟩
  have hC := contains_go (Sl.fr ⟨a, c, rfl, hc, hr⟩ F0 (fun _ _ h => h)) hl x
  have e0 : w.alloc (.cells [Value.int .i64 high, .slice a l.length c].toArray 37) = w0 := hw0
  rw [hw0] at F0 hC
  rw [e0] at B0
  have k0 : w0.cell? ⟨w.heap.size, 0, none⟩ = some (.int .i64 high) := B0.cell 0
  have k1 : w0.cell? ⟨w.heap.size, 1, none⟩ = some (.slice a l.length c) := B0.cell 1
  have HW := hid hw0
  have O := hid (fun w => on_go x w)
  have BE := hid (fun w => Before_go x high w)
  have HC := hid hC
  have HF := hid F0
  have HS := hid hS
  unfold endedI
  clear hS hC e0 hr B0 F0 hw0
  by_cases h2 : x = 2
  · rw [if_pos h2]
    have h2' : (x == 2) = true := by simpa using h2
    clear h2
    go_enter Try.func27, Try.ntmps27
    go_wp2_with (fail)
    rw [HW.out]
    go_ret
    exact ⟨rfl, HF.out⟩
  · rw [if_neg h2]
    have h2' : (x == 2) = false := by simpa using h2
    clear h2
    have hcc : l.contains x = decide (x ∈ l) := by rw [Bool.eq_iff_iff]; simp
    rw [hcc]
    clear hcc
    generalize on x = o at *
    generalize beforeI x high = b at *
    generalize decide (x ∈ l) = q at *
    cases o
    case' true =>
      cases b
      case' true => cases q
    all_goals
      go_enter Try.func27, Try.ntmps27
      go_wp2_with (first
        | (go_at_call 52; rw [HW.out]; refine (O.out _).mono ?_; rintro e w' ⟨rfl, rfl⟩)
        | (go_at_call 17; refine (BE.out _).mono ?_; rintro e w' ⟨rfl, rfl⟩)
        | (go_at_call 60; refine HC.out.mono ?_; rintro e w' ⟨rfl, rfl⟩)
        | (go_at_call 25; refine (HS.out _ (CRep.fr hcb HF.out (fun h => h))).mono ?_; rintro e w' ⟨rfl, f9⟩))
      go_ret
      first
        | exact ⟨rfl, HF.out⟩
        | exact ⟨ret_bool (by rw [Bool.eq_iff_iff]; simp), HF.out.trans f9 (fun _ h _ => h)⟩
set_option maxRecDepth 20000 in
set_option maxHeartbeats 2000000 in
theorem rEnded_go {R : Nat → Prop} {w : World} {v : Value} {l : List Int} (h : Sl R w v l.length (iv l)) (hl : l.length ≤ 1000000) (high x s : Int) :
    Calls Try.prog 28 #[.agg #[.int .i64 high, v], .int .i64 x, .int .i64 s] w fun e w' => e = .returned (.bool (endedI high l x s)) ∧ Fr (fun _ => False) w w' := by
  obtain ⟨a, c, rfl, hc, hr⟩ := h
  have F0 := (Fr.refl (fun _ => False) w).alloc (.cells #[Value.int .i64 high, .slice a l.length c] 37)
  have B0 := Blk.new w [Value.int .i64 high, .slice a l.length c] 37
  have HR := hid (fun j (hj : j < l.length) => iv_at hr hj)
  obtain ⟨w0, hw0⟩ : ∃ w0, w.alloc (.cells #[Value.int .i64 high, .slice a l.length c] 37) = w0 := ⟨_, rfl⟩
  have e0 : w.alloc (.cells [Value.int .i64 high, .slice a l.length c].toArray 37) = w0 := hw0
  rw [hw0] at F0
  rw [e0] at B0
  have k0 : w0.cell? ⟨w.heap.size, 0, none⟩ = some (.int .i64 high) := B0.cell 0
  have k1 : w0.cell? ⟨w.heap.size, 1, none⟩ = some (.slice a l.length c) := B0.cell 1
  have HW := hid hw0
  have O := hid (fun w => rOn_go x w)
  have BE := hid (fun w => rBefore_go x high w)
  have HF := hid F0
  unfold endedI
  clear e0 hr B0 F0 hw0
  by_cases h2 : x = 2
  · rw [if_pos h2]
    have h2' : (x == 2) = true := by simpa using h2
    clear h2
    go_enter Try.func28, Try.ntmps28
    go_wp2_with (fail)
    rw [HW.out]
    go_ret
    exact ⟨rfl, HF.out⟩
  · rw [if_neg h2]
    have h2' : (x == 2) = false := by simpa using h2
    clear h2
    have hcc : l.contains x = decide (x ∈ l) := by rw [Bool.eq_iff_iff]; simp
    rw [hcc]
    clear hcc
    generalize on x = o at *
    generalize beforeI x high = b at *
    go_enter Try.func28, Try.ntmps28
    go_wp2_with (fail)
    rw [HW.out]
    go_loop [7] (fun i => ∃ j : Nat, j ≤ l.length ∧ i = .int .i64 j ∧ Hid (x ∉ l.take j)) (fun i => l.length - (intOf i).toNat)
    case atStart => exact ⟨0, by omega, rfl, hid (by simp)⟩
    case round =>
      obtain ⟨j, hj, rfl, hn⟩ := hrel
      by_cases hjl : j < l.length
      · obtain ⟨g, og, rfl, -, hcell⟩ := HR.out j hjl
        replace hcell := cell_fr hcell HF.out (fun h => h)
        by_cases he : l[j] = x
        · have hm := hid (show decide (x ∈ l) = true by simp; exact he ▸ List.getElem_mem hjl)
          have hb : (l[j] == x) = true := by simp [he]
          generalize l[j] = y at *
          clear he
          go_wp2_with (fail)
          go_ret
          exact ⟨ret_bool (by rw [hm.out]; simp), HF.out⟩
        · have hm := hid (not_mem_take hjl hn.out he)
          have hb : (l[j] == x) = false := by rw [Bool.eq_false_iff]; simp; exact he
          generalize l[j] = y at *
          clear he
          go_wp2_with (fail)
          go_round
          case rel => exact ⟨j + 1, by omega, by go_num, hm⟩
          case measure => simp [intOf]; omega
      · obtain rfl : j = l.length := by omega
        have hm := hn.out
        rw [List.take_length] at hm
        have HM := hid (show decide (x ∈ l) = false by simpa using hm)
        clear hm hn
        have hpost : ∀ o b : Bool, (o && b && !decide (x ∈ l) && decide (s = 2)) = (o && b && (s == 2)) := by
          intro o b
          rw [HM.out]
          rw [Bool.eq_iff_iff]
          simp
        have HP := hid hpost
        clear hpost
        cases o
        case' true => cases b
        all_goals
          go_wp2_with (first
            | (go_at_call 53; refine (O.out _).mono ?_; rintro e w' ⟨rfl, rfl⟩)
            | (go_at_call 18; refine (BE.out _).mono ?_; rintro e w' ⟨rfl, rfl⟩))
          all_goals
            go_ret
            exact ⟨ret_bool (by rw [HP.out]; simp), HF.out⟩
/-- the table's cells -/
def tabC (f : Nat → Int) : List Value := (List.range 128).map fun x => Value.int .i64 (f x)
theorem tabC_length (f : Nat → Int) : (tabC f).length = 128 := by simp [tabC]
theorem tabC_get (f : Nat → Int) {x : Nat} (h : x < 128) : (tabC f)[x]? = some (.int .i64 (f x)) := by simp [tabC, h]
def tabI (f : Nat → Int) (x : Int) : Int := if 0 ≤ x ∧ x ≤ 127 then f x.toNat else 0
theorem Table_go (f : Nat → Int) (x : Int) (w : World) : Calls Try.prog 29 #[.agg (tabC f).toArray, .int .i64 x] w fun e w' => e = .returned (.int .i64 (tabI f x)) ∧ Fr (fun _ => False) w w' := by
  have F0 := (Fr.refl (fun _ => False) w).alloc (.cells (tabC f).toArray 40)
  have B0 := Blk.new w (tabC f) 40
  have HF := hid F0
  unfold tabI
  by_cases hx : 0 ≤ x ∧ x ≤ 127
  · rw [if_pos hx]
    obtain ⟨h1, h2⟩ := hx
    obtain ⟨k, rfl⟩ : ∃ k : Nat, x = k := ⟨x.toNat, by omega⟩
    have k0 : (w.alloc (.cells (tabC f).toArray 40)).cell? ⟨w.heap.size, k, none⟩ = some (.int .i64 (f k)) := by rw [B0.cell, tabC_get f (by omega)]
    rw [Int.toNat_natCast]
    generalize tabC f = tc at *
    clear F0 B0
    go_enter Try.func29, Try.ntmps29
    go_wp2_with (fail)
    go_ret
    exact ⟨rfl, HF.out⟩
  · rw [if_neg hx]
    generalize tabC f = tc at *
    clear F0 B0
    rcases (show x < 0 ∨ 127 < x by omega) with h | h
    all_goals
      clear hx
      go_enter Try.func29, Try.ntmps29
      go_wp2_with (fail)
      go_ret
      exact ⟨rfl, HF.out⟩
end Go.Proofs.Ytbkebjgoaeddjaa
