import Derived.Test.YtfhkmiifndhacaaDoorValA
import Derived.Defers
import Derived.Recover
/- value.Read: its closures. -/
set_option linter.unusedVariables false
namespace Go.Proofs.YtfhkmiifndhacaaDoor
open Go.RowKit Go.VB Go.VB.Oct Go.VB.Rec
/-- the panic that carries an error -/
def trouble (e : Int) : PanicEntry := { v := .iface 61 (.agg #[.int .i64 e]), recovered := false }
theorem must_true (e : Int) (w : World) : Calls Tryd.prog 31 #[.bool true, .int .i64 e] w fun x w' => x = .returned (.tuple #[]) ∧ w = w' := by
  go_enter Tryd.func31, Tryd.ntmps31
  go_wp2
  go_end0
  exact ⟨rfl, rfl⟩
theorem must_false (e : Int) (w : World) : Calls Tryd.prog 31 #[.bool false, .int .i64 e] w fun x w' => x = .panicked [trouble e] ∧ w = w' := by
  go_enter Tryd.func31, Tryd.ntmps31
  go_wp2
  exact ⟨rfl, rfl, rfl⟩
theorem catch_idle (p q : Nat) (w : World) : CallsD Tryd.prog 29 #[.pointer (some ⟨p, 0, none⟩), .pointer (some ⟨q, 0, none⟩)] .returning w fun e u' w' => e = .returned (.tuple #[]) ∧ u' = .returning ∧ w' = w := by
  refine callsD_of_wpS Tryd.func29 rfl fun c₀ cs hu => ?_
  apply wpS_seq
  apply wpS_region
  simp [wpOpsS, go_sem, recoverD, hu, Tryd.ntmps29, Exit.thenS]
  refine wpS_of_wp ?_
  go_wp2
  cases c₀
  simp_all [bodyPostS, results, Tryd.results29]
theorem run_trouble (v : Value) (w : World) : (Instr.typeAssert (.iface 61 v) 20 61 true).run Tryd.prog w = .ok (.tuple #[v, .bool true]) w := by kernel_rfl
set_option maxRecDepth 20000 in
theorem catch_panicking (p q : Nat) (x y : Value) (e : Int) (w : World) (hp : Blk w p [x] 23) (hq : Blk w q [y] 31) (hpq : p ≠ q) :
    CallsD Tryd.prog 29 #[.pointer (some ⟨p, 0, none⟩), .pointer (some ⟨q, 0, none⟩)] (.panicking [trouble e]) w fun r u' w' =>
      r = .returned (.tuple #[]) ∧ u' = .panicking [{ trouble e with recovered := true }] ∧ Blk w' p [.slice none 0 0] 23 ∧ Blk w' q [.int .i64 e] 31 ∧ Fr (fun k => k = p ∨ k = q) w w' := by
  refine callsD_of_wpS Tryd.func29 rfl fun c₀ cs hu => ?_
  show Code.wpS Tryd.prog _ _ { tmps := #[.pointer (some ⟨p, 0, none⟩), .pointer (some ⟨q, 0, none⟩)] ++ Array.replicate (Tryd.f29.ntmps - 2) undef, defers := [] } _ _
  rw [show (#[.pointer (some ⟨p, 0, none⟩), .pointer (some ⟨q, 0, none⟩)] ++ Array.replicate (Tryd.f29.ntmps - 2) undef : Array Value) = #[.pointer (some ⟨p, 0, none⟩), .pointer (some ⟨q, 0, none⟩), undef, undef, undef, undef, undef, undef, undef, undef, undef, undef, undef] by rw [Tryd.ntmps29]; rfl]
  apply wpS_seq
  apply wpS_region
  simp [wpOpsS, go_sem, recoverD, hu, Exit.thenS, trouble]
  have cp : w.cell? ⟨p, 0, none⟩ = some x := hp.cell 0
  have cq : w.cell? ⟨q, 0, none⟩ = some y := hq.cell 0
  have zp := hp.frozen 0
  have zq := hq.frozen 0
  have HP := hid hp
  have HQ := hid hq
  have FA := (Fr.refl (fun _ => False) w).alloc (.cells #[.int .i64 e] 61)
  have BA := Blk.new w [Value.int .i64 e] 61
  have PA := Blk.fr hp FA (fun h => h)
  have QA := Blk.fr hq FA (fun h => h)
  have hlp := hid (show w.heap.size ≠ p from fun h => by have := Blk.lt hp; omega)
  have hlq := hid (show w.heap.size ≠ q from fun h => by have := Blk.lt hq; omega)
  clear hp hq
  have hta := run_trouble
  refine wpS_of_wp ?_
  go_wp2_with (fail)
  generalize hW : w.alloc (.cells #[.int .i64 e] 61) = W at *
  generalize hd : w.heap.size = d at *
  have c1 : W.cell? ⟨p, 0, none⟩ = some x := PA.cell 0
  have c2 : W.cell? ⟨q, 0, none⟩ = some y := QA.cell 0
  have c3 : W.cell? ⟨d, 0, none⟩ = some (.int .i64 e) := BA.cell 0
  have z1 := PA.frozen 0
  have z2 := QA.frozen 0
  have HFA := hid FA
  have HPA := hid PA
  have HQA := hid QA
  clear HP HQ cp cq zp zq hW hd
  have c4 : (W.setCell ⟨p, 0, none⟩ (.slice none 0 0)).cell? ⟨d, 0, none⟩ = some (.int .i64 e) := (BA.set_ne ⟨p, 0, none⟩ (.slice none 0 0) hlp.out).cell 0
  have c5 : (W.setCell ⟨p, 0, none⟩ (.slice none 0 0)).cell? ⟨q, 0, none⟩ = some y := (QA.set_ne ⟨p, 0, none⟩ (.slice none 0 0) (Ne.symm hpq)).cell 0
  have c6 : (W.setCell ⟨q, 0, none⟩ (.int .i64 e)).cell? ⟨p, 0, none⟩ = some x := (PA.set_ne ⟨q, 0, none⟩ (.int .i64 e) hpq).cell 0
  have z3 := (QA.set_ne ⟨p, 0, none⟩ (.slice none 0 0) (Ne.symm hpq)).frozen 0
  have z4 := (PA.set_ne ⟨q, 0, none⟩ (.int .i64 e) hpq).frozen 0
  clear FA BA PA QA
  go_region
  · refine ⟨rfl, .panicking [{ trouble e with recovered := true }], rfl, .tuple #[], by simp [results, Tryd.results29], rfl, rfl, ?_, ?_, ?_⟩
    · exact ((HPA.out.set 0 (.slice none 0 0)).set_ne ⟨q, 0, none⟩ (.int .i64 e) hpq).drew
    · exact ((HQA.out.set_ne ⟨p, 0, none⟩ (.slice none 0 0) (Ne.symm hpq)).set 0 (.int .i64 e)).drew
    · exact (((HFA.out.mono (T := fun k => k = p ∨ k = q) (fun _ h _ => h.elim)).setCell ⟨p, 0, none⟩ (.slice none 0 0) (fun _ => .inl rfl)).setCell ⟨q, 0, none⟩ (.int .i64 e) (fun _ => .inr rfl)).drew
theorem ex_drop (s : List UInt8) (n : Nat) : (bs s).extract n s.length = bs (s.drop n) := by
  apply ByteArray.ext
  simp [bs, List.take_of_length_le]
theorem ex_take0 (s : List UInt8) (n : Nat) : (bs s).extract 0 n = bs (s.take n) := by
  apply ByteArray.ext
  simp [bs]
theorem take_ok {w : World} {a : Nat} {s : List UInt8} (h : Blk w a [.string (bs s)] 9) (hs : s.length ≤ 1099511627776) (n : Nat) (hn : n ≤ s.length) : Calls Tryd.prog 30 #[.int .i64 n, .pointer (some ⟨a, 0, none⟩)] w fun e w' => e = .returned (.string (bs (s.take n))) ∧ Blk w' a [.string (bs (s.drop n))] 9 ∧ Fr (fun k => k = a) w w' := by
  have c0 : w.cell? ⟨a, 0, none⟩ = some (.string (bs s)) := h.cell 0
  have z0 := h.frozen 0
  have e1 := bs_size s
  have q0 : (0 : Int) ≤ n := by omega
  have q1 : (n : Int) ≤ s.length := by omega
  have x1 := ex_drop s n
  have x2 := ex_take0 s n
  have HM := hid (fun w => must_true 10 w)
  have HB := hid (h.set 0 (.string (bs (s.drop n))))
  have HF := hid ((Fr.refl (fun k => k = a) w).setCell ⟨a, 0, none⟩ (.string (bs (s.drop n))) (fun _ => rfl))
  clear h
  go_enter Tryd.func30, Tryd.ntmps30
  go_wp2_with (go_at_call 31; refine (HM.out _).mono ?_; rintro e w' ⟨rfl, rfl⟩)
  go_ret
  exact ⟨rfl, HB.out, HF.out⟩
theorem take_bad {w : World} {a : Nat} {s : List UInt8} (h : Blk w a [.string (bs s)] 9) (n : Nat) (hn : s.length < n) : Calls Tryd.prog 30 #[.int .i64 n, .pointer (some ⟨a, 0, none⟩)] w fun e w' => e = .panicked [trouble 10] ∧ w = w' := by
  have c0 : w.cell? ⟨a, 0, none⟩ = some (.string (bs s)) := h.cell 0
  have e1 := bs_size s
  have q1 : ¬ ((n : Int) ≤ s.length) := by omega
  have q2 : ¬ (n ≤ s.length) := by omega
  have HM := hid (fun w => must_false 10 w)
  clear h
  go_enter Tryd.func30, Tryd.ntmps30
  go_wp2_with (go_at_call 31; refine (HM.out _).mono ?_; rintro e w' ⟨rfl, rfl⟩)
  exact ⟨rfl, rfl, rfl⟩
theorem one_ok {w : World} {a f : Nat} {c : UInt8} {s : List UInt8} (h : Blk w a [.string (bs (c :: s))] 9) (hf : Blk w f [.func (.func 30) #[] #[.pointer (some ⟨a, 0, none⟩)]] 58) (hs : s.length < 1099511627776) : Calls Tryd.prog 32 #[.pointer (some ⟨f, 0, none⟩)] w fun e w' => e = .returned (.int .i64 (c.toNat : Int)) ∧ Blk w' a [.string (bs s)] 9 ∧ Fr (fun k => k = a) w w' := by
  have c0 : w.cell? ⟨f, 0, none⟩ = some (.func (.func 30) #[] #[.pointer (some ⟨a, 0, none⟩)]) := hf.cell 0
  have HT := hid (take_ok h (by simp; omega) 1 (by simp))
  have hc := c.toNat_lt
  have h1 : (bs [c]).size = 1 := rfl
  clear h hf
  go_enter Tryd.func32, Tryd.ntmps32
  go_wp2_with (go_at_call 30; refine HT.out.mono ?_; rintro e w' ⟨rfl, hb, f1⟩; simp only [List.take_succ_cons, List.take_zero, List.drop_succ_cons, List.drop_zero] at hb ⊢; have HB := hid hb; have HF := hid f1; clear hb f1)
  go_ret
  have hw : wrap64 ((c.toNat : Nat) : Int) = (c.toNat : Int) := by unfold wrap64; omega
  exact ⟨ret_int hw, HB.out, HF.out⟩
theorem one_bad {w : World} {a f : Nat} (h : Blk w a [.string (bs [])] 9) (hf : Blk w f [.func (.func 30) #[] #[.pointer (some ⟨a, 0, none⟩)]] 58) : Calls Tryd.prog 32 #[.pointer (some ⟨f, 0, none⟩)] w fun e w' => e = .panicked [trouble 10] ∧ w = w' := by
  have c0 : w.cell? ⟨f, 0, none⟩ = some (.func (.func 30) #[] #[.pointer (some ⟨a, 0, none⟩)]) := hf.cell 0
  have HT := hid (take_bad h 1 (by simp))
  clear h hf
  go_enter Tryd.func32, Tryd.ntmps32
  go_wp2_with (go_at_call 30; refine HT.out.mono ?_; rintro e w' ⟨rfl, rfl⟩)
  exact ⟨rfl, rfl, rfl⟩
end Go.Proofs.YtfhkmiifndhacaaDoor
