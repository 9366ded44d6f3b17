import Derived.Test.YtknpncpoojjbfaaDoorVPa
import Derived.Defers
import Derived.IntWalk
import Derived.Laws.Closers25
import Derived.Recover
import Derived.RowKit
/- from XValB.lean.tpl -/
set_option linter.unusedVariables false
namespace Go.Proofs.YtknpncpoojjbfaaDoor
open Go.RowKit Go.VB Go.VB.Oct Go.VB.Rec
/-- the panic that carries an error -/
def trouble (e : Int) : PanicEntry := { v := .iface 73 (.agg #[.int .i64 e]), recovered := false }
theorem must_true (e : Int) (w : World) : Calls Tryd.prog 53 #[.bool true, .int .i64 e] w fun x w' => x = .returned (.tuple #[]) ∧ w = w' := by
  go_enter Tryd.func53, Tryd.ntmps53
  go_wp2
  go_end0
  exact ⟨rfl, rfl⟩
theorem must_false (e : Int) (w : World) : Calls Tryd.prog 53 #[.bool false, .int .i64 e] w fun x w' => x = .panicked [trouble e] ∧ w = w' := by
  go_enter Tryd.func53, Tryd.ntmps53
  go_wp2
  exact ⟨rfl, rfl, rfl⟩
theorem catch_idle (p q : Nat) (w : World) : CallsD Tryd.prog 51 #[.pointer (some ⟨p, 0, none⟩), .pointer (some ⟨q, 0, none⟩)] .returning w fun e u' w' => e = .returned (.tuple #[]) ∧ u' = .returning ∧ w' = w := by
  refine callsD_of_wpS Tryd.func51 rfl fun c₀ cs hu => ?_
  apply wpS_seq
  apply wpS_region
  simp [wpOpsS, go_sem, recoverD, hu, Tryd.ntmps51, Exit.thenS]
  refine wpS_of_wp ?_
  go_wp2
  cases c₀
  simp_all [bodyPostS, results, Tryd.results51]
theorem run_trouble (v : Value) (w : World) : (Instr.typeAssert (.iface 73 v) 20 73 true).run Tryd.prog w = .ok (.tuple #[v, .bool true]) w := by kernel_rfl
set_option maxRecDepth 20000 in
theorem catch_panicking (p q : Nat) (x y : Value) (e : Int) (w : World) (hp : Blk w p [x] 23) (hq : Blk w q [y] 36) (hpq : p ≠ q) :
    CallsD Tryd.prog 51 #[.pointer (some ⟨p, 0, none⟩), .pointer (some ⟨q, 0, none⟩)] (.panicking [trouble e]) w fun r u' w' =>
      r = .returned (.tuple #[]) ∧ u' = .panicking [{ trouble e with recovered := true }] ∧ Blk w' p [.slice none 0 0] 23 ∧ Blk w' q [.int .i64 e] 36 ∧ Fr (fun k => k = p ∨ k = q) w w' := by
  refine callsD_of_wpS Tryd.func51 rfl fun c₀ cs hu => ?_
  show Code.wpS Tryd.prog _ _ { tmps := #[.pointer (some ⟨p, 0, none⟩), .pointer (some ⟨q, 0, none⟩)] ++ Array.replicate (Tryd.f51.ntmps - 2) undef, defers := [] } _ _
  rw [show (#[.pointer (some ⟨p, 0, none⟩), .pointer (some ⟨q, 0, none⟩)] ++ Array.replicate (Tryd.f51.ntmps - 2) undef : Array Value) = #[.pointer (some ⟨p, 0, none⟩), .pointer (some ⟨q, 0, none⟩), undef, undef, undef, undef, undef, undef, undef, undef, undef, undef, undef] by rw [Tryd.ntmps51]; rfl]
  apply wpS_seq
  apply wpS_region
  simp [wpOpsS, go_sem, recoverD, hu, Exit.thenS, trouble]
  have cp : w.cell? ⟨p, 0, none⟩ = some x := hp.cell 0
  have cq : w.cell? ⟨q, 0, none⟩ = some y := hq.cell 0
  have zp := hp.frozen 0
  have zq := hq.frozen 0
  have HP := hid hp
  have HQ := hid hq
  have FA := (Fr.refl (fun _ => False) w).alloc (.cells #[.int .i64 e] 73)
  have BA := Blk.new w [Value.int .i64 e] 73
  have PA := Blk.fr hp FA (fun h => h)
  have QA := Blk.fr hq FA (fun h => h)
  have hlp := hid (show w.heap.size ≠ p from fun h => by have := Blk.lt hp; omega)
  have hlq := hid (show w.heap.size ≠ q from fun h => by have := Blk.lt hq; omega)
  clear hp hq
  have hta := run_trouble
  refine wpS_of_wp ?_
  go_wp2_with (fail)
  generalize hW : w.alloc (.cells #[.int .i64 e] 73) = W at *
  generalize hd : w.heap.size = d at *
  have c1 : W.cell? ⟨p, 0, none⟩ = some x := PA.cell 0
  have c2 : W.cell? ⟨q, 0, none⟩ = some y := QA.cell 0
  have c3 : W.cell? ⟨d, 0, none⟩ = some (.int .i64 e) := BA.cell 0
  have z1 := PA.frozen 0
  have z2 := QA.frozen 0
  have HFA := hid FA
  have HPA := hid PA
  have HQA := hid QA
  clear HP HQ cp cq zp zq hW hd
  have c4 : (W.setCell ⟨p, 0, none⟩ (.slice none 0 0)).cell? ⟨d, 0, none⟩ = some (.int .i64 e) := (BA.set_ne ⟨p, 0, none⟩ (.slice none 0 0) hlp.out).cell 0
  have c5 : (W.setCell ⟨p, 0, none⟩ (.slice none 0 0)).cell? ⟨q, 0, none⟩ = some y := (QA.set_ne ⟨p, 0, none⟩ (.slice none 0 0) (Ne.symm hpq)).cell 0
  have c6 : (W.setCell ⟨q, 0, none⟩ (.int .i64 e)).cell? ⟨p, 0, none⟩ = some x := (PA.set_ne ⟨q, 0, none⟩ (.int .i64 e) hpq).cell 0
  have z3 := (QA.set_ne ⟨p, 0, none⟩ (.slice none 0 0) (Ne.symm hpq)).frozen 0
  have z4 := (PA.set_ne ⟨q, 0, none⟩ (.int .i64 e) hpq).frozen 0
  clear FA BA PA QA
  go_region
  · refine ⟨rfl, .panicking [{ trouble e with recovered := true }], rfl, .tuple #[], by simp [results, Tryd.results51], rfl, rfl, ?_, ?_, ?_⟩
    · exact ((HPA.out.set 0 (.slice none 0 0)).set_ne ⟨q, 0, none⟩ (.int .i64 e) hpq).drew
    · exact ((HQA.out.set_ne ⟨p, 0, none⟩ (.slice none 0 0) (Ne.symm hpq)).set 0 (.int .i64 e)).drew
    · exact (((HFA.out.mono (T := fun k => k = p ∨ k = q) (fun _ h _ => h.elim)).setCell ⟨p, 0, none⟩ (.slice none 0 0) (fun _ => .inl rfl)).setCell ⟨q, 0, none⟩ (.int .i64 e) (fun _ => .inr rfl)).drew
theorem ex_drop (s : List UInt8) (n : Nat) : (bs s).extract n s.length = bs (s.drop n) := by
  apply ByteArray.ext
  simp [bs, List.take_of_length_le]
theorem ex_take0 (s : List UInt8) (n : Nat) : (bs s).extract 0 n = bs (s.take n) := by
  apply ByteArray.ext
  simp [bs]
theorem take_ok {w : World} {a : Nat} {s : List UInt8} (h : Blk w a [.string (bs s)] 9) (hs : s.length ≤ 1099511627776) (n : Nat) (hn : n ≤ s.length) : Calls Tryd.prog 52 #[.int .i64 n, .pointer (some ⟨a, 0, none⟩)] w fun e w' => e = .returned (.string (bs (s.take n))) ∧ Blk w' a [.string (bs (s.drop n))] 9 ∧ Fr (fun k => k = a) w w' := by
  have c0 : w.cell? ⟨a, 0, none⟩ = some (.string (bs s)) := h.cell 0
  have z0 := h.frozen 0
  have e1 := bs_size s
  have q0 : (0 : Int) ≤ n := by omega
  have q1 : (n : Int) ≤ s.length := by omega
  have x1 := ex_drop s n
  have x2 := ex_take0 s n
  have HM := hid (fun w => must_true 10 w)
  have HB := hid (h.set 0 (.string (bs (s.drop n))))
  have HF := hid ((Fr.refl (fun k => k = a) w).setCell ⟨a, 0, none⟩ (.string (bs (s.drop n))) (fun _ => rfl))
  clear h
  go_enter Tryd.func52, Tryd.ntmps52
  go_wp2_with (go_at_call 53; refine (HM.out _).mono ?_; rintro e w' ⟨rfl, rfl⟩)
  go_ret
  exact ⟨rfl, HB.out, HF.out⟩
theorem take_bad {w : World} {a : Nat} {s : List UInt8} (h : Blk w a [.string (bs s)] 9) (n : Nat) (hn : s.length < n) : Calls Tryd.prog 52 #[.int .i64 n, .pointer (some ⟨a, 0, none⟩)] w fun e w' => e = .panicked [trouble 10] ∧ w = w' := by
  have c0 : w.cell? ⟨a, 0, none⟩ = some (.string (bs s)) := h.cell 0
  have e1 := bs_size s
  have q1 : ¬ ((n : Int) ≤ s.length) := by omega
  have q2 : ¬ (n ≤ s.length) := by omega
  have HM := hid (fun w => must_false 10 w)
  clear h
  go_enter Tryd.func52, Tryd.ntmps52
  go_wp2_with (go_at_call 53; refine (HM.out _).mono ?_; rintro e w' ⟨rfl, rfl⟩)
  exact ⟨rfl, rfl, rfl⟩
theorem one_ok {w : World} {a f : Nat} {c : UInt8} {s : List UInt8} (h : Blk w a [.string (bs (c :: s))] 9) (hf : Blk w f [.func (.func 52) #[] #[.pointer (some ⟨a, 0, none⟩)]] 58) (hs : s.length < 1099511627776) : Calls Tryd.prog 54 #[.pointer (some ⟨f, 0, none⟩)] w fun e w' => e = .returned (.int .i64 (c.toNat : Int)) ∧ Blk w' a [.string (bs s)] 9 ∧ Fr (fun k => k = a) w w' := by
  have c0 : w.cell? ⟨f, 0, none⟩ = some (.func (.func 52) #[] #[.pointer (some ⟨a, 0, none⟩)]) := hf.cell 0
  have HT := hid (take_ok h (by simp; omega) 1 (by simp))
  have hc := c.toNat_lt
  have h1 : (bs [c]).size = 1 := rfl
  clear h hf
  go_enter Tryd.func54, Tryd.ntmps54
  go_wp2_with (go_at_call 52; refine HT.out.mono ?_; rintro e w' ⟨rfl, hb, f1⟩; simp only [List.take_succ_cons, List.take_zero, List.drop_succ_cons, List.drop_zero] at hb ⊢; have HB := hid hb; have HF := hid f1; clear hb f1)
  go_ret
  have hw : wrap64 ((c.toNat : Nat) : Int) = (c.toNat : Int) := by unfold wrap64; omega
  exact ⟨ret_int hw, HB.out, HF.out⟩
theorem one_bad {w : World} {a f : Nat} (h : Blk w a [.string (bs [])] 9) (hf : Blk w f [.func (.func 52) #[] #[.pointer (some ⟨a, 0, none⟩)]] 58) : Calls Tryd.prog 54 #[.pointer (some ⟨f, 0, none⟩)] w fun e w' => e = .panicked [trouble 10] ∧ w = w' := by
  have c0 : w.cell? ⟨f, 0, none⟩ = some (.func (.func 52) #[] #[.pointer (some ⟨a, 0, none⟩)]) := hf.cell 0
  have HT := hid (take_bad h 1 (by simp))
  clear h hf
  go_enter Tryd.func54, Tryd.ntmps54
  go_wp2_with (go_at_call 52; refine HT.out.mono ?_; rintro e w' ⟨rfl, rfl⟩)
  exact ⟨rfl, rfl, rfl⟩
end Go.Proofs.YtknpncpoojjbfaaDoor

/- from XValM.lean.tpl -/
namespace Go.VB.Rec
open Go.VB.Oct
/-- eight bytes as an int64 -/
def int8 (s : List UInt8) : Int := IntKind.i64.wrap (num s)
def readOne : List UInt8 → Except Int (V × List UInt8)
  | [] => .error 10
  | k :: s =>
    if k = 0 then .ok (⟨0, 0, []⟩, s)
    else if k = 1 then (if s.length < 8 then .error 10 else .ok (⟨1, int8 (s.take 8), []⟩, s.drop 8))
    else if k = 2 then
      match s with
      | [] => .error 10
      | m :: s => if 40 < m.toNat then .error 2 else if s.length < m.toNat then .error 10 else .ok (⟨2, 0, s.take m.toNat⟩, s.drop m.toNat)
    else .error 11
def readN : Nat → List UInt8 → Except Int (List V × List UInt8)
  | 0, s => .ok ([], s)
  | n + 1, s =>
    match readOne s with
    | .error e => .error e
    | .ok (v, t) =>
      match readN n t with
      | .error e => .error e
      | .ok (l, u) => .ok (v :: l, u)
def readV : List UInt8 → List V × Int
  | [] => ([], 10)
  | n :: s =>
    if 6 < n.toNat then ([], 2) else
      match readN n.toNat s with
      | .error e => ([], e)
      | .ok (l, []) => (l, 0)
      | .ok (_, _ :: _) => ([], 11)
/-- the reading so far and what is still to be read -/
def more (acc : List V) : Except Int (List V × List UInt8) → Except Int (List V × List UInt8)
  | .error e => .error e
  | .ok (l, u) => .ok (acc ++ l, u)
theorem more_nil (x : Except Int (List V × List UInt8)) : more [] x = x := by
  cases x with
  | error e => rfl
  | ok p => rfl
theorem more_err {acc : List V} {n : Nat} {s : List UInt8} {e : Int} (h : readOne s = .error e) : more acc (readN (n + 1) s) = .error e := by simp [readN, h, more]
theorem more_step {acc : List V} {n : Nat} {s t : List UInt8} {v : V} (h : readOne s = .ok (v, t)) : more acc (readN (n + 1) s) = more (acc ++ [v]) (readN n t) := by
  simp only [readN, h]
  cases readN n t with
  | error e => rfl
  | ok p => simp [more]
theorem readOne_le {s t : List UInt8} {v : V} (h : readOne s = .ok (v, t)) : t.length ≤ s.length := by
  unfold readOne at h
  cases s with
  | nil => cases h
  | cons k s =>
    dsimp only at h
    split at h
    · cases h; simp
    · split at h
      · split at h
        · cases h
        · cases h; simp; omega
      · split at h
        · cases s with
          | nil => cases h
          | cons m s =>
            dsimp only at h
            split at h
            · cases h
            · split at h
              · cases h
              · cases h; simp; omega
        · cases h
end Go.VB.Rec

/- from XValC.lean.tpl -/
namespace Go.Proofs.YtknpncpoojjbfaaDoor
open Go.RowKit Go.VB Go.VB.Oct Go.VB.Rec
theorem or_i64w (y x : Nat) (hy : y < 72057594037927936) (hx : x < 256) : bits .or .i64 (IntKind.i64.wrap ((y : Int) * 256)) (x : Int) = IntKind.i64.wrap ((y * 256 + x : Nat) : Int) := by
  have h1 : (BitVec.ofInt 64 (IntKind.i64.wrap ((y : Int) * 256))).toNat = y * 256 := by
    rw [BitVec.toNat_ofInt, IntKind.wrap_i64]
    omega
  show IntKind.i64.wrap ((BitVec.ofInt 64 (IntKind.i64.wrap ((y : Int) * 256)) ||| BitVec.ofInt 64 (x : Int)).toNat : Int) = _
  rw [BitVec.toNat_or, h1, ofInt_u64 x (by omega), Nat.mul_comm y 256, ← Nat.two_pow_add_eq_or_of_lt (i := 8) (by simpa using hx) y]
theorem bs_empty (l : List UInt8) : (bs l).toList.isEmpty = l.isEmpty := by
  rw [← Go.decide_eq_emptyBytes]
  cases l with
  | nil => exact decide_eq_true rfl
  | cons x l =>
    refine decide_eq_false fun h => ?_
    have := congrArg ByteArray.size h
    rw [bs_size] at this
    cases this
/-- where the reading stands: s is left, l is read -/
structure VR (w0 W : World) (a : Nat) (s : List UInt8) (va : Value) (l : List V) : Prop where
  str : Blk W a [.string (bs s)] 9
  row : Blk W (a + 1) [va] 23
  err : Blk W (a + 1 + 1) [.int .i64 0] 36
  fn : Blk W (a + 1 + 1 + 1) [.func (.func 52) #[] #[.pointer (some ⟨a, 0, none⟩)]] 58
  own : Row 28 3 w0.heap.size W va l.length (l.flatMap V.cells)
  fr : Fr (fun _ => False) w0 W
  at_ : a = w0.heap.size
theorem vread_start (w : World) (s : List UInt8) : VR w ((((w.alloc (.cells #[.string (bs s)] 9)).alloc (.cells #[.slice none 0 0] 23)).alloc (.cells #[.int .i64 0] 36)).alloc (.cells #[(.func (.func 52) #[] #[.pointer (some ⟨w.heap.size, 0, none⟩)])] 58)) w.heap.size s (.slice none 0 0) [] := by
  have h1 := (((Blk.new w [Value.string (bs s)] 9).alloc (.cells #[.slice none 0 0] 23)).alloc (.cells #[.int .i64 0] 36)).alloc (.cells #[(.func (.func 52) #[] #[.pointer (some ⟨w.heap.size, 0, none⟩)])] 58)
  have h2 := ((Blk.new (w.alloc (.cells #[.string (bs s)] 9)) [Value.slice none 0 0] 23).alloc (.cells #[.int .i64 0] 36)).alloc (.cells #[(.func (.func 52) #[] #[.pointer (some ⟨w.heap.size, 0, none⟩)])] 58)
  have h3 := (Blk.new ((w.alloc (.cells #[.string (bs s)] 9)).alloc (.cells #[.slice none 0 0] 23)) [Value.int .i64 0] 36).alloc (.cells #[(.func (.func 52) #[] #[.pointer (some ⟨w.heap.size, 0, none⟩)])] 58)
  have h4 := Blk.new (((w.alloc (.cells #[.string (bs s)] 9)).alloc (.cells #[.slice none 0 0] 23)).alloc (.cells #[.int .i64 0] 36)) [Value.func (.func 52) #[] #[.pointer (some ⟨w.heap.size, 0, none⟩)]] 58
  have f := ((((Fr.refl (fun _ => False) w).alloc (.cells #[.string (bs s)] 9)).alloc (.cells #[.slice none 0 0] 23)).alloc (.cells #[.int .i64 0] 36)).alloc (.cells #[(.func (.func 52) #[] #[.pointer (some ⟨w.heap.size, 0, none⟩)])] 58)
  simp only [World.size_alloc] at h2 h3 h4
  exact ⟨h1, h2, h3, h4, Row.nil, f, rfl⟩
theorem VR.eat {w0 W W' : World} {a : Nat} {s t : List UInt8} {va : Value} {l : List V} (h : VR w0 W a s va l) (hs : Blk W' a [.string (bs t)] 9) (f : Fr (fun k => k = a) W W') : VR w0 W' a t va l :=
  ⟨hs, h.row.fr f (fun h => by omega), h.err.fr f (fun h => by omega), h.fn.fr f (fun h => by omega), h.own.fr f (fun k hk => h.own.ne h.str (by decide) k hk), h.fr.trans f (fun k hk hl => by have := h.at_; omega), h.at_⟩
theorem VR.one {w0 W : World} {a : Nat} {c : UInt8} {s : List UInt8} {va : Value} {l : List V} (h : VR w0 W a (c :: s) va l) (hs : s.length < 1099511627776) : Calls Tryd.prog 54 #[.pointer (some ⟨a + 1 + 1 + 1, 0, none⟩)] W fun e W' => e = .returned (.int .i64 (c.toNat : Int)) ∧ VR w0 W' a s va l ∧ Fr (fun k => k = a) W W' := by
  refine (one_ok h.str h.fn hs).mono ?_
  rintro e W' ⟨rfl, hb, f⟩
  exact ⟨rfl, h.eat hb f, f⟩
theorem VR.one_bad {w0 W : World} {a : Nat} {va : Value} {l : List V} (h : VR w0 W a [] va l) : Calls Tryd.prog 54 #[.pointer (some ⟨a + 1 + 1 + 1, 0, none⟩)] W fun e W' => e = .panicked [trouble 10] ∧ W = W' := Go.Proofs.YtknpncpoojjbfaaDoor.one_bad h.str h.fn
theorem VR.take {w0 W : World} {a : Nat} {s : List UInt8} {va : Value} {l : List V} (h : VR w0 W a s va l) (hs : s.length ≤ 1099511627776) (n : Nat) (hn : n ≤ s.length) : Calls Tryd.prog 52 #[.int .i64 n, .pointer (some ⟨a, 0, none⟩)] W fun e W' => e = .returned (.string (bs (s.take n))) ∧ VR w0 W' a (s.drop n) va l ∧ Fr (fun k => k = a) W W' := by
  refine (take_ok h.str hs n hn).mono ?_
  rintro e W' ⟨rfl, hb, f⟩
  exact ⟨rfl, h.eat hb f, f⟩
theorem VR.fr' {w0 W W' : World} {a : Nat} {s : List UInt8} {va : Value} {l : List V} (h : VR w0 W a s va l) (f : Fr (fun _ => False) W W') : VR w0 W' a s va l :=
  ⟨h.str.fr f (fun h => h), h.row.fr f (fun h => h), h.err.fr f (fun h => h), h.fn.fr f (fun h => h), h.own.fre f, h.fr.trans f (fun _ h _ => h), h.at_⟩
theorem info_val : (Tryd.prog.info? 28).map (fun i => (i.zero, i.size, i.bytes)) = some (some (.agg #[.int .i64 0, .int .i64 0, .string .empty]), 3, 32) := by kernel_rfl
theorem val_cells : (Value.agg #[.int .i64 0, .int .i64 0, .string .empty]).cells.size = 3 := by kernel_rfl
theorem VR.add {w0 W wg : World} {a : Nat} {s : List UInt8} {va va' : Value} {l : List V} (h : VR w0 W a s va l) (v : V) (hA : App 28 3 w0.heap.size W wg va va' l.length (l.flatMap V.cells) v.cells) : VR w0 (wg.setCell ⟨a + 1, 0, none⟩ va') a s va' (l ++ [v]) := by
  have f := hA.fr
  have fs := (Fr.refl (fun k => k = a + 1) wg).setCell ⟨a + 1, 0, none⟩ va' (fun _ => rfl)
  have r1 := h.row.fr f (fun hk => h.own.ne h.row (by decide) _ hk rfl)
  refine ⟨(h.str.fr f (fun hk => h.own.ne h.str (by decide) _ hk rfl)).fr fs (fun h => by omega), r1.set 0 va', (h.err.fr f (fun hk => h.own.ne h.err (by decide) _ hk rfl)).fr fs (fun h => by omega), (h.fn.fr f (fun hk => h.own.ne h.fn (by decide) _ hk rfl)).fr fs (fun h => by omega), ?_, ?_, h.at_⟩
  · refine (hA.row.fr fs (fun k hk => hA.row.ne r1 (by decide) k hk)).cast (by simp) (by simp)
  · refine (hA.frB h.own h.fr (Nat.le_refl _)).trans fs (fun k hk hl => by have := h.at_; omega)

set_option maxRecDepth 20000 in
theorem vread_panic {w0 W : World} {a : Nat} {s : List UInt8} {va : Value} {l : List V} (h : VR w0 W a s va l) (e : Int) {tm : Array Value} (h2 : tm[2]? = some (.pointer (some ⟨a + 1, 0, none⟩))) (h3 : tm[3]? = some (.pointer (some ⟨a + 1 + 1, 0, none⟩))) {Q : Ending → World → Prop}
    (hq : ∀ W', Fr (fun _ => False) w0 W' → Q (.returned (.tuple #[.slice none 0 0, .int .i64 e])) W') :
    bodyPostD Tryd.prog Tryd.f27 Q (Exit.panic [trouble e]) { tmps := tm, defers := [{ target := Target.fn (Fn.func 51) #[.pointer (some ⟨a + 1, 0, none⟩), .pointer (some ⟨a + 1 + 1, 0, none⟩)], args := #[] }] } W := by
  refine leaves_cons (f := 51) (args := #[.pointer (some ⟨a + 1, 0, none⟩), .pointer (some ⟨a + 1 + 1, 0, none⟩)]) (by simp) (by simp [go_sem]) ?_
  refine (catch_panicking (a + 1) (a + 1 + 1) va (.int .i64 0) e W h.row h.err (by omega)).mono ?_
  rintro r u' W' ⟨rfl, rfl, hp, hq', f⟩
  have c1 : W'.cell? ⟨a + 1, 0, none⟩ = some (.slice none 0 0) := hp.cell 0
  have c2 : W'.cell? ⟨a + 1 + 1, 0, none⟩ = some (.int .i64 e) := hq'.cell 0
  have hQ := hq W' (h.fr.trans f (fun k hk hl => by have := h.at_; omega))
  refine ⟨.tuple #[.slice none 0 0, .int .i64 e], ?_, hQ⟩
  simp [results, Tryd.results27, go_sem, h2, h3, c1, c2]
set_option maxRecDepth 20000 in
theorem vread_ret {W : World} {a : Nat} {va : Value} (c1 : W.cell? ⟨a + 1, 0, none⟩ = some va) (c2 : W.cell? ⟨a + 1 + 1, 0, none⟩ = some (.int .i64 0)) {tm : Array Value} (h2 : tm[2]? = some (.pointer (some ⟨a + 1, 0, none⟩))) (h3 : tm[3]? = some (.pointer (some ⟨a + 1 + 1, 0, none⟩))) {Q : Ending → World → Prop}
    (hq : Q (.returned (.tuple #[va, .int .i64 0])) W) :
    bodyPostD Tryd.prog Tryd.f27 Q Exit.ret { tmps := tm, defers := [{ target := Target.fn (Fn.func 51) #[.pointer (some ⟨a + 1, 0, none⟩), .pointer (some ⟨a + 1 + 1, 0, none⟩)], args := #[] }] } W := by
  refine leaves_cons (f := 51) (args := #[.pointer (some ⟨a + 1, 0, none⟩), .pointer (some ⟨a + 1 + 1, 0, none⟩)]) (by simp) (by simp [go_sem]) ?_
  refine (catch_idle (a + 1) (a + 1 + 1) W).mono ?_
  rintro r u' W' ⟨rfl, rfl, rfl⟩
  refine ⟨.tuple #[va, .int .i64 0], ?_, hq⟩
  simp [results, Tryd.results27, go_sem, h2, h3, c1, c2]
theorem VR.put {w0 W : World} {a d o : Nat} {u : Value} {s : List UInt8} {va : Value} {l : List V} (h : VR w0 W a s va l) (hd : a + 1 + 1 + 1 < d) (hn : ∀ k, va.ownBlock = some k → k ≠ d) : VR w0 (W.setCell ⟨d, o, none⟩ u) a s va l :=
  ⟨h.str.set_ne _ _ (fun e => by have : a = d := e; omega), h.row.set_ne _ _ (fun e => by have : a + 1 = d := e; omega), h.err.set_ne _ _ (fun e => by have : a + 1 + 1 = d := e; omega), h.fn.set_ne _ _ (fun e => by have : a + 1 + 1 + 1 = d := e; omega),
    h.own.fr ((Fr.refl (fun k => k = d) W).setCell ⟨d, o, none⟩ u (fun _ => rfl)) (fun k hk => hn k hk), h.fr.setCell _ _ (fun hlt => by have := h.at_; have : d < w0.heap.size := hlt; omega), h.at_⟩
theorem VR.far {w0 W : World} {a : Nat} {s : List UInt8} {va : Value} {l : List V} (h : VR w0 W a s va l) : a + 1 + 1 + 1 < W.heap.size := h.fn.lt
theorem VR.new {w0 W : World} {a : Nat} {s : List UInt8} {va : Value} {l : List V} (h : VR w0 W a s va l) : ∀ k, va.ownBlock = some k → k ≠ W.heap.size := fun k hk e => by have := h.own.lt hk; omega
end Go.Proofs.YtknpncpoojjbfaaDoor

/- from XValD.lean.tpl -/
namespace Go.Proofs.YtknpncpoojjbfaaDoor
open Go.RowKit Go.VB Go.VB.Oct Go.VB.Rec
set_option maxRecDepth 20000 in
set_option maxHeartbeats 4000000 in
theorem VRead_go (s : List UInt8) (hs : s.length ≤ 1099511627776) (w : World) : Calls Tryd.prog 27 #[.string (bs s)] w fun e w' => ∃ va, e = .returned (.tuple #[va, .int .i64 (readV s).2]) ∧ Row 28 3 w.heap.size w' va (readV s).1.length ((readV s).1.flatMap V.cells) ∧ Fr (fun _ => False) w w' := by
  have hmf : ∀ (fn : Fn) (first cap : Array Value) (w : World), (Instr.makeFunc fn first cap).run Tryd.prog w = .ok (.func fn first cap) w := fun _ _ _ _ => rfl
  have hsf : ∀ (a : Addr) (fn : Fn) (x y : Array Value) (w : World), (store a (.func fn x y)).run Tryd.prog w = stored Tryd.prog w a (.func fn x y) .plain := fun a fn x y w => run_store Tryd.prog w a _ .plain rfl
  have HV := hid (vread_start w s)
  go_enter_defers Tryd.func27, Tryd.ntmps27
  cases s with
  | nil =>
    have HO := hid HV.out.one_bad
    go_wp2_with (go_at_call 54; refine HO.out.mono ?_; rintro e w1 ⟨rfl, rfl⟩)
    exact vread_panic HV.out 10 rfl rfl (fun W' f => ⟨_, rfl, Row.nil, f⟩)
  | cons c s =>
    have HO := hid (HV.out.one (by simp at hs; omega))
    have hc := c.toNat_lt
    by_cases h6 : c.toNat ≤ 6
    · have h6' : decide ((c.toNat : Int) ≤ 6) = true := decide_eq_true (by omega)
      have HM := hid (fun w => h6' ▸ must_true 2 w)
      clear h6'
      go_wp2_with (first
        | (go_at_call 54; refine HO.out.mono ?_; rintro e w1 ⟨rfl, hv1, f1⟩; have HV1 := hid hv1; clear hv1 f1 HV HO)
        | (go_at_call 53; refine (HM.out _).mono ?_; rintro e w2 ⟨rfl, rfl⟩))
      have hrv : readV (c :: s) = (match readN c.toNat s with | .error e => ([], e) | .ok (l, []) => (l, 0) | .ok (_, _ :: _) => ([], 11)) := by unfold readV; dsimp only; rw [if_neg (Nat.not_lt.2 h6)] <;> rfl
      have HRV := hid hrv
      clear hrv
      generalize c.toNat = n at *
      have hs' : s.length ≤ 1099511627776 := by simp at hs; omega
      generalize hda : w.heap.size = a at *
      have HDA := hid hda
      clear hda hs hc HM
      go_loopw [20] (fun i wr => ∃ (j : Nat) (t : List UInt8) (va : Value) (acc : List V), j ≤ n ∧ i = .int .i64 j ∧ VR w wr a t va acc ∧ acc.length = j ∧ more acc (readN (n - j) t) = readN n s ∧ t.length ≤ 1099511627776) (fun i _ => n - (intOf i).toNat)
      case atStart => exact ⟨0, s, _, [], by omega, rfl, HV1.out, rfl, more_nil _, hs'⟩
      case round =>
        obtain ⟨j, t, va, acc, hj, rfl, hv, hal, hmore, ht⟩ := hrel
        have HVR := hid hv
        have HMO := hid hmore
        have HAL := hid hal
        clear hv hmore hal
        by_cases hjn : j < n
        · have hsub : n - j = (n - (j + 1)) + 1 := by omega
          cases t with
          | nil =>
            have HO := hid HVR.out.one_bad
            go_wp2_with (go_at_call 54; refine HO.out.mono ?_; rintro e w2 ⟨rfl, rfl⟩)
            have hx : readN n s = .error 10 := by rw [← HMO.out, hsub]; exact more_err rfl
            refine vread_panic HVR.out 10 rfl rfl (fun W' f => ?_)
            rw [HRV.out, hx]
            exact ⟨_, rfl, Row.nil, f⟩
          | cons k t =>
            have HO := hid (HVR.out.one (by simp at ht; omega))
            have hk := k.toNat_lt
            have HKN := hid (fun w => known_go k.toNat w)
            have HMK := hid (fun (w : World) (h : (decide (0 ≤ (k.toNat : Int)) && decide ((k.toNat : Int) ≤ 2)) = true) => h ▸ must_true 11 w)
            have HMK2 := hid (fun (w : World) (h : (decide (0 ≤ (k.toNat : Int)) && decide ((k.toNat : Int) ≤ 2)) = false) => h ▸ must_false 11 w)
            by_cases hk2 : k.toNat ≤ 2
            · have hkf : (decide (0 ≤ (k.toNat : Int)) && decide ((k.toNat : Int) ≤ 2)) = true := by rw [decide_eq_true (p := (k.toNat : Int) ≤ 2) (by omega), Bool.and_true]; exact decide_eq_true (by omega)
              have HKF := hid hkf
              clear hkf
              have h3 : k = 0 ∨ k = 1 ∨ k = 2 := by
                have : k.toNat = 0 ∨ k.toNat = 1 ∨ k.toNat = 2 := by omega
                rcases this with h | h | h
                · exact .inl (UInt8.toNat_inj.1 h)
                · exact .inr (.inl (UInt8.toNat_inj.1 h))
                · exact .inr (.inr (UInt8.toNat_inj.1 h))
              rcases h3 with rfl | rfl | rfl
              · have HR1 := hid (show readOne (0 :: t) = .ok (⟨0, 0, []⟩, t) from rfl)
                go_wp2_with (first
                  | (go_at_call 54; refine HO.out.mono ?_; rintro e w2 ⟨rfl, hv2, f2⟩; have HV2 := hid hv2; have HV3 := hid (hv2.fr' ((Fr.refl (fun _ => False) w2).alloc (.cells #[.int .i64 0, .int .i64 0, .string ⟨#[]⟩] 28))); have cr := HV3.out.row.cell 0; have hsz := HV3.out.fr.size; clear hv2 f2 HO)
                  | (go_at_call 36; refine (HKN.out _).mono ?_; rintro e w3 ⟨rfl, rfl⟩)
                  | (go_at_call 53; refine (HMK.out _ HKF.out).mono ?_; rintro e w4 ⟨rfl, rfl⟩)
                  | (at_builtin; refine wpList_app1 rfl (s := .tmp 60) (x := .tmp 62) (t := 23) rfl Tryd.underlying23 info_val val_cells rfl (by rw [World.size_alloc]; rfl) HV3.out.own hsz rfl (by simp [Value.oneCell']) (by rw [HAL.out]; omega) (by rw [HAL.out]; omega) ?_; intro ab ac wg APP; have gr := HV3.out.row.fr APP.fr (fun hk => HV3.out.own.ne HV3.out.row (by decide) _ hk rfl); have cg := gr.cell 0; have zg := gr.frozen 0; clear gr))
                go_roundw
                case rel => exact ⟨j + 1, t, _, acc ++ [⟨0, 0, []⟩], by omega, by go_num, HV3.out.add ⟨0, 0, []⟩ APP, by simp [HAL.out], by rw [← HMO.out, hsub]; exact (more_step HR1.out).symm, by simp at ht; omega⟩
                case measure => simp [intOf]; omega
              · by_cases h8 : t.length < 8
                · have HR1 := hid (show readOne (1 :: t) = .error 10 by simp [readOne, h8])
                  go_wp2_with (first
                    | (go_at_call 54; refine HO.out.mono ?_; rintro e w2 ⟨rfl, hv2, f2⟩; have HV3 := hid (hv2.fr' ((Fr.refl (fun _ => False) w2).alloc (.cells #[.int .i64 1, .int .i64 0, .string ⟨#[]⟩] 28))); have c3 := HV3.out.fn.cell 0; have HT3 := hid (take_bad HV3.out.str 8 h8); clear hv2 f2 HO)
                    | (go_at_call 36; refine (HKN.out _).mono ?_; rintro e w3 ⟨rfl, rfl⟩)
                    | (go_at_call 52; refine HT3.out.mono ?_; rintro e w6 ⟨rfl, rfl⟩)
                    | (go_at_call 53; refine (HMK.out _ HKF.out).mono ?_; rintro e w4 ⟨rfl, rfl⟩))
                  have hx : readN n s = .error 10 := by rw [← HMO.out, hsub]; exact more_err HR1.out
                  refine vread_panic HV3.out 10 rfl rfl (fun W' f => ?_)
                  rw [HRV.out, hx]
                  exact ⟨_, rfl, Row.nil, f⟩
                · have HR1 := hid (show readOne (1 :: t) = .ok (⟨1, int8 (t.take 8), []⟩, t.drop 8) by simp [readOne, h8])
                  have HT8 := hid (show (t.take 8).length = 8 by rw [List.length_take]; omega)
                  have htl : t.length ≤ 1099511627776 := by simp at ht; omega
                  have h8' : 8 ≤ t.length := by omega
                  have HTD := hid (show (t.drop 8).length ≤ 1099511627776 by rw [List.length_drop]; omega)
                  have HTK := hid (fun (w0 w : World) (a : Nat) (va : Value) (l : List V) (h : VR w0 w a t va l) => h.take htl 8 h8')
                  generalize t.take 8 = l at *
                  generalize t.drop 8 = u at *
                  clear htl h8 h8' ht
                  go_wp2_with (first
                    | (go_at_call 54; refine HO.out.mono ?_; rintro e w2 ⟨rfl, hv2, f2⟩; have HN2 := hid hv2.new; have HF2 := hid hv2.far; have HD3 := hid (Blk.new w2 [.int .i64 1, .int .i64 0, .string ⟨#[]⟩] 28); have HV3 := hid (hv2.fr' ((Fr.refl (fun _ => False) w2).alloc (.cells #[.int .i64 1, .int .i64 0, .string ⟨#[]⟩] 28))); have c3 := HV3.out.fn.cell 0; have HT3 := hid (HTK.out _ _ _ _ _ HV3.out); clear hv2 f2 HO HTK)
                    | (go_at_call 36; refine (HKN.out _).mono ?_; rintro e w3 ⟨rfl, rfl⟩)
                    | (go_at_call 52; refine HT3.out.mono ?_; rintro e w5 ⟨rfl, hv5, f5⟩; have HV5 := hid hv5; have D5 := hid (HD3.out.fr f5 (fun h => by have := HF2.out; omega)); clear hv5 f5)
                    | (go_at_call 53; refine (HMK.out _ HKF.out).mono ?_; rintro e w4 ⟨rfl, rfl⟩)
                    | (refine wpList_str_bytes rfl rfl Tryd.underlying9 Tryd.underlying42 Tryd.underlying5 rfl ?_; intro c w6 hb; have HC := hid hb.cap; have HBK := hid hb.blk; have HV6 := hid (HV5.out.fr' hb.fr); have D6 := hid (D5.out.fr hb.fr (fun h => h)); have HDB := hid (show w2.heap.size ≠ w5.heap.size from fun h => by have := D5.out.lt; omega); clear hb))
                  generalize w2.heap.size = d at *
                  generalize w5.heap.size = b at *
                  clear HT3 c3 HD3 HV3 D5 HV5
                  have HSN := hid (fun i (h : i < l.length) => show Go.VB.Oct.num (l.take (i + 1)) = Go.VB.Oct.num (l.take i) * 256 + l[i].toNat from by
                    rw [List.take_add_one, List.getElem?_eq_getElem h]; exact num_snoc _ _)
                  go_loopw [37] (fun i wr => ∃ j2 : Nat, j2 ≤ l.length ∧ i = .int .i64 j2 ∧ VR w wr a u va acc ∧ Blk wr d [.int .i64 1, .int .i64 (IntKind.i64.wrap (Go.VB.Oct.num (l.take j2))), .string ⟨#[]⟩] 28 ∧ SBlk wr b (bv l ++ List.replicate (c - l.length) (.int .u8 0)) 5) (fun i _ => l.length - (intOf i).toNat)
                  case atStart => exact ⟨0, by omega, rfl, HV6.out, D6.out, HBK.out⟩
                  case round =>
                    obtain ⟨j2, hj2, rfl, hv7, hd7, hb7⟩ := hrel
                    have HV7 := hid hv7
                    have HD7 := hid hd7
                    have HB7 := hid hb7
                    by_cases hjl : j2 < l.length
                    · have hc : wr.cell? ⟨b, j2, none⟩ = some (.int .u8 ((l[j2]).toNat : Int)) := by
                        rw [hb7.cell, List.getElem?_append_left (by rw [bv_length]; exact hjl)]; simp [bv, hjl]
                      have hsn := HSN.out j2 hjl
                      have i1 : (0 : Int) ≤ (j2 : Int) := by omega
                      have i2 : (j2 : Int) < l.length := by omega
                      have hlt : Go.VB.Oct.num (l.take j2) < 256 ^ 7 := by
                        refine Nat.lt_of_lt_of_le (Go.VB.Oct.num_lt _) (Nat.pow_le_pow_right (by omega) ?_)
                        have := HT8.out
                        rw [List.length_take]; omega
                      have hx := l[j2].toNat_lt
                      rw [show IntKind.i64.wrap (Go.VB.Oct.num (l.take j2) : Int) = (Go.VB.Oct.num (l.take j2) : Int) from IntWalk.i64_in _ (by omega)] at hd7
                      generalize l[j2].toNat = x at *
                      generalize Go.VB.Oct.num (l.take j2) = y at *
                      have HOR := hid (show bits .or .i64 (wrap64 ((y : Int) * 256)) (x : Int) = IntKind.i64.wrap ((y * 256 + x : Nat) : Int) from IntWalk.i64_left ((y : Int) * 256) ▸ or_i64w y x hlt (by omega))
                      have hl8 : l.length ≤ 8 := Nat.le_of_eq HT8.out
                      have x1 : (0 : Int) ≤ x := by omega
                      have x2 : (x : Int) < 256 := by omega
                      have y1 : (0 : Int) ≤ y := by omega
                      have y2 : (y : Int) < 72057594037927936 := by omega
                      have q1 := hd7.cell 1
                      have z1 := hd7.frozen 1
                      clear hlt hx
                      have HSS := hid hsn
                      have HBN := hid (hb7.fr ((Fr.refl (fun k => k = d) wr).setCell ⟨d, 1, none⟩ (.int .i64 (bits .or .i64 (wrap64 ((y : Int) * 256)) (x : Int))) (fun _ => rfl)) (fun h => HDB.out h.symm))
                      have HDN := hid (hd7.set 1 (.int .i64 (bits .or .i64 (wrap64 ((y : Int) * 256)) (x : Int))))
                      have HVN := hid (hv7.put (o := 1) (u := .int .i64 (bits .or .i64 (wrap64 ((y : Int) * 256)) (x : Int))) HF2.out HN2.out)
                      clear hsn hv7 hd7 hb7 HSN HRV HMO HAL
                      go_wp2_with (fail)
                      go_roundw
                      case rel => exact ⟨j2 + 1, by omega, by go_num, HVN.out, by rw [HSS.out, ← HOR.out]; exact HDN.out, HBN.out⟩
                      case measure => simp [intOf]; omega
                    · obtain rfl : j2 = l.length := by omega
                      rw [List.take_length, show IntKind.i64.wrap (Go.VB.Oct.num l : Int) = int8 l from rfl] at hd7 HD7
                      have m0 := hd7.cell 0
                      have m1 := hd7.cell 1
                      have m2 := hd7.cell 2
                      have cr := hv7.row.cell 0
                      have hsz := HV7.out.fr.size
                      clear hv7 hd7 hb7 HB7
                      go_wp2_with (first
                        | (at_builtin; refine wpList_app1 rfl (s := .tmp 60) (x := .tmp 62) (t := 23) rfl Tryd.underlying23 info_val val_cells rfl (by rfl) HV7.out.own hsz rfl (by simp [Value.oneCell']) (by rw [HAL.out]; omega) (by rw [HAL.out]; omega) ?_; intro ab ac wg APP; have gr := HV7.out.row.fr APP.fr (fun hk => HV7.out.own.ne HV7.out.row (by decide) _ hk rfl); have cg := gr.cell 0; have zg := gr.frozen 0; clear gr))
                      go_roundw
                      case rel => exact ⟨j + 1, _, _, acc ++ [⟨1, int8 l, []⟩], by omega, by go_num, HV7.out.add ⟨1, int8 l, []⟩ APP, by simp [HAL.out], by rw [← HMO.out, hsub]; exact (more_step HR1.out).symm, HTD.out⟩
                      case measure => simp [intOf]; omega
              · have hkn : ∀ x : Int, x = (UInt8.toNat 2 : Int) → x = 2 := fun x h => h
                cases t with
                | nil =>
                  have HR1 := hid (show readOne (2 :: []) = .error 10 from rfl)
                  go_wp2_with (first
                    | (go_at_call 54; refine HO3.out.mono ?_; rintro e w5 ⟨rfl, rfl⟩)
                    | (go_at_call 54; refine HO.out.mono ?_; rintro e w2 ⟨rfl, hv2, f2⟩; have HV3 := hid (hv2.fr' ((Fr.refl (fun _ => False) w2).alloc (.cells #[.int .i64 2, .int .i64 0, .string ⟨#[]⟩] 28))); have HO3 := hid HV3.out.one_bad; clear hv2 f2 HO)
                    | (go_at_call 36; refine (HKN.out _).mono ?_; rintro e w3 ⟨rfl, rfl⟩)
                    | (go_at_call 53; refine (HMK.out _ HKF.out).mono ?_; rintro e w4 ⟨rfl, rfl⟩))
                  have hx : readN n s = .error 10 := by rw [← HMO.out, hsub]; exact more_err HR1.out
                  refine vread_panic HV3.out 10 rfl rfl (fun W' f => ?_)
                  rw [HRV.out, hx]
                  exact ⟨_, rfl, Row.nil, f⟩
                | cons m u =>
                  have hm := m.toNat_lt
                  by_cases h40 : m.toNat ≤ 40
                  · have h6' : decide ((m.toNat : Int) ≤ 40) = true := decide_eq_true (by omega)
                    have HM4 := hid (fun w => (h6' ▸ must_true 2 w : Calls Tryd.prog 53 #[.bool (decide ((m.toNat : Int) ≤ 40)), .int .i64 2] w fun x w' => x = .returned (.tuple #[]) ∧ w = w'))
                    clear h6'
                    by_cases hmu : m.toNat ≤ u.length
                    · have HR1 := hid (show readOne (2 :: m :: u) = .ok (⟨2, 0, u.take m.toNat⟩, u.drop m.toNat) by simp [readOne, Nat.not_lt.2 h40, Nat.not_lt.2 hmu])
                      have hul : u.length ≤ 1099511627776 := by simp at ht; omega
                      go_wp2_with (first
                        | (go_at_call 54; refine HO3.out.mono ?_; rintro e w5 ⟨rfl, hv5, f5⟩; have HV5 := hid hv5; have c5 := hv5.fn.cell 0; have HT5 := hid (hv5.take hul m.toNat hmu); have D5 := hid (HD3.out.fr f5 (fun h => by have := HF2.out; omega)); clear hv5 f5)
                        | (go_at_call 54; refine HO.out.mono ?_; rintro e w2 ⟨rfl, hv2, f2⟩; have HN2 := hid hv2.new; have HF2 := hid hv2.far; have HD3 := hid (Blk.new w2 [.int .i64 2, .int .i64 0, .string ⟨#[]⟩] 28); have HV3 := hid (hv2.fr' ((Fr.refl (fun _ => False) w2).alloc (.cells #[.int .i64 2, .int .i64 0, .string ⟨#[]⟩] 28))); have HO3 := hid (HV3.out.one (by simp at ht; omega)); clear hv2 f2 HO)
                        | (go_at_call 36; refine (HKN.out _).mono ?_; rintro e w3 ⟨rfl, rfl⟩)
                        | (go_at_call 52; refine HT5.out.mono ?_; rintro e w6 ⟨rfl, hv6, f6⟩; have D6 := hid (D5.out.fr f6 (fun h => by have := HF2.out; omega)); have k2 := D6.out.cell 2; have z2 := D6.out.frozen 2; have D7 := hid (D6.out.set 2 (.string (bs (u.take m.toNat)))); have HV7 := hid (hv6.put (o := 2) (u := .string (bs (u.take m.toNat))) HF2.out HN2.out); have cr := HV7.out.row.cell 0; have m0 := D7.out.cell 0; have m1 := D7.out.cell 1; have m2 := D7.out.cell 2; have hsz := HV7.out.fr.size; have HSZ := hid (show (w6.setCell ⟨w2.heap.size, 2, none⟩ (.string (bs (u.take m.toNat)))).heap.size = w6.heap.size by simp); clear hv6 f6)
                        | (go_at_call 53; refine (HM4.out _).mono ?_; rintro e w4 ⟨rfl, rfl⟩)
                        | (go_at_call 53; refine (HMK.out _ HKF.out).mono ?_; rintro e w4 ⟨rfl, rfl⟩)
                        | (at_builtin; refine wpList_app1 rfl (s := .tmp 60) (x := .tmp 62) (t := 23) rfl Tryd.underlying23 info_val val_cells rfl (by rw [HSZ.out]; rfl) HV7.out.own hsz rfl (by simp [Value.oneCell']) (by rw [HAL.out]; omega) (by rw [HAL.out]; omega) ?_; intro ab ac wg APP; have gr := HV7.out.row.fr APP.fr (fun hk => HV7.out.own.ne HV7.out.row (by decide) _ hk rfl); have cg := gr.cell 0; have zg := gr.frozen 0; clear gr))
                      go_roundw
                      case rel => exact ⟨j + 1, _, _, acc ++ [⟨2, 0, u.take m.toNat⟩], by omega, by go_num, HV7.out.add ⟨2, 0, u.take m.toNat⟩ APP, by simp [HAL.out], by rw [← HMO.out, hsub]; exact (more_step HR1.out).symm, by simp at ht; rw [List.length_drop]; omega⟩
                      case measure => simp [intOf]; omega
                    · have HR1 := hid (show readOne (2 :: m :: u) = .error 10 by simp [readOne, Nat.not_lt.2 h40, Nat.lt_of_not_le hmu])
                      go_wp2_with (first
                        | (go_at_call 54; refine HO3.out.mono ?_; rintro e w5 ⟨rfl, hv5, f5⟩; have HV5 := hid hv5; have c5 := hv5.fn.cell 0; have HT5 := hid (take_bad hv5.str m.toNat (Nat.lt_of_not_le hmu)); clear hv5 f5)
                        | (go_at_call 54; refine HO.out.mono ?_; rintro e w2 ⟨rfl, hv2, f2⟩; have HV3 := hid (hv2.fr' ((Fr.refl (fun _ => False) w2).alloc (.cells #[.int .i64 2, .int .i64 0, .string ⟨#[]⟩] 28))); have HO3 := hid (HV3.out.one (by simp at ht; omega)); clear hv2 f2 HO)
                        | (go_at_call 36; refine (HKN.out _).mono ?_; rintro e w3 ⟨rfl, rfl⟩)
                        | (go_at_call 52; refine HT5.out.mono ?_; rintro e w6 ⟨rfl, rfl⟩)
                        | (go_at_call 53; refine (HM4.out _).mono ?_; rintro e w4 ⟨rfl, rfl⟩)
                        | (go_at_call 53; refine (HMK.out _ HKF.out).mono ?_; rintro e w4 ⟨rfl, rfl⟩))
                      have hx : readN n s = .error 10 := by rw [← HMO.out, hsub]; exact more_err HR1.out
                      refine vread_panic HV5.out 10 rfl rfl (fun W' f => ?_)
                      rw [HRV.out, hx]
                      exact ⟨_, rfl, Row.nil, f⟩
                  · have h6' : decide ((m.toNat : Int) ≤ 40) = false := decide_eq_false (by omega)
                    have HM4 := hid (fun w => (h6' ▸ must_false 2 w : Calls Tryd.prog 53 #[.bool (decide ((m.toNat : Int) ≤ 40)), .int .i64 2] w fun x w' => x = .panicked [trouble 2] ∧ w = w'))
                    clear h6'
                    have HR1 := hid (show readOne (2 :: m :: u) = .error 2 by simp [readOne, Nat.lt_of_not_le h40])
                    go_wp2_with (first
                      | (go_at_call 54; refine HO3.out.mono ?_; rintro e w5 ⟨rfl, hv5, f5⟩; have HV5 := hid hv5; clear hv5 f5)
                      | (go_at_call 54; refine HO.out.mono ?_; rintro e w2 ⟨rfl, hv2, f2⟩; have HV3 := hid (hv2.fr' ((Fr.refl (fun _ => False) w2).alloc (.cells #[.int .i64 2, .int .i64 0, .string ⟨#[]⟩] 28))); have HO3 := hid (HV3.out.one (by simp at ht; omega)); clear hv2 f2 HO)
                      | (go_at_call 36; refine (HKN.out _).mono ?_; rintro e w3 ⟨rfl, rfl⟩)
                      | (go_at_call 53; refine (HM4.out _).mono ?_; rintro e w4 ⟨rfl, rfl⟩)
                      | (go_at_call 53; refine (HMK.out _ HKF.out).mono ?_; rintro e w4 ⟨rfl, rfl⟩))
                    have hx : readN n s = .error 2 := by rw [← HMO.out, hsub]; exact more_err HR1.out
                    refine vread_panic HV5.out 2 rfl rfl (fun W' f => ?_)
                    rw [HRV.out, hx]
                    exact ⟨_, rfl, Row.nil, f⟩
            · have hkf : (decide (0 ≤ (k.toNat : Int)) && decide ((k.toNat : Int) ≤ 2)) = false := by rw [decide_eq_false (p := (k.toNat : Int) ≤ 2) (by omega), Bool.and_false]
              have HKF := hid hkf
              clear hkf
              go_wp2_with (first
                | (go_at_call 54; refine HO.out.mono ?_; rintro e w2 ⟨rfl, hv2, f2⟩; have HV2 := hid hv2; clear hv2 f2 HO)
                | (go_at_call 36; refine (HKN.out _).mono ?_; rintro e w3 ⟨rfl, rfl⟩)
                | (go_at_call 53; refine (HMK2.out _ HKF.out).mono ?_; rintro e w4 ⟨rfl, rfl⟩))
              have hx : readN n s = .error 11 := by
                rw [← HMO.out, hsub]
                refine more_err ?_
                have k0 : k ≠ 0 := fun h => by subst h; exact hk2 (by decide)
                have k1 : k ≠ 1 := fun h => by subst h; exact hk2 (by decide)
                have k2 : k ≠ 2 := fun h => by subst h; exact hk2 (by decide)
                simp [readOne, k0, k1, k2]
              refine vread_panic (HV2.out.fr' ((Fr.refl (fun _ => False) w2).alloc _)) 11 rfl rfl (fun W' f => ?_)
              rw [HRV.out, hx]
              exact ⟨_, rfl, Row.nil, f⟩
        · obtain rfl : j = n := by omega
          have hx : readN j s = .ok (acc, t) := by rw [← HMO.out, Nat.sub_self]; simp [readN, more]
          have HX := hid hx
          clear hx HMO
          cases t with
          | nil =>
            obtain ⟨aa, cc, rfl, _⟩ := HVR.out.own.slice
            have cs := HVR.out.str.cell 0
            have cr := HVR.out.row.cell 0
            have ce := HVR.out.err.cell 0
            have zr := HVR.out.row.frozen 0
            have ze := HVR.out.err.frozen 0
            have HM := hid (fun w => (bs_empty []) ▸ must_true 11 w : ∀ w, Calls Tryd.prog 53 #[.bool (bs []).toList.isEmpty, .int .i64 11] w fun x w' => x = .returned (.tuple #[]) ∧ w = w')
            go_wp2_with (first | (go_at_call 53; refine (HM.out _).mono ?_; rintro e w2 ⟨rfl, rfl⟩))
            have F1 := (Fr.refl (fun k => k = a + 1 ∨ k = a + 1 + 1) wr).setCell ⟨a + 1, 0, none⟩ (.slice aa acc.length cc) (fun _ => .inl rfl)
            have F2 := F1.setCell ⟨a + 1 + 1, 0, none⟩ (.int .i64 0) (fun _ => .inr rfl)
            have n1 := HVR.out.own.ne HVR.out.row (by decide)
            have n2 := HVR.out.own.ne HVR.out.err (by decide)
            have hat := HVR.out.at_
            refine vread_ret (((HVR.out.row.set 0 (.slice aa acc.length cc)).set_ne ⟨a + 1 + 1, 0, none⟩ (.int .i64 0) (by show a + 1 ≠ a + 1 + 1; omega)).cell 0) (((HVR.out.err.set_ne ⟨a + 1, 0, none⟩ (.slice aa acc.length cc) (by show a + 1 + 1 ≠ a + 1; omega)).set 0 (.int .i64 0)).cell 0) rfl rfl ?_
            rw [HRV.out, HX.out]
            exact ⟨_, rfl, HVR.out.own.fr F2 (fun k hk h => h.elim (n1 k hk) (n2 k hk)), HVR.out.fr.trans F2 (fun k hk hl => by omega)⟩
          | cons k t =>
            have cs := HVR.out.str.cell 0
            have HM := hid (fun w => (bs_empty (k :: t)) ▸ must_false 11 w : ∀ w, Calls Tryd.prog 53 #[.bool (bs (k :: t)).toList.isEmpty, .int .i64 11] w fun x w' => x = .panicked [trouble 11] ∧ w = w')
            go_wp2_with (first | (go_at_call 53; refine (HM.out _).mono ?_; rintro e w2 ⟨rfl, rfl⟩))
            refine vread_panic HVR.out 11 rfl rfl (fun W' f => ?_)
            rw [HRV.out, HX.out]
            exact ⟨_, rfl, Row.nil, f⟩
    · have h6' : decide ((c.toNat : Int) ≤ 6) = false := decide_eq_false (by omega)
      have HM := hid (fun w => h6' ▸ must_false 2 w)
      clear h6'
      go_wp2_with (first
        | (go_at_call 54; refine HO.out.mono ?_; rintro e w1 ⟨rfl, hv1, f1⟩; have HV1 := hid hv1; clear hv1 f1 HV HO)
        | (go_at_call 53; refine (HM.out _).mono ?_; rintro e w2 ⟨rfl, rfl⟩))
      have hr : readV (c :: s) = ([], 2) := by simp [readV, Nat.lt_of_not_le h6]
      refine vread_panic HV1.out 2 rfl rfl (fun W' f => ?_)
      rw [hr]
      exact ⟨_, rfl, Row.nil, f⟩
end Go.Proofs.YtknpncpoojjbfaaDoor

