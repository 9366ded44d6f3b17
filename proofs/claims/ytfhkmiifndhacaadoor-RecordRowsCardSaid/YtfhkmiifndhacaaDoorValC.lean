import Derived.Test.YtfhkmiifndhacaaDoorValB
import Derived.Test.YtfhkmiifndhacaaDoorValM
import Derived.Test.YtfhkmiifndhacaaDoorOctD
import Derived.Laws.Closers25
/- value.Read. -/
set_option linter.unusedVariables false
namespace Go.Proofs.YtfhkmiifndhacaaDoor
open Go.RowKit Go.VB Go.VB.Oct Go.VB.Rec
theorem or_i64w (y x : Nat) (hy : y < 72057594037927936) (hx : x < 256) : bits .or .i64 (IntKind.i64.wrap ((y : Int) * 256)) (x : Int) = IntKind.i64.wrap ((y * 256 + x : Nat) : Int) := by
  have h1 : (BitVec.ofInt 64 (IntKind.i64.wrap ((y : Int) * 256))).toNat = y * 256 := by
    rw [BitVec.toNat_ofInt, IntKind.wrap_i64]
    omega
  show IntKind.i64.wrap ((BitVec.ofInt 64 (IntKind.i64.wrap ((y : Int) * 256)) ||| BitVec.ofInt 64 (x : Int)).toNat : Int) = _
  rw [BitVec.toNat_or, h1, ofInt_u64 x (by omega), Nat.mul_comm y 256, ← Nat.two_pow_add_eq_or_of_lt (i := 8) (by simpa using hx) y]
theorem bs_empty (l : List UInt8) : (bs l).toList.isEmpty = l.isEmpty := by
  rw [← Go.decide_eq_emptyBytes]
  cases l with
  | nil => exact decide_eq_true rfl
  | cons x l =>
    refine decide_eq_false fun h => ?_
    have := congrArg ByteArray.size h
    rw [bs_size] at this
    cases this
/-- where the reading stands: s is left, l is read -/
structure VR (w0 W : World) (a : Nat) (s : List UInt8) (va : Value) (l : List V) : Prop where
  str : Blk W a [.string (bs s)] 9
  row : Blk W (a + 1) [va] 23
  err : Blk W (a + 1 + 1) [.int .i64 0] 31
  fn : Blk W (a + 1 + 1 + 1) [.func (.func 30) #[] #[.pointer (some ⟨a, 0, none⟩)]] 58
  own : Row 50 3 w0.heap.size W va l.length (l.flatMap V.cells)
  fr : Fr (fun _ => False) w0 W
  at_ : a = w0.heap.size
theorem vread_start (w : World) (s : List UInt8) : VR w ((((w.alloc (.cells #[.string (bs s)] 9)).alloc (.cells #[.slice none 0 0] 23)).alloc (.cells #[.int .i64 0] 31)).alloc (.cells #[(.func (.func 30) #[] #[.pointer (some ⟨w.heap.size, 0, none⟩)])] 58)) w.heap.size s (.slice none 0 0) [] := by
  have h1 := (((Blk.new w [Value.string (bs s)] 9).alloc (.cells #[.slice none 0 0] 23)).alloc (.cells #[.int .i64 0] 31)).alloc (.cells #[(.func (.func 30) #[] #[.pointer (some ⟨w.heap.size, 0, none⟩)])] 58)
  have h2 := ((Blk.new (w.alloc (.cells #[.string (bs s)] 9)) [Value.slice none 0 0] 23).alloc (.cells #[.int .i64 0] 31)).alloc (.cells #[(.func (.func 30) #[] #[.pointer (some ⟨w.heap.size, 0, none⟩)])] 58)
  have h3 := (Blk.new ((w.alloc (.cells #[.string (bs s)] 9)).alloc (.cells #[.slice none 0 0] 23)) [Value.int .i64 0] 31).alloc (.cells #[(.func (.func 30) #[] #[.pointer (some ⟨w.heap.size, 0, none⟩)])] 58)
  have h4 := Blk.new (((w.alloc (.cells #[.string (bs s)] 9)).alloc (.cells #[.slice none 0 0] 23)).alloc (.cells #[.int .i64 0] 31)) [Value.func (.func 30) #[] #[.pointer (some ⟨w.heap.size, 0, none⟩)]] 58
  have f := ((((Fr.refl (fun _ => False) w).alloc (.cells #[.string (bs s)] 9)).alloc (.cells #[.slice none 0 0] 23)).alloc (.cells #[.int .i64 0] 31)).alloc (.cells #[(.func (.func 30) #[] #[.pointer (some ⟨w.heap.size, 0, none⟩)])] 58)
  simp only [World.size_alloc] at h2 h3 h4
  exact ⟨h1, h2, h3, h4, Row.nil, f, rfl⟩
theorem VR.eat {w0 W W' : World} {a : Nat} {s t : List UInt8} {va : Value} {l : List V} (h : VR w0 W a s va l) (hs : Blk W' a [.string (bs t)] 9) (f : Fr (fun k => k = a) W W') : VR w0 W' a t va l :=
  ⟨hs, h.row.fr f (fun h => by omega), h.err.fr f (fun h => by omega), h.fn.fr f (fun h => by omega), h.own.fr f (fun k hk => h.own.ne h.str (by decide) k hk), h.fr.trans f (fun k hk hl => by have := h.at_; omega), h.at_⟩
theorem VR.one {w0 W : World} {a : Nat} {c : UInt8} {s : List UInt8} {va : Value} {l : List V} (h : VR w0 W a (c :: s) va l) (hs : s.length < 1099511627776) : Calls Tryd.prog 32 #[.pointer (some ⟨a + 1 + 1 + 1, 0, none⟩)] W fun e W' => e = .returned (.int .i64 (c.toNat : Int)) ∧ VR w0 W' a s va l ∧ Fr (fun k => k = a) W W' := by
  refine (one_ok h.str h.fn hs).mono ?_
  rintro e W' ⟨rfl, hb, f⟩
  exact ⟨rfl, h.eat hb f, f⟩
theorem VR.one_bad {w0 W : World} {a : Nat} {va : Value} {l : List V} (h : VR w0 W a [] va l) : Calls Tryd.prog 32 #[.pointer (some ⟨a + 1 + 1 + 1, 0, none⟩)] W fun e W' => e = .panicked [trouble 10] ∧ W = W' := Go.Proofs.YtfhkmiifndhacaaDoor.one_bad h.str h.fn
theorem VR.take {w0 W : World} {a : Nat} {s : List UInt8} {va : Value} {l : List V} (h : VR w0 W a s va l) (hs : s.length ≤ 1099511627776) (n : Nat) (hn : n ≤ s.length) : Calls Tryd.prog 30 #[.int .i64 n, .pointer (some ⟨a, 0, none⟩)] W fun e W' => e = .returned (.string (bs (s.take n))) ∧ VR w0 W' a (s.drop n) va l ∧ Fr (fun k => k = a) W W' := by
  refine (take_ok h.str hs n hn).mono ?_
  rintro e W' ⟨rfl, hb, f⟩
  exact ⟨rfl, h.eat hb f, f⟩
theorem VR.fr' {w0 W W' : World} {a : Nat} {s : List UInt8} {va : Value} {l : List V} (h : VR w0 W a s va l) (f : Fr (fun _ => False) W W') : VR w0 W' a s va l :=
  ⟨h.str.fr f (fun h => h), h.row.fr f (fun h => h), h.err.fr f (fun h => h), h.fn.fr f (fun h => h), h.own.fre f, h.fr.trans f (fun _ h _ => h), h.at_⟩
theorem info_val : (Tryd.prog.info? 50).map (fun i => (i.zero, i.size, i.bytes)) = some (some (.agg #[.int .i64 0, .int .i64 0, .string .empty]), 3, 32) := by kernel_rfl
theorem val_cells : (Value.agg #[.int .i64 0, .int .i64 0, .string .empty]).cells.size = 3 := by kernel_rfl
theorem VR.add {w0 W wg : World} {a : Nat} {s : List UInt8} {va va' : Value} {l : List V} (h : VR w0 W a s va l) (v : V) (hA : App 50 3 w0.heap.size W wg va va' l.length (l.flatMap V.cells) v.cells) : VR w0 (wg.setCell ⟨a + 1, 0, none⟩ va') a s va' (l ++ [v]) := by
  have f := hA.fr
  have fs := (Fr.refl (fun k => k = a + 1) wg).setCell ⟨a + 1, 0, none⟩ va' (fun _ => rfl)
  have r1 := h.row.fr f (fun hk => h.own.ne h.row (by decide) _ hk rfl)
  refine ⟨(h.str.fr f (fun hk => h.own.ne h.str (by decide) _ hk rfl)).fr fs (fun h => by omega), r1.set 0 va', (h.err.fr f (fun hk => h.own.ne h.err (by decide) _ hk rfl)).fr fs (fun h => by omega), (h.fn.fr f (fun hk => h.own.ne h.fn (by decide) _ hk rfl)).fr fs (fun h => by omega), ?_, ?_, h.at_⟩
  · refine (hA.row.fr fs (fun k hk => hA.row.ne r1 (by decide) k hk)).cast (by simp) (by simp)
  · refine (hA.frB h.own h.fr (Nat.le_refl _)).trans fs (fun k hk hl => by have := h.at_; omega)

set_option maxRecDepth 20000 in
theorem vread_panic {w0 W : World} {a : Nat} {s : List UInt8} {va : Value} {l : List V} (h : VR w0 W a s va l) (e : Int) {tm : Array Value} (h2 : tm[2]? = some (.pointer (some ⟨a + 1, 0, none⟩))) (h3 : tm[3]? = some (.pointer (some ⟨a + 1 + 1, 0, none⟩))) {Q : Ending → World → Prop}
    (hq : ∀ W', Fr (fun _ => False) w0 W' → Q (.returned (.tuple #[.slice none 0 0, .int .i64 e])) W') :
    bodyPostD Tryd.prog Tryd.f9 Q (Exit.panic [trouble e]) { tmps := tm, defers := [{ target := Target.fn (Fn.func 29) #[.pointer (some ⟨a + 1, 0, none⟩), .pointer (some ⟨a + 1 + 1, 0, none⟩)], args := #[] }] } W := by
  refine leaves_cons (f := 29) (args := #[.pointer (some ⟨a + 1, 0, none⟩), .pointer (some ⟨a + 1 + 1, 0, none⟩)]) (by simp) (by simp [go_sem]) ?_
  refine (catch_panicking (a + 1) (a + 1 + 1) va (.int .i64 0) e W h.row h.err (by omega)).mono ?_
  rintro r u' W' ⟨rfl, rfl, hp, hq', f⟩
  have c1 : W'.cell? ⟨a + 1, 0, none⟩ = some (.slice none 0 0) := hp.cell 0
  have c2 : W'.cell? ⟨a + 1 + 1, 0, none⟩ = some (.int .i64 e) := hq'.cell 0
  have hQ := hq W' (h.fr.trans f (fun k hk hl => by have := h.at_; omega))
  refine ⟨.tuple #[.slice none 0 0, .int .i64 e], ?_, hQ⟩
  simp [results, Tryd.results9, go_sem, h2, h3, c1, c2]
set_option maxRecDepth 20000 in
theorem vread_ret {W : World} {a : Nat} {va : Value} (c1 : W.cell? ⟨a + 1, 0, none⟩ = some va) (c2 : W.cell? ⟨a + 1 + 1, 0, none⟩ = some (.int .i64 0)) {tm : Array Value} (h2 : tm[2]? = some (.pointer (some ⟨a + 1, 0, none⟩))) (h3 : tm[3]? = some (.pointer (some ⟨a + 1 + 1, 0, none⟩))) {Q : Ending → World → Prop}
    (hq : Q (.returned (.tuple #[va, .int .i64 0])) W) :
    bodyPostD Tryd.prog Tryd.f9 Q Exit.ret { tmps := tm, defers := [{ target := Target.fn (Fn.func 29) #[.pointer (some ⟨a + 1, 0, none⟩), .pointer (some ⟨a + 1 + 1, 0, none⟩)], args := #[] }] } W := by
  refine leaves_cons (f := 29) (args := #[.pointer (some ⟨a + 1, 0, none⟩), .pointer (some ⟨a + 1 + 1, 0, none⟩)]) (by simp) (by simp [go_sem]) ?_
  refine (catch_idle (a + 1) (a + 1 + 1) W).mono ?_
  rintro r u' W' ⟨rfl, rfl, rfl⟩
  refine ⟨.tuple #[va, .int .i64 0], ?_, hq⟩
  simp [results, Tryd.results9, go_sem, h2, h3, c1, c2]
theorem VR.put {w0 W : World} {a d o : Nat} {u : Value} {s : List UInt8} {va : Value} {l : List V} (h : VR w0 W a s va l) (hd : a + 1 + 1 + 1 < d) (hn : ∀ k, va.ownBlock = some k → k ≠ d) : VR w0 (W.setCell ⟨d, o, none⟩ u) a s va l :=
  ⟨h.str.set_ne _ _ (fun e => by have : a = d := e; omega), h.row.set_ne _ _ (fun e => by have : a + 1 = d := e; omega), h.err.set_ne _ _ (fun e => by have : a + 1 + 1 = d := e; omega), h.fn.set_ne _ _ (fun e => by have : a + 1 + 1 + 1 = d := e; omega),
    h.own.fr ((Fr.refl (fun k => k = d) W).setCell ⟨d, o, none⟩ u (fun _ => rfl)) (fun k hk => hn k hk), h.fr.setCell _ _ (fun hlt => by have := h.at_; have : d < w0.heap.size := hlt; omega), h.at_⟩
theorem VR.far {w0 W : World} {a : Nat} {s : List UInt8} {va : Value} {l : List V} (h : VR w0 W a s va l) : a + 1 + 1 + 1 < W.heap.size := h.fn.lt
theorem VR.new {w0 W : World} {a : Nat} {s : List UInt8} {va : Value} {l : List V} (h : VR w0 W a s va l) : ∀ k, va.ownBlock = some k → k ≠ W.heap.size := fun k hk e => by have := h.own.lt hk; omega
end Go.Proofs.YtfhkmiifndhacaaDoor
