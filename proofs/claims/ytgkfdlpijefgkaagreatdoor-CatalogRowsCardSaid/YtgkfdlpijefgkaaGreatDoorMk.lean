import Derived.Test.YtgkfdlpijefgkaaGreatDoorStr
import Derived.Test.YtgkfdlpijefgkaaGreatDoorLoad
import Derived.Laws.BitsLemmas
/- make of a slice; a mask's and. -/
set_option linter.unusedVariables false
namespace Go.VB
open Go.RowKit
theorem madeCells_flat (z : List Value) (n : Nat) : (madeCells z.toArray (n * z.length)).toList = (List.replicate n z).flatten := by
  have h : ∀ n, (List.range (n * z.length)).map (fun i => z.toArray[i % z.toArray.size]!) = (List.replicate n z).flatten := by
    intro n
    induction n with
    | zero => simp
    | succ n ih =>
      rw [Nat.succ_mul, List.range_add, List.map_append, ih, List.replicate_succ', List.flatten_append]
      congr 1
      simp only [List.map_map, List.flatten_singleton]
      apply List.ext_getElem
      · simp
      · intro i h1 h2
        simp at h1
        simp [Nat.mod_eq_of_lt h1, Nat.add_mod, h1]
  simpa [madeCells] using h n
theorem run_make_rows {P : Program} (w : World) {t e : TypeId} {zv : Value} {z : List Value} {size bytes : Nat} (ht : P.underlying t = some (.slice e)) (hi : (P.info? e).map (fun i => (i.zero, i.size, i.bytes)) = some (some zv, size, bytes)) (hz : zv.cells = z.toArray) (hs : z.length = size)
    (n : Nat) (hc : n * size ≤ 16777216) (hb : bytes * n ≤ 281474976710656) (h63 : n ≤ 1099511627776) :
    (Instr.makeSlice t (.int .i64 n) (.int .i64 n)).run P w = .ok (.slice (some ⟨w.heap.size, 0, none⟩) n n) (w.alloc (.cells (List.replicate n z).flatten.toArray e)) := by
  obtain ⟨i, h0, h1, h2, h3⟩ := info_parts hi
  subst h2; subst h3
  have := run_makeSlice w t e i _ ht h0 h1 .i64 .i64 n n (by omega) (by omega) (by rw [Int.toNat_natCast]; exact hc) (by rw [← Int.natCast_mul]; omega) (by omega)
  rw [this]
  have e2 : madeCells zv.cells (n * i.size) = (List.replicate n z).flatten.toArray := by
    apply Array.toList_inj.1
    rw [List.toList_toArray, ← madeCells_flat, ← hs, hz]
  simp only [Int.toNat_natCast, e2]
theorem wpList_makeSlice {P : Program} {ops : Array Oper} {rest : List Oper} {op : Oper} {a : Act} {w : World} {Q : Exit → Act → World → Prop} (hgd : op.guard = none) {t : TypeId} {lo co : Operand} (ho : op.op = .makeSlice t lo co)
    {v : Value} {w' : World} (hr : (Instr.makeSlice t (a.eval lo) (a.eval co)).run P w = .ok v w') (h : wpList P ops Q rest (a.put op.dst v) w') : wpList P ops Q (op :: rest) a w :=
  wpList_plain hgd fun _ hK => by
    unfold Oper.wp execOp
    simp only [ho, hr, Sem.run_bind, Sem.run_pure, Result.andThen_ok]
    exact hK _ _ h
theorem flat_rep1 (v : Value) (n : Nat) : (List.replicate n [v]).flatten = List.replicate n v := by
  induction n with
  | zero => rfl
  | succ n ih => rw [List.replicate_succ, List.flatten_cons, ih, List.replicate_succ]; rfl
theorem and_mask (m : Nat) (k n : Int) (hk : (BitVec.ofInt 64 k).toNat = 2 ^ m - 1) (hm : m ≤ 32) : bits .and .i64 n k = n % (2 ^ m : Nat) := by
  have key : (BitVec.ofInt 64 n &&& BitVec.ofInt 64 k).toNat = (n % ((2 ^ 64 : Nat) : Int)).toNat % 2 ^ m := by
    rw [BitVec.toNat_and, BitVec.toNat_ofInt, hk, Nat.and_two_pow_sub_one_eq_mod]
  show IntKind.i64.wrap ((BitVec.ofInt 64 n &&& BitVec.ofInt 64 k).toNat : Nat) = n % (2 ^ m : Nat)
  rw [key, IntKind.wrap_i64]
  have hp : 2 ^ m ≤ 2 ^ 32 := Nat.pow_le_pow_right (by omega) hm
  have h0 : 0 < 2 ^ m := Nat.pow_pos (by omega)
  have hd : 2 ^ m ∣ 2 ^ 64 := Nat.pow_dvd_pow 2 (by omega)
  have h1 : 0 ≤ n % ((2 ^ 64 : Nat) : Int) := Int.emod_nonneg _ (by decide)
  have h2 : (n % ((2 ^ 64 : Nat) : Int)).toNat % 2 ^ m < 2 ^ m := Nat.mod_lt _ h0
  have h3 : (((n % ((2 ^ 64 : Nat) : Int)).toNat % 2 ^ m : Nat) : Int) = n % ((2 ^ m : Nat) : Int) := by
    rw [Int.natCast_emod, Int.toNat_of_nonneg h1]
    exact Int.emod_emod_of_dvd n (Int.natCast_dvd_natCast.2 hd)
  rw [← h3]
  generalize (n % ((2 ^ 64 : Nat) : Int)).toNat % 2 ^ m = x at *
  generalize 2 ^ m = y at *
  omega
theorem and_16 (n : Int) : ∃ a : Nat, bits .and .i64 n 65535 = (a : Int) ∧ a < 65536 ∧ (a : Int) = n % 65536 := by
  refine ⟨(n % 65536).toNat, ?_, by omega, by omega⟩
  rw [and_mask 16 65535 n (by decide) (by omega)]
  have : ((2 ^ 16 : Nat) : Int) = 65536 := by decide
  rw [this]
  omega
theorem and_24 (n : Int) : ∃ a : Nat, bits .and .i64 n 16777215 = (a : Int) ∧ a < 16777216 := by
  refine ⟨(n % 16777216).toNat, ?_, by omega⟩
  rw [and_mask 24 16777215 n (by decide) (by omega)]
  have : ((2 ^ 24 : Nat) : Int) = 16777216 := by decide
  rw [this]
  omega
end Go.VB
