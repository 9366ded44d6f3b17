import Derived.WalkKit
import Derived.WalkLawsBesides
import Derived.WalkSpells
import Derived.Deep.QuietTactic
import Derived.BigQuiet
import Derived.BigRegion
import Derived.Deep.RegionHeld3
import Derived.Deep.AppendLies
import Derived.Deep.RegionLaw
import Derived.Deep.MidRow
import Derived.Deep.DeepCutAuto
import Derived.Deep.LoopGhost
import Derived.StillTailTactics
set_option linter.unusedVariables false
namespace Go.VB
open Go.RowKit
theorem hid {p : Prop} (h : p) : Hid p := h
/-- The world w' is w but for the blocks in S and for new blocks. -/
structure Fr (S : Nat → Prop) (w w' : World) : Prop where
  os : w'.os = w.os
  tape : w'.tape = w.tape
  output : w'.output = w.output
  size : w.heap.size ≤ w'.heap.size
  blk : ∀ k, k < w.heap.size → ¬ S k → w'.heap[k]? = w.heap[k]?

namespace Fr
variable {S T : Nat → Prop} {w w' w'' : World}
theorem refl (S : Nat → Prop) (w : World) : Fr S w w := ⟨rfl, rfl, rfl, Nat.le_refl _, fun _ _ _ => rfl⟩
theorem trans (h : Fr S w w') (k : Fr T w' w'') (hT : ∀ i, T i → i < w.heap.size → S i) : Fr S w w'' :=
  ⟨k.os.trans h.os, k.tape.trans h.tape, k.output.trans h.output, Nat.le_trans h.size k.size, fun i hi hn =>
    (k.blk i (Nat.lt_of_lt_of_le hi h.size) (fun ht => hn (hT i ht hi))).trans (h.blk i hi hn)⟩
theorem mono (h : Fr S w w') (hT : ∀ i, S i → i < w.heap.size → T i) : Fr T w w' :=
  ⟨h.os, h.tape, h.output, h.size, fun i hi hn => h.blk i hi (fun hs => hn (hT i hs hi))⟩
theorem drew (h : Fr S w w') : Fr S w w'.drew := ⟨h.os, h.tape, h.output, h.size, h.blk⟩
theorem drewN (h : Fr S w w') (n : Nat) : Fr S w (w'.drewN n) := ⟨h.os, h.tape, h.output, h.size, h.blk⟩
theorem alloc (h : Fr S w w') (o : Obj) : Fr S w (w'.alloc o) :=
  ⟨h.os, h.tape, h.output, by have := h.size; simp; omega, fun i hi hn => (Below.heap_alloc w' o i (Nat.lt_of_lt_of_le hi h.size)).trans (h.blk i hi hn)⟩
theorem setCell (h : Fr S w w') (a : Addr) (v : Value) (ha : a.block < w.heap.size → S a.block) : Fr S w (w'.setCell a v) :=
  ⟨h.os, h.tape, h.output, by have := h.size; simpa using this, fun i hi hn => (heap_setCell_other w' a i v (fun e => hn (e ▸ ha (e ▸ hi)))).trans (h.blk i hi hn)⟩
theorem setCells (b : Nat) (hb : b < w.heap.size → S b) : ∀ (vs : List Value) (o : Nat) (w' : World), Fr S w w' → Fr S w (w'.setCells b o vs)
  | [], _, _, h => h
  | v :: r, o, w', h => by
    rw [World.setCells]
    exact setCells b hb r (o + 1) _ (h.setCell ⟨b, o, none⟩ v hb)
theorem grown (h : Fr S w w') {row : Option Nat} (hg : w'.grownBy w'' row) (hr : ∀ k, row = some k → k < w.heap.size → S k) : Fr S w w'' :=
  ⟨hg.os.trans h.os, hg.tape.trans h.tape, hg.output.trans h.output, Nat.le_trans h.size hg.size, fun i hi hn =>
    (hg.block i (Nat.lt_of_lt_of_le hi h.size) (fun e => hn (hr i e.symm hi))).trans (h.blk i hi hn)⟩
theorem below (h : Fr S w w') (hS : ∀ i, S i → i < w.heap.size → False) : Below w.heap.size w w' :=
  ⟨h.os, h.tape, h.output, h.size, fun i hi => h.blk i hi (fun hs => hS i hs hi)⟩
theorem of_below (h : Below w.heap.size w w') : Fr S w w' := ⟨h.os, h.tape, h.output, h.size, fun i hi _ => h.block i hi⟩
theorem of_alike (h : w'.Alike w) (ht : w'.tape = w.tape) : Fr S w w' := by
  obtain ⟨h1, h2, h3⟩ := h
  exact ⟨by assumption, ht, by assumption, by rw [h1]; exact Nat.le_refl _, fun i _ _ => by rw [h1]⟩
end Fr

/-- Block b holds the cells l of element type t, none of them frozen. -/
def Blk (w : World) (b : Nat) (l : List Value) (t : TypeId) : Prop := w.heap[b]? = some (.cells l.toArray t (0, 0))

namespace Blk
variable {w w' : World} {b : Nat} {l : List Value} {t : TypeId}
theorem cell (h : Blk w b l t) (o : Nat) : w.cell? ⟨b, o, none⟩ = l[o]? := by simpa using cell_of_row w b o l.toArray t (0, 0) h
theorem frozen (h : Blk w b l t) (o : Nat) : w.frozen? ⟨b, o, none⟩ = false := frozen_of_row w b o l.toArray t h
theorem lt (h : Blk w b l t) : b < w.heap.size := (Array.getElem?_eq_some_iff.1 h).1
theorem alloc (h : Blk w b l t) (o : Obj) : Blk (w.alloc o) b l t := (Below.heap_alloc w o b h.lt).trans h
theorem new (w : World) (l : List Value) (t : TypeId) : Blk (w.alloc (.cells l.toArray t)) w.heap.size l t := heap_alloc_new w _
theorem new_of (w : World) {c : Array Value} {l : List Value} (t : TypeId) (h : c = l.toArray) : Blk (w.alloc (.cells c t)) w.heap.size l t := by subst h; exact heap_alloc_new w _
theorem drew (h : Blk w b l t) : Blk w.drew b l t := h
theorem drewN (h : Blk w b l t) (n : Nat) : Blk (w.drewN n) b l t := h
theorem set (h : Blk w b l t) (o : Nat) (v : Value) : Blk (w.setCell ⟨b, o, none⟩ v) b (l.set o v) t := by
  have := heap_setCell_same w b o l.toArray t v h
  unfold Blk
  rw [this]
  simp
theorem set_ne (h : Blk w b l t) (a : Addr) (v : Value) (hne : b ≠ a.block) : Blk (w.setCell a v) b l t := (heap_setCell_other w a b v hne).trans h
theorem of_heap (h : Blk w b l t) (he : w'.heap[b]? = w.heap[b]?) : Blk w' b l t := he.trans h
theorem fr {S : Nat → Prop} (h : Blk w b l t) (hf : Fr S w w') (hb : ¬ S b) : Blk w' b l t := h.of_heap (hf.blk b h.lt hb)
theorem grown {row : Option Nat} (h : Blk w b l t) (hg : w.grownBy w' row) (hne : some b ≠ row) : Blk w' b l t := h.of_heap (hg.block b h.lt hne)
theorem uniq {l' : List Value} {t' : TypeId} (h : Blk w b l t) (h' : Blk w b l' t') : l = l' ∧ t = t' := by
  unfold Blk at h h'
  rw [h] at h'
  simpa using h'
theorem ne_of_type {b' : Nat} {l' : List Value} {t' : TypeId} (h : Blk w b l t) (h' : Blk w b' l' t') (ht : t ≠ t') : b ≠ b' := by
  rintro rfl
  exact ht (h.uniq h').2
theorem range (h : Blk w b l t) (A m B : List Value) (hl : l = A ++ m ++ B) : w.rangeAt b A.length m := by
  intro j v hj
  rw [h.cell, hl]
  have hj' : j < m.length := (List.getElem?_eq_some_iff.1 hj).1
  rw [List.append_assoc, List.getElem?_append_right (by omega)]
  rw [List.getElem?_append_left (by omega)]
  simpa using hj
theorem there (h : Blk w b l t) (o n : Nat) (hn : o + n ≤ l.length) : w.there b o n := by
  intro j hj
  refine ⟨?_, h.frozen _⟩
  rw [h.cell, List.getElem?_eq_getElem (by omega)]; rfl
end Blk
/-- bytes as cells -/
def bv (l : List UInt8) : List Value := l.map fun c => .int .u8 (c.toNat : Int)
/-- a list of bytes as a string -/
def bs (l : List UInt8) : ByteArray := ⟨l.toArray⟩
theorem bv_length (l : List UInt8) : (bv l).length = l.length := by simp [bv]
theorem bv_append (l m : List UInt8) : bv (l ++ m) = bv l ++ bv m := by simp [bv]
theorem bv_take (l : List UInt8) (n : Nat) : bv (l.take n) = (bv l).take n := by simp [bv, List.map_take]
theorem bv_drop (l : List UInt8) (n : Nat) : bv (l.drop n) = (bv l).drop n := by simp [bv, List.map_drop]
theorem bv_inj {l m : List UInt8} (h : bv l = bv m) : l = m := by
  induction l generalizing m with
  | nil => cases m <;> simp_all [bv]
  | cons a l ih =>
    cases m with
    | nil => simp [bv] at h
    | cons b m =>
      simp only [bv, List.map_cons, List.cons.injEq, Value.int.injEq, true_and] at h
      obtain ⟨h1, h2⟩ := h
      have : a = b := UInt8.toNat_inj.1 (by omega)
      rw [this, ih (by simpa [bv] using h2)]
theorem bv_one (l : List UInt8) : ∀ v ∈ bv l, v.oneCell' = true := by
  intro v hv
  simp only [bv, List.mem_map] at hv
  obtain ⟨c, _, rfl⟩ := hv
  rfl
theorem bs_toList (s : ByteArray) : bs s.data.toList = s := by simp [bs]
theorem bs_append (a b : List UInt8) : bs a ++ bs b = bs (a ++ b) := by
  apply ByteArray.ext
  simp [bs]
theorem bs_size (l : List UInt8) : (bs l).size = l.length := by simp [bs, ByteArray.size]
theorem bs_inj {a b : List UInt8} (h : bs a = bs b) : a = b := by
  have := congrArg (fun s => s.data.toList) h
  simpa [bs] using this
theorem u8_ofNat_toNat (c : UInt8) : UInt8.ofNat ((c.toNat : Int)).toNat = c := by simp

theorem run_bytes_string {P : Program} {w : World} {b o : Nat} {l : List UInt8} (h : w.rangeAt b o (bv l)) {src dst e : TypeId} (hs : P.underlying src = some (.slice e)) (he : P.underlying e = some (.int .u8))
    (hd : P.underlying dst = some .string) (n cap : Nat) (hn : n = l.length) : (convert src dst (.slice (some ⟨b, o, none⟩) n cap)).run P w = .ok (.string (bs l)) w := by
  subst hn
  have := run_convert_bytes_arg (P := P) w src e hs he b o l.length cap (l.map fun c => (c.toNat : Int)) (by simp) (fun i hi => by
    refine h i _ ?_
    simp [bv, List.getElem?_eq_getElem hi]) dst hd
  rw [this]
  congr 2
  unfold strOfNums bs
  congr 1
  simp only [List.map_map]
  have : ((fun n : Int => UInt8.ofNat n.toNat) ∘ fun c : UInt8 => (c.toNat : Int)) = id := by funext c; simp
  rw [this, List.map_id]
theorem run_add_bs {P : Program} (w : World) (l m : List UInt8) (h : l.length + m.length ≤ 9223372036854775807) : (Op.stringOp .add (bs l) (bs m)).run P w = .ok (.string (bs (l ++ m))) w := by
  rw [run_string_add_sum w _ _ (by rw [bs_size, bs_size]; exact h), bs_append]
theorem tmod_fix (x n : Int) (hn : 0 < n) : (x.tmod n + n).tmod n = x % n := by
  have h1 := Int.tmod_lt_of_pos x hn
  have h2 : -n < x.tmod n := Int.lt_tmod_of_pos x hn
  rw [Int.tmod_eq_emod_of_nonneg (by omega), Int.add_emod_right]
  have h3 := Int.mul_tdiv_add_tmod x n
  conv => rhs; rw [← h3]
  rw [Int.add_comm, Int.add_mul_emod_self_left]

/-- copy of a whole string into a row of bytes, at a step of a region that draws -/
theorem run_copy_string {P : Program} {w : World} {td ts ty e : TypeId} (hu : P.underlying td = some (.slice e)) (he : (P.info? e).map (·.size) = some 1) {b o n cap : Nat} {l : List UInt8} (hl : l.length = n) (ht : w.there b o n) :
    (Builtin.copy_ #[td, ts] ty #[.slice (some ⟨b, o, none⟩) n cap, .string (bs l)]).run P w = .ok (.int .i64 n) (w.setCells b o (bv l)) := by
  subst hl
  cases hq : P.info? e with
  | none => simp [hq] at he
  | some i =>
    have hs : i.size = 1 := by simpa [hq] using he
    have hc := run_storeCells_cells (P := P) b o (bv l) 0 w (fun j hj => by simpa using (ht j (by simpa [bv] using hj)).1) (fun j hj => by simpa using (ht j (by simpa [bv] using hj)).2) (bv_one l)
    simp only [Nat.add_zero] at hc
    have hx2 : ((bs l).extract 0 l.length) = bs l := by
      apply ByteArray.ext; simp [bs]
    have hx3 : ((Array.map (fun b => Value.int IntKind.u8 ↑b.toNat) (bs l).data).toList) = bv l := by simp [bs, bv]
    simp [Builtin.copy_, run_underlying hu, sizeOf, typeInfo, hq, Builtin.lenOf, Builtin.firstCells, bs_size]
    simp only [Array.toList_map] at hx3
    simp [bs, goInt]
    rw [show List.take l.length (List.map (fun b : UInt8 => Value.int IntKind.u8 ↑b.toNat) l) = bv l from List.take_of_length_le (by simp), hc]
    rfl
theorem step_copy_string {P : Program} {ops : Array Oper} {op : Oper} {a : Act} {w : World} {K : Act → World → Prop} {Q : Exit → Act → World → Prop} {E : Prop}
    (hg : op.guard = none) (d s : Operand) (td ts e : TypeId) (hop : op.op = Op.call { callee := Callee.builtin Builtin.copy, args := #[d, s], argTypes := #[td, ts] })
    (hu : P.underlying td = some (.slice e)) (he : (P.info? e).map (·.size) = some 1) {b o n cap : Nat} {l : List UInt8} (hd : a.eval d = .slice (some ⟨b, o, none⟩) n cap) (hs : a.eval s = .string (bs l)) (hl : l.length = n) (ht : w.there b o n)
    (hK : K (a.put op.dst (.int .i64 n)) (w.setCells b o (bv l))) :
    if Region.wanted op (yielded ops a.tmps) = true then Oper.wp P op a w K Q else E := by
  have hw : Region.wanted op (yielded ops a.tmps) = true := by simp [Region.wanted, hg]
  rw [if_pos hw]
  unfold Oper.wp
  simp [execOp, hop, resolve, invoke, builtin, hd, hs, run_copy_string (P := P) (w := w) (ts := ts) (ty := op.type) hu he hl ht, Result.andThen]
  exact hK
theorem Blk.setCells {b : Nat} {t : TypeId} : ∀ (vs : List Value) (o : Nat) (w : World) (l : List Value), Blk w b l t → o + vs.length ≤ l.length → Blk (w.setCells b o vs) b (l.take o ++ vs ++ l.drop (o + vs.length)) t
  | [], o, w, l, h, _ => by simpa [World.setCells] using h
  | v :: r, o, w, l, h, hn => by
    rw [World.setCells]
    simp only [List.length_cons] at hn
    have := Blk.setCells r (o + 1) (w.setCell ⟨b, o, none⟩ v) (l.set o v) (h.set o v) (by simp; omega)
    have e : (l.set o v).take (o + 1) ++ r ++ (l.set o v).drop (o + 1 + r.length) = l.take o ++ v :: r ++ l.drop (o + (v :: r).length) := by
      have e1 : (l.set o v).take (o + 1) = l.take o ++ [v] := by
        rw [List.take_succ_eq_append_getElem (by simp; omega)]
        simp [List.take_set_of_le]
      have e2 : (l.set o v).drop (o + 1 + r.length) = l.drop (o + 1 + r.length) := by
        rw [List.drop_set_of_lt (by omega)]
      rw [e1, e2, show o + 1 + r.length = o + (v :: r).length from by simp only [List.length_cons]; omega]
      simp only [List.append_assoc, List.cons_append, List.nil_append]
    rwa [e] at this
theorem Blk.setCells_ne {b b' : Nat} {t : TypeId} (hne : b ≠ b') : ∀ (vs : List Value) (o : Nat) (w : World) (l : List Value), Blk w b l t → Blk (w.setCells b' o vs) b l t
  | [], _, _, _, h => h
  | v :: r, o, w, l, h => by
    rw [World.setCells]
    exact Blk.setCells_ne hne r (o + 1) _ l (h.set_ne _ v hne)
theorem Blk.put {w : World} {b : Nat} {l : List Value} {t : TypeId} (h : Blk w b l t) (o : Nat) (vs : List Value) (hn : o + vs.length ≤ l.length) : Blk (w.setCells b o vs) b (l.take o ++ vs ++ l.drop (o + vs.length)) t := Blk.setCells vs o w l h hn
theorem Blk.put_ne {w : World} {b : Nat} {l : List Value} {t : TypeId} (h : Blk w b l t) (b' o : Nat) (vs : List Value) (hne : b ≠ b') : Blk (w.setCells b' o vs) b l t := Blk.setCells_ne hne vs o w l h
theorem Fr.put {S : Nat → Prop} {w w' : World} (h : Fr S w w') (b o : Nat) (vs : List Value) (hb : b < w.heap.size → S b) : Fr S w (w'.setCells b o vs) := Fr.setCells b hb vs o w' h
theorem Blk.all (w : World) {b : Nat} {l : List Value} {t : TypeId} (h : Blk w b l t) : w.rangeAt b 0 l := by
  simpa using h.range [] l [] (by simp)
/-- the result lies in a cell of memory: a whole array or struct -/
theorem results_cell_mid {P : Program} {fn : Func} {p : Tmp} {ty : TypeId} (h : fn.results = #[.cell p ty]) (tmps : Array Value) (w : World) {b o : Nat} {cs : List Value} {d : TypeDesc}
    (hp : tmps.getD p undef = .pointer (some ⟨b, o, none⟩)) (hr : w.rangeAt b o cs) (hu : P.underlying ty = some d) (hd : d.isRow = true) (hi : (P.info? ty).map (·.size) = some cs.length) :
    (results fn tmps).run P w = .ok (.agg cs.toArray) w := by
  have := run_loadVar_mid (P := P) w b o ty cs d hr hu hd hi
  have hp' := hp
  rw [Array.getD_eq_getD_getElem?] at hp'
  simp [results, h, hp', asAddr, this]
/-- n zero bytes as cells (behind a name: simp writes a literal 'replicate' out) -/
def zcells (n : Nat) : List Value := List.replicate n (.int .u8 0)
theorem zcells_length (n : Nat) : (zcells n).length = n := by simp [zcells]
theorem put_two (z a b : List Value) (ha : z.length = a.length + b.length) :
    (z.take 0 ++ a ++ z.drop (0 + a.length)).take a.length ++ b ++ (z.take 0 ++ a ++ z.drop (0 + a.length)).drop (a.length + b.length) = a ++ b := by
  rw [List.take_zero, List.nil_append, List.take_left' rfl, List.drop_eq_nil_of_le (by rw [List.length_append, List.length_drop]; omega), List.append_nil]
end Go.VB
