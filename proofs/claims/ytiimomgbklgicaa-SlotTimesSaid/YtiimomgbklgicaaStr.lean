import Derived.Test.YtiimomgbklgicaaRow
import Derived.Laws.IdiomStrings
import Derived.Lib.BufferMore
/- []byte(s): the bytes of a string in new memory, written and read back. -/
set_option linter.unusedVariables false
namespace Go.VB
open Go.RowKit
/-- Block b holds the cells l of element type t; the mark behind its end is frozen. -/
def SBlk (w : World) (b : Nat) (l : List Value) (t : TypeId) : Prop := w.heap[b]? = some (.cells l.toArray t (l.length, l.length + 1))
namespace SBlk
variable {w w' : World} {b : Nat} {l : List Value} {t : TypeId}
theorem cell (h : SBlk w b l t) (o : Nat) : w.cell? ⟨b, o, none⟩ = l[o]? := by simpa using cell_of_row w b o l.toArray t _ h
theorem frozen (h : SBlk w b l t) {o : Nat} (ho : o < l.length) : w.frozen? ⟨b, o, none⟩ = false := by
  have h' : w.heap[b]? = some (.cells l.toArray t (l.length, l.length + 1)) := h
  simp [World.frozen?, h']
  omega
theorem lt (h : SBlk w b l t) : b < w.heap.size := (Array.getElem?_eq_some_iff.1 h).1
theorem of_heap (h : SBlk w b l t) (he : w'.heap[b]? = w.heap[b]?) : SBlk w' b l t := he.trans h
theorem fr {S : Nat → Prop} (h : SBlk w b l t) (hf : Fr S w w') (hb : ¬ S b) : SBlk w' b l t := h.of_heap (hf.blk b h.lt hb)
theorem drew (h : SBlk w b l t) : SBlk w.drew b l t := h
theorem set (h : SBlk w b l t) (o : Nat) (v : Value) : SBlk (w.setCell ⟨b, o, none⟩ v) b (l.set o v) t := by
  have := Go.Lib.heap_setCell_same (i := o) h v
  unfold SBlk
  rw [this]
  simp
theorem range (h : SBlk w b l t) (A m B : List Value) (hl : l = A ++ m ++ B) : w.rangeAt b A.length m := by
  intro j v hj
  rw [h.cell, hl]
  have hj' : j < m.length := (List.getElem?_eq_some_iff.1 hj).1
  rw [List.append_assoc, List.getElem?_append_right (by omega)]
  rw [List.getElem?_append_left (by omega)]
  simpa using hj
theorem head (h : SBlk w b l t) (m B : List Value) (hl : l = m ++ B) : w.rangeAt b 0 m := h.range [] m B (by simpa using hl)
end SBlk
/-- what '[]byte(s)' leaves: n bytes and spare room in a new block -/
structure StrB (e : TypeId) (w w' : World) (b c : Nat) (l : List UInt8) : Prop where
  at_ : b = w.heap.size
  cap : l.length ≤ c
  blk : SBlk w' b (bv l ++ List.replicate (c - l.length) (.int .u8 0)) e
  fr : Fr (fun _ => False) w w'
theorem StrB.rng {e : TypeId} {w w' : World} {b c : Nat} {l : List UInt8} (h : StrB e w w' b c l) : w'.rangeAt b 0 (bv l) := h.blk.head _ _ rfl
theorem run_str_bytes {P : Program} (w : World) (src dst e : TypeId) (l : List UInt8) (hs : P.underlying src = some .string) (hd : P.underlying dst = some (.slice e)) (he : P.underlying e = some (.int .u8)) :
    ∃ c w', (convert src dst (.string (bs l))).run P w = .ok (.slice (some ⟨w.heap.size, 0, none⟩) l.length c) w' ∧ StrB e w w' w.heap.size c l := by
  have h := run_bytes_of_string (P := P) w src dst e (bs l) hs hd he
  rw [bs_size] at h
  have hge := grownCap_ge w l.length 0 e
  refine ⟨_, _, h, rfl, hge, ?_, ((Fr.refl _ w).drew).alloc _⟩
  have e1 : bytesRow (bs l) (grownCap w l.length 0 e) = (bv l ++ List.replicate (grownCap w l.length 0 e - l.length) (Value.int .u8 0)).toArray := by
    apply Array.ext'
    simp [bytesRow, bv, bs, ByteArray.size]
  rw [e1]
  have h2 := heap_alloc_new w.drew (.cells (bv l ++ List.replicate (grownCap w l.length 0 e - l.length) (Value.int .u8 0)).toArray e ((bv l ++ List.replicate (grownCap w l.length 0 e - l.length) (Value.int .u8 0)).toArray.size, (bv l ++ List.replicate (grownCap w l.length 0 e - l.length) (Value.int .u8 0)).toArray.size + 1))
  unfold SBlk
  rw [show (bv l ++ List.replicate (grownCap w l.length 0 e - l.length) (Value.int .u8 0)).length = (bv l ++ List.replicate (grownCap w l.length 0 e - l.length) (Value.int .u8 0)).toArray.size by simp]
  exact h2
theorem wpList_str_bytes {P : Program} {ops : Array Oper} {rest : List Oper} {op : Oper} {a : Act} {w : World} {Q : Exit → Act → World → Prop} (hgd : op.guard = none) {src dst e : TypeId} {x : Operand} (ho : op.op = .convert src dst x)
    (hs : P.underlying src = some .string) (hd : P.underlying dst = some (.slice e)) (he : P.underlying e = some (.int .u8)) {l : List UInt8} (hx : a.eval x = .string (bs l))
    (h : ∀ (c : Nat) (w' : World), StrB e w w' w.heap.size c l → wpList P ops Q rest (a.put op.dst (.slice (some ⟨w.heap.size, 0, none⟩) l.length c)) w') : wpList P ops Q (op :: rest) a w :=
  wpList_plain hgd fun _ hK => by
    obtain ⟨c, w', hr, hb⟩ := run_str_bytes (P := P) w src dst e l hs hd he
    unfold Oper.wp execOp
    simp only [ho, hx, hr, Sem.run_bind, Sem.run_pure, Result.andThen_ok]
    exact hK _ _ (h c w' hb)
/-- one byte of it written -/
theorem StrB.set {e : TypeId} {w w' : World} {b c : Nat} {l : List UInt8} (h : StrB e w w' b c l) {i : Nat} (hi : i < l.length) (x : UInt8) :
    SBlk (w'.setCell ⟨b, i, none⟩ (.int .u8 (x.toNat : Int))) b (bv (l.set i x) ++ List.replicate (c - l.length) (.int .u8 0)) e := by
  have := h.blk.set i (.int .u8 (x.toNat : Int))
  rw [List.set_append_left _ _ (by rw [bv_length]; exact hi)] at this
  have e1 : (bv l).set i (.int .u8 (x.toNat : Int)) = bv (l.set i x) := by
    unfold bv
    rw [List.map_set]
  rwa [e1] at this
theorem StrB.free {e : TypeId} {w w' : World} {b c : Nat} {l : List UInt8} (h : StrB e w w' b c l) {i : Nat} (hi : i < l.length) : w'.frozen? ⟨b, i, none⟩ = false := h.blk.frozen (by rw [List.length_append, bv_length]; omega)
theorem StrB.at (e : TypeId) {w w' : World} {b c : Nat} {l : List UInt8} (h : StrB e w w' b c l) {i : Nat} (hi : i < l.length) : w'.cell? ⟨b, i, none⟩ = some (.int .u8 ((l[i]).toNat : Int)) := by
  rw [h.blk.cell, List.getElem?_append_left (by rw [bv_length]; exact hi)]
  simp [bv, hi]
end Go.VB
