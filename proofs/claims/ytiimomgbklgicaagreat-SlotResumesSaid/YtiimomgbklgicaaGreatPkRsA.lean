import Derived.WalkKit
import Derived.WalkLawsBesides
import Derived.WalkSpells
import Derived.Deep.QuietTactic
import Derived.BigQuiet
import Derived.BigRegion
import Derived.Deep.RegionHeld3
import Derived.Deep.AppendLies
import Derived.Deep.RegionLaw
import Derived.Deep.MidRow
import Derived.Deep.DeepCutAuto
import Derived.Deep.LoopGhost
import Derived.StillTailTactics
import Derived.OrdersHeld
import Derived.Laws.StructEq
import Derived.Below
import Derived.ChangeSame
import Derived.ProofKit
import Derived.OpenShut
import Derived.ChangeArms
import Derived.WideShapes
import Derived.ChangeMaps5
set_option linter.unusedVariables false
namespace Go.VB
open Go.RowKit
theorem hid {p : Prop} (h : p) : Hid p := h
/-- The world w' is w but for the blocks in S and for new blocks. -/
structure Fr (S : Nat → Prop) (w w' : World) : Prop where
  os : w'.os = w.os
  tape : w'.tape = w.tape
  output : w'.output = w.output
  size : w.heap.size ≤ w'.heap.size
  blk : ∀ k, k < w.heap.size → ¬ S k → w'.heap[k]? = w.heap[k]?
namespace Fr
variable {S T : Nat → Prop} {w w' w'' : World}
theorem refl (S : Nat → Prop) (w : World) : Fr S w w := ⟨rfl, rfl, rfl, Nat.le_refl _, fun _ _ _ => rfl⟩
theorem trans (h : Fr S w w') (k : Fr T w' w'') (hT : ∀ i, T i → i < w.heap.size → S i) : Fr S w w'' :=
  ⟨k.os.trans h.os, k.tape.trans h.tape, k.output.trans h.output, Nat.le_trans h.size k.size, fun i hi hn =>
    (k.blk i (Nat.lt_of_lt_of_le hi h.size) (fun ht => hn (hT i ht hi))).trans (h.blk i hi hn)⟩
theorem mono (h : Fr S w w') (hT : ∀ i, S i → i < w.heap.size → T i) : Fr T w w' :=
  ⟨h.os, h.tape, h.output, h.size, fun i hi hn => h.blk i hi (fun hs => hn (hT i hs hi))⟩
theorem drew (h : Fr S w w') : Fr S w w'.drew := ⟨h.os, h.tape, h.output, h.size, h.blk⟩
theorem drewN (h : Fr S w w') (n : Nat) : Fr S w (w'.drewN n) := ⟨h.os, h.tape, h.output, h.size, h.blk⟩
theorem alloc (h : Fr S w w') (o : Obj) : Fr S w (w'.alloc o) :=
  ⟨h.os, h.tape, h.output, by have := h.size; simp; omega, fun i hi hn => (Below.heap_alloc w' o i (Nat.lt_of_lt_of_le hi h.size)).trans (h.blk i hi hn)⟩
theorem setCell (h : Fr S w w') (a : Addr) (v : Value) (ha : a.block < w.heap.size → S a.block) : Fr S w (w'.setCell a v) :=
  ⟨h.os, h.tape, h.output, by have := h.size; simpa using this, fun i hi hn => (heap_setCell_other w' a i v (fun e => hn (e ▸ ha (e ▸ hi)))).trans (h.blk i hi hn)⟩
theorem setCells (b : Nat) (hb : b < w.heap.size → S b) : ∀ (vs : List Value) (o : Nat) (w' : World), Fr S w w' → Fr S w (w'.setCells b o vs)
  | [], _, _, h => h
  | v :: r, o, w', h => by
    rw [World.setCells]
    exact setCells b hb r (o + 1) _ (h.setCell ⟨b, o, none⟩ v hb)
theorem grown (h : Fr S w w') {row : Option Nat} (hg : w'.grownBy w'' row) (hr : ∀ k, row = some k → k < w.heap.size → S k) : Fr S w w'' :=
  ⟨hg.os.trans h.os, hg.tape.trans h.tape, hg.output.trans h.output, Nat.le_trans h.size hg.size, fun i hi hn =>
    (hg.block i (Nat.lt_of_lt_of_le hi h.size) (fun e => hn (hr i e.symm hi))).trans (h.blk i hi hn)⟩
end Fr
/-- Block b holds the cells l of element type t, none of them frozen. -/
def Blk (w : World) (b : Nat) (l : List Value) (t : TypeId) : Prop := w.heap[b]? = some (.cells l.toArray t (0, 0))
namespace Blk
variable {w w' : World} {b : Nat} {l : List Value} {t : TypeId}
theorem cell (h : Blk w b l t) (o : Nat) : w.cell? ⟨b, o, none⟩ = l[o]? := by simpa using cell_of_row w b o l.toArray t (0, 0) h
theorem frozen (h : Blk w b l t) (o : Nat) : w.frozen? ⟨b, o, none⟩ = false := frozen_of_row w b o l.toArray t h
theorem lt (h : Blk w b l t) : b < w.heap.size := (Array.getElem?_eq_some_iff.1 h).1
theorem alloc (h : Blk w b l t) (o : Obj) : Blk (w.alloc o) b l t := (Below.heap_alloc w o b h.lt).trans h
theorem new (w : World) (l : List Value) (t : TypeId) : Blk (w.alloc (.cells l.toArray t)) w.heap.size l t := heap_alloc_new w _
theorem drew (h : Blk w b l t) : Blk w.drew b l t := h
theorem drewN (h : Blk w b l t) (n : Nat) : Blk (w.drewN n) b l t := h
theorem set (h : Blk w b l t) (o : Nat) (v : Value) : Blk (w.setCell ⟨b, o, none⟩ v) b (l.set o v) t := by
  have := heap_setCell_same w b o l.toArray t v h
  unfold Blk
  rw [this]
  simp
theorem set_ne (h : Blk w b l t) (a : Addr) (v : Value) (hne : b ≠ a.block) : Blk (w.setCell a v) b l t := (heap_setCell_other w a b v hne).trans h
theorem of_heap (h : Blk w b l t) (he : w'.heap[b]? = w.heap[b]?) : Blk w' b l t := he.trans h
theorem fr {S : Nat → Prop} (h : Blk w b l t) (hf : Fr S w w') (hb : ¬ S b) : Blk w' b l t := h.of_heap (hf.blk b h.lt hb)
theorem grown {row : Option Nat} (h : Blk w b l t) (hg : w.grownBy w' row) (hne : some b ≠ row) : Blk w' b l t := h.of_heap (hg.block b h.lt hne)
theorem uniq {l' : List Value} {t' : TypeId} (h : Blk w b l t) (h' : Blk w b l' t') : l = l' ∧ t = t' := by
  unfold Blk at h h'
  rw [h] at h'
  simpa using h'
theorem ne_of_type {b' : Nat} {l' : List Value} {t' : TypeId} (h : Blk w b l t) (h' : Blk w b' l' t') (ht : t ≠ t') : b ≠ b' := by
  rintro rfl
  exact ht (h.uniq h').2
theorem range (h : Blk w b l t) (A m B : List Value) (hl : l = A ++ m ++ B) : w.rangeAt b A.length m := by
  intro j v hj
  rw [h.cell, hl]
  have hj' : j < m.length := (List.getElem?_eq_some_iff.1 hj).1
  rw [List.append_assoc, List.getElem?_append_right (by omega)]
  rw [List.getElem?_append_left (by omega)]
  simpa using hj
theorem there (h : Blk w b l t) (o n : Nat) (hn : o + n ≤ l.length) : w.there b o n := by
  intro j hj
  refine ⟨?_, h.frozen _⟩
  rw [h.cell, List.getElem?_eq_getElem (by omega)]; rfl
end Blk
/-- bytes as cells -/
def bv (l : List UInt8) : List Value := l.map fun c => .int .u8 (c.toNat : Int)
/-- a list of bytes as a string -/
def bs (l : List UInt8) : ByteArray := ⟨l.toArray⟩
theorem bv_length (l : List UInt8) : (bv l).length = l.length := by simp [bv]
theorem bv_append (l m : List UInt8) : bv (l ++ m) = bv l ++ bv m := by simp [bv]
theorem bv_one (l : List UInt8) : ∀ v ∈ bv l, v.oneCell' = true := by
  intro v hv
  simp only [bv, List.mem_map] at hv
  obtain ⟨c, _, rfl⟩ := hv
  rfl
theorem bs_append (a b : List UInt8) : bs a ++ bs b = bs (a ++ b) := by
  apply ByteArray.ext
  simp [bs]
theorem bs_size (l : List UInt8) : (bs l).size = l.length := by simp [bs, ByteArray.size]
theorem bs_inj {a b : List UInt8} (h : bs a = bs b) : a = b := by
  have := congrArg (fun s => s.data.toList) h
  simpa [bs] using this
theorem run_bytes_string {P : Program} {w : World} {b o : Nat} {l : List UInt8} (h : w.rangeAt b o (bv l)) {src dst e : TypeId} (hs : P.underlying src = some (.slice e)) (he : P.underlying e = some (.int .u8))
    (hd : P.underlying dst = some .string) (n cap : Nat) (hn : n = l.length) : (convert src dst (.slice (some ⟨b, o, none⟩) n cap)).run P w = .ok (.string (bs l)) w := by
  subst hn
  have := run_convert_bytes_arg (P := P) w src e hs he b o l.length cap (l.map fun c => (c.toNat : Int)) (by simp) (fun i hi => by
    refine h i _ ?_
    simp [bv, List.getElem?_eq_getElem hi]) dst hd
  rw [this]
  congr 2
  unfold strOfNums bs
  congr 1
  simp only [List.map_map]
  have : ((fun n : Int => UInt8.ofNat n.toNat) ∘ fun c : UInt8 => (c.toNat : Int)) = id := by funext c; simp
  rw [this, List.map_id]
theorem run_add_bs {P : Program} (w : World) (l m : List UInt8) (h : l.length + m.length ≤ 9223372036854775807) : (Op.stringOp .add (bs l) (bs m)).run P w = .ok (.string (bs (l ++ m))) w := by
  rw [run_string_add_sum w _ _ (by rw [bs_size, bs_size]; exact h), bs_append]
theorem tmod_fix (x n : Int) (hn : 0 < n) : (x.tmod n + n).tmod n = x % n := by
  have h1 := Int.tmod_lt_of_pos x hn
  have h2 : -n < x.tmod n := Int.lt_tmod_of_pos x hn
  rw [Int.tmod_eq_emod_of_nonneg (by omega), Int.add_emod_right]
  have h3 := Int.mul_tdiv_add_tmod x n
  conv => rhs; rw [← h3]
  rw [Int.add_comm, Int.add_mul_emod_self_left]
theorem Blk.setCells {b : Nat} {t : TypeId} : ∀ (vs : List Value) (o : Nat) (w : World) (l : List Value), Blk w b l t → o + vs.length ≤ l.length → Blk (w.setCells b o vs) b (l.take o ++ vs ++ l.drop (o + vs.length)) t
  | [], o, w, l, h, _ => by simpa [World.setCells] using h
  | v :: r, o, w, l, h, hn => by
    rw [World.setCells]
    simp only [List.length_cons] at hn
    have := Blk.setCells r (o + 1) (w.setCell ⟨b, o, none⟩ v) (l.set o v) (h.set o v) (by simp; omega)
    have e : (l.set o v).take (o + 1) ++ r ++ (l.set o v).drop (o + 1 + r.length) = l.take o ++ v :: r ++ l.drop (o + (v :: r).length) := by
      have e1 : (l.set o v).take (o + 1) = l.take o ++ [v] := by
        rw [List.take_succ_eq_append_getElem (by simp; omega)]
        simp [List.take_set_of_le]
      have e2 : (l.set o v).drop (o + 1 + r.length) = l.drop (o + 1 + r.length) := by
        rw [List.drop_set_of_lt (by omega)]
      rw [e1, e2, show o + 1 + r.length = o + (v :: r).length from by simp only [List.length_cons]; omega]
      simp only [List.append_assoc, List.cons_append, List.nil_append]
    rwa [e] at this
theorem Blk.setCells_ne {b b' : Nat} {t : TypeId} (hne : b ≠ b') : ∀ (vs : List Value) (o : Nat) (w : World) (l : List Value), Blk w b l t → Blk (w.setCells b' o vs) b l t
  | [], _, _, _, h => h
  | v :: r, o, w, l, h => by
    rw [World.setCells]
    exact Blk.setCells_ne hne r (o + 1) _ l (h.set_ne _ v hne)
theorem Blk.put {w : World} {b : Nat} {l : List Value} {t : TypeId} (h : Blk w b l t) (o : Nat) (vs : List Value) (hn : o + vs.length ≤ l.length) : Blk (w.setCells b o vs) b (l.take o ++ vs ++ l.drop (o + vs.length)) t := Blk.setCells vs o w l h hn
theorem Blk.put_ne {w : World} {b : Nat} {l : List Value} {t : TypeId} (h : Blk w b l t) (b' o : Nat) (vs : List Value) (hne : b ≠ b') : Blk (w.setCells b' o vs) b l t := Blk.setCells_ne hne vs o w l h
theorem Fr.put {S : Nat → Prop} {w w' : World} (h : Fr S w w') (b o : Nat) (vs : List Value) (hb : b < w.heap.size → S b) : Fr S w (w'.setCells b o vs) := Fr.setCells b hb vs o w' h
theorem Blk.all (w : World) {b : Nat} {l : List Value} {t : TypeId} (h : Blk w b l t) : w.rangeAt b 0 l := by
  simpa using h.range [] l [] (by simp)
/-- the result lies in a cell of memory: a whole array or struct -/
theorem results_cell_mid {P : Program} {fn : Func} {p : Tmp} {ty : TypeId} (h : fn.results = #[.cell p ty]) (tmps : Array Value) (w : World) {b o : Nat} {cs : List Value} {d : TypeDesc}
    (hp : tmps.getD p undef = .pointer (some ⟨b, o, none⟩)) (hr : w.rangeAt b o cs) (hu : P.underlying ty = some d) (hd : d.isRow = true) (hi : (P.info? ty).map (·.size) = some cs.length) :
    (results fn tmps).run P w = .ok (.agg cs.toArray) w := by
  have := run_loadVar_mid (P := P) w b o ty cs d hr hu hd hi
  have hp' := hp
  rw [Array.getD_eq_getD_getElem?] at hp'
  simp [results, h, hp', asAddr, this]
end Go.VB
namespace Go.VB
open Go.RowKit
section
variable {P : Program} {ops : Array Oper} {Q : Exit → Act → World → Prop} {md : Region.Mode} {S : Nat → World → Prop}
/-- does the operation's result hang on its operands alone? -/
def isPure (o : Oper) : Bool :=
  match o.op with
  | .move _ | .assign _ | .pick .. | .nilCheck _ | .binOp .. | .unOp .. | .fieldAddr .. | .field .. | .indexAddr .. | .slice .. | .extract .. => true
  | .call { callee := .builtin .len, .. } | .call { callee := .builtin .cap, .. } | .call { callee := .builtin .min, .. } | .call { callee := .builtin .max, .. } => true
  | _ => false
/-- every operation from n on waits for operation i -/
def lateB (ops : Array Oper) (n i : Nat) : Bool :=
  decide (n < ops.size) && (List.range ops.size).all fun t => decide (t < n) || ((ops[t]?).map fun o => o.after.any fun e => Region.binds .any e && e.on == i).getD false
end
end Go.VB
namespace Go.VB
open Go.RowKit
section
variable {P : Program} {ops : Array Oper} {Q : Exit → Act → World → Prop} {S : Nat → World → Prop}
/-- the n-th of a list: reduces to the very element -/
def nth : List Oper → Nat → Option Oper
  | [], _ => none
  | o :: _, 0 => some o
  | _ :: l, n + 1 => nth l n
theorem nth_eq : ∀ (l : List Oper) (i : Nat), nth l i = l[i]?
  | [], _ => by simp [nth]
  | o :: l, 0 => by simp [nth]
  | o :: l, n + 1 => by simp [nth, nth_eq l n]
theorem nth_at {i : Nat} {o : Oper} (h : nth ops.toList i = some o) : ops[i]? = some o := by rw [nth_eq] at h; simpa using h
end
end Go.VB
namespace Go.VB
open Go.RowKit
section
variable {P : Program} {ops : Array Oper} {Q : Exit → Act → World → Prop} {md : Region.Mode} {S : Nat → World → Prop}
def wpNE (P : Program) (md : Region.Mode) (ops : Array Oper) (Q : Exit → Act → World → Prop) (S : Nat → World → Prop) : Nat → Array Bool → Act → World → Prop
  | 0, listed, a, w => Region.ready md ops listed = [] ∧ Q .normal a w
  | fuel + 1, listed, a, w =>
    (Region.ready md ops listed = [] → Q .normal a w) ∧
    ∀ i ∈ Region.ready md ops listed, wpOp P ops Q i (fun a' w' => (∀ k, i < k → k ≤ ops.size → S k w → S k w') ∧ wpNE P md ops Q S fuel (listed.setIfInBounds i true) a' w') a w
theorem wpN_anyE : ∀ (fuel : Nat) (listed : Array Bool) (a : Act) (w : World), wpNE P md ops Q S fuel listed a w → wpAny P md ops Q fuel listed a w
  | 0, _, _, _, h => h
  | fuel + 1, _, _, _, h => ⟨h.1, fun i hi => wpOp_mono (fun a' w' h' => wpN_anyE fuel _ a' w' h'.2) (h.2 i hi)⟩
/-- an operation may be taken first: it yields its value wherever S holds (T: S, or nothing for an operation that looks at no memory) -/
theorem wpN_firstE {T : World → Prop} {i : Nat} {oi : Oper} {v : Value} (hi : ops[i]? = some oi) (hsel : ∀ (j : Nat) (o : Oper) cs b, ops[j]? = some o → o.op ≠ .select cs b)
    (hQ : ∀ c a w, Q (.panic c) (a.put oi.dst v) w → Q (.panic c) a w)
    (hT : (∀ w, T w) ∨ (∃ k, T = S k ∧ k ≤ ops.size ∧ ∀ t ot, ops[t]? = some ot → k ≤ t → ∃ e ∈ ot.after, Region.binds md e = true ∧ e.on = i)) :
    ∀ (fuel : Nat) (listed : Array Bool) (a : Act) (w : World),
      (∀ j oj, ops[j]? = some oj → j ≠ i → listed.getD j true = false → (∀ e ∈ oj.after, Region.binds md e = true → e.on ≠ i) → oi.apart ops oj = true) →
      i ∈ Region.ready md ops listed → YieldsIf P ops T oi v a → T w →
      wpNE P md ops Q S fuel (listed.setIfInBounds i true) (a.put oi.dst v) w → wpNE P md ops Q S (fuel + 1) listed a w := by
  intro fuel
  induction fuel with
  | zero =>
    intro listed a w _ hr hy hw H
    refine ⟨fun h => (by rw [h] at hr; cases hr), fun j hj => ?_⟩
    by_cases hji : j = i
    · subst hji; exact hy.wpOp hi hw ⟨fun _ _ _ h => h, H⟩
    · have := ready_mono hj hji
      rw [H.1] at this
      cases this
  | succ fuel ih =>
    intro listed a w hfree hr hy hw H
    refine ⟨fun h => (by rw [h] at hr; cases hr), fun j hj => ?_⟩
    by_cases hji : j = i
    · subst hji; exact hy.wpOp hi hw ⟨fun _ _ _ h => h, H⟩
    · have h1 := H.2 j (ready_mono hj hji)
      obtain ⟨hjun, oj, hoj, hall⟩ := mem_ready.1 hj
      have hnot : ∀ e ∈ oj.after, Region.binds md e = true → e.on ≠ i := fun e he hb heq => by
        have h1 := hall e he hb
        have h0 := (mem_ready.1 hr).1
        rw [heq] at h1
        rcases Nat.lt_or_ge i listed.size with h' | h'
        · simp [h'] at h0 h1; rw [h0] at h1; cases h1
        · simp [Array.getElem?_eq_none h'] at h1
      have h2 := wpOp_putIf hoj (hfree j oj hoj hji hjun hnot) (fun cs b => hsel i oi cs b hi) (fun cs b => hsel j oj cs b hoj) hQ hy h1
      have hfree' : ∀ k ok, ops[k]? = some ok → k ≠ i → (listed.setIfInBounds j true).getD k true = false →
          (∀ e ∈ ok.after, Region.binds md e = true → e.on ≠ i) → oi.apart ops ok = true := fun k ok hk hki hun hno => by
        refine hfree k ok hk hki ?_ hno
        by_cases hjk : j = k
        · subst hjk; exact hjun
        · rw [getD_set_ne true hjk] at hun; exact hun
      refine wpOp_mono (fun a' w' h3 => ?_) h2
      obtain ⟨hy', hS', hn'⟩ := h3
      have hTw : T w' := by
        rcases hT with hT | ⟨k, rfl, hks, hT⟩
        · exact hT _
        · rcases Nat.lt_or_ge j k with h' | h'
          · exact hS' k h' hks hw
          · obtain ⟨e, he, hb, hon⟩ := hT j oj hoj h'
            exact absurd hon (hnot e he hb)
      refine ⟨hS', ih (listed.setIfInBounds j true) a' w' hfree' (ready_mono hr (Ne.symm hji)) hy' hTw ?_⟩
      rw [Array.setIfInBounds_comm _ _ hji]
      exact hn'
def andKE (n i : Nat) (S : Nat → World → Prop) (w0 w : World) (H : Prop) : Prop := (∀ k, i < k → k ≤ n → S k w0 → S k w) ∧ H
def lateE (ops : Array Oper) (n i : Nat) : Bool := decide (n = ops.size) || lateB ops n i
end
end Go.VB
namespace Go.VB
open Go.RowKit
section
variable {P : Program} {ops : Array Oper} {Q : Exit → Act → World → Prop} {S : Nat → World → Prop}
inductive Scr where
  | done : Scr
  | take (i : Nat) (s : Scr) : Scr
  | op (i : Nat) (s : Scr) : Scr
  | two (i j : Nat) (s t : Scr) : Scr
def Scr.len : Scr → Nat
  | .done => 0
  | .take _ s => s.len + 1
  | .op _ s => s.len + 1
  | .two _ _ s _ => s.len + 1
def scrB (ops : Array Oper) : Scr → Array Bool → Bool
  | .done, listed => (Region.ready .any ops listed).isEmpty
  | .take i s, listed => (Region.ready .any ops listed).contains i && Region.free .any ops listed i && scrB ops s (listed.setIfInBounds i true)
  | .op i s, listed => (Region.ready .any ops listed == [i]) && scrB ops s (listed.setIfInBounds i true)
  | .two i j s t, listed => (Region.ready .any ops listed == [i, j]) && scrB ops s (listed.setIfInBounds i true) && scrB ops t (listed.setIfInBounds j true) && (s.len == t.len)
def isPureT (o : Oper) : Bool := isPure o || match o.op with | .convert .. | .index .. => true | _ => false
def Scr.code : Scr → List Nat
  | .done => [3]
  | .take i s => (4 * i) :: s.code
  | .op i s => (4 * i + 1) :: s.code
  | .two i j s t => (4 * i + 2) :: (4 * j + 2) :: (s.code ++ t.code)
def wpScr (P : Program) (ops : Array Oper) (S : Nat → World → Prop) (Q : Exit → Act → World → Prop) : Scr → Act → World → Prop
  | .done, a, w => Q .normal a w
  | .take i s, a, w => ∃ o, nth ops.toList i = some o ∧
    (if Region.wanted o (yielded ops a.tmps) then ∃ v, ((∀ w, (execOp a.eval o).run P w = .ok (.value v) w) ∨ ∃ k, lateE ops k i = true ∧ S k w ∧ ∀ w, S k w → (execOp a.eval o).run P w = .ok (.value v) w) ∧ wpScr P ops S Q s (a.put o.dst v) w
      else wpScr P ops S Q s (a.put o.dst undef) w)
  | .op i s, a, w => ∃ o, nth ops.toList i = some o ∧ wpList P ops (Exit.then (fun a' w' => andKE ops.size i S w w' (wpScr P ops S Q s a' w')) Q) [o] a w
  | .two i j s t, a, w => (∃ o, nth ops.toList i = some o ∧ wpList P ops (Exit.then (fun a' w' => andKE ops.size i S w w' (wpScr P ops S Q s a' w')) Q) [o] a w) ∧
      (∃ o, nth ops.toList j = some o ∧ wpList P ops (Exit.then (fun a' w' => andKE ops.size j S w w' (wpScr P ops S Q t a' w')) Q) [o] a w)
theorem wpOp_scr {j : Nat} {s : Scr} {fuel : Nat} {listed : Array Bool} {a : Act} {w : World} {o : Oper} (ho : ops[j]? = some o) (ih : ∀ a' w', wpScr P ops S Q s a' w' → wpNE P .any ops Q S fuel listed a' w')
    (h : wpList P ops (Exit.then (fun a' w' => andKE ops.size j S w w' (wpScr P ops S Q s a' w')) Q) [o] a w) :
    wpOp P ops Q j (fun a' w' => (∀ k, j < k → k ≤ ops.size → S k w → S k w') ∧ wpNE P .any ops Q S fuel listed a' w') a w := by
  have hK : ∀ a' w', andKE ops.size j S w w' (wpScr P ops S Q s a' w') → (∀ k, j < k → k ≤ ops.size → S k w → S k w') ∧ wpNE P .any ops Q S fuel listed a' w' := fun a' w' hk => ⟨hk.1, ih _ _ hk.2⟩
  simp only [wpList] at h
  unfold wpOp
  simp only [ho]
  split
  · rename_i hw
    rw [if_pos hw] at h
    rcases h with h | h
    · exact .inl (Oper.wp_mono hK h)
    · exact .inr h
  · rename_i hw
    rw [if_neg hw] at h
    exact hK _ _ h
theorem wpN_scr (hsel : Region.noSelect ops = true) (hQ : ∀ c (a : Act) d v w, Q (.panic c) (a.put d v) w → Q (.panic c) a w) :
    ∀ (s : Scr) (listed : Array Bool) (a : Act) (w : World), scrB ops s listed = true → wpScr P ops S Q s a w → wpNE P .any ops Q S s.len listed a w
  | .done, listed, a, w, hb, h => by
    simp only [scrB, List.isEmpty_iff] at hb
    exact ⟨hb, h⟩
  | .take i s, listed, a, w, hb, h => by
    simp only [scrB, Bool.and_eq_true] at hb
    obtain ⟨⟨h1, h2⟩, hb⟩ := hb
    obtain ⟨o, ho, h⟩ := h
    have ho := nth_at ho
    have fin : ∀ (T : World → Prop) (v : Value), ((∀ w, T w) ∨ (∃ k, T = S k ∧ k ≤ ops.size ∧ ∀ t ot, ops[t]? = some ot → k ≤ t → ∃ e ∈ ot.after, Region.binds .any e = true ∧ e.on = i)) → T w → YieldsIf P ops T o v a →
        wpScr P ops S Q s (a.put o.dst v) w → wpNE P .any ops Q S (Scr.take i s).len listed a w := by
      intro T v hT hTw hy hk
      exact wpN_firstE ho (Region.noSelect_spec hsel) (fun c a w => hQ c a _ _ w) hT _ listed a w (Region.free_spec ho h2) (by simpa using h1) hy hTw (wpN_scr hsel hQ s _ _ _ hb hk)
    by_cases hw : Region.wanted o (yielded ops a.tmps) = true
    · rw [if_pos hw] at h
      obtain ⟨v, h3, hk⟩ := h
      rcases h3 with hv | ⟨k, h3, hS, hv⟩
      · exact fin (fun _ => True) v (.inl fun _ => trivial) trivial (.inl ⟨hw, fun w _ => hv w⟩) hk
      · simp only [lateE, Bool.or_eq_true, decide_eq_true_eq] at h3
        rcases h3 with h3 | h3
        · refine fin (S k) v (.inr ⟨k, rfl, Nat.le_of_eq h3, fun t ot hot hn => ?_⟩) hS (.inl ⟨hw, fun w hw => hv w hw⟩) hk
          have := (Array.getElem?_eq_some_iff.1 hot).1
          omega
        · simp only [lateB, Bool.and_eq_true, decide_eq_true_eq] at h3
          refine fin (S k) v (.inr ⟨k, rfl, Nat.le_of_lt h3.1, fun t ot hot hn => ?_⟩) hS (.inl ⟨hw, fun w hw => hv w hw⟩) hk
          have h4 := List.all_eq_true.1 h3.2 t (List.mem_range.2 (Array.getElem?_eq_some_iff.1 hot).1)
          simp only [Bool.or_eq_true, decide_eq_true_eq, hot, Option.map_some, Option.getD_some] at h4
          rcases h4 with h4 | h4
          · omega
          · obtain ⟨e, he, hb⟩ := Array.any_eq_true'.1 h4
            simp only [Bool.and_eq_true, beq_iff_eq] at hb
            exact ⟨e, he, hb.1, hb.2⟩
    · rw [if_neg hw] at h
      exact fin (fun _ => True) undef (.inl fun _ => trivial) trivial (.inr ⟨by simpa using hw, rfl⟩) h
  | .op i s, listed, a, w, hb, h => by
    simp only [scrB, Bool.and_eq_true, beq_iff_eq] at hb
    obtain ⟨hr1, hb⟩ := hb
    obtain ⟨o, ho, h⟩ := h
    refine ⟨fun h0 => (by rw [hr1] at h0; cases h0), fun j hj => ?_⟩
    rw [hr1] at hj
    simp only [List.mem_singleton] at hj
    subst hj
    exact wpOp_scr (nth_at ho) (fun a' w' h' => wpN_scr hsel hQ s _ _ _ hb h') h
  | .two i j s t, listed, a, w, hb, h => by
    simp only [scrB, Bool.and_eq_true, beq_iff_eq] at hb
    obtain ⟨⟨⟨hr1, hb1⟩, hb2⟩, hl⟩ := hb
    obtain ⟨⟨o1, ho1, h1⟩, ⟨o2, ho2, h2⟩⟩ := h
    refine ⟨fun h0 => (by rw [hr1] at h0; cases h0), fun k hk => ?_⟩
    rw [hr1] at hk
    simp only [List.mem_cons, List.not_mem_nil, or_false] at hk
    rcases hk with rfl | rfl
    · exact wpOp_scr (nth_at ho1) (fun a' w' h' => wpN_scr hsel hQ s _ _ _ hb1 h') h1
    · refine wpOp_scr (nth_at ho2) (fun a' w' h' => ?_) h2
      have := wpN_scr hsel hQ t _ _ _ hb2 h'
      rwa [← hl] at this
theorem scr_any {l : List Oper} {a : Act} {w : World} (m : Scr) (S : Nat → World → Prop) (hs : (Region.noSelect l.toArray && decide (m.len = l.toArray.size) && scrB l.toArray m (Array.replicate l.toArray.size false)) = true)
    (hQ : ∀ c (a : Act) d v w, Q (.panic c) (a.put d v) w → Q (.panic c) a w)
    (h : wpScr P l.toArray S Q m a w.drew) : wpAny P .any l.toArray Q l.toArray.size (Array.replicate l.toArray.size false) a { w with drawn := w.drawn + 1 } := by
  simp only [Bool.and_eq_true, decide_eq_true_eq] at hs
  obtain ⟨⟨hsel, hlen⟩, hb⟩ := hs
  refine wpN_anyE (S := S) _ _ _ _ ?_
  rw [← hlen]
  exact wpN_scr hsel hQ m _ a w.drew (by rw [hlen]; exact hb) h
theorem wp_region_scr {id : Nat} {l : List Oper} {a : Act} {w : World} (m : Scr) (S : Nat → World → Prop) (hm : P.follows .mixedOrders = true) (hs : (Region.noSelect l.toArray && decide (m.len = l.toArray.size) && scrB l.toArray m (Array.replicate l.toArray.size false)) = true)
    (hQ : ∀ c (a : Act) d v w, Q (.panic c) (a.put d v) w → Q (.panic c) a w)
    (h : wpScr P l.toArray S Q m a w.drew) : (Code.region id l.toArray true).wp P Q a w :=
  wp_region_any hm (scr_any m S hs hQ h)
theorem wpT_pure {i : Nat} {m : Scr} {a : Act} {w : World} {o : Oper} (ho : nth ops.toList i = some o) (hw : Region.wanted o (yielded ops a.tmps) = true) (_hk : isPureT o = true)
    (h : ∃ v, (∀ w, (execOp a.eval o).run P w = .ok (.value v) w) ∧ wpScr P ops S Q m (a.put o.dst v) w) : wpScr P ops S Q (.take i m) a w := by
  obtain ⟨v, hrun, h⟩ := h
  refine ⟨o, ho, ?_⟩
  rw [if_pos hw]
  exact ⟨v, .inl hrun, h⟩
theorem wpT_take {i : Nat} {m : Scr} {a : Act} {w : World} {o : Oper} (k : Nat) (ho : nth ops.toList i = some o) (hw : Region.wanted o (yielded ops a.tmps) = true) (hk : lateE ops k i = true) (hS : S k w)
    (h : ∃ v, (∀ w, S k w → (execOp a.eval o).run P w = .ok (.value v) w) ∧ wpScr P ops S Q m (a.put o.dst v) w) : wpScr P ops S Q (.take i m) a w := by
  obtain ⟨v, hrun, h⟩ := h
  refine ⟨o, ho, ?_⟩
  rw [if_pos hw]
  exact ⟨v, .inr ⟨k, hk, hS, hrun⟩, h⟩
theorem wpT_skip {i : Nat} {m : Scr} {a : Act} {w : World} {o : Oper} (ho : nth ops.toList i = some o) (hw : Region.wanted o (yielded ops a.tmps) = false)
    (h : wpScr P ops S Q m (a.put o.dst undef) w) : wpScr P ops S Q (.take i m) a w := by
  refine ⟨o, ho, ?_⟩
  rw [if_neg (by simp [hw])]
  exact h
theorem wpT_op {i : Nat} {m : Scr} {a : Act} {w : World} {o : Oper} (ho : nth ops.toList i = some o) (h : wpList P ops (Exit.then (fun a' w' => andKE ops.size i S w w' (wpScr P ops S Q m a' w')) Q) [o] a w) : wpScr P ops S Q (.op i m) a w := ⟨o, ho, h⟩
theorem wpT_two {i j : Nat} {s t : Scr} {a : Act} {w : World} (h1 : wpScr P ops S Q (.op i s) a w) (h2 : wpScr P ops S Q (.op j t) a w) : wpScr P ops S Q (.two i j s t) a w := ⟨h1, h2⟩
theorem wpT_nil {a : Act} {w : World} (h : Q .normal a w) : wpScr P ops S Q .done a w := h
end
end Go.VB
namespace Go.VB
open Go.RowKit
theorem run_load_mid {P : Program} {op : Oper} {a : Act} {w : World} (ty : TypeId) (x : Operand) (ho : op.op = .load ty x) (b o : Nat) (hx : a.eval x = .pointer (some ⟨b, o, none⟩)) (cs : List Value) (d : TypeDesc) (hc : w.rangeAt b o cs)
    (hu : P.underlying ty = some d) (hd : d.isRow = true) (hi : (P.info? ty).map (·.size) = some cs.length) : (execOp a.eval op).run P w = .ok (.value (.agg cs.toArray)) w := by
  unfold execOp
  simp only [ho, hx, Instr.loadAt, Instr.sureAddr, Sem.run_bind, Sem.run_pure, Result.andThen_ok, run_loadVar_mid w b o ty cs d hc hu hd hi]
theorem wpList_load_g {P : Program} {ops : Array Oper} {rest : List Oper} {op : Oper} {a : Act} {w : World} {Q : Exit → Act → World → Prop} (hw : Region.wanted op (yielded ops a.tmps) = true) (ty : TypeId) (x : Operand) (ho : op.op = .load ty x) (b o : Nat) (hx : a.eval x = .pointer (some ⟨b, o, none⟩)) (cs : List Value) (d : TypeDesc) (hc : w.rangeAt b o cs)
    (hu : P.underlying ty = some d) (hd : d.isRow = true) (hi : (P.info? ty).map (·.size) = some cs.length) (h : wpList P ops Q rest (a.put op.dst (.agg cs.toArray)) w) : wpList P ops Q (op :: rest) a w := by
  simp only [wpList]
  rw [if_pos hw]
  left
  unfold Oper.wp
  rw [run_load_mid ty x ho b o hx cs d hc hu hd hi]
  exact h
end Go.VB
namespace Go.VB
open Go.RowKit
/-- x is a source of m elements whose cells are news -/
def Src (P : Program) (w : World) (size : Nat) (x : Value) (m : Nat) (news : List Value) : Prop :=
  news.length = m * size ∧ (∀ u ∈ news, u.oneCell' = true) ∧ ∀ w1 : World, w1.heap = w.heap → (Builtin.lenOf x).run P w1 = .ok m w1 ∧ (Builtin.firstCells size m x).run P w1 = .ok news.toArray w1
theorem cell?_of_heap {w w1 : World} (h : w1.heap = w.heap) (a : Addr) : w1.cell? a = w.cell? a := by simp [World.cell?, h]
theorem Src.slice {P : Program} {w : World} {size b o m c : Nat} {news : List Value} (hl : news.length = m * size) (h1 : ∀ u ∈ news, u.oneCell' = true) (hr : w.rangeAt b o news) : Src P w size (.slice (some ⟨b, o, none⟩) m c) m news :=
  ⟨hl, h1, fun w1 hw => ⟨by simp [Builtin.lenOf], run_firstCells_some (P := P) w1 size m ⟨b, o, none⟩ m c news hl fun j v hj => by rw [Addr.add_mid, cell?_of_heap hw]; exact hr j v hj⟩⟩
theorem Src.nil {P : Program} {w : World} (size c : Nat) : Src P w size (.slice none 0 c) 0 [] :=
  ⟨by simp, by simp, fun w1 _ => ⟨by simp [Builtin.lenOf], by simpa using run_firstCells_none (P := P) w1 size 0 0 c⟩⟩
theorem Src.string {P : Program} {w : World} (l : List UInt8) : Src P w 1 (.string (bs l)) l.length (bv l) := by
  refine ⟨by simp [bv], bv_one l, fun w1 _ => ⟨by simp [Builtin.lenOf, bs_size], ?_⟩⟩
  simp only [Builtin.firstCells, Sem.run_pure]
  congr 1
  apply Array.ext'
  have : (bs l).extract 0 l.length = bs l := by apply ByteArray.ext; simp [bs]
  rw [this]
  simp [bs, bv]
theorem run_append {P : Program} {w : World} {t tx ty e : TypeId} {dx : TypeDesc} (hu : P.underlying t = some (.slice e)) (hx : P.underlying tx = some dx) (hdx : dx = .string ∨ ∃ e', dx = .slice e')
    {z : Value} {size bytes : Nat} (hinfo : (P.info? e).map (fun i => (i.zero, i.size, i.bytes)) = some (some z, size, bytes)) (hzs : z.cells.size = size)
    {v : Value} {n : Nat} {xs : List Value} (hown : w.ownsRow 0 e size v n xs) {x : Value} {m : Nat} {news : List Value} (hsrc : Src P w size x m news)
    (h63 : n + m ≤ 1099511627776) (hbytes : (n + m) * bytes ≤ 140737488355328) :
    ∃ v' w', (Builtin.append_ #[t, tx] ty #[v, x]).run P w = .ok v' w' ∧ w'.ownsRow 0 e size v' (n + m) (xs ++ news) ∧ w.grownBy w' v.ownBlock ∧
      (∀ k, v'.ownBlock = some k → v.ownBlock = some k ∨ k = w.heap.size) ∧ ∃ a c, v' = .slice a (n + m) c := by
  obtain ⟨i, hi, hz0, hz1, hz2⟩ := info_parts hinfo
  obtain ⟨hl, h1, hs⟩ := hsrc
  subst hz1
  subst hz2
  have hmax : n + m ≤ maxLen := by simp only [maxLen]; omega
  have hlen : (xs ++ news).length = (n + m) * i.size := by rw [List.length_append, hown.1, hl, Nat.add_mul]
  have grown : ∀ (old : Nat), old < n + m → ∀ (row : Option Nat),
      (w.drew.alloc (.cells (xs.toArray ++ news.toArray ++ Builtin.zeroCells z.cells (grownCap w (n + m) old e - (n + m))) e)).ownsRow 0 e i.size
        (.slice (some ⟨w.heap.size, 0, none⟩) (n + m) (grownCap w (n + m) old e)) (n + m) (xs ++ news) ∧
      w.grownBy (w.drew.alloc (.cells (xs.toArray ++ news.toArray ++ Builtin.zeroCells z.cells (grownCap w (n + m) old e - (n + m))) e)) row := by
    intro old ho row
    have hge := grownCap_ge w (n + m) old e
    have hcm : grownCap w (n + m) old e ≤ maxLen := grownCap_le_maxLen w (n + m) old e hmax
    refine ⟨⟨hlen, .inr ⟨w.heap.size, _, _, rfl, Nat.zero_le _, heap_alloc_new w.drew _, hge, hcm, ?_, ?_⟩⟩, ⟨rfl, rfl, rfl, by simp, fun k hk _ => Below.heap_alloc w.drew _ k hk⟩⟩
    · simp only [Array.size_append, List.size_toArray, size_zeroCells, hzs, hown.1, hl, ← Nat.add_mul]
      congr 1
      omega
    · simp only [Array.toList_append, List.append_assoc]
      rw [← List.append_assoc, ← hlen]
      exact List.take_left
  have fits : ∀ old, old < n + m → ¬ (281474976710656 < Builtin.nextslicecap (n + m) old * i.bytes) := by
    intro old ho
    have h2 := nextslicecap_le ho
    have : Builtin.nextslicecap (n + m) old * i.bytes ≤ 2 * (n + m) * i.bytes := Nat.mul_le_mul_right _ h2
    rw [Nat.mul_assoc] at this
    omega
  obtain ⟨q1, q2⟩ := hs w rfl
  obtain ⟨q3, q4⟩ := hs w.drew rfl
  have big : ¬ (9223372036854775807 < ((n : Int) + (m : Int))) := by omega
  -- the run, by what the row is
  have grow : ∀ (base : Option Addr) (cap : Nat), cap < n + m → (∀ w1 : World, w1.heap = w.heap → (Builtin.firstCells i.size n (.slice base n cap)).run P w1 = .ok xs.toArray w1) →
      (Builtin.append_ #[t, tx] ty #[.slice base n cap, x]).run P w = .ok (.slice (some ⟨w.heap.size, 0, none⟩) (n + m) (grownCap w (n + m) cap e))
        (w.drew.alloc (.cells (xs.toArray ++ news.toArray ++ Builtin.zeroCells z.cells (grownCap w (n + m) cap e - (n + m))) e)) := by
    intro base cap hc hfo
    have hn : ¬ (n + m ≤ cap) := by omega
    have h48' := fits cap hc
    have hf := hfo w.drew rfl
    rcases hdx with rfl | ⟨e', rfl⟩ <;>
    · simp [Builtin.append_, run_underlying hu, run_underlying hx, sizeOf, typeInfo, zeroValue, hi, hz0, q1, q4, hn, big, h48', Question.forced, hf, newRow, grownCap]
      congr 2
      apply Array.ext'
      simp [List.append_assoc]
  rcases hown.2 with ⟨rfl, rfl⟩ | ⟨g, cap, cur, rfl, hbg, hg, hnc, hcm, hcs, htake⟩
  · have hxs : xs = [] := List.eq_nil_of_length_eq_zero (by simpa using hown.1)
    by_cases hm : m = 0
    · subst hm
      subst hxs
      have hn : news = [] := List.eq_nil_of_length_eq_zero (by simpa using hl)
      subst hn
      refine ⟨.slice none 0 0, w, ?_, World.ownsRow_nil w 0 e i.size, ⟨rfl, rfl, rfl, Nat.le_refl _, fun _ _ _ => rfl⟩, by simp [Value.ownBlock], none, 0, rfl⟩
      rcases hdx with rfl | ⟨e', rfl⟩ <;> simp [Builtin.append_, run_underlying hu, run_underlying hx, sizeOf, typeInfo, hi, q1, q2]
    · have hgr := grown 0 (by omega) (Value.ownBlock (.slice none 0 0))
      refine ⟨_, _, grow none 0 (by omega) ?_, hgr.1, hgr.2, by simp [Value.ownBlock], _, _, rfl⟩
      intro w1 _
      rw [hxs]
      exact run_firstCells_none (P := P) w1 i.size 0 0 0
  · by_cases hroom : n + m ≤ cap
    · have hfit : n * i.size + news.length ≤ cur.size := by rw [hl, hcs, ← Nat.add_mul]; exact Nat.mul_le_mul_right _ hroom
      have hst := run_storeCells_at P g (n * i.size) e news 0 cur w hg (by simpa using hfit) h1
      simp only [Nat.add_zero] at hst
      refine ⟨.slice (some ⟨g, 0, none⟩) (n + m) cap, w.setRow g (cur.toList.take (n * i.size) ++ news ++ cur.toList.drop (n * i.size + news.length)).toArray, ?_, ⟨hlen, .inr ⟨g, cap, _, rfl, hbg, setRow_heap w g cur _ e _ hg, hroom, hcm, ?_, ?_⟩⟩, ⟨rfl, rfl, rfl, by simp, fun k _ hk => setRow_other w g k _ (fun e => hk (by simp [Value.ownBlock, e]))⟩, fun k hk => .inl hk, _, _, rfl⟩
      · rcases hdx with rfl | ⟨e', rfl⟩ <;> simp [Builtin.append_, run_underlying hu, run_underlying hx, sizeOf, typeInfo, hi, q1, q2, hroom, Addr.add_lit, hst]
      · simp only [List.size_toArray, List.length_append, List.length_take, List.length_drop, Array.length_toList]
        omega
      · rw [htake, ← hlen]
        exact List.take_left
    · have holds : ∀ j u, xs[j]? = some u → w.cell? ((⟨g, 0, none⟩ : Addr).add j) = some u := hown.cells (g := g) rfl
      have hgr := grown cap (by omega) (Value.ownBlock (.slice (some ⟨g, 0, none⟩) n cap))
      refine ⟨_, _, grow _ cap (by omega) ?_, hgr.1, hgr.2, by simp [Value.ownBlock], _, _, rfl⟩
      intro w1 hw1
      exact run_firstCells_some (P := P) w1 i.size n ⟨g, 0, none⟩ n cap xs hown.1 (fun j u hu => by rw [cell?_of_heap hw1]; exact holds j u hu)
theorem wpList_append {P : Program} {ops : Array Oper} {rest : List Oper} {op : Oper} {a : Act} {w : World} {Q : Exit → Act → World → Prop} (hgd : op.guard = none) {s x : Operand} {t tx : TypeId}
    (ho : op.op = .call { callee := .builtin .append, args := #[s, x], argTypes := #[t, tx] }) {e : TypeId} {dx : TypeDesc} (hu : P.underlying t = some (.slice e)) (hx : P.underlying tx = some dx) (hdx : dx = .string ∨ ∃ e', dx = .slice e')
    {z : Value} {size bytes : Nat} (hinfo : (P.info? e).map (fun i => (i.zero, i.size, i.bytes)) = some (some z, size, bytes)) (hzs : z.cells.size = size)
    {v xv : Value} (hs : a.eval s = v) (hxv : a.eval x = xv) {n : Nat} {xs : List Value} (hown : w.ownsRow 0 e size v n xs) {m : Nat} {news : List Value} (hsrc : Src P w size xv m news)
    (h63 : n + m ≤ 1099511627776) (hbytes : (n + m) * bytes ≤ 140737488355328)
    (h : ∀ (b : Option Addr) (c : Nat) (w' : World), w'.ownsRow 0 e size (.slice b (n + m) c) (n + m) (xs ++ news) → w.grownBy w' v.ownBlock → (∀ k, (Value.slice b (n + m) c).ownBlock = some k → v.ownBlock = some k ∨ k = w.heap.size) →
      wpList P ops Q rest (a.put op.dst (.slice b (n + m) c)) w') : wpList P ops Q (op :: rest) a w :=
  wpList_plain hgd fun _ hK => by
    obtain ⟨v', w', hr, h1, h2, h3, b, c, rfl⟩ := run_append (ty := op.type) hu hx hdx hinfo hzs hown hsrc h63 hbytes
    unfold Oper.wp execOp
    simp only [ho, resolve, invoke, builtin, Sem.run_bind, Sem.run_pure, Result.andThen_ok, List.map_toArray, List.map_cons, List.map_nil, hs, hxv, hr]
    exact hK _ _ (h b c w' h1 h2 h3)
theorem ownsRow_ne {w : World} {b0 d : Nat} {l : List Value} {t e : TypeId} (hb : Blk w d l t) (hte : t ≠ e) {size n : Nat} {v : Value} {xs : List Value} (h : w.ownsRow b0 e size v n xs) : ∀ k, v.ownBlock = some k → k ≠ d := by
  intro k hk e
  subst e
  rcases h.2 with ⟨rfl, _⟩ | ⟨g, cap, cur, rfl, -, hg, -⟩
  · simp [Value.ownBlock] at hk
  · simp [Value.ownBlock] at hk; subst hk
    exact hte (hb.uniq (show Blk w g cur.toList e by unfold Blk; simpa using hg)).2
end Go.VB
namespace Go.VB
open Go.RowKit Go.WideShapes Go.ChangeShapes
section
variable {H : Type} {enc : TypeId × Value → H} {P : Program}
theorem mapM_keep {α β : Type} {f g : α → Option β} : ∀ (l : List α) (ys : List β), l.mapM f = some ys → (∀ x ∈ l, ∀ y ∈ ys, f x = some y → g x = some y) → l.mapM g = some ys
  | [], ys, h, _ => by simpa using h
  | x :: l, ys, h, k => by
    simp only [List.mapM_cons, Option.bind_eq_bind, Option.bind_eq_some_iff, Option.pure_def, Option.some.injEq] at h ⊢
    obtain ⟨y, hy, zs, hz, rfl⟩ := h
    exact ⟨y, k x (by simp) y (by simp) hy, zs, mapM_keep l zs hz (fun a ha b hb => k a (by simp [ha]) b (by simp [hb])), rfl⟩
theorem mapM_len {α β : Type} {f : α → Option β} : ∀ (l : List α) (ys : List β), l.mapM f = some ys → ys.length = l.length
  | [], ys, h => by simp at h; subst h; rfl
  | x :: l, ys, h => by
    simp only [List.mapM_cons, Option.bind_eq_bind, Option.bind_eq_some_iff, Option.pure_def, Option.some.injEq] at h
    obtain ⟨y, hy, zs, hz, rfl⟩ := h
    simp [mapM_len l zs hz]
theorem cell_keep {w w' : World} (h : ∀ k, k < w.heap.size → w'.heap[k]? = w.heap[k]?) {a : Addr} {v : Value} (hv : w.cell? a = some v) : w'.cell? a = some v := by
  have hb : a.block < w.heap.size := by
    apply Nat.lt_of_not_le
    intro hle
    unfold World.cell? at hv
    rw [Array.getElem?_eq_none hle] at hv
    cases hv
  rw [World.cell?_of_block (w := w) (h a.block hb)]; exact hv
theorem cells_keep {w w' : World} (h : ∀ k, k < w.heap.size → w'.heap[k]? = w.heap[k]?) {base : Nat} {a : Addr} {n : Nat} {cs : List Value} (hc : w.cells? base a n = some cs) : w'.cells? base a n = some cs := by
  unfold World.cells? at *
  split at hc
  · rename_i hb
    rw [if_pos hb]
    exact mapM_keep _ _ hc fun i _ v _ hv => cell_keep h hv
  · cases hc
/-- the types of the text: what they are made of is among them; no slice has elements of no cell -/
def soundB (P : Program) : Bool := (List.range P.types.size).all fun t => match P.underlying t with
  | some (.pointer e) => decide (e < P.types.size)
  | some (.slice e) => decide (e < P.types.size) && P.cellsOf e != 0
  | some (.struct fs) => fs.toList.all fun f => decide (f.type < P.types.size)
  | some (.array _ e) => decide (e < P.types.size)
  | some (.map _ e) => decide (e < P.types.size)
  | _ => true
theorem soundB_at {P : Program} (h : soundB P = true) {t : TypeId} (ht : t < P.types.size) {d : TypeDesc} (hd : P.underlying t = some d) : (match d with
  | .pointer e => e < P.types.size
  | .slice e => e < P.types.size ∧ P.cellsOf e ≠ 0
  | .struct fs => ∀ f ∈ fs.toList, f.type < P.types.size
  | .array _ e => e < P.types.size
  | .map _ e => e < P.types.size
  | _ => True) := by
  have := List.all_eq_true.1 h t (List.mem_range.2 ht)
  rw [hd] at this
  cases d <;> first
    | exact trivial
    | exact of_decide_eq_true this
    | (obtain ⟨h1, h2⟩ := Bool.and_eq_true_iff.1 this; exact ⟨of_decide_eq_true h1, by simpa using h2⟩)
    | exact fun f hf => of_decide_eq_true (List.all_eq_true.1 this f hf)
theorem trod_keep {w w' : World} (h : ∀ k, k < w.heap.size → w'.heap[k]? = w.heap[k]?) (hz : soundB P = true) {base : Nat} {sp : Nat → Bool} :
    ∀ (fuel : Nat) (t : TypeId) (cs : List Value) (r : DataW H × List MemPlace), t < P.types.size → DataW.trod enc P w base (fun _ => true) true fuel t cs = some r → (∀ p ∈ r.2, sp p.block = true) → DataW.trod enc P w' base sp true fuel t cs = some r
  | 0, t, cs, r, _, hr, _ => by simp [DataW.trod] at hr
  | fuel + 1, t, cs, r, htt, hr, hp => by
    have ih := trod_keep h hz (base := base) (sp := sp) fuel
    have hat0 := fun d => soundB_at hz htt (d := d)
    unfold DataW.trod at hr ⊢
    split at hr <;> try exact hr
    · -- pointer
      rename_i e a hu
      have hu := hat0 _ hu
      simp only [Option.map_eq_some_iff, Option.bind_eq_some_iff] at hr ⊢
      obtain ⟨x, ⟨cs, hc, hx⟩, rfl⟩ := hr
      exact ⟨x, ⟨cs, cells_keep h hc, ih _ _ _ hu hx fun p hpx => hp p (List.mem_append_right _ hpx)⟩, rfl⟩
    · -- slice
      rename_i e a len cap hu
      have hu := hat0 _ hu
      dsimp only at hr ⊢
      split at hr
      case isFalse => cases hr
      rename_i hb
      rw [if_pos hb]
      simp only [Option.map_eq_some_iff, Option.bind_eq_some_iff, if_true] at hr ⊢
      obtain ⟨elems, he, rest, hs, rfl⟩ := hr
      dsimp only at hp
      have l1 := mapM_len _ _ he
      have l2 := mapM_len _ _ hs
      rw [List.length_range] at l1 l2
      have hat : ∀ (l : List Nat) (ys : List (DataW H × List MemPlace)), (∀ y ∈ ys, y ∈ elems ++ rest) → ∀ (g : Nat → Nat), l.mapM (fun i => (w.cells? base (a.add (g i * P.cellsOf e)) (P.cellsOf e)).bind (DataW.trod enc P w base (fun _ => true) true fuel e)) = some ys →
          l.mapM (fun i => (w'.cells? base (a.add (g i * P.cellsOf e)) (P.cellsOf e)).bind (DataW.trod enc P w' base sp true fuel e)) = some ys := by
        intro l ys hys g hl
        refine mapM_keep _ _ hl fun i _ y hy hiy => ?_
        simp only [Option.bind_eq_some_iff] at hiy ⊢
        obtain ⟨cs, hc, hx⟩ := hiy
        refine ⟨cs, cells_keep h hc, ih _ _ _ hu.1 hx fun p hpx => hp p (List.mem_append_right _ ?_)⟩
        exact List.mem_flatMap.2 ⟨y, hys y hy, hpx⟩
      refine ⟨elems, hat _ _ (fun y hy => List.mem_append_left _ hy) (fun i => i) he, rest, ?_, rfl⟩
      by_cases h0 : elems.length + rest.length = 0
      · have r0 : rest = [] := List.eq_nil_of_length_eq_zero (by omega)
        subst r0
        have : cap - len = 0 := by simpa using l2.symm
        split
        · rw [this]; rfl
        · rfl
      · have hsp : sp a.block = true := by
          refine hp (.cell a.block (a.off + 0)) (List.mem_append_left _ ?_)
          unfold MemPlace.row
          refine List.mem_map.2 ⟨0, List.mem_range.2 ?_, rfl⟩
          have := hu.2
          exact Nat.mul_pos (by omega) (by omega)
        rw [if_pos hsp]
        exact hat _ _ (fun y hy => List.mem_append_right _ hy) (fun i => len + i) hs
    · -- struct
      rename_i fs _ hu
      have hu := hat0 _ hu
      split at hr
      case isFalse => cases hr
      rename_i hb
      rw [if_pos hb]
      simp only [Option.map_eq_some_iff] at hr ⊢
      obtain ⟨xs, hx, rfl⟩ := hr
      exact ⟨xs, mapM_keep _ _ hx fun f hff y hy hf => ih _ _ _ (hu f hff) hf fun p hpx => hp p (List.mem_flatMap.2 ⟨y, hy, hpx⟩), rfl⟩
    · -- array
      rename_i n e _ hu
      have hu := hat0 _ hu
      split at hr
      case isFalse => cases hr
      rename_i hb
      rw [if_pos hb]
      simp only [Option.map_eq_some_iff] at hr ⊢
      obtain ⟨xs, hx, rfl⟩ := hr
      exact ⟨xs, mapM_keep _ _ hx fun f _ y hy hf => ih _ _ _ hu hf fun p hpx => hp p (List.mem_flatMap.2 ⟨y, hy, hpx⟩), rfl⟩
    · -- map
      rename_i k e b hu
      have hu := hat0 _ hu
      split at hr
      case h_2 => cases hr
      rename_i es clock hm
      have hbs : b < w.heap.size := (Array.getElem?_eq_some_iff.1 hm).1
      rw [h b hbs, hm]
      dsimp only
      split at hr
      case isFalse => cases hr
      rename_i hb
      rw [if_pos hb]
      simp only [Option.bind_eq_some_iff] at hr ⊢
      obtain ⟨en, he, hr⟩ := hr
      have hr0 := hr
      skip
      split at hr
      case isFalse => cases hr
      rename_i hs
      obtain rfl := Option.some.inj hr
      refine ⟨en, mapM_keep _ _ he fun x _ y hy hx => ?_, hr0⟩
      simp only [Option.bind_eq_some_iff] at hx ⊢
      obtain ⟨key, hk, hx⟩ := hx
      refine ⟨key, hk, ?_⟩
      split at hx
      case isFalse => cases hx
      rename_i hf
      rw [if_pos hf]
      simp only [Option.map_eq_some_iff] at hx ⊢
      obtain ⟨z, hz2, rfl⟩ := hx
      exact ⟨z, ih _ _ _ hu hz2 fun p hpx => hp p (List.mem_cons_of_mem _ (List.mem_flatMap.2 ⟨_, hy, hpx⟩)), rfl⟩
theorem trodAll_keep {w w' : World} (h : ∀ k, k < w.heap.size → w'.heap[k]? = w.heap[k]?) (hz : soundB P = true) {base : Nat} {sp : Nat → Bool} :
    ∀ (ts : List TypeId) (vs : List Value) (ds : List (DataW H)) (ps : List MemPlace), (∀ t ∈ ts, t < P.types.size) → DataW.TrodAll enc P w base (fun _ => true) true ts vs ds ps → (∀ p ∈ ps, sp p.block = true) → DataW.TrodAll enc P w' base sp true ts vs ds ps
  | [], [], [], _, _, hr, _ => hr
  | t :: ts, v :: vs, d :: ds, ps, htt, hr, hp => by
    obtain ⟨p, q, ⟨fuel, h1⟩, h2, rfl⟩ := hr
    exact ⟨p, q, ⟨fuel, trod_keep h hz _ _ _ _ (htt t (by simp)) h1 fun x hx => hp x (List.mem_append_left _ hx)⟩, trodAll_keep h hz ts vs ds q (fun x hx => htt x (by simp [hx])) h2 fun x hx => hp x (List.mem_append_right _ hx), rfl⟩
  | [], _ :: _, _, _, _, hr, _ => hr.elim
  | [], [], _ :: _, _, _, hr, _ => hr.elim
  | _ :: _, [], _, _, _, hr, _ => hr.elim
  | _ :: _, _ :: _, [], _, _, hr, _ => hr.elim
theorem post_law {f : Func} {s : ChangeSpec} {apart fresh handsOn again : Bool} {W W' : World} {args : Array Value} {ds gs : List (DataW H)} {before : List MemPlace} {tb : TypeId}
    (hz : soundB P = true) (hpar : f.params.toList.all (fun t => decide (t < P.types.size)) = true) (hs : s.vars = []) (hf : f.resultTypes = #[tb]) (ht : P.underlying tb = some .bool) (hfn : s.fn H (ds ++ gs) = { results := [.lit (.bool true)], args := ds })
    (hW : DataW.Whole enc P f.params.toList s.vars apart W args.toList ds gs before) (hb : Fr (fun _ => False) W W') : s.post enc P f apart fresh handsOn again W args (.bool true) W' := by
  have hB : Below W.heap.size W W' := ⟨hb.os, hb.tape, hb.output, hb.size, fun k hk => hb.blk k hk (fun h => h)⟩
  have hlt : ∀ p ∈ before, p.block < W.heap.size := fun p hp => hW.lt p hp
  have hold : ∀ p ∈ before, (fun b => decide (b < W.heap.size)) p.block = true := fun p hp => by simpa using hlt p hp
  have hW' := hW
  obtain ⟨p, q, hA, hV, hpq, hfz, hnd⟩ := hW
  rw [hs] at hV
  cases gs with
  | cons g gs => exact hV.elim
  | nil =>
    obtain rfl : q = [] := hV
    rw [List.append_nil] at hpq
    subst hpq
    rw [List.append_nil] at hfn
    have hr : ∀ (b : Nat) (sp : Nat → Bool) (hd : Bool), DataW.TrodAll enc P W' b sp hd f.resultTypes.toList ((Value.bool true).resultList f.resultTypes.size) [.lit (.bool true)] [] := by
      intro b sp hd
      rw [hf]
      exact ⟨[], [], ⟨1, by simp [DataW.trod, ht, Value.cells]⟩, rfl, rfl⟩
    have ha : ∀ sp : Nat → Bool, (∀ x ∈ before, sp x.block = true) → DataW.TrodAll enc P W' 0 sp true f.params.toList args.toList ds before := fun sp hsp => trodAll_keep hB.block hz _ _ _ _ (fun t ht => of_decide_eq_true (List.all_eq_true.1 hpar t ht)) hA hsp
    have hfn' : s.fn H (ds ++ []) = { results := [.lit (.bool true)], args := ds } := by rw [List.append_nil]; exact hfn
    refine ⟨ds, [], before, [], before, [], hW', by rw [hfn']; exact hr _ _ _, by rw [hfn']; exact ha _ hold, by rw [hs, hfn']; rfl, World.keptBut_mono (fun x hx => ⟨hx, Or.inr (.inl hx)⟩) (hB.frame (· ∈ before)), fun _ => ?_⟩
    refine ⟨?_, [.lit (.bool true)] ++ ds, [], before, ⟨before, [], ?_, by rw [hs]; rfl, by simp, ?_, ?_⟩, ?_⟩
    · intro j t r h1 h2
      rw [hf] at h1 h2
      cases j with
      | succ j => simp at h1
      | zero =>
        obtain rfl : tb = t := by simpa using h1
        have h2 : some (Value.bool true) = some r := h2
        obtain rfl := Option.some.inj h2
        exact okWide_bool_mk ht _
    · have := trodAll_append (ha _ (fun _ _ => rfl)) (hr 0 (fun _ => true) true)
      exact this
    · intro b off hp
      rw [hB.frozen (hlt _ hp)]
      exact hfz b off hp
    · intro ha
      exact hnd ha
    · intro x hx _
      exact hx
end
end Go.VB
namespace Go.VB
open Go.RowKit Go.WideShapes Go.ChangeShapes
/-- v is a slice of n elements, whose cells are xs, in a block that R holds for -/
def Sl (R : Nat → Prop) (w : World) (v : Value) (n : Nat) (xs : List Value) : Prop :=
  ∃ (a : Option Addr) (cap : Nat), v = .slice a n cap ∧ n ≤ cap ∧ (xs ≠ [] → ∃ g o, a = some ⟨g, o, none⟩ ∧ R g ∧ w.rangeAt g o xs)
theorem lt_of_cell {w : World} {g o : Nat} {s : Option Nat} {v : Value} (h : w.cell? ⟨g, o, s⟩ = some v) : g < w.heap.size := by
  apply Nat.lt_of_not_le
  intro hle
  unfold World.cell? at h
  rw [Array.getElem?_eq_none hle] at h
  cases h
theorem lt_of_range {w : World} {g o : Nat} {xs : List Value} (hx : xs ≠ []) (h : w.rangeAt g o xs) : g < w.heap.size := by
  cases xs with
  | nil => exact absurd rfl hx
  | cons x xs => exact lt_of_cell (h 0 x rfl)
theorem range_fr {S : Nat → Prop} {w w' : World} {g o : Nat} {xs : List Value} (h : w.rangeAt g o xs) (hf : Fr S w w') (hS : ¬ S g) : w'.rangeAt g o xs := by
  intro j u hj
  have := h j u hj
  have hlt := lt_of_cell this
  rw [World.cell?_of_block (w := w) (hf.blk g hlt hS)]
  exact this
theorem cell_fr {S : Nat → Prop} {w w' : World} {g o : Nat} {u : Value} (h : w.cell? ⟨g, o, none⟩ = some u) (hf : Fr S w w') (hS : ¬ S g) : w'.cell? ⟨g, o, none⟩ = some u := by
  have hlt := lt_of_cell h
  rw [World.cell?_of_block (w := w) (hf.blk g hlt hS)]
  exact h
theorem Sl.fr {R S : Nat → Prop} {w w' : World} {v : Value} {n : Nat} {xs : List Value} (h : Sl R w v n xs) (hf : Fr S w w') (hS : ∀ k, R k → ¬ S k) : Sl R w' v n xs := by
  obtain ⟨a, cap, rfl, hc, h⟩ := h
  refine ⟨a, cap, rfl, hc, fun hq => ?_⟩
  obtain ⟨g, o, rfl, hR, hr⟩ := h hq
  exact ⟨g, o, rfl, hR, range_fr hr hf (hS g hR)⟩
theorem Sl.mono {R R' : Nat → Prop} {w : World} {v : Value} {n : Nat} {xs : List Value} (h : Sl R w v n xs) (hR : ∀ k, R k → R' k) : Sl R' w v n xs := by
  obtain ⟨a, cap, rfl, hc, h⟩ := h
  exact ⟨a, cap, rfl, hc, fun hq => by obtain ⟨g, o, h1, h2, h3⟩ := h hq; exact ⟨g, o, h1, hR _ h2, h3⟩⟩
theorem Sl.keep {R : Nat → Prop} {w w' : World} {v : Value} {n : Nat} {xs : List Value} (h : Sl R w v n xs) (hk : ∀ k, k < w.heap.size → w'.heap[k]? = w.heap[k]?) : Sl R w' v n xs := by
  obtain ⟨a, cap, rfl, hc, h⟩ := h
  refine ⟨a, cap, rfl, hc, fun hq => ?_⟩
  obtain ⟨g, o, rfl, hR, hr⟩ := h hq
  refine ⟨g, o, rfl, hR, fun j u hj => cell_keep hk (hr j u hj)⟩
theorem range_append {w : World} {g o : Nat} {xs ys : List Value} (h1 : w.rangeAt g o xs) (h2 : w.rangeAt g (o + xs.length) ys) : w.rangeAt g o (xs ++ ys) := by
  intro j u hj
  by_cases hlt : j < xs.length
  · rw [List.getElem?_append_left hlt] at hj
    exact h1 j u hj
  · rw [List.getElem?_append_right (by omega)] at hj
    have := h2 _ u hj
    rwa [Nat.add_assoc, Nat.add_sub_cancel' (by omega)] at this
theorem list_of_some {α : Type} (p : Nat → α → Prop) : ∀ n, (∀ i, i < n → ∃ x, p i x) → ∃ L : List α, L.length = n ∧ ∀ i x, L[i]? = some x → p i x
  | 0, _ => ⟨[], rfl, fun i x h => by simp at h⟩
  | n + 1, h => by
    obtain ⟨L, hl, hL⟩ := list_of_some p n fun i hi => h i (by omega)
    obtain ⟨x, hx⟩ := h n (by omega)
    refine ⟨L ++ [x], by simp [hl], fun i y hy => ?_⟩
    by_cases hi : i < L.length
    · rw [List.getElem?_append_left hi] at hy
      exact hL i y hy
    · rw [List.getElem?_append_right (by omega)] at hy
      have : i - L.length = 0 := by
        apply Nat.lt_one_iff.1
        have := (List.getElem?_eq_some_iff.1 hy).1
        simpa using this
      rw [this] at hy
      obtain rfl := Option.some.inj hy
      have : i = n := by omega
      rw [this]; exact hx
theorem range_flat {α : Type} {w : World} {g k : Nat} (f : α → List Value) (hf : ∀ x, (f x).length = k) : ∀ (L : List α) (o : Nat), (∀ i x, L[i]? = some x → w.rangeAt g (o + i * k) (f x)) → w.rangeAt g o (L.flatMap f)
  | [], o, _ => fun j u hj => by simp at hj
  | x :: L, o, h => by
    rw [List.flatMap_cons]
    refine range_append (by simpa using h 0 x rfl) ?_
    rw [hf x]
    refine range_flat f hf L (o + k) fun i y hy => ?_
    have := h (i + 1) y (by simpa using hy)
    rwa [Nat.succ_mul, Nat.add_comm (i * k) k, ← Nat.add_assoc] at this
theorem mapM_at {α β : Type} {f : α → Option β} : ∀ (l : List α) (ys : List β), l.mapM f = some ys → ∀ (i : Nat) (x : α), l[i]? = some x → ∃ y : β, ys[i]? = some y ∧ f x = some y
  | [], ys, h, i, x, hx => by simp at hx
  | a :: l, ys, h, i, x, hx => by
    simp only [List.mapM_cons, Option.bind_eq_bind, Option.bind_eq_some_iff, Option.pure_def, Option.some.injEq] at h
    obtain ⟨y, hy, zs, hz, rfl⟩ := h
    cases i with
    | zero =>
      obtain rfl : a = x := by simpa using hx
      exact ⟨y, rfl, hy⟩
    | succ i => simpa using mapM_at l zs hz i x (by simpa using hx)
theorem cells_range {w : World} {base : Nat} {a : Addr} {n : Nat} {cs : List Value} (h : w.cells? base a n = some cs) : cs.length = n ∧ ∀ j u, cs[j]? = some u → w.cell? (a.add j) = some u := by
  unfold World.cells? at h
  split at h
  case isFalse => cases h
  have hl := mapM_len _ _ h
  rw [List.length_range] at hl
  refine ⟨hl, fun j u hj => ?_⟩
  have hjl : j < n := by rw [← hl]; exact (List.getElem?_eq_some_iff.1 hj).1
  obtain ⟨y, h1, h2⟩ := mapM_at _ _ h j j (by simp [hjl])
  rw [hj] at h1
  obtain rfl := Option.some.inj h1
  exact h2
section
variable {H : Type} {enc : TypeId × Value → H} {P : Program}
/-- a slice opens: its elements, by how an element's cells open -/
theorem open_cs {w : World} {base : Nat} {sp : Nat → Bool} {held : Bool} {t e : TypeId} {fuel : Nat} {cs : List Value} {r : DataW H × List MemPlace} (hu : P.underlying t = some (.slice e)) {k : Nat} (hk : P.cellsOf e = k) (hk0 : 0 < k)
    (h : DataW.trod enc P w base sp held fuel t cs = some r)
    {α : Type} (f : α → List Value) (Good : α → Prop) (hf : ∀ x, (f x).length = k)
    (he : ∀ fuel cs r, cs.length = k → DataW.trod enc P w base sp held fuel e cs = some r → ∃ x, cs = f x ∧ Good x) :
    ∃ (v : Value) (L : List α), cs = [v] ∧ Sl (fun k => k < w.heap.size) w v L.length (L.flatMap f) ∧ (∀ x ∈ L, Good x) ∧ L.length ≤ maxLen := by
  subst hk
  rcases DataW.trod_slice hu h with ⟨rfl, -⟩ | ⟨a, len, cap, elems, rest, n, _, rfl, -, hb, hl, hm, hlen, hel, -, -⟩
  · exact ⟨_, [], rfl, ⟨none, 0, rfl, Nat.le_refl _, fun h => absurd rfl h⟩, by simp, by simp⟩
  · obtain ⟨L, hL, hat⟩ := list_of_some (fun i (x : α) => Good x ∧ w.cells? base (a.add (i * P.cellsOf e)) (P.cellsOf e) = some (f x)) len fun i hi => by
      have := hel i hi
      have hsome : elems[i]? = some elems[i] := List.getElem?_eq_getElem (by omega)
      rw [hsome] at this
      simp only [Option.bind_eq_some_iff] at this
      obtain ⟨cs, hc, ht⟩ := this
      obtain ⟨x, rfl, hg⟩ := he _ _ _ (cells_range hc).1 ht
      exact ⟨x, hg, hc⟩
    subst hL
    refine ⟨_, L, rfl, ⟨some a, cap, rfl, hl, fun hne => ?_⟩, fun x hx => ?_, by omega⟩
    · have hs : a.spot = none := by
        cases L with
        | nil => exact absurd rfl hne
        | cons x L =>
          have h0 := (hat 0 x rfl).2
          have hlx := hf x
          have := (cells_range h0).2 0 ((f x)[0]'(by omega)) (List.getElem?_eq_getElem (by omega))
          unfold World.cell? at this
          cases hsp : a.spot with
          | none => rfl
          | some z =>
            exfalso
            split at this
            · rw [if_pos (by simp [Addr.add, hsp])] at this; cases this
            · cases this
      obtain ⟨g, o, s⟩ := a
      obtain rfl : s = none := hs
      have hrange : w.rangeAt g o (L.flatMap f) := range_flat (g := g) f hf L o fun i x hx j u hj => by
        have := (cells_range (hat i x hx).2).2 j u hj
        rw [Addr.add_mid, Addr.add_mid] at this
        exact this
      exact ⟨g, o, rfl, lt_of_range hne hrange, hrange⟩
    · obtain ⟨i, hi⟩ := List.getElem?_of_mem hx
      exact (hat i x hi).1
theorem open_sl {w w0 : World} {r : Reach} {b0 base : Nat} {sp : Nat → Bool} {held : Bool} {t e : TypeId} {v : Value} {d : DataW H} {ps : List MemPlace} (hu : P.underlying t = some (.slice e)) {k : Nat} (hk : P.cellsOf e = k) (hk0 : 0 < k)
    (hval : Value.okWide P w0 r b0 t v) (h : DataW.Trod enc P w base sp held t v d ps)
    {α : Type} (f : α → List Value) (Good : α → Prop) (hf : ∀ x, (f x).length = k)
    (he : ∀ fuel cs r, cs.length = k → DataW.trod enc P w base sp held fuel e cs = some r → ∃ x, cs = f x ∧ Good x) :
    ∃ L : List α, Sl (fun k => k < w.heap.size) w v L.length (L.flatMap f) ∧ (∀ x ∈ L, Good x) ∧ L.length ≤ maxLen := by
  obtain ⟨fuel, hh⟩ := h
  obtain ⟨v', L, hv, h1, h2, h3⟩ := open_cs hu hk hk0 hh f Good hf he
  obtain ⟨a, n, c, rfl⟩ := okWide_slice hu hval
  obtain rfl : Value.slice a n c = v' := by simpa [Value.cells] using hv
  exact ⟨L, h1, h2, h3⟩
/-- an element that is a number, a string -/
theorem elem_int {w : World} {base : Nat} {sp : Nat → Bool} {held : Bool} {e : TypeId} {k : IntKind} (hu : P.underlying e = some (.int k)) : ∀ fuel cs (r : DataW H × List MemPlace), DataW.trod enc P w base sp held fuel e cs = some r → ∃ x : Int, cs = [.int k x] ∧ (Lit.int k x).wf = true := by
  intro fuel cs r h
  cases fuel with
  | zero => simp [DataW.trod] at h
  | succ n =>
    unfold DataW.trod at h
    rw [hu] at h
    split at h <;> simp_all
end
/-- strings as cells, numbers as cells -/
def sv (L : List (List UInt8)) : List Value := L.map fun s => .string (bs s)
theorem sv_flat (L : List (List UInt8)) : L.flatMap (fun s => [Value.string (bs s)]) = sv L := by
  induction L with
  | nil => rfl
  | cons a L ih => rw [List.flatMap_cons, ih]; rfl
theorem sv_at {L : List (List UInt8)} {i : Nat} {s : List UInt8} (h : L[i]? = some s) : (sv L)[i]? = some (.string (bs s)) := by simp [sv, h]
theorem getD_at {α : Type} {L : List α} {i : Nat} {z : α} (h : i < L.length) : L[i]? = some (L.getD i z) := by simp [h]
theorem getD_mem {α : Type} {L : List α} {i : Nat} {z : α} (h : i < L.length) : L.getD i z ∈ L := List.mem_of_getElem? (getD_at h)
end Go.VB
