import Derived.Test.YtiimomgbklgicaaOwn
import Derived.Maps.OwnOps
import Derived.Maps.Views
/- A map of the call's own, as a function from keys to values. -/
set_option linter.unusedVariables false
namespace Go.VB
open Go.RowKit
open Go.Maps (Keyed)
/-- an element reads as itself -/
def selfR (v : Value) : Option (DataW Value × List MemPlace) := some (.held v, [])
open Classical in
noncomputable def upd (f : Lit → Value) (l : Lit) (v : Value) : Lit → Value := fun y => if y = l then v else f y
theorem upd_same (f : Lit → Value) (l : Lit) (v : Value) : upd f l v l = v := by unfold upd; rw [if_pos rfl]
theorem upd_ne (f : Lit → Value) {l y : Lit} (v : Value) (h : y ≠ l) : upd f l v y = f y := by unfold upd; rw [if_neg h]
/-- block b is a map of at most n entries: at key x lies f x, where nothing lies z -/
def MapF (P : Program) (k : TypeId) (w : World) (b n : Nat) (z : Value) (f : Lit → Value) : Prop :=
  ∃ D : DataW Value, w.ownsMap P k selfR b n D ∧ Go.Maps.IsMap D ∧ ∀ x : Lit, Go.WideAt.IsKeyLit x → D.atKey x (.held z) = .held (f x)
theorem MapF.new (P : Program) (k : TypeId) (w : World) (z : Value) : MapF P k (w.alloc (.map #[] 0)) w.heap.size 0 z (fun _ => z) :=
  ⟨.map [], World.ownsMap_made w P k selfR, ⟨[], rfl⟩, fun x _ => by rw [Go.WideAt.atKey_none (.held z) (by simp)]⟩
theorem MapF.lt {P : Program} {k : TypeId} {w : World} {b n : Nat} {z : Value} {f : Lit → Value} (h : MapF P k w b n z f) : b < w.heap.size := by
  obtain ⟨D, h, _⟩ := h
  exact h.lt
theorem MapF.fr {P : Program} {k : TypeId} {w w' : World} {b n : Nat} {z : Value} {f : Lit → Value} {S : Nat → Prop} (h : MapF P k w b n z f) (hf : Fr S w w') (hS : ¬ S b) : MapF P k w' b n z f := by
  obtain ⟨D, ⟨es, clock, hb, hF, hn, hD⟩, h2, h3⟩ := h
  exact ⟨D, ⟨es, clock, by rw [hf.blk b (Array.getElem?_eq_some_iff.1 hb).1 hS]; exact hb, hF, hn, hD⟩, h2, h3⟩
theorem MapF.get {P : Program} {k t e : TypeId} {w : World} {b n : Nat} {z : Value} {f : Lit → Value} (h : MapF P k w b n z f) (K : Keyed P k) (ht : P.underlying t = some (.map k e)) (hz : (zeroValue e).run P w = .ok z w) {key : Value} {x : Lit} (hkey : keyOf P k key = some x) (hx : Go.WideAt.IsKeyLit x) :
    (Instr.lookup t (.map (some b)) key false).run P w = .ok (f x) w := by
  obtain ⟨D, h1, h2, h3⟩ := h
  obtain ⟨v, ps, hrun, hv⟩ := h1.lookup K ht hz (zd := .held z) (zp := []) rfl hkey
  rw [h3 x hx] at hv
  simp only [selfR, Option.some.injEq, Prod.mk.injEq, DataW.held.injEq] at hv
  rw [hrun, hv.1]
theorem MapF.set {P : Program} {k t e : TypeId} {w : World} {b n : Nat} {z : Value} {f : Lit → Value} (h : MapF P k w b n z f) (K : Keyed P k) (ht : P.underlying t = some (.map k e)) (hn : n < maxLen) {key : Value} {x : Lit} (val : Value) (hkey : keyOf P k key = some x) (hx : Go.WideAt.IsKeyLit x) :
    ∃ w', (Instr.mapUpdate t (.map (some b)) key val).run P w = .ok () w' ∧ MapF P k w' b (n + 1) z (upd f x val) ∧ Fr (fun j => j = b) w w' := by
  obtain ⟨D, h1, h2, h3⟩ := h
  obtain ⟨w', hrun, h', hg⟩ := h1.update K ht hn hkey (val := val) (d := .held val) (ps := []) rfl
  refine ⟨w', hrun, ⟨_, h', ?_, fun y hy => ?_⟩, (Fr.refl _ w).grown hg (fun j hj _ => by simpa using hj.symm)⟩
  · obtain ⟨es, clock, _, _, _, hD⟩ := h'
    exact ⟨_, hD⟩
  · by_cases e : y = x
    · subst e
      rw [Go.Maps.atKey_put_same h2 hx, upd_same]
    · rw [Go.Maps.atKey_put_other e, upd_ne _ _ e]
      exact h3 y hy
theorem wpList_lookup_F {P : Program} {ops : Array Oper} {rest : List Oper} {o : Oper} {a : Act} {w : World} {Q : Exit → Act → World → Prop} (hg : o.guard = none) {m x : Operand} {t k e : TypeId} (hop : o.op = Op.lookup t m x false)
    {b n : Nat} {z : Value} {f : Lit → Value} (hm : a.eval m = .map (some b)) (h : MapF P k w b n z f) (K : Keyed P k) (ht : P.underlying t = some (.map k e)) (hz : (zeroValue e).run P w = .ok z w) {key : Value} {l : Lit} (hx : a.eval x = key) (hkey : keyOf P k key = some l) (hl : Go.WideAt.IsKeyLit l)
    (hK : wpList P ops Q rest (a.put o.dst (f l)) w) : wpList P ops Q (o :: rest) a w := by
  refine wpList_plain hg fun K' hK' => ?_
  have hrun := h.get K ht hz hkey hl
  unfold Oper.wp
  simp [execOp, hop, hm, hx, hrun, Result.andThen]
  exact hK' _ _ hK
theorem wpList_update_F {P : Program} {ops : Array Oper} {rest : List Oper} {o : Oper} {a : Act} {w : World} {Q : Exit → Act → World → Prop} (hg : o.guard = none) {m x v : Operand} {t k e : TypeId} (hop : o.op = Op.mapUpdate t m x v)
    {b n : Nat} {z : Value} {f : Lit → Value} (hm : a.eval m = .map (some b)) (h : MapF P k w b n z f) (K : Keyed P k) (ht : P.underlying t = some (.map k e)) (hn : n < maxLen) {key val : Value} {l : Lit} (hx : a.eval x = key) (hv : a.eval v = val) (hkey : keyOf P k key = some l) (hl : Go.WideAt.IsKeyLit l)
    (hK : ∀ w', MapF P k w' b (n + 1) z (upd f l val) → Fr (fun j => j = b) w w' → wpList P ops Q rest (a.put o.dst undef) w') : wpList P ops Q (o :: rest) a w := by
  refine wpList_plain hg fun K' hK' => ?_
  obtain ⟨w', hrun, r1, r2⟩ := h.set K ht hn val hkey hl
  unfold Oper.wp
  simp [execOp, hop, hm, hx, hv, hrun, Result.andThen]
  exact hK' _ _ (hK w' r1 r2)
end Go.VB
