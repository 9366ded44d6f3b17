import Derived.Test.YtiimomgbklgicaaMap
import Derived.Maps.OwnSet
/- A map of the call's own, as a partial function from keys to values: with 'ok', with delete. -/
set_option linter.unusedVariables false
namespace Go.VB
open Go.RowKit
open Go.Maps (Keyed)
open Classical in
noncomputable def updG (f : Lit → Option Value) (l : Lit) (v : Option Value) : Lit → Option Value := fun y => if y = l then v else f y
theorem updG_same (f : Lit → Option Value) (l : Lit) (v : Option Value) : updG f l v l = v := by unfold updG; rw [if_pos rfl]
theorem updG_ne (f : Lit → Option Value) {l y : Lit} (v : Option Value) (h : y ≠ l) : updG f l v y = f y := by unfold updG; rw [if_neg h]
/-- block b is a map of at most n entries: at key x lies f x -/
def MapG (P : Program) (k : TypeId) (w : World) (b n : Nat) (f : Lit → Option Value) : Prop :=
  ∃ D : DataW Value, w.ownsMap P k selfR b n D ∧ Go.Maps.Tidy D ∧ ∀ x : Lit, Go.WideAt.IsKeyLit x → Go.Maps.has D x = (f x).isSome ∧ ∀ z, D.atKey x (.held z) = .held ((f x).getD z)
namespace MapG
variable {P : Program} {k : TypeId} {w w' : World} {b n : Nat} {f : Lit → Option Value}
theorem new (P : Program) (k : TypeId) (w : World) : MapG P k (w.alloc (.map #[] 0)) w.heap.size 0 (fun _ => none) :=
  ⟨.map [], World.ownsMap_made w P k selfR, Go.Maps.tidy_empty, fun x _ => ⟨rfl, fun z => by rw [Go.WideAt.atKey_none (.held z) (by simp)]; rfl⟩⟩
theorem lt (h : MapG P k w b n f) : b < w.heap.size := by
  obtain ⟨D, h, _⟩ := h
  exact h.lt
theorem fr {S : Nat → Prop} (h : MapG P k w b n f) (hf : Fr S w w') (hS : ¬ S b) : MapG P k w' b n f := by
  obtain ⟨D, ⟨es, clock, hb, hF, hn, hD⟩, h2, h3⟩ := h
  exact ⟨D, ⟨es, clock, by rw [hf.blk b (Array.getElem?_eq_some_iff.1 hb).1 hS]; exact hb, hF, hn, hD⟩, h2, h3⟩
theorem cast {g : Lit → Option Value} (h : MapG P k w b n f) (hg : ∀ x, Go.WideAt.IsKeyLit x → f x = g x) : MapG P k w b n g := by
  obtain ⟨D, h1, h2, h3⟩ := h
  exact ⟨D, h1, h2, fun x hx => by rw [← hg x hx]; exact h3 x hx⟩
theorem get {t e : TypeId} (h : MapG P k w b n f) (K : Keyed P k) (ht : P.underlying t = some (.map k e)) {z : Value} (hz : (zeroValue e).run P w = .ok z w) {key : Value} {x : Lit} (hkey : keyOf P k key = some x) (hx : Go.WideAt.IsKeyLit x) :
    (Instr.lookup t (.map (some b)) key false).run P w = .ok ((f x).getD z) w := by
  obtain ⟨D, h1, h2, h3⟩ := h
  obtain ⟨v, ps, hrun, hv⟩ := h1.lookup K ht hz (zd := .held z) (zp := []) rfl hkey
  rw [(h3 x hx).2 z] at hv
  simp only [selfR, Option.some.injEq, Prod.mk.injEq, DataW.held.injEq] at hv
  rw [hrun, hv.1]
theorem getok {t e : TypeId} (h : MapG P k w b n f) (K : Keyed P k) (ht : P.underlying t = some (.map k e)) {z : Value} (hz : (zeroValue e).run P w = .ok z w) {key : Value} {x : Lit} (hkey : keyOf P k key = some x) (hx : Go.WideAt.IsKeyLit x) :
    (Instr.lookup t (.map (some b)) key true).run P w = .ok (.tuple #[(f x).getD z, .bool (f x).isSome]) w := by
  obtain ⟨D, h1, h2, h3⟩ := h
  obtain ⟨v, ps, hrun, hv⟩ := h1.look_ok K ht hz (zd := .held z) (zp := []) rfl hkey
  rw [(h3 x hx).2 z] at hv
  simp only [selfR, Option.some.injEq, Prod.mk.injEq, DataW.held.injEq] at hv
  rw [hrun, hv.1, (h3 x hx).1]
theorem set {t e : TypeId} (h : MapG P k w b n f) (K : Keyed P k) (ht : P.underlying t = some (.map k e)) (hn : n < maxLen) {key : Value} {x : Lit} (val : Value) (hkey : keyOf P k key = some x) (hx : Go.WideAt.IsKeyLit x) :
    ∃ w', (Instr.mapUpdate t (.map (some b)) key val).run P w = .ok () w' ∧ MapG P k w' b (n + 1) (updG f x (some val)) ∧ Fr (fun j => j = b) w w' := by
  obtain ⟨D, h1, h2, h3⟩ := h
  obtain ⟨w', hrun, h', hg⟩ := h1.update K ht hn hkey (val := val) (d := .held val) (ps := []) rfl
  refine ⟨w', hrun, ⟨_, h', h2.put hx _, fun y hy => ?_⟩, (Fr.refl _ w).grown hg (fun j hj _ => by simpa using hj.symm)⟩
  by_cases e : y = x
  · subst e
    rw [updG_same]
    exact ⟨Go.Maps.has_put_same h2.isMap hx _, fun z => Go.Maps.atKey_put_same h2.isMap hx _ _⟩
  · rw [updG_ne _ _ e]
    exact ⟨(Go.Maps.has_put_other e _).trans (h3 y hy).1, fun z => (Go.Maps.atKey_put_other e _ _).trans ((h3 y hy).2 z)⟩
end MapG
theorem wpList_insert_G {P : Program} {ops : Array Oper} {rest : List Oper} {o : Oper} {a : Act} {w : World} {Q : Exit → Act → World → Prop} (hg : o.guard = none) {m x v : Operand} {t k e : TypeId} (hop : o.op = Op.insert t m x v)
    {b n : Nat} {f : Lit → Option Value} (hm : a.eval m = .map (some b)) (h : MapG P k w b n f) (K : Keyed P k) (ht : P.underlying t = some (.map k e)) (hn : n < maxLen) {key val : Value} {l : Lit} (hx : a.eval x = key) (hv : a.eval v = val) (hkey : keyOf P k key = some l) (hl : Go.WideAt.IsKeyLit l)
    (hK : ∀ w', MapG P k w' b (n + 1) (updG f l (some val)) → Fr (fun j => j = b) w w' → wpList P ops Q rest (a.put o.dst undef) w') : wpList P ops Q (o :: rest) a w := by
  refine wpList_plain hg fun K' hK' => ?_
  obtain ⟨w', hrun, r1, r2⟩ := h.set K ht hn val hkey hl
  unfold Oper.wp
  simp [execOp, hop, hm, hx, hv, hrun, Result.andThen]
  exact hK' _ _ (hK w' r1 r2)
theorem wpList_update_G {P : Program} {ops : Array Oper} {rest : List Oper} {o : Oper} {a : Act} {w : World} {Q : Exit → Act → World → Prop} (hg : o.guard = none) {m x v : Operand} {t k e : TypeId} (hop : o.op = Op.mapUpdate t m x v)
    {b n : Nat} {f : Lit → Option Value} (hm : a.eval m = .map (some b)) (h : MapG P k w b n f) (K : Keyed P k) (ht : P.underlying t = some (.map k e)) (hn : n < maxLen) {key val : Value} {l : Lit} (hx : a.eval x = key) (hv : a.eval v = val) (hkey : keyOf P k key = some l) (hl : Go.WideAt.IsKeyLit l)
    (hK : ∀ w', MapG P k w' b (n + 1) (updG f l (some val)) → Fr (fun j => j = b) w w' → wpList P ops Q rest (a.put o.dst undef) w') : wpList P ops Q (o :: rest) a w := by
  refine wpList_plain hg fun K' hK' => ?_
  obtain ⟨w', hrun, r1, r2⟩ := h.set K ht hn val hkey hl
  unfold Oper.wp
  simp [execOp, hop, hm, hx, hv, hrun, Result.andThen]
  exact hK' _ _ (hK w' r1 r2)
theorem wpList_lookup_G {P : Program} {ops : Array Oper} {rest : List Oper} {o : Oper} {a : Act} {w : World} {Q : Exit → Act → World → Prop} (hg : o.guard = none) {m x : Operand} {t k e : TypeId} (hop : o.op = Op.lookup t m x false)
    {b n : Nat} {f : Lit → Option Value} (hm : a.eval m = .map (some b)) (h : MapG P k w b n f) (K : Keyed P k) (ht : P.underlying t = some (.map k e)) {z : Value} (hz : (zeroValue e).run P w = .ok z w) {key : Value} {l : Lit} (hx : a.eval x = key) (hkey : keyOf P k key = some l) (hl : Go.WideAt.IsKeyLit l)
    (hK : wpList P ops Q rest (a.put o.dst ((f l).getD z)) w) : wpList P ops Q (o :: rest) a w := by
  refine wpList_plain hg fun K' hK' => ?_
  have hrun := h.get K ht hz hkey hl
  unfold Oper.wp
  simp [execOp, hop, hm, hx, hrun, Result.andThen]
  exact hK' _ _ hK
theorem wpList_lookok_G {P : Program} {ops : Array Oper} {rest : List Oper} {o : Oper} {a : Act} {w : World} {Q : Exit → Act → World → Prop} (hg : o.guard = none) {m x : Operand} {t k e : TypeId} (hop : o.op = Op.lookup t m x true)
    {b n : Nat} {f : Lit → Option Value} (hm : a.eval m = .map (some b)) (h : MapG P k w b n f) (K : Keyed P k) (ht : P.underlying t = some (.map k e)) {z : Value} (hz : (zeroValue e).run P w = .ok z w) {key : Value} {l : Lit} (hx : a.eval x = key) (hkey : keyOf P k key = some l) (hl : Go.WideAt.IsKeyLit l)
    (hK : wpList P ops Q rest (a.put o.dst (.tuple #[(f l).getD z, .bool (f l).isSome])) w) : wpList P ops Q (o :: rest) a w := by
  refine wpList_plain hg fun K' hK' => ?_
  have hrun := h.getok K ht hz hkey hl
  unfold Oper.wp
  simp [execOp, hop, hm, hx, hrun, Result.andThen]
  exact hK' _ _ hK
end Go.VB
