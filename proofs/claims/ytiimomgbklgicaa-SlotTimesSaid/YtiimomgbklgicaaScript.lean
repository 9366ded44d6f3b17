import Derived.Test.YtiimomgbklgicaaPlan
/- A region that draws its order, by a script: each operation is either taken (its value is the same whenever it runs) or comes in a forced place. -/
set_option linter.unusedVariables false
namespace Go.VB
open Go.RowKit
section
variable {P : Program} {ops : Array Oper} {Q : Exit → Act → World → Prop} {S : Nat → World → Prop}
def isTake (o : Oper) : Bool := isPure o || match o.op with | .load .. => true | _ => false
def scriptB (ops : Array Oper) : List (Bool × Nat) → Array Bool → Bool
  | [], listed => (Region.ready .any ops listed).isEmpty
  | (true, i) :: m, listed => (Region.ready .any ops listed).contains i && Region.free .any ops listed i && scriptB ops m (listed.setIfInBounds i true)
  | (false, i) :: m, listed => (Region.ready .any ops listed == [i]) && scriptB ops m (listed.setIfInBounds i true)
/-- a script, found -/
def mkScript (ops : Array Oper) : Nat → Array Bool → Option (List (Bool × Nat))
  | 0, listed => if (Region.ready .any ops listed).isEmpty then some [] else none
  | n + 1, listed =>
    let r := Region.ready .any ops listed
    if r.isEmpty then some [] else
    match r.find? fun i => (match ops[i]? with | some o => isTake o | none => false) && Region.free .any ops listed i with
    | some i => (mkScript ops n (listed.setIfInBounds i true)).map ((true, i) :: ·)
    | none => match r with
      | [i] => (mkScript ops n (listed.setIfInBounds i true)).map ((false, i) :: ·)
      | _ => none
/-- the n-th of a list: reduces to the very element -/
def nth : List Oper → Nat → Option Oper
  | [], _ => none
  | o :: _, 0 => some o
  | _ :: l, n + 1 => nth l n
theorem nth_eq : ∀ (l : List Oper) (i : Nat), nth l i = l[i]?
  | [], _ => by simp [nth]
  | o :: l, 0 => by simp [nth]
  | o :: l, n + 1 => by simp [nth, nth_eq l n]
theorem nth_at {i : Nat} {o : Oper} (h : nth ops.toList i = some o) : ops[i]? = some o := by rw [nth_eq] at h; simpa using h
def wpScript (P : Program) (ops : Array Oper) (S : Nat → World → Prop) (Q : Exit → Act → World → Prop) : List (Bool × Nat) → Act → World → Prop
  | [], a, w => Q .normal a w
  | (true, i) :: m, a, w => ∃ o, nth ops.toList i = some o ∧
    (if Region.wanted o (yielded ops a.tmps) then ∃ v k, (isPure o = true ∨ (lateB ops k i = true ∧ S k w)) ∧ (∀ w, (isPure o = false → S k w) → (execOp a.eval o).run P w = .ok (.value v) w) ∧ wpScript P ops S Q m (a.put o.dst v) w
      else wpScript P ops S Q m (a.put o.dst undef) w)
  | (false, i) :: m, a, w => ∃ o, nth ops.toList i = some o ∧ wpList P ops (Exit.then (fun a' w' => andK ops.size i S w w' (wpScript P ops S Q m a' w')) Q) [o] a w
theorem wpN_script (hsel : Region.noSelect ops = true) (hQ : ∀ c (a : Act) d v w, Q (.panic c) (a.put d v) w → Q (.panic c) a w) :
    ∀ (m : List (Bool × Nat)) (listed : Array Bool) (a : Act) (w : World), scriptB ops m listed = true → wpScript P ops S Q m a w → wpN P .any ops Q S m.length listed a w
  | [], listed, a, w, hb, h => by
    simp only [scriptB, List.isEmpty_iff] at hb
    exact ⟨hb, h⟩
  | (true, i) :: m, listed, a, w, hb, h => by
    simp only [scriptB, Bool.and_eq_true] at hb
    obtain ⟨⟨h1, h2⟩, hb⟩ := hb
    obtain ⟨o, ho, h⟩ := h
    have ho := nth_at ho
    have fin : ∀ (T : World → Prop) (v : Value), ((∀ w, T w) ∨ (∃ k, T = S k ∧ k < ops.size ∧ ∀ t ot, ops[t]? = some ot → k ≤ t → ∃ e ∈ ot.after, Region.binds .any e = true ∧ e.on = i)) → T w → YieldsIf P ops T o v a →
        wpScript P ops S Q m (a.put o.dst v) w → wpN P .any ops Q S ((true, i) :: m).length listed a w := by
      intro T v hT hTw hy hk
      exact wpN_first ho (Region.noSelect_spec hsel) (fun c a w => hQ c a _ _ w) hT _ listed a w (Region.free_spec ho h2) (by simpa using h1) hy hTw (wpN_script hsel hQ m _ _ _ hb hk)
    by_cases hw : Region.wanted o (yielded ops a.tmps) = true
    · rw [if_pos hw] at h
      obtain ⟨v, k, h3, hv, hk⟩ := h
      cases hp : isPure o with
      | true => exact fin (fun _ => True) v (.inl fun _ => trivial) trivial (.inl ⟨hw, fun w _ => hv w (fun e => by rw [hp] at e; cases e)⟩) hk
      | false =>
        rcases h3 with h3 | ⟨h3, hS⟩
        · rw [hp] at h3; cases h3
        · simp only [lateB, Bool.and_eq_true, decide_eq_true_eq] at h3
          refine fin (S k) v (.inr ⟨k, rfl, h3.1, fun t ot hot hn => ?_⟩) hS (.inl ⟨hw, fun w hw => hv w (fun _ => hw)⟩) hk
          have h4 := List.all_eq_true.1 h3.2 t (List.mem_range.2 (Array.getElem?_eq_some_iff.1 hot).1)
          simp only [Bool.or_eq_true, decide_eq_true_eq, hot, Option.map_some, Option.getD_some] at h4
          rcases h4 with h4 | h4
          · omega
          · obtain ⟨e, he, hb⟩ := Array.any_eq_true'.1 h4
            simp only [Bool.and_eq_true, beq_iff_eq] at hb
            exact ⟨e, he, hb.1, hb.2⟩
    · rw [if_neg hw] at h
      exact fin (fun _ => True) undef (.inl fun _ => trivial) trivial (.inr ⟨by simpa using hw, rfl⟩) h
  | (false, i) :: m, listed, a, w, hb, h => by
    simp only [scriptB, Bool.and_eq_true, beq_iff_eq] at hb
    obtain ⟨hr1, hb⟩ := hb
    obtain ⟨o, ho, h⟩ := h
    have ho := nth_at ho
    refine ⟨fun h0 => (by rw [hr1] at h0; cases h0), fun j hj => ?_⟩
    rw [hr1] at hj
    simp only [List.mem_singleton] at hj
    subst hj
    have hK : ∀ a' w', andK ops.size j S w w' (wpScript P ops S Q m a' w') → (∀ k, j < k → k < ops.size → S k w → S k w') ∧ wpN P .any ops Q S m.length (listed.setIfInBounds j true) a' w' := by
      intro a' w' hk
      exact ⟨hk.1, wpN_script hsel hQ m _ _ _ hb hk.2⟩
    simp only [wpList] at h
    unfold wpOp
    simp only [ho]
    split
    · rename_i hw
      rw [if_pos hw] at h
      rcases h with h | h
      · exact .inl (Oper.wp_mono hK h)
      · exact .inr h
    · rename_i hw
      rw [if_neg hw] at h
      exact hK _ _ h
theorem script_any {l : List Oper} {a : Act} {w : World} (m : List (Bool × Nat)) (S : Nat → World → Prop) (hs : (Region.noSelect l.toArray && decide (m.length = l.toArray.size) && scriptB l.toArray m (Array.replicate l.toArray.size false)) = true)
    (hQ : ∀ c (a : Act) d v w, Q (.panic c) (a.put d v) w → Q (.panic c) a w)
    (h : wpScript P l.toArray S Q m a w.drew) : wpAny P .any l.toArray Q l.toArray.size (Array.replicate l.toArray.size false) a { w with drawn := w.drawn + 1 } := by
  simp only [Bool.and_eq_true, decide_eq_true_eq] at hs
  obtain ⟨⟨hsel, hlen⟩, hb⟩ := hs
  refine wpN_any (S := S) _ _ _ _ ?_
  rw [← hlen]
  exact wpN_script hsel hQ m _ a w.drew (by rw [hlen]; exact hb) h
theorem wp_region_script {id : Nat} {l : List Oper} {a : Act} {w : World} (m : List (Bool × Nat)) (S : Nat → World → Prop) (hm : P.follows .mixedOrders = true) (hs : (Region.noSelect l.toArray && decide (m.length = l.toArray.size) && scriptB l.toArray m (Array.replicate l.toArray.size false)) = true)
    (hQ : ∀ c (a : Act) d v w, Q (.panic c) (a.put d v) w → Q (.panic c) a w)
    (h : wpScript P l.toArray S Q m a w.drew) : (Code.region id l.toArray true).wp P Q a w :=
  wp_region_any hm (script_any m S hs hQ h)
theorem wpS_take {i : Nat} {m : List (Bool × Nat)} {a : Act} {w : World} {o : Oper} (k : Nat) (ho : nth ops.toList i = some o) (hw : Region.wanted o (yielded ops a.tmps) = true) (hk : (isPure o || lateB ops k i) = true) (hS : S k w)
    (h : ∃ v, (∀ w, (isPure o = false → S k w) → (execOp a.eval o).run P w = .ok (.value v) w) ∧ wpScript P ops S Q m (a.put o.dst v) w) : wpScript P ops S Q ((true, i) :: m) a w := by
  obtain ⟨v, hrun, h⟩ := h
  refine ⟨o, ho, ?_⟩
  rw [if_pos hw]
  refine ⟨v, k, ?_, hrun, h⟩
  rcases Bool.or_eq_true_iff.1 hk with hk | hk
  · exact .inl hk
  · exact .inr ⟨hk, hS⟩
theorem wpS_pure {i : Nat} {m : List (Bool × Nat)} {a : Act} {w : World} {o : Oper} (ho : nth ops.toList i = some o) (hw : Region.wanted o (yielded ops a.tmps) = true) (hk : isPure o = true)
    (h : ∃ v, (∀ w, (execOp a.eval o).run P w = .ok (.value v) w) ∧ wpScript P ops S Q m (a.put o.dst v) w) : wpScript P ops S Q ((true, i) :: m) a w := by
  obtain ⟨v, hrun, h⟩ := h
  refine ⟨o, ho, ?_⟩
  rw [if_pos hw]
  exact ⟨v, 0, .inl hk, fun w _ => hrun w, h⟩
theorem wpS_skip {i : Nat} {m : List (Bool × Nat)} {a : Act} {w : World} {o : Oper} (ho : nth ops.toList i = some o) (hw : Region.wanted o (yielded ops a.tmps) = false)
    (h : wpScript P ops S Q m (a.put o.dst undef) w) : wpScript P ops S Q ((true, i) :: m) a w := by
  refine ⟨o, ho, ?_⟩
  rw [if_neg (by simp [hw])]
  exact h
theorem wpS_op {i : Nat} {m : List (Bool × Nat)} {a : Act} {w : World} {o : Oper} (ho : nth ops.toList i = some o) (h : wpList P ops (Exit.then (fun a' w' => andK ops.size i S w w' (wpScript P ops S Q m a' w')) Q) [o] a w) : wpScript P ops S Q ((false, i) :: m) a w := ⟨o, ho, h⟩
theorem wpS_nil {a : Act} {w : World} (h : Q .normal a w) : wpScript P ops S Q [] a w := h
end
end Go.VB
