import Derived.Test.YtiimomgbklgicaaBase
import Derived.OrdersHeld
/- A region that draws its order: the operations that read are taken first, in the order of the text, under a condition S on the world; the others come in one forced order. That S is kept is asked behind those of number below n alone. -/
set_option linter.unusedVariables false
namespace Go.VB
open Go.RowKit
section
variable {P : Program} {ops : Array Oper} {Q : Exit → Act → World → Prop} {md : Region.Mode} {S : Nat → World → Prop}

def wpN (P : Program) (md : Region.Mode) (ops : Array Oper) (Q : Exit → Act → World → Prop) (S : Nat → World → Prop) : Nat → Array Bool → Act → World → Prop
  | 0, listed, a, w => Region.ready md ops listed = [] ∧ Q .normal a w
  | fuel + 1, listed, a, w =>
    (Region.ready md ops listed = [] → Q .normal a w) ∧
    ∀ i ∈ Region.ready md ops listed, wpOp P ops Q i (fun a' w' => (∀ k, i < k → k < ops.size → S k w → S k w') ∧ wpN P md ops Q S fuel (listed.setIfInBounds i true) a' w') a w

theorem wpN_any : ∀ (fuel : Nat) (listed : Array Bool) (a : Act) (w : World), wpN P md ops Q S fuel listed a w → wpAny P md ops Q fuel listed a w
  | 0, _, _, _, h => h
  | fuel + 1, _, _, _, h => ⟨h.1, fun i hi => wpOp_mono (fun a' w' h' => wpN_any fuel _ a' w' h'.2) (h.2 i hi)⟩

/-- an operation may be taken first: it yields its value wherever S holds (T: S, or nothing for an operation that looks at no memory) -/
theorem wpN_first {T : World → Prop} {i : Nat} {oi : Oper} {v : Value} (hi : ops[i]? = some oi) (hsel : ∀ (j : Nat) (o : Oper) cs b, ops[j]? = some o → o.op ≠ .select cs b)
    (hQ : ∀ c a w, Q (.panic c) (a.put oi.dst v) w → Q (.panic c) a w)
    (hT : (∀ w, T w) ∨ (∃ k, T = S k ∧ k < ops.size ∧ ∀ t ot, ops[t]? = some ot → k ≤ t → ∃ e ∈ ot.after, Region.binds md e = true ∧ e.on = i)) :
    ∀ (fuel : Nat) (listed : Array Bool) (a : Act) (w : World),
      (∀ j oj, ops[j]? = some oj → j ≠ i → listed.getD j true = false → (∀ e ∈ oj.after, Region.binds md e = true → e.on ≠ i) → oi.apart ops oj = true) →
      i ∈ Region.ready md ops listed → YieldsIf P ops T oi v a → T w →
      wpN P md ops Q S fuel (listed.setIfInBounds i true) (a.put oi.dst v) w → wpN P md ops Q S (fuel + 1) listed a w := by
  intro fuel
  induction fuel with
  | zero =>
    intro listed a w _ hr hy hw H
    refine ⟨fun h => (by rw [h] at hr; cases hr), fun j hj => ?_⟩
    by_cases hji : j = i
    · subst hji; exact hy.wpOp hi hw ⟨fun _ _ _ h => h, H⟩
    · have := ready_mono hj hji
      rw [H.1] at this
      cases this
  | succ fuel ih =>
    intro listed a w hfree hr hy hw H
    refine ⟨fun h => (by rw [h] at hr; cases hr), fun j hj => ?_⟩
    by_cases hji : j = i
    · subst hji; exact hy.wpOp hi hw ⟨fun _ _ _ h => h, H⟩
    · have h1 := H.2 j (ready_mono hj hji)
      obtain ⟨hjun, oj, hoj, hall⟩ := mem_ready.1 hj
      have hnot : ∀ e ∈ oj.after, Region.binds md e = true → e.on ≠ i := fun e he hb heq => by
        have h1 := hall e he hb
        have h0 := (mem_ready.1 hr).1
        rw [heq] at h1
        rcases Nat.lt_or_ge i listed.size with h' | h'
        · simp [h'] at h0 h1; rw [h0] at h1; cases h1
        · simp [Array.getElem?_eq_none h'] at h1
      have h2 := wpOp_putIf hoj (hfree j oj hoj hji hjun hnot) (fun cs b => hsel i oi cs b hi) (fun cs b => hsel j oj cs b hoj) hQ hy h1
      have hfree' : ∀ k ok, ops[k]? = some ok → k ≠ i → (listed.setIfInBounds j true).getD k true = false →
          (∀ e ∈ ok.after, Region.binds md e = true → e.on ≠ i) → oi.apart ops ok = true := fun k ok hk hki hun hno => by
        refine hfree k ok hk hki ?_ hno
        by_cases hjk : j = k
        · subst hjk; exact hjun
        · rw [getD_set_ne true hjk] at hun; exact hun
      refine wpOp_mono (fun a' w' h3 => ?_) h2
      obtain ⟨hy', hS', hn'⟩ := h3
      have hTw : T w' := by
        rcases hT with hT | ⟨k, rfl, hks, hT⟩
        · exact hT _
        · rcases Nat.lt_or_ge j k with h' | h'
          · exact hS' k h' hks hw
          · obtain ⟨e, he, hb, hon⟩ := hT j oj hoj h'
            exact absurd hon (hnot e he hb)
      refine ⟨hS', ih (listed.setIfInBounds j true) a' w' hfree' (ready_mono hr (Ne.symm hji)) hy' hTw ?_⟩
      rw [Array.setIfInBounds_comm _ _ hji]
      exact hn'

/-- does the operation's result hang on its operands alone? -/
def isPure (o : Oper) : Bool :=
  match o.op with
  | .move _ | .assign _ | .pick .. | .nilCheck _ | .binOp .. | .unOp .. | .fieldAddr .. | .field .. | .indexAddr .. | .slice .. | .extract .. => true
  | .call { callee := .builtin .len, .. } | .call { callee := .builtin .cap, .. } | .call { callee := .builtin .min, .. } | .call { callee := .builtin .max, .. } => true
  | _ => false

/-- every operation from n on waits for operation i -/
def lateB (ops : Array Oper) (n i : Nat) : Bool :=
  decide (n < ops.size) && (List.range ops.size).all fun t => decide (t < n) || ((ops[t]?).map fun o => o.after.any fun e => Region.binds .any e && e.on == i).getD false

/-- the operations of the mask may be taken in turn -/
def takeB (ops : Array Oper) : Nat → List Bool → Array Bool → Option (Array Bool)
  | _, [], listed => some listed
  | i, true :: m, listed =>
    if (Region.ready .any ops listed).contains i && Region.free .any ops listed i then takeB ops (i + 1) m (listed.setIfInBounds i true) else none
  | i, false :: m, listed => takeB ops (i + 1) m listed
/-- the others come in the order of the text -/
def restB (ops : Array Oper) : Nat → List Bool → Array Bool → Bool
  | i, [], listed => decide (ops.size ≤ i) && (Region.ready .any ops listed).isEmpty
  | i, true :: m, listed => restB ops (i + 1) m listed
  | i, false :: m, listed => (Region.ready .any ops listed == [i]) && restB ops (i + 1) m (listed.setIfInBounds i true)
def planB (ops : Array Oper) (m : List Bool) : Bool :=
  Region.noSelect ops && decide (m.length = ops.size) && match takeB ops 0 m (Array.replicate ops.size false) with
    | some listed => restB ops 0 m listed
    | none => false

def wpTake (P : Program) (ops : Array Oper) (S : Nat → World → Prop) : Nat → List Bool → List Oper → Act → (Act → Prop) → Prop
  | i, true :: m, o :: l, a, K =>
    (if Region.wanted o (yielded ops a.tmps) then ∃ v k, (isPure o = true ∨ lateB ops k i = true) ∧ (∀ w, (isPure o = false → S k w) → (execOp a.eval o).run P w = .ok (.value v) w) ∧ wpTake P ops S (i + 1) m l (a.put o.dst v) K
      else wpTake P ops S (i + 1) m l (a.put o.dst undef) K)
  | i, false :: m, _ :: l, a, K => wpTake P ops S (i + 1) m l a K
  | _, _, _, a, K => K a

/-- behind an operation: S is kept, and what follows -/
def andK (n i : Nat) (S : Nat → World → Prop) (w0 w : World) (H : Prop) : Prop := (∀ k, i < k → k < n → S k w0 → S k w) ∧ H
def wpRest (P : Program) (ops : Array Oper) (S : Nat → World → Prop) (Q : Exit → Act → World → Prop) : Nat → List Bool → List Oper → Act → World → Prop
  | i, true :: m, _ :: l, a, w => wpRest P ops S Q (i + 1) m l a w
  | i, false :: m, o :: l, a, w => wpList P ops (Exit.then (fun a' w' => andK ops.size i S w w' (wpRest P ops S Q (i + 1) m l a' w')) Q) [o] a w
  | _, _, _, a, w => Q .normal a w

theorem drop_cons {i : Nat} {o : Oper} {l : List Oper} (h : ops.toList.drop i = o :: l) : ops[i]? = some o ∧ ops.toList.drop (i + 1) = l := by
  have h1 : (ops.toList.drop i)[0]? = some o := by rw [h]; rfl
  have h2 : (ops.toList.drop i).drop 1 = l := by rw [h]; rfl
  rw [List.getElem?_drop] at h1
  rw [List.drop_drop] at h2
  exact ⟨by simpa using h1, h2⟩

theorem wpN_take (hsel : Region.noSelect ops = true) (hQ : ∀ c (a : Act) d v w, Q (.panic c) (a.put d v) w → Q (.panic c) a w) {w : World} (hS : ∀ k, S k w) {listed' : Array Bool} {fuel : Nat} :
    ∀ (m : List Bool) (i : Nat) (listed : Array Bool) (l : List Oper) (a : Act), takeB ops i m listed = some listed' → ops.toList.drop i = l → m.length = l.length →
      wpTake P ops S i m l a (fun a' => wpN P .any ops Q S fuel listed' a' w) → wpN P .any ops Q S (fuel + m.count true) listed a w
  | [], i, listed, l, a, ht, hl, hlen, h => by
    simp only [takeB, Option.some.injEq] at ht
    subst ht
    cases l with
    | nil => simpa [wpTake] using h
    | cons o l => simp at hlen
  | true :: m, i, listed, [], a, ht, hl, hlen, h => by simp at hlen
  | false :: m, i, listed, [], a, ht, hl, hlen, h => by simp at hlen
  | false :: m, i, listed, o :: l, a, ht, hl, hlen, h => by
    simp only [takeB] at ht
    have := wpN_take hsel hQ hS m (i + 1) listed l a ht (drop_cons hl).2 (by simpa using hlen) h
    simpa using this
  | true :: m, i, listed, o :: l, a, ht, hl, hlen, h => by
    obtain ⟨ho, hd⟩ := drop_cons hl
    simp only [takeB] at ht
    split at ht
    case isFalse => cases ht
    rename_i hc
    simp only [Bool.and_eq_true] at hc
    obtain ⟨h1, h2⟩ := hc
    have fin : ∀ (T : World → Prop) (v : Value), ((∀ w, T w) ∨ (∃ k, T = S k ∧ k < ops.size ∧ ∀ t ot, ops[t]? = some ot → k ≤ t → ∃ e ∈ ot.after, Region.binds .any e = true ∧ e.on = i)) → T w → YieldsIf P ops T o v a →
        wpTake P ops S (i + 1) m l (a.put o.dst v) (fun a' => wpN P .any ops Q S fuel listed' a' w) → wpN P .any ops Q S (fuel + (true :: m).count true) listed a w := by
      intro T v hT hTw hy hk
      have := wpN_take hsel hQ hS m (i + 1) _ l _ ht hd (by simpa using hlen) hk
      rw [List.count_cons_self, ← Nat.add_assoc]
      exact wpN_first ho (Region.noSelect_spec hsel) (fun c a w => hQ c a _ _ w) hT _ listed a w (Region.free_spec ho h2) (by simpa using h1) hy hTw this
    simp only [wpTake] at h
    by_cases hw : Region.wanted o (yielded ops a.tmps) = true
    · rw [if_pos hw] at h
      obtain ⟨v, k, h3, hv, hk⟩ := h
      cases hp : isPure o with
      | true => exact fin (fun _ => True) v (.inl fun _ => trivial) trivial (.inl ⟨hw, fun w _ => hv w (fun e => by rw [hp] at e; cases e)⟩) hk
      | false =>
        simp only [hp, Bool.false_eq_true, false_or, lateB, Bool.and_eq_true, decide_eq_true_eq] at h3
        refine fin (S k) v (.inr ⟨k, rfl, h3.1, fun t ot hot hn => ?_⟩) (hS k) (.inl ⟨hw, fun w hw => hv w (fun _ => hw)⟩) hk
        have h4 := List.all_eq_true.1 h3.2 t (List.mem_range.2 (Array.getElem?_eq_some_iff.1 hot).1)
        simp only [Bool.or_eq_true, decide_eq_true_eq, hot, Option.map_some, Option.getD_some] at h4
        rcases h4 with h4 | h4
        · omega
        · obtain ⟨e, he, hb⟩ := Array.any_eq_true'.1 h4
          simp only [Bool.and_eq_true, beq_iff_eq] at hb
          exact ⟨e, he, hb.1, hb.2⟩
    · rw [if_neg hw] at h
      exact fin (fun _ => True) undef (.inl fun _ => trivial) trivial (.inr ⟨by simpa using hw, rfl⟩) h

theorem wpN_rest : ∀ (m : List Bool) (i : Nat) (listed : Array Bool) (l : List Oper) (a : Act) (w : World), restB ops i m listed = true → ops.toList.drop i = l → m.length = l.length →
      wpRest P ops S Q i m l a w → wpN P .any ops Q S (m.count false) listed a w
  | [], i, listed, l, a, w, hr, hl, hlen, h => by
    cases l with
    | cons o l => simp at hlen
    | nil =>
      simp only [restB, Bool.and_eq_true, List.isEmpty_iff] at hr
      exact ⟨hr.2, by simpa [wpRest] using h⟩
  | true :: m, i, listed, [], a, w, hr, hl, hlen, h => by simp at hlen
  | false :: m, i, listed, [], a, w, hr, hl, hlen, h => by simp at hlen
  | true :: m, i, listed, o :: l, a, w, hr, hl, hlen, h => by
    simp only [restB] at hr
    have := wpN_rest m (i + 1) listed l a w hr (drop_cons hl).2 (by simpa using hlen) (by simpa [wpRest] using h)
    simpa using this
  | false :: m, i, listed, o :: l, a, w, hr, hl, hlen, h => by
    obtain ⟨ho, hd⟩ := drop_cons hl
    simp only [restB, Bool.and_eq_true, beq_iff_eq] at hr
    obtain ⟨hr1, hr2⟩ := hr
    rw [List.count_cons_self]
    refine ⟨fun h0 => (by rw [hr1] at h0; cases h0), fun j hj => ?_⟩
    rw [hr1] at hj
    simp only [List.mem_singleton] at hj
    subst hj
    have hK : ∀ a' w', andK ops.size j S w w' (wpRest P ops S Q (j + 1) m l a' w') → (∀ k, j < k → k < ops.size → S k w → S k w') ∧ wpN P .any ops Q S (m.count false) (listed.setIfInBounds j true) a' w' := by
      intro a' w' hk
      exact ⟨hk.1, wpN_rest m (j + 1) _ l a' w' hr2 hd (by simpa using hlen) hk.2⟩
    simp only [wpRest, wpList] at h
    unfold wpOp
    simp only [ho]
    split
    · rename_i hw
      rw [if_pos hw] at h
      rcases h with h | h
      · exact .inl (Oper.wp_mono hK h)
      · exact .inr h
    · rename_i hw
      rw [if_neg hw] at h
      exact hK _ _ h

theorem plan_any {l : List Oper} {a : Act} {w : World} (m : List Bool) (S : Nat → World → Prop) (hp : planB l.toArray m = true)
    (hQ : ∀ c (a : Act) d v w, Q (.panic c) (a.put d v) w → Q (.panic c) a w) (hS : ∀ k, S k w.drew)
    (h : wpTake P l.toArray S 0 m l a (fun a' => wpRest P l.toArray S Q 0 m l a' w.drew)) : wpAny P .any l.toArray Q l.toArray.size (Array.replicate l.toArray.size false) a { w with drawn := w.drawn + 1 } := by
  simp only [planB, Bool.and_eq_true, decide_eq_true_eq] at hp
  obtain ⟨⟨hsel, hlen⟩, hp⟩ := hp
  split at hp
  case h_2 => cases hp
  rename_i listed ht
  refine wpN_any (S := S) _ _ _ _ ?_
  have hsize : l.toArray.size = m.count false + m.count true := by
    rw [← hlen]
    clear ht hlen hp h
    induction m with
    | nil => rfl
    | cons b m ih => cases b <;> simp_all <;> omega
  rw [hsize]
  have ht' : takeB l.toArray 0 m (Array.replicate (m.count false + m.count true) false) = some listed := by rw [← hsize]; exact ht
  refine wpN_take (listed' := listed) hsel hQ hS m 0 _ l a ht' (by simp) (by simpa using hlen) ?_
  · have mono : ∀ (m' : List Bool) (i : Nat) (l' : List Oper) (a' : Act) (K K' : Act → Prop), (∀ a, K a → K' a) → wpTake P l.toArray S i m' l' a' K → wpTake P l.toArray S i m' l' a' K' := by
      intro m' 
      induction m' with
      | nil => intro i l' a' K K' hk h; simpa [wpTake] using hk _ (by simpa [wpTake] using h)
      | cons b m' ih =>
        intro i l' a' K K' hk h
        cases l' with
        | nil => cases b <;> simpa [wpTake] using hk _ (by simpa [wpTake] using h)
        | cons o l' =>
          cases b with
          | false => simp only [wpTake] at h ⊢; exact ih _ _ _ _ _ hk h
          | true =>
            simp only [wpTake] at h ⊢
            split
            · rename_i hw; rw [if_pos hw] at h; obtain ⟨v, k, hq, hv, h⟩ := h; exact ⟨v, k, hq, hv, ih _ _ _ _ _ hk h⟩
            · rename_i hw; rw [if_neg hw] at h; exact ih _ _ _ _ _ hk h
    exact mono _ _ _ _ _ _ (fun a' ha' => wpN_rest m 0 listed l a' w.drew hp (by simp) (by simpa using hlen) ha') h

theorem wp_region_plan {id : Nat} {l : List Oper} {a : Act} {w : World} (m : List Bool) (S : Nat → World → Prop) (hm : P.follows .mixedOrders = true) (hp : planB l.toArray m = true)
    (hQ : ∀ c (a : Act) d v w, Q (.panic c) (a.put d v) w → Q (.panic c) a w) (hS : ∀ k, S k w.drew)
    (h : wpTake P l.toArray S 0 m l a (fun a' => wpRest P l.toArray S Q 0 m l a' w.drew)) : (Code.region id l.toArray true).wp P Q a w :=
  wp_region_any hm (plan_any m S hp hQ hS h)

theorem wpTake_yes {i : Nat} {o : Oper} {l : List Oper} {m : List Bool} {a : Act} {K : Act → Prop} (k : Nat) (hw : Region.wanted o (yielded ops a.tmps) = true) (hk : (isPure o || lateB ops k i) = true)
    (h : ∃ v, (∀ w, (isPure o = false → S k w) → (execOp a.eval o).run P w = .ok (.value v) w) ∧ wpTake P ops S (i + 1) m l (a.put o.dst v) K) : wpTake P ops S i (true :: m) (o :: l) a K := by
  obtain ⟨v, hrun, h⟩ := h
  simp only [wpTake]; rw [if_pos hw]; exact ⟨v, k, by simpa using hk, hrun, h⟩
theorem wpTake_no {i : Nat} {o : Oper} {l : List Oper} {m : List Bool} {a : Act} {K : Act → Prop} (hw : Region.wanted o (yielded ops a.tmps) = false)
    (h : wpTake P ops S (i + 1) m l (a.put o.dst undef) K) : wpTake P ops S i (true :: m) (o :: l) a K := by
  simp only [wpTake]; rw [if_neg (by simp [hw])]; exact h
theorem wpTake_pass {i : Nat} {o : Oper} {l : List Oper} {m : List Bool} {a : Act} {K : Act → Prop} (h : wpTake P ops S (i + 1) m l a K) : wpTake P ops S i (false :: m) (o :: l) a K := h
theorem wpTake_nil {i : Nat} {m : List Bool} {a : Act} {K : Act → Prop} (h : K a) : wpTake P ops S i m [] a K := by cases m with | nil => exact h | cons b m => cases b <;> exact h
theorem wpRest_pass {i : Nat} {o : Oper} {l : List Oper} {m : List Bool} {a : Act} {w : World} (h : wpRest P ops S Q (i + 1) m l a w) : wpRest P ops S Q i (true :: m) (o :: l) a w := h
theorem wpRest_op {i : Nat} {o : Oper} {l : List Oper} {m : List Bool} {a : Act} {w : World} (h : wpList P ops (Exit.then (fun a' w' => andK ops.size i S w w' (wpRest P ops S Q (i + 1) m l a' w')) Q) [o] a w) : wpRest P ops S Q i (false :: m) (o :: l) a w := h
theorem wpRest_nil {i : Nat} {m : List Bool} {a : Act} {w : World} (h : Q .normal a w) : wpRest P ops S Q i m [] a w := by cases m with | nil => exact h | cons b m => cases b <;> exact h
end
end Go.VB
