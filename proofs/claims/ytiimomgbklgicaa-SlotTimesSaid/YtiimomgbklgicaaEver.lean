import Derived.Test.YtiimomgbklgicaaScript
/- XScript once more, for reads whose fact holds at every time: S ops.size is kept by every operation. -/
set_option linter.unusedVariables false
namespace Go.VB
open Go.RowKit
section
variable {P : Program} {ops : Array Oper} {Q : Exit → Act → World → Prop} {md : Region.Mode} {S : Nat → World → Prop}
def wpNE (P : Program) (md : Region.Mode) (ops : Array Oper) (Q : Exit → Act → World → Prop) (S : Nat → World → Prop) : Nat → Array Bool → Act → World → Prop
  | 0, listed, a, w => Region.ready md ops listed = [] ∧ Q .normal a w
  | fuel + 1, listed, a, w =>
    (Region.ready md ops listed = [] → Q .normal a w) ∧
    ∀ i ∈ Region.ready md ops listed, wpOp P ops Q i (fun a' w' => (∀ k, i < k → k ≤ ops.size → S k w → S k w') ∧ wpNE P md ops Q S fuel (listed.setIfInBounds i true) a' w') a w

theorem wpN_anyE : ∀ (fuel : Nat) (listed : Array Bool) (a : Act) (w : World), wpNE P md ops Q S fuel listed a w → wpAny P md ops Q fuel listed a w
  | 0, _, _, _, h => h
  | fuel + 1, _, _, _, h => ⟨h.1, fun i hi => wpOp_mono (fun a' w' h' => wpN_anyE fuel _ a' w' h'.2) (h.2 i hi)⟩

/-- an operation may be taken first: it yields its value wherever S holds (T: S, or nothing for an operation that looks at no memory) -/
theorem wpN_firstE {T : World → Prop} {i : Nat} {oi : Oper} {v : Value} (hi : ops[i]? = some oi) (hsel : ∀ (j : Nat) (o : Oper) cs b, ops[j]? = some o → o.op ≠ .select cs b)
    (hQ : ∀ c a w, Q (.panic c) (a.put oi.dst v) w → Q (.panic c) a w)
    (hT : (∀ w, T w) ∨ (∃ k, T = S k ∧ k ≤ ops.size ∧ ∀ t ot, ops[t]? = some ot → k ≤ t → ∃ e ∈ ot.after, Region.binds md e = true ∧ e.on = i)) :
    ∀ (fuel : Nat) (listed : Array Bool) (a : Act) (w : World),
      (∀ j oj, ops[j]? = some oj → j ≠ i → listed.getD j true = false → (∀ e ∈ oj.after, Region.binds md e = true → e.on ≠ i) → oi.apart ops oj = true) →
      i ∈ Region.ready md ops listed → YieldsIf P ops T oi v a → T w →
      wpNE P md ops Q S fuel (listed.setIfInBounds i true) (a.put oi.dst v) w → wpNE P md ops Q S (fuel + 1) listed a w := by
  intro fuel
  induction fuel with
  | zero =>
    intro listed a w _ hr hy hw H
    refine ⟨fun h => (by rw [h] at hr; cases hr), fun j hj => ?_⟩
    by_cases hji : j = i
    · subst hji; exact hy.wpOp hi hw ⟨fun _ _ _ h => h, H⟩
    · have := ready_mono hj hji
      rw [H.1] at this
      cases this
  | succ fuel ih =>
    intro listed a w hfree hr hy hw H
    refine ⟨fun h => (by rw [h] at hr; cases hr), fun j hj => ?_⟩
    by_cases hji : j = i
    · subst hji; exact hy.wpOp hi hw ⟨fun _ _ _ h => h, H⟩
    · have h1 := H.2 j (ready_mono hj hji)
      obtain ⟨hjun, oj, hoj, hall⟩ := mem_ready.1 hj
      have hnot : ∀ e ∈ oj.after, Region.binds md e = true → e.on ≠ i := fun e he hb heq => by
        have h1 := hall e he hb
        have h0 := (mem_ready.1 hr).1
        rw [heq] at h1
        rcases Nat.lt_or_ge i listed.size with h' | h'
        · simp [h'] at h0 h1; rw [h0] at h1; cases h1
        · simp [Array.getElem?_eq_none h'] at h1
      have h2 := wpOp_putIf hoj (hfree j oj hoj hji hjun hnot) (fun cs b => hsel i oi cs b hi) (fun cs b => hsel j oj cs b hoj) hQ hy h1
      have hfree' : ∀ k ok, ops[k]? = some ok → k ≠ i → (listed.setIfInBounds j true).getD k true = false →
          (∀ e ∈ ok.after, Region.binds md e = true → e.on ≠ i) → oi.apart ops ok = true := fun k ok hk hki hun hno => by
        refine hfree k ok hk hki ?_ hno
        by_cases hjk : j = k
        · subst hjk; exact hjun
        · rw [getD_set_ne true hjk] at hun; exact hun
      refine wpOp_mono (fun a' w' h3 => ?_) h2
      obtain ⟨hy', hS', hn'⟩ := h3
      have hTw : T w' := by
        rcases hT with hT | ⟨k, rfl, hks, hT⟩
        · exact hT _
        · rcases Nat.lt_or_ge j k with h' | h'
          · exact hS' k h' hks hw
          · obtain ⟨e, he, hb, hon⟩ := hT j oj hoj h'
            exact absurd hon (hnot e he hb)
      refine ⟨hS', ih (listed.setIfInBounds j true) a' w' hfree' (ready_mono hr (Ne.symm hji)) hy' hTw ?_⟩
      rw [Array.setIfInBounds_comm _ _ hji]
      exact hn'

def andKE (n i : Nat) (S : Nat → World → Prop) (w0 w : World) (H : Prop) : Prop := (∀ k, i < k → k ≤ n → S k w0 → S k w) ∧ H
def lateE (ops : Array Oper) (n i : Nat) : Bool := decide (n = ops.size) || lateB ops n i
def wpScriptE (P : Program) (ops : Array Oper) (S : Nat → World → Prop) (Q : Exit → Act → World → Prop) : List (Bool × Nat) → Act → World → Prop
  | [], a, w => Q .normal a w
  | (true, i) :: m, a, w => ∃ o, nth ops.toList i = some o ∧
    (if Region.wanted o (yielded ops a.tmps) then ∃ v k, (isPure o = true ∨ (lateE ops k i = true ∧ S k w)) ∧ (∀ w, (isPure o = false → S k w) → (execOp a.eval o).run P w = .ok (.value v) w) ∧ wpScriptE P ops S Q m (a.put o.dst v) w
      else wpScriptE P ops S Q m (a.put o.dst undef) w)
  | (false, i) :: m, a, w => ∃ o, nth ops.toList i = some o ∧ wpList P ops (Exit.then (fun a' w' => andKE ops.size i S w w' (wpScriptE P ops S Q m a' w')) Q) [o] a w
theorem wpN_scriptE (hsel : Region.noSelect ops = true) (hQ : ∀ c (a : Act) d v w, Q (.panic c) (a.put d v) w → Q (.panic c) a w) :
    ∀ (m : List (Bool × Nat)) (listed : Array Bool) (a : Act) (w : World), scriptB ops m listed = true → wpScriptE P ops S Q m a w → wpNE P .any ops Q S m.length listed a w
  | [], listed, a, w, hb, h => by
    simp only [scriptB, List.isEmpty_iff] at hb
    exact ⟨hb, h⟩
  | (true, i) :: m, listed, a, w, hb, h => by
    simp only [scriptB, Bool.and_eq_true] at hb
    obtain ⟨⟨h1, h2⟩, hb⟩ := hb
    obtain ⟨o, ho, h⟩ := h
    have ho := nth_at ho
    have fin : ∀ (T : World → Prop) (v : Value), ((∀ w, T w) ∨ (∃ k, T = S k ∧ k ≤ ops.size ∧ ∀ t ot, ops[t]? = some ot → k ≤ t → ∃ e ∈ ot.after, Region.binds .any e = true ∧ e.on = i)) → T w → YieldsIf P ops T o v a →
        wpScriptE P ops S Q m (a.put o.dst v) w → wpNE P .any ops Q S ((true, i) :: m).length listed a w := by
      intro T v hT hTw hy hk
      exact wpN_firstE ho (Region.noSelect_spec hsel) (fun c a w => hQ c a _ _ w) hT _ listed a w (Region.free_spec ho h2) (by simpa using h1) hy hTw (wpN_scriptE hsel hQ m _ _ _ hb hk)
    by_cases hw : Region.wanted o (yielded ops a.tmps) = true
    · rw [if_pos hw] at h
      obtain ⟨v, k, h3, hv, hk⟩ := h
      cases hp : isPure o with
      | true => exact fin (fun _ => True) v (.inl fun _ => trivial) trivial (.inl ⟨hw, fun w _ => hv w (fun e => by rw [hp] at e; cases e)⟩) hk
      | false =>
        rcases h3 with h3 | ⟨h3, hS⟩
        · rw [hp] at h3; cases h3
        · simp only [lateE, Bool.or_eq_true, decide_eq_true_eq] at h3
          rcases h3 with h3 | h3
          · refine fin (S k) v (.inr ⟨k, rfl, Nat.le_of_eq h3, fun t ot hot hn => ?_⟩) hS (.inl ⟨hw, fun w hw => hv w (fun _ => hw)⟩) hk
            have := (Array.getElem?_eq_some_iff.1 hot).1
            omega
          · simp only [lateB, Bool.and_eq_true, decide_eq_true_eq] at h3
            refine fin (S k) v (.inr ⟨k, rfl, Nat.le_of_lt h3.1, fun t ot hot hn => ?_⟩) hS (.inl ⟨hw, fun w hw => hv w (fun _ => hw)⟩) hk
            have h4 := List.all_eq_true.1 h3.2 t (List.mem_range.2 (Array.getElem?_eq_some_iff.1 hot).1)
            simp only [Bool.or_eq_true, decide_eq_true_eq, hot, Option.map_some, Option.getD_some] at h4
            rcases h4 with h4 | h4
            · omega
            · obtain ⟨e, he, hb⟩ := Array.any_eq_true'.1 h4
              simp only [Bool.and_eq_true, beq_iff_eq] at hb
              exact ⟨e, he, hb.1, hb.2⟩
    · rw [if_neg hw] at h
      exact fin (fun _ => True) undef (.inl fun _ => trivial) trivial (.inr ⟨by simpa using hw, rfl⟩) h
  | (false, i) :: m, listed, a, w, hb, h => by
    simp only [scriptB, Bool.and_eq_true, beq_iff_eq] at hb
    obtain ⟨hr1, hb⟩ := hb
    obtain ⟨o, ho, h⟩ := h
    have ho := nth_at ho
    refine ⟨fun h0 => (by rw [hr1] at h0; cases h0), fun j hj => ?_⟩
    rw [hr1] at hj
    simp only [List.mem_singleton] at hj
    subst hj
    have hK : ∀ a' w', andKE ops.size j S w w' (wpScriptE P ops S Q m a' w') → (∀ k, j < k → k ≤ ops.size → S k w → S k w') ∧ wpNE P .any ops Q S m.length (listed.setIfInBounds j true) a' w' := by
      intro a' w' hk
      exact ⟨hk.1, wpN_scriptE hsel hQ m _ _ _ hb hk.2⟩
    simp only [wpList] at h
    unfold wpOp
    simp only [ho]
    split
    · rename_i hw
      rw [if_pos hw] at h
      rcases h with h | h
      · exact .inl (Oper.wp_mono hK h)
      · exact .inr h
    · rename_i hw
      rw [if_neg hw] at h
      exact hK _ _ h
theorem script_anyE {l : List Oper} {a : Act} {w : World} (m : List (Bool × Nat)) (S : Nat → World → Prop) (hs : (Region.noSelect l.toArray && decide (m.length = l.toArray.size) && scriptB l.toArray m (Array.replicate l.toArray.size false)) = true)
    (hQ : ∀ c (a : Act) d v w, Q (.panic c) (a.put d v) w → Q (.panic c) a w)
    (h : wpScriptE P l.toArray S Q m a w.drew) : wpAny P .any l.toArray Q l.toArray.size (Array.replicate l.toArray.size false) a { w with drawn := w.drawn + 1 } := by
  simp only [Bool.and_eq_true, decide_eq_true_eq] at hs
  obtain ⟨⟨hsel, hlen⟩, hb⟩ := hs
  refine wpN_anyE (S := S) _ _ _ _ ?_
  rw [← hlen]
  exact wpN_scriptE hsel hQ m _ a w.drew (by rw [hlen]; exact hb) h
theorem wp_region_scriptE {id : Nat} {l : List Oper} {a : Act} {w : World} (m : List (Bool × Nat)) (S : Nat → World → Prop) (hm : P.follows .mixedOrders = true) (hs : (Region.noSelect l.toArray && decide (m.length = l.toArray.size) && scriptB l.toArray m (Array.replicate l.toArray.size false)) = true)
    (hQ : ∀ c (a : Act) d v w, Q (.panic c) (a.put d v) w → Q (.panic c) a w)
    (h : wpScriptE P l.toArray S Q m a w.drew) : (Code.region id l.toArray true).wp P Q a w :=
  wp_region_any hm (script_anyE m S hs hQ h)
theorem wpS_takeE {i : Nat} {m : List (Bool × Nat)} {a : Act} {w : World} {o : Oper} (k : Nat) (ho : nth ops.toList i = some o) (hw : Region.wanted o (yielded ops a.tmps) = true) (hk : (isPure o || lateE ops k i) = true) (hS : S k w)
    (h : ∃ v, (∀ w, (isPure o = false → S k w) → (execOp a.eval o).run P w = .ok (.value v) w) ∧ wpScriptE P ops S Q m (a.put o.dst v) w) : wpScriptE P ops S Q ((true, i) :: m) a w := by
  obtain ⟨v, hrun, h⟩ := h
  refine ⟨o, ho, ?_⟩
  rw [if_pos hw]
  refine ⟨v, k, ?_, hrun, h⟩
  rcases Bool.or_eq_true_iff.1 hk with hk | hk
  · exact .inl hk
  · exact .inr ⟨hk, hS⟩
theorem wpS_pureE {i : Nat} {m : List (Bool × Nat)} {a : Act} {w : World} {o : Oper} (ho : nth ops.toList i = some o) (hw : Region.wanted o (yielded ops a.tmps) = true) (hk : isPure o = true)
    (h : ∃ v, (∀ w, (execOp a.eval o).run P w = .ok (.value v) w) ∧ wpScriptE P ops S Q m (a.put o.dst v) w) : wpScriptE P ops S Q ((true, i) :: m) a w := by
  obtain ⟨v, hrun, h⟩ := h
  refine ⟨o, ho, ?_⟩
  rw [if_pos hw]
  exact ⟨v, 0, .inl hk, fun w _ => hrun w, h⟩
theorem wpS_skipE {i : Nat} {m : List (Bool × Nat)} {a : Act} {w : World} {o : Oper} (ho : nth ops.toList i = some o) (hw : Region.wanted o (yielded ops a.tmps) = false)
    (h : wpScriptE P ops S Q m (a.put o.dst undef) w) : wpScriptE P ops S Q ((true, i) :: m) a w := by
  refine ⟨o, ho, ?_⟩
  rw [if_neg (by simp [hw])]
  exact h
theorem wpS_opE {i : Nat} {m : List (Bool × Nat)} {a : Act} {w : World} {o : Oper} (ho : nth ops.toList i = some o) (h : wpList P ops (Exit.then (fun a' w' => andKE ops.size i S w w' (wpScriptE P ops S Q m a' w')) Q) [o] a w) : wpScriptE P ops S Q ((false, i) :: m) a w := ⟨o, ho, h⟩
theorem wpS_nilE {a : Act} {w : World} (h : Q .normal a w) : wpScriptE P ops S Q [] a w := h
end
end Go.VB
