import Derived.Test.YtiimomgbklgicaaEver
/- Drawn regions by a script that may part: where two operations stand ready and neither can be taken, both orders are walked. Any operation may be taken whose value is the same at every world, or at every world where S holds. -/
set_option linter.unusedVariables false
namespace Go.VB
open Go.RowKit
section
variable {P : Program} {ops : Array Oper} {Q : Exit → Act → World → Prop} {S : Nat → World → Prop}
inductive Scr where
  | done : Scr
  | take (i : Nat) (s : Scr) : Scr
  | op (i : Nat) (s : Scr) : Scr
  | two (i j : Nat) (s t : Scr) : Scr
def Scr.len : Scr → Nat
  | .done => 0
  | .take _ s => s.len + 1
  | .op _ s => s.len + 1
  | .two _ _ s _ => s.len + 1
def scrB (ops : Array Oper) : Scr → Array Bool → Bool
  | .done, listed => (Region.ready .any ops listed).isEmpty
  | .take i s, listed => (Region.ready .any ops listed).contains i && Region.free .any ops listed i && scrB ops s (listed.setIfInBounds i true)
  | .op i s, listed => (Region.ready .any ops listed == [i]) && scrB ops s (listed.setIfInBounds i true)
  | .two i j s t, listed => (Region.ready .any ops listed == [i, j]) && scrB ops s (listed.setIfInBounds i true) && scrB ops t (listed.setIfInBounds j true) && (s.len == t.len)
def isPureT (o : Oper) : Bool := isPure o || match o.op with | .convert .. | .index .. => true | _ => false
def isTakeT (o : Oper) : Bool := isPureT o || match o.op with | .load .. | .lookup .. => true | _ => false
def mkScr (ops : Array Oper) : Nat → Array Bool → Option Scr
  | 0, listed => if (Region.ready .any ops listed).isEmpty then some .done else none
  | n + 1, listed =>
    let r := Region.ready .any ops listed
    if r.isEmpty then some .done else
    match r.find? fun i => (match ops[i]? with | some o => isTakeT o | none => false) && Region.free .any ops listed i with
    | some i => (mkScr ops n (listed.setIfInBounds i true)).map (.take i)
    | none => match r with
      | [i] => (mkScr ops n (listed.setIfInBounds i true)).map (.op i)
      | [i, j] => match mkScr ops n (listed.setIfInBounds i true), mkScr ops n (listed.setIfInBounds j true) with
        | some s, some t => some (.two i j s t)
        | _, _ => none
      | _ => none
def Scr.code : Scr → List Nat
  | .done => [3]
  | .take i s => (4 * i) :: s.code
  | .op i s => (4 * i + 1) :: s.code
  | .two i j s t => (4 * i + 2) :: (4 * j + 2) :: (s.code ++ t.code)
def wpScr (P : Program) (ops : Array Oper) (S : Nat → World → Prop) (Q : Exit → Act → World → Prop) : Scr → Act → World → Prop
  | .done, a, w => Q .normal a w
  | .take i s, a, w => ∃ o, nth ops.toList i = some o ∧
    (if Region.wanted o (yielded ops a.tmps) then ∃ v, ((∀ w, (execOp a.eval o).run P w = .ok (.value v) w) ∨ ∃ k, lateE ops k i = true ∧ S k w ∧ ∀ w, S k w → (execOp a.eval o).run P w = .ok (.value v) w) ∧ wpScr P ops S Q s (a.put o.dst v) w
      else wpScr P ops S Q s (a.put o.dst undef) w)
  | .op i s, a, w => ∃ o, nth ops.toList i = some o ∧ wpList P ops (Exit.then (fun a' w' => andKE ops.size i S w w' (wpScr P ops S Q s a' w')) Q) [o] a w
  | .two i j s t, a, w => (∃ o, nth ops.toList i = some o ∧ wpList P ops (Exit.then (fun a' w' => andKE ops.size i S w w' (wpScr P ops S Q s a' w')) Q) [o] a w) ∧
      (∃ o, nth ops.toList j = some o ∧ wpList P ops (Exit.then (fun a' w' => andKE ops.size j S w w' (wpScr P ops S Q t a' w')) Q) [o] a w)
theorem wpOp_scr {j : Nat} {s : Scr} {fuel : Nat} {listed : Array Bool} {a : Act} {w : World} {o : Oper} (ho : ops[j]? = some o) (ih : ∀ a' w', wpScr P ops S Q s a' w' → wpNE P .any ops Q S fuel listed a' w')
    (h : wpList P ops (Exit.then (fun a' w' => andKE ops.size j S w w' (wpScr P ops S Q s a' w')) Q) [o] a w) :
    wpOp P ops Q j (fun a' w' => (∀ k, j < k → k ≤ ops.size → S k w → S k w') ∧ wpNE P .any ops Q S fuel listed a' w') a w := by
  have hK : ∀ a' w', andKE ops.size j S w w' (wpScr P ops S Q s a' w') → (∀ k, j < k → k ≤ ops.size → S k w → S k w') ∧ wpNE P .any ops Q S fuel listed a' w' := fun a' w' hk => ⟨hk.1, ih _ _ hk.2⟩
  simp only [wpList] at h
  unfold wpOp
  simp only [ho]
  split
  · rename_i hw
    rw [if_pos hw] at h
    rcases h with h | h
    · exact .inl (Oper.wp_mono hK h)
    · exact .inr h
  · rename_i hw
    rw [if_neg hw] at h
    exact hK _ _ h
theorem wpN_scr (hsel : Region.noSelect ops = true) (hQ : ∀ c (a : Act) d v w, Q (.panic c) (a.put d v) w → Q (.panic c) a w) :
    ∀ (s : Scr) (listed : Array Bool) (a : Act) (w : World), scrB ops s listed = true → wpScr P ops S Q s a w → wpNE P .any ops Q S s.len listed a w
  | .done, listed, a, w, hb, h => by
    simp only [scrB, List.isEmpty_iff] at hb
    exact ⟨hb, h⟩
  | .take i s, listed, a, w, hb, h => by
    simp only [scrB, Bool.and_eq_true] at hb
    obtain ⟨⟨h1, h2⟩, hb⟩ := hb
    obtain ⟨o, ho, h⟩ := h
    have ho := nth_at ho
    have fin : ∀ (T : World → Prop) (v : Value), ((∀ w, T w) ∨ (∃ k, T = S k ∧ k ≤ ops.size ∧ ∀ t ot, ops[t]? = some ot → k ≤ t → ∃ e ∈ ot.after, Region.binds .any e = true ∧ e.on = i)) → T w → YieldsIf P ops T o v a →
        wpScr P ops S Q s (a.put o.dst v) w → wpNE P .any ops Q S (Scr.take i s).len listed a w := by
      intro T v hT hTw hy hk
      exact wpN_firstE ho (Region.noSelect_spec hsel) (fun c a w => hQ c a _ _ w) hT _ listed a w (Region.free_spec ho h2) (by simpa using h1) hy hTw (wpN_scr hsel hQ s _ _ _ hb hk)
    by_cases hw : Region.wanted o (yielded ops a.tmps) = true
    · rw [if_pos hw] at h
      obtain ⟨v, h3, hk⟩ := h
      rcases h3 with hv | ⟨k, h3, hS, hv⟩
      · exact fin (fun _ => True) v (.inl fun _ => trivial) trivial (.inl ⟨hw, fun w _ => hv w⟩) hk
      · simp only [lateE, Bool.or_eq_true, decide_eq_true_eq] at h3
        rcases h3 with h3 | h3
        · refine fin (S k) v (.inr ⟨k, rfl, Nat.le_of_eq h3, fun t ot hot hn => ?_⟩) hS (.inl ⟨hw, fun w hw => hv w hw⟩) hk
          have := (Array.getElem?_eq_some_iff.1 hot).1
          omega
        · simp only [lateB, Bool.and_eq_true, decide_eq_true_eq] at h3
          refine fin (S k) v (.inr ⟨k, rfl, Nat.le_of_lt h3.1, fun t ot hot hn => ?_⟩) hS (.inl ⟨hw, fun w hw => hv w hw⟩) hk
          have h4 := List.all_eq_true.1 h3.2 t (List.mem_range.2 (Array.getElem?_eq_some_iff.1 hot).1)
          simp only [Bool.or_eq_true, decide_eq_true_eq, hot, Option.map_some, Option.getD_some] at h4
          rcases h4 with h4 | h4
          · omega
          · obtain ⟨e, he, hb⟩ := Array.any_eq_true'.1 h4
            simp only [Bool.and_eq_true, beq_iff_eq] at hb
            exact ⟨e, he, hb.1, hb.2⟩
    · rw [if_neg hw] at h
      exact fin (fun _ => True) undef (.inl fun _ => trivial) trivial (.inr ⟨by simpa using hw, rfl⟩) h
  | .op i s, listed, a, w, hb, h => by
    simp only [scrB, Bool.and_eq_true, beq_iff_eq] at hb
    obtain ⟨hr1, hb⟩ := hb
    obtain ⟨o, ho, h⟩ := h
    refine ⟨fun h0 => (by rw [hr1] at h0; cases h0), fun j hj => ?_⟩
    rw [hr1] at hj
    simp only [List.mem_singleton] at hj
    subst hj
    exact wpOp_scr (nth_at ho) (fun a' w' h' => wpN_scr hsel hQ s _ _ _ hb h') h
  | .two i j s t, listed, a, w, hb, h => by
    simp only [scrB, Bool.and_eq_true, beq_iff_eq] at hb
    obtain ⟨⟨⟨hr1, hb1⟩, hb2⟩, hl⟩ := hb
    obtain ⟨⟨o1, ho1, h1⟩, ⟨o2, ho2, h2⟩⟩ := h
    refine ⟨fun h0 => (by rw [hr1] at h0; cases h0), fun k hk => ?_⟩
    rw [hr1] at hk
    simp only [List.mem_cons, List.not_mem_nil, or_false] at hk
    rcases hk with rfl | rfl
    · exact wpOp_scr (nth_at ho1) (fun a' w' h' => wpN_scr hsel hQ s _ _ _ hb1 h') h1
    · refine wpOp_scr (nth_at ho2) (fun a' w' h' => ?_) h2
      have := wpN_scr hsel hQ t _ _ _ hb2 h'
      rwa [← hl] at this
theorem scr_any {l : List Oper} {a : Act} {w : World} (m : Scr) (S : Nat → World → Prop) (hs : (Region.noSelect l.toArray && decide (m.len = l.toArray.size) && scrB l.toArray m (Array.replicate l.toArray.size false)) = true)
    (hQ : ∀ c (a : Act) d v w, Q (.panic c) (a.put d v) w → Q (.panic c) a w)
    (h : wpScr P l.toArray S Q m a w.drew) : wpAny P .any l.toArray Q l.toArray.size (Array.replicate l.toArray.size false) a { w with drawn := w.drawn + 1 } := by
  simp only [Bool.and_eq_true, decide_eq_true_eq] at hs
  obtain ⟨⟨hsel, hlen⟩, hb⟩ := hs
  refine wpN_anyE (S := S) _ _ _ _ ?_
  rw [← hlen]
  exact wpN_scr hsel hQ m _ a w.drew (by rw [hlen]; exact hb) h
theorem wp_region_scr {id : Nat} {l : List Oper} {a : Act} {w : World} (m : Scr) (S : Nat → World → Prop) (hm : P.follows .mixedOrders = true) (hs : (Region.noSelect l.toArray && decide (m.len = l.toArray.size) && scrB l.toArray m (Array.replicate l.toArray.size false)) = true)
    (hQ : ∀ c (a : Act) d v w, Q (.panic c) (a.put d v) w → Q (.panic c) a w)
    (h : wpScr P l.toArray S Q m a w.drew) : (Code.region id l.toArray true).wp P Q a w :=
  wp_region_any hm (scr_any m S hs hQ h)
theorem wpT_pure {i : Nat} {m : Scr} {a : Act} {w : World} {o : Oper} (ho : nth ops.toList i = some o) (hw : Region.wanted o (yielded ops a.tmps) = true) (_hk : isPureT o = true)
    (h : ∃ v, (∀ w, (execOp a.eval o).run P w = .ok (.value v) w) ∧ wpScr P ops S Q m (a.put o.dst v) w) : wpScr P ops S Q (.take i m) a w := by
  obtain ⟨v, hrun, h⟩ := h
  refine ⟨o, ho, ?_⟩
  rw [if_pos hw]
  exact ⟨v, .inl hrun, h⟩
theorem wpT_take {i : Nat} {m : Scr} {a : Act} {w : World} {o : Oper} (k : Nat) (ho : nth ops.toList i = some o) (hw : Region.wanted o (yielded ops a.tmps) = true) (hk : lateE ops k i = true) (hS : S k w)
    (h : ∃ v, (∀ w, S k w → (execOp a.eval o).run P w = .ok (.value v) w) ∧ wpScr P ops S Q m (a.put o.dst v) w) : wpScr P ops S Q (.take i m) a w := by
  obtain ⟨v, hrun, h⟩ := h
  refine ⟨o, ho, ?_⟩
  rw [if_pos hw]
  exact ⟨v, .inr ⟨k, hk, hS, hrun⟩, h⟩
theorem wpT_skip {i : Nat} {m : Scr} {a : Act} {w : World} {o : Oper} (ho : nth ops.toList i = some o) (hw : Region.wanted o (yielded ops a.tmps) = false)
    (h : wpScr P ops S Q m (a.put o.dst undef) w) : wpScr P ops S Q (.take i m) a w := by
  refine ⟨o, ho, ?_⟩
  rw [if_neg (by simp [hw])]
  exact h
theorem wpT_op {i : Nat} {m : Scr} {a : Act} {w : World} {o : Oper} (ho : nth ops.toList i = some o) (h : wpList P ops (Exit.then (fun a' w' => andKE ops.size i S w w' (wpScr P ops S Q m a' w')) Q) [o] a w) : wpScr P ops S Q (.op i m) a w := ⟨o, ho, h⟩
theorem wpT_two {i j : Nat} {s t : Scr} {a : Act} {w : World} (h1 : wpScr P ops S Q (.op i s) a w) (h2 : wpScr P ops S Q (.op j t) a w) : wpScr P ops S Q (.two i j s t) a w := ⟨h1, h2⟩
theorem wpT_nil {a : Act} {w : World} (h : Q .normal a w) : wpScr P ops S Q .done a w := h
/-- an end that no panic reaches -/
def quietX (Q : Exit → Act → World → Prop) : Exit → Act → World → Prop
  | .panic _, _, _ => False
  | e, a, w => Q e a w
theorem quietX_normal {a : Act} {w : World} (h : Q .normal a w) : quietX Q .normal a w := h
theorem wp_region_scrQ {id : Nat} {l : List Oper} {a : Act} {w : World} (m : Scr) (S : Nat → World → Prop) (hm : P.follows .mixedOrders = true) (hs : (Region.noSelect l.toArray && decide (m.len = l.toArray.size) && scrB l.toArray m (Array.replicate l.toArray.size false)) = true)
    (h : wpScr P l.toArray S (quietX Q) m a w.drew) : (Code.region id l.toArray true).wp P Q a w := by
  refine Code.wp_mono ?_ (wp_region_scr (Q := quietX Q) m S hm hs (fun _ _ _ _ _ h => h) h)
  intro e a w h
  cases e <;> first | exact h | exact False.elim h
end
end Go.VB
