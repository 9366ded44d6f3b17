import Derived.Test.YtbkebjgoaeddjaaRound
import Derived.Test.YtbkebjgoaeddjaaTree
/- A range over a function by an invariant: the loop's own blocks are dealt with once for all. -/
set_option linter.unusedVariables false
namespace Go.VB
open Go.RowKit
section
variable {P : Program}
/-- what a call of yield leaves: on with the next, or out -/
def YPost (J : Nat → World → Prop) (D : World → Prop) (i : Nat) (e : Ending) (W : World) : Prop := (e = .returned (.bool true) ∧ J (i + 1) W) ∨ (e = .returned (.bool false) ∧ D W)
/-- how the body of a round may end: J at the next, or by 'return' with E; the loop's own blocks (b, b + 1) untouched -/
def RoundQ (J : Nat → World → Prop) (E : World → Prop) (i b : Nat) (Wb : World) : Exit → Act → World → Prop
  | .normal, _, W => J (i + 1) W ∧ Fr (fun k => k ≠ b ∧ k ≠ b + 1) Wb W
  | .ret, _, W => E W ∧ Fr (fun k => k ≠ b ∧ k ≠ b + 1) Wb W
  | _, _, _ => False
theorem wp_range_K {Q : Exit → Act → World → Prop} {g : Operand} {ps : Array Tmp} {assign body : Code} {a : Act} {w : World} {gf : FuncId} {lb : Array Value} (n : Nat) (item : Nat → Value) (J : Nat → World → Prop) (E : World → Prop)
    (hg : a.eval g = .func (.func gf) #[] lb) (eg : ∀ args w, (callFunc gf args).run P w = .ok (.enter gf args) w) (hps : 1 = ps.size)
    (hfr : ∀ i W W', J i W → Fr (fun k => k = w.heap.size ∨ k = w.heap.size + 1) W W' → J i W')
    (hfrE : ∀ W W', E W → Fr (fun k => k = w.heap.size ∨ k = w.heap.size + 1) W W' → E W')
    (hit : ∀ (JJ : Nat → World → Prop) (DD : World → Prop) (W : World), (∀ i W, JJ i W → J i W) → (∀ i W, JJ i W → i < n → YieldAt Fence.wide 0 P (w.heap.size + 1) #[item i] W (YPost JJ DD i)) → JJ 0 W →
      CallsIn Fence.wide 0 P gf (#[.func (.yield (w.heap.size + 1)) #[] #[]] ++ lb) W fun e W' => (∃ v, e = .returned v) ∧ (JJ n W' ∨ DD W'))
    (h0 : J 0 w)
    (hround : ∀ i Wb, J i Wb → i < n → w.heap.size + 1 < Wb.heap.size → ∃ a₁ : Act, (∀ (W : World) (K : Act → World → Prop), K a₁ W → assign.wpIn (Fence.wide.inRound (w.heap.size + 1)) 0 P (Exit.then K (fun _ _ _ => False)) { tmps := (ps.zip #[item i]).foldl (fun t (p, v) => t.setIfInBounds p v) a.tmps, defers := [] } W) ∧
      body.wpIn (Fence.wide.inRound (w.heap.size + 1)) 0 P (RoundQ J E i w.heap.size Wb) a₁ Wb)
    (hend : ∀ W, J n W → W.heap[w.heap.size]? = some (.deferred (some [])) → Q .normal { a with defers := { target := .collected w.heap.size, args := #[] } :: a.defers } W)
    (hret : ∀ W, E W → W.heap[w.heap.size]? = some (.deferred (some [])) → Code.ret.wp P Q { a with defers := { target := .collected w.heap.size, args := #[] } :: a.defers } W) :
    (Code.rangeFunc g ps assign body).wp P Q a w := by
  refine wp_range hg eg ?_
  intro fn
  obtain ⟨rec, hrec⟩ : ∃ rec, rec = mkRec fn a.tmps ps assign body w.heap.size := ⟨_, rfl⟩
  rw [← hrec]
  obtain ⟨W2, hW2⟩ : ∃ W2, (w.alloc (.deferred (some []))).alloc (.loop (rec .ready none)) = W2 := ⟨_, rfl⟩
  rw [hW2]
  have hl2 : W2.heap[w.heap.size + 1]? = some (.loop (rec .ready none)) := by
    rw [← hW2]; have := World.alloc_heap_new (w.alloc (.deferred (some []))) (.loop (rec .ready none)); rwa [World.size_alloc] at this
  have hD2 : W2.heap[w.heap.size]? = some (.deferred (some [])) := by
    rw [← hW2]; exact (Below.heap_alloc _ _ _ (by simp)).trans (World.alloc_heap_new w _)
  have F2 : Fr (fun k => k = w.heap.size ∨ k = w.heap.size + 1) w W2 := by rw [← hW2]; exact ((Fr.refl _ _).alloc _).alloc _
  have s2 : w.heap.size + 1 < W2.heap.size := (Array.getElem?_eq_some_iff.1 hl2).1
  refine (hit (fun i W => J i W ∧ W.heap[w.heap.size + 1]? = some (.loop (rec .ready none)) ∧ W.heap[w.heap.size]? = some (.deferred (some [])))
    (fun W => E W ∧ W.heap[w.heap.size + 1]? = some (.loop (rec .done (some .ret))) ∧ W.heap[w.heap.size]? = some (.deferred (some []))) W2 (fun i W h => h.1) ?_ ⟨hfr _ _ _ h0 F2, hl2, hD2⟩).mono ?_
  · rintro i W ⟨hJ, hl, hD⟩ hi
    have hlI : w.heap.size + 1 < W.heap.size := (Array.getElem?_eq_some_iff.1 hl).1
    have hlb : (W.putObj (w.heap.size + 1) (.loop (rec .busy none))).heap[w.heap.size + 1]? = some (.loop (rec .busy none)) := World.putObj_heap_same hlI
    have hDb : (W.putObj (w.heap.size + 1) (.loop (rec .busy none))).heap[w.heap.size]? = some (.deferred (some [])) := (World.putObj_heap_other (by omega)).trans hD
    have hFb : Fr (fun k => k = w.heap.size ∨ k = w.heap.size + 1) W (W.putObj (w.heap.size + 1) (.loop (rec .busy none))) := (Fr.refl _ _).putObj _ _ (fun _ => .inr rfl)
    have hJb := hfr _ _ _ hJ hFb
    have hsb : w.heap.size + 1 < (W.putObj (w.heap.size + 1) (.loop (rec .busy none))).heap.size := by rw [World.putObj_size]; exact hlI
    obtain ⟨a₁, hassign, hR⟩ := hround i _ hJb hi hsb
    subst hrec
    generalize hWb : W.putObj (w.heap.size + 1) (.loop (mkRec fn a.tmps ps assign body w.heap.size .busy none)) = Wb at *
    refine YieldAt.mono (yieldAt_round (a₁ := a₁) (R := fun b W' => (b = true ∧ J (i + 1) W' ∧ W'.heap[w.heap.size + 1]? = some (.loop (mkRec fn a.tmps ps assign body w.heap.size .ready none)) ∧ W'.heap[w.heap.size]? = some (.deferred (some []))) ∨
      (b = false ∧ E W' ∧ W'.heap[w.heap.size + 1]? = some (.loop (mkRec fn a.tmps ps assign body w.heap.size .done (some .ret))) ∧ W'.heap[w.heap.size]? = some (.deferred (some [])))) hl hps (fun K hK => hassign W K hK) ?_) ?_
    · rw [hWb]
      refine wpIn_mono hR ?_
      rintro e a3 W3 hp
      cases e with
      | normal =>
        obtain ⟨h1, h2⟩ := hp
        have q1 : W3.heap[w.heap.size + 1]? = _ := (h2.blk _ hsb (by simp)).trans hlb
        have q2 : W3.heap[w.heap.size]? = _ := (h2.blk _ (by omega) (by simp)).trans hDb
        exact ⟨q1, .inl ⟨rfl, hfr _ _ _ h1 ((Fr.refl _ _).putObj _ _ (fun _ => .inr rfl)), World.putObj_heap_same (Array.getElem?_eq_some_iff.1 q1).1, (World.putObj_heap_other (by omega)).trans q2⟩⟩
      | ret =>
        obtain ⟨h1, h2⟩ := hp
        have q1 : W3.heap[w.heap.size + 1]? = _ := (h2.blk _ hsb (by simp)).trans hlb
        have q2 : W3.heap[w.heap.size]? = _ := (h2.blk _ (by omega) (by simp)).trans hDb
        exact ⟨q1, .inr ⟨rfl, hfrE _ _ h1 ((Fr.refl _ _).putObj _ _ (fun _ => .inr rfl)), World.putObj_heap_same (Array.getElem?_eq_some_iff.1 q1).1, (World.putObj_heap_other (by omega)).trans q2⟩⟩
      | exit id => exact hp.elim
      | goto t => exact hp.elim
      | panic ch => exact hp.elim
      | outgrown => exact hp.elim
    · rintro e W' ⟨b, rfl, ⟨rfl, h⟩ | ⟨rfl, h⟩⟩
      · exact .inl ⟨rfl, h⟩
      · exact .inr ⟨rfl, h⟩
  · rintro e W ⟨⟨v, rfl⟩, ⟨hJ, hl, hD⟩ | ⟨hE, hl, hD⟩⟩
    · refine ⟨⟨v, rfl⟩, hD, .inl ⟨hl, ?_⟩⟩
      exact hend _ (hfr _ _ _ hJ ((Fr.refl _ _).putObj _ _ (fun _ => .inr rfl))) ((World.putObj_heap_other (by omega)).trans hD)
    · refine ⟨⟨v, rfl⟩, hD, .inr ⟨_, hl, ?_⟩⟩
      exact hret _ (hfrE _ _ hE ((Fr.refl _ _).putObj _ _ (fun _ => .inr rfl))) ((World.putObj_heap_other (by omega)).trans hD)
theorem wp_range_J {Q : Exit → Act → World → Prop} {g : Operand} {ps : Array Tmp} {assign body : Code} {a : Act} {w : World} {gf : FuncId} {lb : Array Value} (n : Nat) (item : Nat → Value) (J : Nat → World → Prop) (E : World → Prop) (a₁ : Nat → Act)
    (hg : a.eval g = .func (.func gf) #[] lb) (eg : ∀ args w, (callFunc gf args).run P w = .ok (.enter gf args) w) (hps : 1 = ps.size)
    (hfr : ∀ i W W', J i W → Fr (fun k => k = w.heap.size ∨ k = w.heap.size + 1) W W' → J i W')
    (hfrE : ∀ W W', E W → Fr (fun k => k = w.heap.size ∨ k = w.heap.size + 1) W W' → E W')
    (hit : ∀ (JJ : Nat → World → Prop) (DD : World → Prop) (W : World), (∀ i W, JJ i W → J i W) → (∀ i W, JJ i W → i < n → YieldAt Fence.wide 0 P (w.heap.size + 1) #[item i] W (YPost JJ DD i)) → JJ 0 W →
      CallsIn Fence.wide 0 P gf (#[.func (.yield (w.heap.size + 1)) #[] #[]] ++ lb) W fun e W' => (∃ v, e = .returned v) ∧ (JJ n W' ∨ DD W'))
    (h0 : J 0 w)
    (hassign : ∀ (i : Nat) (W : World) (K : Act → World → Prop), K (a₁ i) W → assign.wpIn (Fence.wide.inRound (w.heap.size + 1)) 0 P (Exit.then K (fun _ _ _ => False)) { tmps := (ps.zip #[item i]).foldl (fun t (p, v) => t.setIfInBounds p v) a.tmps, defers := [] } W)
    (hround : ∀ i Wb, J i Wb → i < n → w.heap.size + 1 < Wb.heap.size → body.wpIn (Fence.wide.inRound (w.heap.size + 1)) 0 P (RoundQ J E i w.heap.size Wb) (a₁ i) Wb)
    (hend : ∀ W, J n W → W.heap[w.heap.size]? = some (.deferred (some [])) → Q .normal { a with defers := { target := .collected w.heap.size, args := #[] } :: a.defers } W)
    (hret : ∀ W, E W → W.heap[w.heap.size]? = some (.deferred (some [])) → Code.ret.wp P Q { a with defers := { target := .collected w.heap.size, args := #[] } :: a.defers } W) :
    (Code.rangeFunc g ps assign body).wp P Q a w := by
  exact wp_range_K n item J E hg eg hps hfr hfrE hit h0 (fun i Wb h1 h2 h3 => ⟨a₁ i, fun W K hK => hassign i W K hK, hround i Wb h1 h2 h3⟩) hend hret
/-- a drawn region in a round, by a script -/
theorem wpIn_region_scriptE {l id : Nat} {os : List Oper} {a : Act} {w : World} {Q : Exit → Act → World → Prop} (m : List (Bool × Nat)) (S : Nat → World → Prop) (hm : P.follows .mixedOrders = true) (hs : (Region.noSelect os.toArray && decide (m.length = os.toArray.size) && scriptB os.toArray m (Array.replicate os.toArray.size false)) = true)
    (hQ : ∀ c (a : Act) d v w, Q (.panic c) (a.put d v) w → Q (.panic c) a w) (hnd : noDefer os.toArray = true) (hL : ¬ LetsOut Q)
    (h : wpScriptE P os.toArray S Q m a w.drew) : (Code.region id os.toArray true).wpIn (Fence.wide.inRound l) 0 P Q a w :=
  wpIn_region_any hm (wpAnyIn_of hnd hL _ _ _ _ (script_anyE m S hs hQ h))
/-- a drawn region in a round, by a script that may part -/
theorem wpIn_region_scr {l id : Nat} {os : List Oper} {a : Act} {w : World} {Q : Exit → Act → World → Prop} (m : Scr) (S : Nat → World → Prop) (hm : P.follows .mixedOrders = true) (hs : (Region.noSelect os.toArray && decide (m.len = os.toArray.size) && scrB os.toArray m (Array.replicate os.toArray.size false)) = true)
    (hQ : ∀ c (a : Act) d v w, Q (.panic c) (a.put d v) w → Q (.panic c) a w) (hnd : noDefer os.toArray = true) (hL : ¬ LetsOut Q)
    (h : wpScr P os.toArray S Q m a w.drew) : (Code.region id os.toArray true).wpIn (Fence.wide.inRound l) 0 P Q a w :=
  wpIn_region_any hm (wpAnyIn_of hnd hL _ _ _ _ (scr_any m S hs hQ h))
end
end Go.VB
