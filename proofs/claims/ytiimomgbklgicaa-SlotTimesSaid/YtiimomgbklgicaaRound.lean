import Derived.Test.YtiimomgbklgicaaOps
import Derived.OrdersIn
import Derived.RangeFuncNested
import Derived.RangeFuncCalls
import Derived.RangeFuncBound
import Derived.RangeFuncLeaves
import Derived.Shelf.Abstract
import Derived.Shelf.RegionOpen
import Derived.OwnWalkIn
import Derived.TacticsInMore
import Derived.LoopNIn
import Derived.LoopIn
/- A range over a function: the statement, a round, a region that draws its order within a round. The fence asks nothing: every rule is one on plain calls. -/
set_option linter.unusedVariables false
namespace Go.VB
open Go.RowKit
section
variable {P : Program} {ops : Array Oper} {Q : Exit → Act → World → Prop} {md : Region.Mode} {l : Nat}

def noDefer (ops : Array Oper) : Bool := ops.all fun o => match o.op with | .defer _ => false | _ => true

theorem wpOpIn_of {i : Nat} {K : Act → World → Prop} {a : Act} {w : World} (hnd : noDefer ops = true) (hQ : ¬ LetsOut Q) (h : wpOp P ops Q i K a w) : wpOpIn (Fence.wide.inRound l) 0 P ops Q i K a w := by
  unfold wpOp at h
  unfold wpOpIn
  split
  · rename_i ho; simp only [ho] at h; exact h
  · rename_i o ho
    simp only [ho] at h
    split
    · rename_i hw
      simp only [hw, if_true] at h
      have h := h.resolve_right (fun h => hQ h.2)
      have hd : ∀ c, o.op ≠ .defer c := by
        intro c hc
        have hm : o ∈ ops := Array.mem_of_getElem? ho
        have := Array.all_eq_true_iff_forall_mem.1 hnd o hm
        rw [hc] at this
        cases this
      refine ⟨fun _ _ => trivial, ?_⟩
      have e : Oper.semAt (Fence.wide.inRound l).round a.eval o = execOp a.eval o := Oper.semAt_some l _ _ hd
      rw [e]
      unfold Oper.wp at h
      generalize (execOp a.eval o).run P w = r at h ⊢
      cases r with
      | ok x w' =>
        cases x <;> simp only [Oper.upon, Oper.uponIn] at h ⊢
        case value v => exact h
        case skip => exact h
        case defer d => exact h
        case enter f args => exact ⟨fun h => by simp [Fence.wide, Fence.inRound] at h, (callsIn_wide (n := 0 - 1)).2 h⟩
        case row row args =>
          refine ⟨fun h => by simp [Fence.wide, Fence.inRound] at h, fun c cs _ => ?_⟩
          obtain ⟨v, w'', hr, hs⟩ := h c cs
          exact ⟨v, w'', hr, stepsIn_wide.2 hs⟩
      | halt x w' => cases x <;> simp only [Oper.upon, Oper.uponIn] at h ⊢; exact h
    · rename_i hw
      simp only [hw] at h
      exact ⟨fun _ _ => trivial, h⟩
theorem wpAnyIn_of (hnd : noDefer ops = true) (hQ : ¬ LetsOut Q) : ∀ (fuel : Nat) (listed : Array Bool) (a : Act) (w : World), wpAny P md ops Q fuel listed a w → wpAnyIn (Fence.wide.inRound l) 0 P md ops Q fuel listed a w
  | 0, _, _, _, h => h
  | fuel + 1, _, _, _, h => ⟨h.1, fun i hi => wpOpIn_mono (fun a' w' h' => wpAnyIn_of hnd hQ fuel _ a' w' h') (wpOpIn_of hnd hQ (h.2 i hi))⟩
/-- a region that draws its order, within a round -/
theorem wpIn_region_plan {id : Nat} {os : List Oper} {a : Act} {w : World} (m : List Bool) (S : Nat → World → Prop) (hm : P.follows .mixedOrders = true) (hp : planB os.toArray m = true)
    (hQ : ∀ c (a : Act) d v w, Q (.panic c) (a.put d v) w → Q (.panic c) a w) (hnd : noDefer os.toArray = true) (hL : ¬ LetsOut Q) (hS : ∀ k, S k w.drew)
    (h : wpTake P os.toArray S 0 m os a (fun a' => wpRest P os.toArray S Q 0 m os a' w.drew)) : (Code.region id os.toArray true).wpIn (Fence.wide.inRound l) 0 P Q a w :=
  wpIn_region_any hm (wpAnyIn_of hnd hL _ _ _ _ (plan_any m S hp hQ hS h))

theorem wpListIn_of (hQ : ¬ LetsOut Q) : ∀ (os : List Oper) (a : Act) (w : World), noDefer os.toArray = true → wpList P ops Q os a w → wpListIn (Fence.wide.inRound l) 0 P ops Q os a w
  | [], _, _, _, h => h
  | o :: os, a, w, hnd, h => by
    have hnd' : noDefer os.toArray = true := by
      simp only [noDefer, List.all_toArray, List.all_cons, Bool.and_eq_true] at hnd ⊢
      exact hnd.2
    have hd : ∀ c, o.op ≠ .defer c := by
      intro c hc
      simp only [noDefer, List.all_toArray, List.all_cons, Bool.and_eq_true] at hnd
      rw [hc] at hnd
      exact absurd hnd.1 (by simp)
    unfold wpList at h
    unfold wpListIn
    split
    · rename_i hw
      rw [if_pos hw] at h
      have h := h.resolve_right (fun h => hQ h.2)
      have h2 : o.wp P a w (wpListIn (Fence.wide.inRound l) 0 P ops Q os) Q := Oper.wp_mono (fun a' w' h' => wpListIn_of hQ os a' w' hnd' h') h
      refine ⟨fun _ _ => trivial, ?_⟩
      have e : Oper.semAt (Fence.wide.inRound l).round a.eval o = execOp a.eval o := Oper.semAt_some l _ _ hd
      rw [e]
      unfold Oper.wp at h2
      generalize (execOp a.eval o).run P w = r at h2 ⊢
      cases r with
      | ok x w' =>
        cases x <;> simp only [Oper.upon, Oper.uponIn] at h2 ⊢
        case value v => exact h2
        case skip => exact h2
        case defer d => exact h2
        case enter f args => exact ⟨fun h => by simp [Fence.wide, Fence.inRound] at h, (callsIn_wide (n := 0 - 1)).2 h2⟩
        case row row args =>
          refine ⟨fun h => by simp [Fence.wide, Fence.inRound] at h, fun c cs _ => ?_⟩
          obtain ⟨v, w'', hr, hs⟩ := h2 c cs
          exact ⟨v, w'', hr, stepsIn_wide.2 hs⟩
      | halt x w' => cases x <;> simp only [Oper.upon, Oper.uponIn] at h2 ⊢; exact h2
    · rename_i hw
      rw [if_neg hw] at h
      exact ⟨fun _ _ => trivial, wpListIn_of hQ os _ w hnd' h⟩
/-- a plain region within a round: by the walk of a plain one -/
theorem wpIn_region_round {id : Nat} {os : List Oper} {a : Act} {w : World} (hnd : noDefer os.toArray = true) (hL : ¬ LetsOut Q) (h : wpList P os.toArray Q os a w) : (Code.region id os.toArray false).wpIn (Fence.wide.inRound l) 0 P Q a w :=
  wpIn_region_lit (wpListIn_of hL os a w hnd h)

/-- the loop's record -/
def mkRec (fn : FuncId) (tmps : Array Value) (ps : Array Tmp) (assign body : Code) (D : Nat) (s : LoopState) (p : Option Code) : Loop := { state := s, pending := p, fn, tmps, params := ps, assign, body, defers := D }

/-- THE STATEMENT. l: the record's block, D: the block of the rounds' deferred calls. -/
theorem wp_range {g : Operand} {ps : Array Tmp} {assign body : Code} {a : Act} {w : World} {gf : FuncId} {lb : Array Value} (hg : a.eval g = .func (.func gf) #[] lb) (eg : ∀ args w, (callFunc gf args).run P w = .ok (.enter gf args) w)
    (h : ∀ fn : FuncId, CallsIn Fence.wide 0 P gf (#[.func (.yield (w.heap.size + 1)) #[] #[]] ++ lb) ((w.alloc (.deferred (some []))).alloc (.loop (mkRec fn a.tmps ps assign body w.heap.size .ready none)))
      fun e W => (∃ v, e = .returned v) ∧ W.heap[w.heap.size]? = some (.deferred (some [])) ∧
        ((W.heap[w.heap.size + 1]? = some (.loop (mkRec fn a.tmps ps assign body w.heap.size .ready none)) ∧ Q .normal { a with defers := { target := .collected w.heap.size, args := #[] } :: a.defers } (W.putObj (w.heap.size + 1) (.loop (mkRec fn a.tmps ps assign body w.heap.size .exhausted none)))) ∨
         (∃ c, W.heap[w.heap.size + 1]? = some (.loop (mkRec fn a.tmps ps assign body w.heap.size .done (some c))) ∧ c.wp P Q { a with defers := { target := .collected w.heap.size, args := #[] } :: a.defers } (W.putObj (w.heap.size + 1) (.loop (mkRec fn a.tmps ps assign body w.heap.size .exhausted (some c))))))) :
    (Code.rangeFunc g ps assign body).wp P Q a w := by
  refine (wpIn_wide (n := 0)).1 (wpIn_rangeFunc ?_)
  intro fn _
  refine ⟨w.heap.size + 1, [{ target := .collected w.heap.size, args := #[] }], ((w.alloc (.deferred (some []))).alloc (.loop (mkRec fn a.tmps ps assign body w.heap.size .ready none))), { target := .fn (.func gf) lb, args := #[.func (.yield (w.heap.size + 1)) #[] #[]] }, ((w.alloc (.deferred (some []))).alloc (.loop (mkRec fn a.tmps ps assign body w.heap.size .ready none))), gf,
    #[.func (.yield (w.heap.size + 1)) #[] #[]] ++ lb, ((w.alloc (.deferred (some []))).alloc (.loop (mkRec fn a.tmps ps assign body w.heap.size .ready none))), run_enterLoop_outer _ _ _ _ _, ?_, fun _ _ => trivial, ?_, fun h => by simp [Fence.wide] at h, ?_⟩
  · simp only [resolve, hg]
    simp [go_sem]
  · simp [invoke, go_sem, eg]
  · refine (h fn).mono ?_
    rintro e W ⟨⟨v, rfl⟩, hD, ⟨hl, hq⟩ | ⟨c, hl, hq⟩⟩
    · exact ⟨none, _, run_endLoop (P := P) hl (by simp [mkRec]), hq⟩
    · exact ⟨some c, _, run_endLoop (P := P) hl (by simp [mkRec]), (wpIn_wide (n := 0)).2 hq⟩

/-- how a round may end: R speaks of what the call of yield hands back -/
def roundEnd (l : Nat) (rec : LoopState → Option Code → Loop) (R : Bool → World → Prop) : Exit → Act → World → Prop
  | .normal, _, W => W.heap[l]? = some (.loop (rec .busy none)) ∧ R true (W.putObj l (.loop (rec .ready none)))
  | .ret, _, W => W.heap[l]? = some (.loop (rec .busy none)) ∧ R false (W.putObj l (.loop (rec .done (some .ret))))
  | .exit id, _, W => W.heap[l]? = some (.loop (rec .busy none)) ∧ R false (W.putObj l (.loop (rec .done (some (.exit id)))))
  | _, _, _ => False

/-- A CALL OF yield. -/
theorem yieldAt_round {fn : FuncId} {tmps : Array Value} {ps : Array Tmp} {assign body : Code} {D : Nat} {W : World} {args : Array Value} {a₁ : Act} {R : Bool → World → Prop}
    (hl : W.heap[l]? = some (.loop (mkRec fn tmps ps assign body D .ready none))) (hs : args.size = ps.size)
    (hassign : ∀ K : Act → World → Prop, K a₁ W → assign.wpIn (Fence.wide.inRound l) 0 P (Exit.then K (fun _ _ _ => False)) { tmps := (ps.zip args).foldl (fun t (p, v) => t.setIfInBounds p v) tmps, defers := [] } W)
    (hbody : body.wpIn (Fence.wide.inRound l) 0 P (roundEnd l (mkRec fn tmps ps assign body D) R) a₁ (W.putObj l (.loop (mkRec fn tmps ps assign body D .busy none)))) :
    YieldAt Fence.wide 0 P l args W fun e W' => ∃ b, e = .returned (.bool b) ∧ R b W' := by
  have hy := run_yield (P := P) (args := args) hl (by simpa [mkRec] using hs)
  refine ⟨fn, _, assign, body, hy, roundIn_of_wpIn trivial (hassign _ ⟨_, run_beginRound hl (by simp [mkRec]), ?_⟩)⟩
  refine wpIn_mono hbody ?_
  rintro e a3 W3 hp
  cases e with
  | normal =>
    obtain ⟨h1, h2⟩ := hp
    exact ⟨_, _, run_endRound (P := P) none h1, true, rfl, h2⟩
  | ret =>
    obtain ⟨h1, h2⟩ := hp
    exact ⟨_, _, run_endRound (P := P) (some .ret) h1, false, rfl, h2⟩
  | exit id =>
    obtain ⟨h1, h2⟩ := hp
    exact ⟨_, _, run_endRound (P := P) (some (.exit id)) h1, false, rfl, h2⟩
  | goto t => exact hp.elim
  | panic ch => exact hp.elim
  | outgrown => exact hp.elim

/-! blocks of cells and the loop's own blocks -/
theorem Blk.putObj {W : World} {b : Nat} {c : List Value} {t : TypeId} (h : Blk W b c t) {k : Nat} {o : Obj} (o' : Obj) (hk : W.heap[k]? = some o) (ho : o.isCells = false) : Blk (W.putObj k o') b c t := by
  refine h.of_heap (World.putObj_heap_other ?_)
  rintro rfl
  rw [show W.heap[b]? = _ from h] at hk
  cases hk
  cases ho
theorem Fr.putObj {S : Nat → Prop} {w W : World} (h : Fr S w W) (k : Nat) (o : Obj) (hk : k < w.heap.size → S k) : Fr S w (W.putObj k o) :=
  ⟨h.os, h.tape, h.output, by rw [World.putObj_size]; exact h.size, fun i hi hn => (World.putObj_heap_other (by rintro rfl; exact hn (hk hi))).trans (h.blk i hi hn)⟩

/-- A function whose body holds a range over a function. -/
theorem calls_of_wp_marks {f : FuncId} {fn : Func} {c : Code} {args : Array Value} {w : World} {R : Ending → World → Prop} (hf : P.funcs[f]? = some fn) (hb : fn.body = some c)
    (h : c.wp P (bodyPostM Fence.wide 0 P fn R) { tmps := args ++ Array.replicate (fn.ntmps - args.size) undef, defers := [] } w) : Calls P f args w R :=
  (callsIn_wide (n := 0)).1 (callsIn_of_wp_marks hf hb trivial ((wpIn_wide (n := 0)).2 h))
/-- its end: the marks' block is taken -/
theorem leavesM_one {fn : Func} {tmps : Array Value} {R : Ending → World → Prop} {D : Nat} {W : World} {v : Value} (hD : W.heap[D]? = some (.deferred (some []))) (hr : (results fn tmps).run P (W.putObj D (.deferred none)) = .ok v (W.putObj D (.deferred none)))
    (h : R (.returned v) (W.putObj D (.deferred none))) : LeavesInM Fence.wide 0 P fn tmps R [{ target := .collected D, args := #[] }] .returning W := by
  refine ⟨by simp, .inl ⟨_, _, rfl, run_takeDeferred hD, ?_⟩⟩
  exact ⟨v, hr, h⟩
theorem leavesM_none {fn : Func} {tmps : Array Value} {R : Ending → World → Prop} {W : World} {v : Value} (hr : (results fn tmps).run P W = .ok v W)
    (h : R (.returned v) W) : LeavesInM Fence.wide 0 P fn tmps R [] .returning W := ⟨v, hr, h⟩
end
end Go.VB
