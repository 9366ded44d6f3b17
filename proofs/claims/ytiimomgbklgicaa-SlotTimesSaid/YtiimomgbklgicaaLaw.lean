import Derived.Test.YtiimomgbklgicaaBase
import Derived.Below
import Derived.ChangeSame
import Derived.ProofKit
import Derived.OpenShut
/- What a law's post asks, once for all: where nothing that was there has changed, each argument reads as it read. -/
set_option linter.unusedVariables false
namespace Go.VB
open Go.RowKit Go.WideShapes Go.ChangeShapes
section
variable {H : Type} {enc : TypeId × Value → H} {P : Program}
theorem mapM_keep {α β : Type} {f g : α → Option β} : ∀ (l : List α) (ys : List β), l.mapM f = some ys → (∀ x ∈ l, ∀ y ∈ ys, f x = some y → g x = some y) → l.mapM g = some ys
  | [], ys, h, _ => by simpa using h
  | x :: l, ys, h, k => by
    simp only [List.mapM_cons, Option.bind_eq_bind, Option.bind_eq_some_iff, Option.pure_def, Option.some.injEq] at h ⊢
    obtain ⟨y, hy, zs, hz, rfl⟩ := h
    exact ⟨y, k x (by simp) y (by simp) hy, zs, mapM_keep l zs hz (fun a ha b hb => k a (by simp [ha]) b (by simp [hb])), rfl⟩
theorem mapM_len {α β : Type} {f : α → Option β} : ∀ (l : List α) (ys : List β), l.mapM f = some ys → ys.length = l.length
  | [], ys, h => by simp at h; subst h; rfl
  | x :: l, ys, h => by
    simp only [List.mapM_cons, Option.bind_eq_bind, Option.bind_eq_some_iff, Option.pure_def, Option.some.injEq] at h
    obtain ⟨y, hy, zs, hz, rfl⟩ := h
    simp [mapM_len l zs hz]
theorem cell_keep {w w' : World} (h : ∀ k, k < w.heap.size → w'.heap[k]? = w.heap[k]?) {a : Addr} {v : Value} (hv : w.cell? a = some v) : w'.cell? a = some v := by
  have hb : a.block < w.heap.size := by
    apply Nat.lt_of_not_le
    intro hle
    unfold World.cell? at hv
    rw [Array.getElem?_eq_none hle] at hv
    cases hv
  rw [World.cell?_of_block (w := w) (h a.block hb)]; exact hv
theorem cells_keep {w w' : World} (h : ∀ k, k < w.heap.size → w'.heap[k]? = w.heap[k]?) {base : Nat} {a : Addr} {n : Nat} {cs : List Value} (hc : w.cells? base a n = some cs) : w'.cells? base a n = some cs := by
  unfold World.cells? at *
  split at hc
  · rename_i hb
    rw [if_pos hb]
    exact mapM_keep _ _ hc fun i _ v _ hv => cell_keep h hv
  · cases hc
/-- the types of the text: what they are made of is among them; no slice has elements of no cell -/
def soundB (P : Program) : Bool := (List.range P.types.size).all fun t => match P.underlying t with
  | some (.pointer e) => decide (e < P.types.size)
  | some (.slice e) => decide (e < P.types.size) && P.cellsOf e != 0
  | some (.struct fs) => fs.toList.all fun f => decide (f.type < P.types.size)
  | some (.array _ e) => decide (e < P.types.size)
  | some (.map _ e) => decide (e < P.types.size)
  | _ => true
theorem soundB_at {P : Program} (h : soundB P = true) {t : TypeId} (ht : t < P.types.size) {d : TypeDesc} (hd : P.underlying t = some d) : (match d with
  | .pointer e => e < P.types.size
  | .slice e => e < P.types.size ∧ P.cellsOf e ≠ 0
  | .struct fs => ∀ f ∈ fs.toList, f.type < P.types.size
  | .array _ e => e < P.types.size
  | .map _ e => e < P.types.size
  | _ => True) := by
  have := List.all_eq_true.1 h t (List.mem_range.2 ht)
  rw [hd] at this
  cases d <;> first
    | exact trivial
    | exact of_decide_eq_true this
    | (obtain ⟨h1, h2⟩ := Bool.and_eq_true_iff.1 this; exact ⟨of_decide_eq_true h1, by simpa using h2⟩)
    | exact fun f hf => of_decide_eq_true (List.all_eq_true.1 this f hf)
theorem trod_keep {w w' : World} (h : ∀ k, k < w.heap.size → w'.heap[k]? = w.heap[k]?) (hz : soundB P = true) {base : Nat} {sp : Nat → Bool} :
    ∀ (fuel : Nat) (t : TypeId) (cs : List Value) (r : DataW H × List MemPlace), t < P.types.size → DataW.trod enc P w base (fun _ => true) true fuel t cs = some r → (∀ p ∈ r.2, sp p.block = true) → DataW.trod enc P w' base sp true fuel t cs = some r
  | 0, t, cs, r, _, hr, _ => by simp [DataW.trod] at hr
  | fuel + 1, t, cs, r, htt, hr, hp => by
    have ih := trod_keep h hz (base := base) (sp := sp) fuel
    have hat0 := fun d => soundB_at hz htt (d := d)
    unfold DataW.trod at hr ⊢
    split at hr <;> try exact hr
    · -- pointer
      rename_i e a hu
      have hu := hat0 _ hu
      simp only [Option.map_eq_some_iff, Option.bind_eq_some_iff] at hr ⊢
      obtain ⟨x, ⟨cs, hc, hx⟩, rfl⟩ := hr
      exact ⟨x, ⟨cs, cells_keep h hc, ih _ _ _ hu hx fun p hpx => hp p (List.mem_append_right _ hpx)⟩, rfl⟩
    · -- slice
      rename_i e a len cap hu
      have hu := hat0 _ hu
      dsimp only at hr ⊢
      split at hr
      case isFalse => cases hr
      rename_i hb
      rw [if_pos hb]
      simp only [Option.map_eq_some_iff, Option.bind_eq_some_iff, if_true] at hr ⊢
      obtain ⟨elems, he, rest, hs, rfl⟩ := hr
      dsimp only at hp
      have l1 := mapM_len _ _ he
      have l2 := mapM_len _ _ hs
      rw [List.length_range] at l1 l2
      have hat : ∀ (l : List Nat) (ys : List (DataW H × List MemPlace)), (∀ y ∈ ys, y ∈ elems ++ rest) → ∀ (g : Nat → Nat), l.mapM (fun i => (w.cells? base (a.add (g i * P.cellsOf e)) (P.cellsOf e)).bind (DataW.trod enc P w base (fun _ => true) true fuel e)) = some ys →
          l.mapM (fun i => (w'.cells? base (a.add (g i * P.cellsOf e)) (P.cellsOf e)).bind (DataW.trod enc P w' base sp true fuel e)) = some ys := by
        intro l ys hys g hl
        refine mapM_keep _ _ hl fun i _ y hy hiy => ?_
        simp only [Option.bind_eq_some_iff] at hiy ⊢
        obtain ⟨cs, hc, hx⟩ := hiy
        refine ⟨cs, cells_keep h hc, ih _ _ _ hu.1 hx fun p hpx => hp p (List.mem_append_right _ ?_)⟩
        exact List.mem_flatMap.2 ⟨y, hys y hy, hpx⟩
      refine ⟨elems, hat _ _ (fun y hy => List.mem_append_left _ hy) (fun i => i) he, rest, ?_, rfl⟩
      by_cases h0 : elems.length + rest.length = 0
      · have r0 : rest = [] := List.eq_nil_of_length_eq_zero (by omega)
        subst r0
        have : cap - len = 0 := by simpa using l2.symm
        split
        · rw [this]; rfl
        · rfl
      · have hsp : sp a.block = true := by
          refine hp (.cell a.block (a.off + 0)) (List.mem_append_left _ ?_)
          unfold MemPlace.row
          refine List.mem_map.2 ⟨0, List.mem_range.2 ?_, rfl⟩
          have := hu.2
          exact Nat.mul_pos (by omega) (by omega)
        rw [if_pos hsp]
        exact hat _ _ (fun y hy => List.mem_append_right _ hy) (fun i => len + i) hs
    · -- struct
      rename_i fs _ hu
      have hu := hat0 _ hu
      split at hr
      case isFalse => cases hr
      rename_i hb
      rw [if_pos hb]
      simp only [Option.map_eq_some_iff] at hr ⊢
      obtain ⟨xs, hx, rfl⟩ := hr
      exact ⟨xs, mapM_keep _ _ hx fun f hff y hy hf => ih _ _ _ (hu f hff) hf fun p hpx => hp p (List.mem_flatMap.2 ⟨y, hy, hpx⟩), rfl⟩
    · -- array
      rename_i n e _ hu
      have hu := hat0 _ hu
      split at hr
      case isFalse => cases hr
      rename_i hb
      rw [if_pos hb]
      simp only [Option.map_eq_some_iff] at hr ⊢
      obtain ⟨xs, hx, rfl⟩ := hr
      exact ⟨xs, mapM_keep _ _ hx fun f _ y hy hf => ih _ _ _ hu hf fun p hpx => hp p (List.mem_flatMap.2 ⟨y, hy, hpx⟩), rfl⟩
    · -- map
      rename_i k e b hu
      have hu := hat0 _ hu
      split at hr
      case h_2 => cases hr
      rename_i es clock hm
      have hbs : b < w.heap.size := (Array.getElem?_eq_some_iff.1 hm).1
      rw [h b hbs, hm]
      dsimp only
      split at hr
      case isFalse => cases hr
      rename_i hb
      rw [if_pos hb]
      simp only [Option.bind_eq_some_iff] at hr ⊢
      obtain ⟨en, he, hr⟩ := hr
      have hr0 := hr
      skip
      split at hr
      case isFalse => cases hr
      rename_i hs
      obtain rfl := Option.some.inj hr
      refine ⟨en, mapM_keep _ _ he fun x _ y hy hx => ?_, hr0⟩
      simp only [Option.bind_eq_some_iff] at hx ⊢
      obtain ⟨key, hk, hx⟩ := hx
      refine ⟨key, hk, ?_⟩
      split at hx
      case isFalse => cases hx
      rename_i hf
      rw [if_pos hf]
      simp only [Option.map_eq_some_iff] at hx ⊢
      obtain ⟨z, hz2, rfl⟩ := hx
      exact ⟨z, ih _ _ _ hu hz2 fun p hpx => hp p (List.mem_cons_of_mem _ (List.mem_flatMap.2 ⟨_, hy, hpx⟩)), rfl⟩
theorem trodAll_keep {w w' : World} (h : ∀ k, k < w.heap.size → w'.heap[k]? = w.heap[k]?) (hz : soundB P = true) {base : Nat} {sp : Nat → Bool} :
    ∀ (ts : List TypeId) (vs : List Value) (ds : List (DataW H)) (ps : List MemPlace), (∀ t ∈ ts, t < P.types.size) → DataW.TrodAll enc P w base (fun _ => true) true ts vs ds ps → (∀ p ∈ ps, sp p.block = true) → DataW.TrodAll enc P w' base sp true ts vs ds ps
  | [], [], [], _, _, hr, _ => hr
  | t :: ts, v :: vs, d :: ds, ps, htt, hr, hp => by
    obtain ⟨p, q, ⟨fuel, h1⟩, h2, rfl⟩ := hr
    exact ⟨p, q, ⟨fuel, trod_keep h hz _ _ _ _ (htt t (by simp)) h1 fun x hx => hp x (List.mem_append_left _ hx)⟩, trodAll_keep h hz ts vs ds q (fun x hx => htt x (by simp [hx])) h2 fun x hx => hp x (List.mem_append_right _ hx), rfl⟩
  | [], _ :: _, _, _, _, hr, _ => hr.elim
  | [], [], _ :: _, _, _, hr, _ => hr.elim
  | _ :: _, [], _, _, _, hr, _ => hr.elim
  | _ :: _, _ :: _, [], _, _, hr, _ => hr.elim
theorem post_law {f : Func} {s : ChangeSpec} {apart fresh handsOn again : Bool} {W W' : World} {args : Array Value} {ds gs : List (DataW H)} {before : List MemPlace} {tb : TypeId}
    (hz : soundB P = true) (hpar : f.params.toList.all (fun t => decide (t < P.types.size)) = true) (hs : s.vars = []) (hf : f.resultTypes = #[tb]) (ht : P.underlying tb = some .bool) (hfn : s.fn H (ds ++ gs) = { results := [.lit (.bool true)], args := ds })
    (hW : DataW.Whole enc P f.params.toList s.vars apart W args.toList ds gs before) (hb : Fr (fun _ => False) W W') : s.post enc P f apart fresh handsOn again W args (.bool true) W' := by
  have hB : Below W.heap.size W W' := ⟨hb.os, hb.tape, hb.output, hb.size, fun k hk => hb.blk k hk (fun h => h)⟩
  have hlt : ∀ p ∈ before, p.block < W.heap.size := fun p hp => hW.lt p hp
  have hold : ∀ p ∈ before, (fun b => decide (b < W.heap.size)) p.block = true := fun p hp => by simpa using hlt p hp
  have hW' := hW
  obtain ⟨p, q, hA, hV, hpq, hfz, hnd⟩ := hW
  rw [hs] at hV
  cases gs with
  | cons g gs => exact hV.elim
  | nil =>
    obtain rfl : q = [] := hV
    rw [List.append_nil] at hpq
    subst hpq
    rw [List.append_nil] at hfn
    have hr : ∀ (b : Nat) (sp : Nat → Bool) (hd : Bool), DataW.TrodAll enc P W' b sp hd f.resultTypes.toList ((Value.bool true).resultList f.resultTypes.size) [.lit (.bool true)] [] := by
      intro b sp hd
      rw [hf]
      exact ⟨[], [], ⟨1, by simp [DataW.trod, ht, Value.cells]⟩, rfl, rfl⟩
    have ha : ∀ sp : Nat → Bool, (∀ x ∈ before, sp x.block = true) → DataW.TrodAll enc P W' 0 sp true f.params.toList args.toList ds before := fun sp hsp => trodAll_keep hB.block hz _ _ _ _ (fun t ht => of_decide_eq_true (List.all_eq_true.1 hpar t ht)) hA hsp
    have hfn' : s.fn H (ds ++ []) = { results := [.lit (.bool true)], args := ds } := by rw [List.append_nil]; exact hfn
    refine ⟨ds, [], before, [], before, [], hW', by rw [hfn']; exact hr _ _ _, by rw [hfn']; exact ha _ hold, by rw [hs, hfn']; rfl, World.keptBut_mono (fun x hx => ⟨hx, Or.inr (.inl hx)⟩) (hB.frame (· ∈ before)), fun _ => ?_⟩
    refine ⟨?_, [.lit (.bool true)] ++ ds, [], before, ⟨before, [], ?_, by rw [hs]; rfl, by simp, ?_, ?_⟩, ?_⟩
    · intro j t r h1 h2
      rw [hf] at h1 h2
      cases j with
      | succ j => simp at h1
      | zero =>
        obtain rfl : tb = t := by simpa using h1
        have h2 : some (Value.bool true) = some r := h2
        obtain rfl := Option.some.inj h2
        exact okWide_bool_mk ht _
    · have := trodAll_append (ha _ (fun _ _ => rfl)) (hr 0 (fun _ => true) true)
      exact this
    · intro b off hp
      rw [hB.frozen (hlt _ hp)]
      exact hfz b off hp
    · intro ha
      exact hnd ha
    · intro x hx _
      exact hx
end
end Go.VB
