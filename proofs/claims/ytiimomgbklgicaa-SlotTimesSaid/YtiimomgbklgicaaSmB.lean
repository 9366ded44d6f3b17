import Derived.Test.YtiimomgbklgicaaSlG
import Derived.Maps.RangeWalk
/- The short methods, and every method at no slot. -/
set_option linter.unusedVariables false
namespace Go.Proofs.Ytiimomgbklgicaa
open Go.RowKit Go.VB Go.VB.Oct Go.VB.Cat Go.VB.Rec Go.VB.Slt
set_option maxRecDepth 20000
set_option maxHeartbeats 4000000
theorem Name_nil {w : World} : Calls Try.prog 20 #[.pointer none] w fun e w' => e = .returned (.string ⟨#[]⟩) ∧ w' = w := by
  go_enter Try.func20, Try.ntmps20
  go_wp2_with (fail)
  go_ret
  exact ⟨rfl, rfl⟩
theorem Acked_nil {w : World} : Calls Try.prog 21 #[.pointer none] w fun e w' => e = .returned (.int .i64 0) ∧ w' = w := by
  go_enter Try.func21, Try.ntmps21
  go_wp2_with (fail)
  go_ret
  exact ⟨rfl, rfl⟩
theorem Open_nil {w : World} : Calls Try.prog 14 #[.pointer none] w fun e w' => e = .returned (.int .i64 0) ∧ w' = w := by
  go_enter Try.func14, Try.ntmps14
  go_wp2_with (fail)
  go_ret
  exact ⟨rfl, rfl⟩
theorem Need_nil {w : World} : Calls Try.prog 22 #[.pointer none] w fun e w' => e = .returned (.int .i64 0) ∧ w' = w := by
  go_enter Try.func22, Try.ntmps22
  go_wp2_with (fail)
  go_ret
  exact ⟨rfl, rfl⟩
theorem Bytes_nil {w : World} : Calls Try.prog 23 #[.pointer none] w fun e w' => e = .returned (.string ⟨#[]⟩) ∧ w' = w := by
  go_enter Try.func23, Try.ntmps23
  go_wp2_with (fail)
  go_ret
  exact ⟨rfl, rfl⟩
theorem Spilled_nil {w : World} : Calls Try.prog 15 #[.pointer none] w fun e w' => e = .returned (.int .i64 0) ∧ w' = w := by
  go_enter Try.func15, Try.ntmps15
  go_wp2_with (fail)
  go_ret
  exact ⟨rfl, rfl⟩
theorem Queued_nil {w : World} (k : Int) : Calls Try.prog 11 #[.pointer none, .int .i64 k] w fun e w' => e = .returned (.slice none 0 0) ∧ w' = w := by
  go_enter Try.func11, Try.ntmps11
  go_wp2_with (fail)
  go_ret
  exact ⟨rfl, rfl⟩
theorem Ack_nil {w : World} (k : Int) : Calls Try.prog 19 #[.pointer none, .int .i64 k] w fun e w' => e = .returned (.int .i64 70) ∧ Fr (fun _ => False) w w' := by
  have f := hid ((Fr.refl (fun _ => False) w).alloc (.cells #[.int .i64 k] 3))
  go_enter Try.func19, Try.ntmps19
  go_wp2_with (fail)
  go_ret
  exact ⟨rfl, f.out⟩
theorem Feed_nil {w : World} (l : Int) (a0 a1 a2 a3 a4 a5 a6 a7 : Value) : Calls Try.prog 12 #[.pointer none, .int .i64 l, .agg #[a0, a1, a2, a3, a4, a5, a6, a7]] w fun e w' => e = .returned (.tuple #[]) ∧ Fr (fun _ => False) w w' := by
  have f := hid ((Fr.refl (fun _ => False) w).alloc (.cells #[a0, a1, a2, a3, a4, a5, a6, a7] 35))
  go_enter Try.func12, Try.ntmps12
  go_wp2_with (fail)
  refine bodyPost_ret (results_none rfl _ _ _) rfl ?_
  exact ⟨rfl, f.out⟩
theorem Name_go {S C : Nat → Prop} {w : World} {s : Nat} {v : SltV} (h : SlO S C w s v) : Calls Try.prog 20 #[.pointer (some ⟨s, 0, none⟩)] w fun e w' => e = .returned (.string (bs v.name)) ∧ w' = w := by
  have q : w.cell? ⟨s, 0, none⟩ = some (.string (bs v.name)) := h.b.cell 0
  clear h
  go_enter Try.func20, Try.ntmps20
  go_wp2_with (fail)
  go_ret
  exact ⟨rfl, rfl⟩
theorem Acked_go {S C : Nat → Prop} {w : World} {s : Nat} {v : SltV} (h : SlO S C w s v) : Calls Try.prog 21 #[.pointer (some ⟨s, 0, none⟩)] w fun e w' => e = .returned (.int .i64 v.acked) ∧ w' = w := by
  have q : w.cell? ⟨s, 1, none⟩ = some (.int .i64 v.acked) := h.b.cell 1
  clear h
  go_enter Try.func21, Try.ntmps21
  go_wp2_with (fail)
  go_ret
  exact ⟨rfl, rfl⟩
end Go.Proofs.Ytiimomgbklgicaa
/- Ack: the queue without what was acknowledged. -/
namespace Go.VB.Slt
open Go.VB Go.VB.Oct Go.VB.Cat Go.VB.Rec
def DnV.agg (d : DnV) : Value := .agg d.cells.toArray
end Go.VB.Slt
namespace Go.Proofs.Ytiimomgbklgicaa
open Go.RowKit Go.VB Go.VB.Oct Go.VB.Cat Go.VB.Rec Go.VB.Slt
theorem dn3_len (d : DnV) : d.cells.length = 3 := rfl
theorem ack1_go (x : DnV) (k : Int) {w : World} (b : Nat) (hc : w.cell? ⟨b, 0, none⟩ = some (.int .i64 k)) :
    Calls Try.prog 43 #[x.agg, .pointer (some ⟨b, 0, none⟩)] w fun e w' => e = .returned (.bool (decide (x.lsn ≤ k))) ∧ Fr (fun _ => False) w w' := by
  obtain ⟨first, lsn, v, cs⟩ := x
  unfold DnV.agg DnV.cells
  dsimp only
  have f := (Fr.refl (fun _ => False) w).alloc (.cells #[.int .i64 first, .int .i64 lsn, v] 72)
  have F1 := hid f
  have B1 := Blk.new w [.int .i64 first, .int .i64 lsn, v] 72
  have l1 : (w.alloc (.cells #[.int .i64 first, .int .i64 lsn, v] 72)).cell? ⟨w.heap.size, 1, none⟩ = some (.int .i64 lsn) := B1.cell 1
  have l2 := cell_fr hc f (fun h => h)
  clear f B1 hc
  go_enter Try.func43, Try.ntmps43
  go_wp2_with (fail)
  go_ret
  exact ⟨rfl, F1.out⟩
set_option maxRecDepth 20000 in
theorem IndexFunc_dn {R : Nat → Prop} {w : World} {va cv : Value} {r : List DnV} {p : DnV → Bool} (h : Sl R w va r.length (r.flatMap DnV.cells)) (hn : r.length ≤ 1099511627776) (hf : ∀ x ∈ r, ∀ w', Fr (fun _ => False) w w' → Calls Try.prog 43 #[DnV.agg x, cv] w' fun e w'' => e = .returned (.bool (p x)) ∧ Fr (fun _ => False) w' w'') :
    Calls Try.prog 64 #[va, .func (.func 43) #[] #[cv]] w fun e w' => e = .returned (.int .i64 (pos p r)) ∧ Fr (fun _ => False) w w' := by
  obtain ⟨a, c, rfl, hc, hx⟩ := h
  have HX := hid (show Sl R w (.slice a r.length c) r.length (r.flatMap DnV.cells) from ⟨a, c, rfl, hc, hx⟩)
  clear hx
  have HV := hid hf
  have F0 := hid (Fr.refl (fun _ => False) w)
  clear hf
  go_enter Try.func64, Try.ntmps64
  go_wp2_with (fail)
  go_loopw [8] (fun i wr => ∃ j : Nat, j ≤ r.length ∧ i = .int .i64 j ∧ (∀ i (hi : i < j) (hr : i < r.length), p r[i] = false) ∧ Fr (fun _ => False) w wr) (fun i _ => r.length - (intOf i).toNat)
  case atStart => exact ⟨0, by omega, rfl, fun i hi => by omega, F0.out⟩
  case round =>
    obtain ⟨j, hj, rfl, hall, fr⟩ := hrel
    by_cases hjl : j < r.length
    · obtain ⟨g, o, rfl, hg, q⟩ := slK (k := 3) (f := DnV.cells) (by decide) dn3_len (HX.out.fr fr (fun _ _ h => h)) hjl
      have HQ := hid q
      have HM := hid (HV.out r[j] (List.getElem_mem hjl))
      have FR := hid fr
      have HA := hid hall
      have i1 : (0 : Int) ≤ (j : Int) := by omega
      have i2 : (j : Int) < r.length := by omega
      have HP : ∀ b, p r[j] = b → Hid (p r[j] = b) := fun b h => hid h
      have q0 := HQ.out 0 (by decide); have q1 := HQ.out 1 (by decide); have q2 := HQ.out 2 (by decide)
      clear fr hall HX HV q
      cases hr : p r[j] with
      | true =>
        have HR := HP _ hr
        rw [hr] at HM
        have hfa := hid (pos_at hjl hr (fun i hi => HA.out i hi (by omega)))
        clear hr HP HR HQ
        generalize r[j] = x at *
        simp only [DnV.cells, Nat.add_zero, List.getElem?_cons_zero, List.getElem?_cons_succ] at q0 q1 q2
        go_wp2_with (go_at_call 43; refine (HM.out _ FR.out).mono ?_; rintro e w1 ⟨rfl, f1⟩; have F1 := hid (FR.out.trans f1 (fun _ h _ => h)); clear f1)
        go_ret
        exact ⟨by rw [hfa.out]; exact ret_int (by go_num), F1.out⟩
      | false =>
        have HR := HP _ hr
        rw [hr] at HM
        clear hr HP HQ
        obtain ⟨x, hx⟩ : ∃ x, x = r[j] := ⟨_, rfl⟩
        rw [← hx] at q0 q1 q2 HM
        clear hx
        simp only [DnV.cells, Nat.add_zero, List.getElem?_cons_zero, List.getElem?_cons_succ] at q0 q1 q2
        go_wp2_with (go_at_call 43; refine (HM.out _ FR.out).mono ?_; rintro e w1 ⟨rfl, f1⟩; have F1 := hid (FR.out.trans f1 (fun _ h _ => h)); clear f1)
        go_roundw
        case rel => exact ⟨j + 1, by omega, by go_num, fun i hi hr => by
          by_cases hij : i = j
          · subst hij; exact HR.out
          · exact HA.out i (by omega) hr, F1.out⟩
        case measure => simp [intOf]; omega
    · obtain rfl : j = r.length := by omega
      have FR := hid fr
      have hfa := hid (pos_none (p := p) (l := r) (fun x hx => by obtain ⟨i, hi, rfl⟩ := List.getElem_of_mem hx; exact hall i hi hi))
      clear HX HV fr hall
      go_wp2_with (fail)
      go_ret
      exact ⟨by rw [hfa.out]; rfl, FR.out⟩
end Go.Proofs.Ytiimomgbklgicaa
/- A map's delete and its length. -/
namespace Go.VB
open Go.RowKit Go.Maps
namespace MapG
variable {P : Program} {k : TypeId} {w w' : World} {b n : Nat} {f : Lit → Option Value}
theorem del {t e : TypeId} (h : MapG P k w b n f) (K : Keyed P k) (ht : P.underlying t = some (.map k e)) {key : Value} {x : Lit} (hkey : keyOf P k key = some x) (ty : TypeId) :
    ∃ w', (Builtin.delete_ #[t, k] ty #[.map (some b), key]).run P w = .ok (.tuple #[]) w' ∧ MapG P k w' b n (updG f x none) ∧ Fr (fun j => j = b) w w' := by
  obtain ⟨D, h1, h2, h3⟩ := h
  obtain ⟨w', hrun, h', hg⟩ := h1.drop K ht hkey ty
  refine ⟨w', hrun, ⟨_, h', h2.del _, fun y hy => ?_⟩, (Fr.refl _ w).grown hg.grown (fun j hj _ => by simpa using hj.symm)⟩
  by_cases e : y = x
  · subst e
    rw [updG_same]
    exact ⟨Go.Maps.has_del_same, fun z => Go.Maps.atKey_del_same _⟩
  · rw [updG_ne _ _ e]
    exact ⟨(Go.Maps.has_del_other e).trans (h3 y hy).1, fun z => (Go.Maps.atKey_del_other e _).trans ((h3 y hy).2 z)⟩
theorem size_keys {D : DataW Value} (ht : Tidy D) (hk : ∀ E, D = .map E → ∀ p ∈ E, Go.WideAt.IsKeyLit p.1) {ks : List Lit} (hn : ks.Nodup) (hks : ∀ x ∈ ks, Go.WideAt.IsKeyLit x) (hh : ∀ x, Go.WideAt.IsKeyLit x → (has D x = true ↔ x ∈ ks)) : size D = ks.length := by
  obtain ⟨E, rfl, hp⟩ := ht
  have hnod : (E.map Prod.fst).Nodup := by
    unfold List.Nodup
    rw [List.pairwise_map]
    exact hp
  have hperm : (E.map Prod.fst).Perm ks := (List.perm_ext_iff_of_nodup hnod hn).2 (fun x => by
    constructor
    · intro hx
      obtain ⟨q, hq, rfl⟩ := List.mem_map.1 hx
      have hkl := hk E rfl q hq
      refine (hh q.1 hkl).1 ?_
      rw [has_eq]
      exact List.any_eq_true.2 ⟨q, hq, Go.WideAt.sameKey_self hkl⟩
    · intro hx
      have := (hh x (hks x hx)).2 hx
      rw [has_eq] at this
      obtain ⟨q, hq, e⟩ := List.any_eq_true.1 this
      exact List.mem_map.2 ⟨q, hq, Go.WideAt.sameKey_eq e⟩)
  rw [size_eq, ← hperm.length_eq, List.length_map]
/-- the length of a map whose keys are ks -/
theorem len (h : MapG P k w b n f) (K : Keyed P k) {ks : List Lit} (hn : ks.Nodup) (hks : ∀ x ∈ ks, Go.WideAt.IsKeyLit x) (hf : ∀ x, Go.WideAt.IsKeyLit x → ((f x).isSome = true ↔ x ∈ ks)) : ∃ D : DataW Value, w.ownsMap P k selfR b n D ∧ size D = ks.length := by
  obtain ⟨D, h1, h2, h3⟩ := h
  refine ⟨D, h1, size_keys h2 (fun E hE p hp => ?_) hn hks (fun x hx => by rw [(h3 x hx).1]; exact hf x hx)⟩
  obtain ⟨es, clock, _, F, _, hD⟩ := h1
  rw [hD] at hE
  cases hE
  obtain ⟨v, hv⟩ := Go.Maps.keys_perm (Go.WideShapes.sorted_perm _).symm (Go.Maps.fit_keys F) p hp
  exact K.key hv
end MapG
theorem wpList_delete_G {P : Program} {ops : Array Oper} {rest : List Oper} {o : Oper} {a : Act} {w : World} {Q : Exit → Act → World → Prop} (hg : o.guard = none) {m x : Operand} {t k e : TypeId} (hop : o.op = Op.call { callee := Callee.builtin Builtin.delete, args := #[m, x], argTypes := #[t, k] })
    {b n : Nat} {f : Lit → Option Value} (hm : a.eval m = .map (some b)) (h : MapG P k w b n f) (K : Keyed P k) (ht : P.underlying t = some (.map k e)) {key : Value} {l : Lit} (hx : a.eval x = key) (hkey : keyOf P k key = some l)
    (hK : ∀ w', MapG P k w' b n (updG f l none) → Fr (fun j => j = b) w w' → wpList P ops Q rest (a.put o.dst (.tuple #[])) w') : wpList P ops Q (o :: rest) a w := by
  refine wpList_plain hg fun K' hK' => ?_
  obtain ⟨w', hrun, r1, r2⟩ := h.del K ht hkey o.type
  unfold Oper.wp
  simp [execOp, hop, resolve, invoke, builtin, hm, hx, hrun, Result.andThen]
  exact hK' _ _ (hK w' r1 r2)
theorem wpList_len_G {P : Program} {ops : Array Oper} {rest : List Oper} {o : Oper} {a : Act} {w : World} {Q : Exit → Act → World → Prop} (hg : o.guard = none) {m : Operand} {t k e : TypeId} (hop : o.op = Op.call { callee := Callee.builtin Builtin.len, args := #[m], argTypes := #[t] })
    {b n : Nat} {f : Lit → Option Value} (hm : a.eval m = .map (some b)) (h : MapG P k w b n f) (K : Keyed P k) (ht : P.underlying t = some (.map k e)) {ks : List Lit} (hn : ks.Nodup) (hks : ∀ x ∈ ks, Go.WideAt.IsKeyLit x) (hf : ∀ x, Go.WideAt.IsKeyLit x → ((f x).isSome = true ↔ x ∈ ks))
    (hK : wpList P ops Q rest (a.put o.dst (.int .i64 ks.length)) w) : wpList P ops Q (o :: rest) a w := by
  obtain ⟨D, hown, hs⟩ := h.len K hn hks hf
  refine wpList_len_own _ hg m t hop k e ht selfR b n D hm hown ?_
  rw [hs]
  exact hK
end Go.VB
namespace Go.Proofs.Ytiimomgbklgicaa
open Go.RowKit Go.VB Go.VB.Oct Go.VB.Cat Go.VB.Rec Go.VB.Slt
theorem folF_keys {fs : List FolV} (x : Lit) : (folF fs x).isSome = true ↔ x ∈ fs.map (fun f => Lit.int .i64 f.xid) := by
  constructor
  · intro h
    match x, h with
    | .int .i64 z, h =>
      simp only [folF, Option.isSome_map, List.find?_isSome] at h
      obtain ⟨f, hf, e⟩ := h
      exact List.mem_map.2 ⟨f, hf, by rw [eq_of_beq e]⟩
  · intro h
    obtain ⟨f, hf, rfl⟩ := List.mem_map.1 h
    simp only [folF, Option.isSome_map, List.find?_isSome]
    exact ⟨f, hf, by simp⟩
theorem fol_nodup {fs : List FolV} (h : (fs.map FolV.xid).Nodup) : (fs.map (fun f => Lit.int .i64 f.xid)).Nodup := by
  unfold List.Nodup at h ⊢
  rw [List.pairwise_map] at h ⊢
  exact h.imp (fun hne e => hne (Lit.int.inj e).2)
set_option maxRecDepth 20000 in
set_option maxHeartbeats 4000000 in
theorem Open_go {S C : Nat → Prop} {w : World} {s : Nat} {v : SltV} (h : SlO S C w s v) : Calls Try.prog 14 #[.pointer (some ⟨s, 0, none⟩)] w fun e w' => e = .returned (.int .i64 v.fs.length) ∧ w' = w := by
  have q : w.cell? ⟨s, 4, none⟩ = some (.map (some v.mb)) := h.b.cell 4
  have HM := hid h.m
  have HN := hid (fol_nodup h.fx)
  have HL := hid (show (v.fs.map (fun f => Lit.int .i64 f.xid)).length = v.fs.length from List.length_map ..)
  clear h
  go_enter Try.func14, Try.ntmps14
  go_wp2_with (at_len; refine wpList_len_G rfl (m := .tmp 8) (t := 68) rfl rfl HM.out keyed_int Try.underlying68 HN.out (fun x hx => by obtain ⟨f, _, rfl⟩ := List.mem_map.1 hx; trivial) (fun x _ => folF_keys x) ?_; rw [HL.out])
  go_ret
  exact ⟨rfl, rfl⟩
end Go.Proofs.Ytiimomgbklgicaa
/- A range over the map of the followed xids. -/
namespace Go.Proofs.Ytiimomgbklgicaa
open Go.RowKit Go.VB Go.VB.Oct Go.VB.Cat Go.VB.Rec Go.VB.Slt
/-- the range at block r over the map b of fs: 'todo' is still to come -/
def RngF (w : World) (b r n : Nat) (fs todo : List FolV) : Prop :=
  ∃ (D : DataW Value) (left : Lit → Bool) (cnt : Nat), w.ranges Try.prog 3 selfR b r n D left cnt ∧ (∀ (f : FolV), f ∈ todo → ∀ z, D.atKey (.int .i64 f.xid) (.held z) = .held (.pointer (some ⟨f.b, 0, none⟩))) ∧ (∀ x, Go.WideAt.IsKeyLit x → (left x = true ↔ x ∈ todo.map (fun f => Lit.int .i64 f.xid)))
theorem folF_has {fs : List FolV} (hn : (fs.map FolV.xid).Nodup) {f : FolV} (hf : f ∈ fs) : folF fs (.int .i64 f.xid) = some (.pointer (some ⟨f.b, 0, none⟩)) := by
  simp only [folF]
  induction fs with
  | nil => simp at hf
  | cons g l ih =>
    rw [List.map_cons, List.nodup_cons] at hn
    rcases List.mem_cons.1 hf with e | e
    · subst e; simp
    · have hne : ¬ g.xid = f.xid := fun h => hn.1 (by rw [h]; exact List.mem_map_of_mem e)
      rw [List.find?_cons_of_neg (by simpa using hne)]
      exact ih hn.2 e
theorem fol_iff {fs : List FolV} (x : Lit) : (folF fs x).isSome = true ↔ x ∈ fs.map (fun f => Lit.int .i64 f.xid) := by
  constructor
  · intro h
    match x, h with
    | .int .i64 z, h =>
      simp only [folF, Option.isSome_map, List.find?_isSome] at h
      obtain ⟨f, hf, e⟩ := h
      exact List.mem_map.2 ⟨f, hf, by rw [eq_of_beq e]⟩
  · intro h
    obtain ⟨f, hf, rfl⟩ := List.mem_map.1 h
    simp only [folF, Option.isSome_map, List.find?_isSome]
    exact ⟨f, hf, by simp⟩
theorem wpList_range_F {ops : Array Oper} {rest : List Oper} {o : Oper} {a : Act} {w : World} {Q : Exit → Act → World → Prop} (hg : o.guard = none) {m : Operand} {t e : TypeId} (hop : o.op = Op.range t m) (ht : Try.prog.underlying t = some (.map 3 e)) {b n : Nat} {fs : List FolV} (hn : (fs.map FolV.xid).Nodup)
    (hm : a.eval m = .map (some b)) (h : MapG Try.prog 3 w b n (folF fs))
    (hK : ∀ w', RngF w' b w.heap.size n fs fs → Fr (fun _ => False) w w' → w'.heap.size = w.heap.size + 1 → wpList Try.prog ops Q rest (a.put o.dst (.pointer (some ⟨w.heap.size, 0, none⟩))) w') : wpList Try.prog ops Q (o :: rest) a w := by
  obtain ⟨D, h1, h2, h3⟩ := h
  refine wpList_range_own _ hg m t hop 3 e keyed_int ht selfR b n D hm h1 (fun w' r g sz => hK w' ⟨D, _, _, r, fun f hf z => ?_, fun x hx => ?_⟩ ((Fr.refl _ w).grown g (fun j hj _ => by simp at hj)) sz)
  · rw [(h3 (.int .i64 f.xid) trivial).2 z, folF_has hn hf]; rfl
  · rw [(h3 x hx).1]; exact fol_iff x
theorem wpList_next_F {ops : Array Oper} {rest : List Oper} {o : Oper} {a : Act} {w : World} {Q : Exit → Act → World → Prop} (hg : o.guard = none) {it : Operand} (hop : o.op = Op.next it false) {b r n : Nat} {fs todo : List FolV}
    (hit : a.eval it = .pointer (some ⟨r, 0, none⟩)) (h : RngF w b r n fs todo) (hDone : todo = [] → wpList Try.prog ops Q rest (a.put o.dst (.tuple #[.bool false])) w)
    (hMore : ∀ f ∈ todo, ∀ w', RngF w' b r n fs (todo.filter fun g => !(g.xid == f.xid)) → Fr (fun k => k = r) w w' → w'.rangeLeft b r < w.rangeLeft b r → w'.heap.size = w.heap.size → (Instr.entry (.pointer (some ⟨r, 0, none⟩))).run Try.prog w' = .ok (.tuple #[.int .i64 f.xid, .pointer (some ⟨f.b, 0, none⟩)]) w' → wpList Try.prog ops Q rest (a.put o.dst (.tuple #[.bool true, .int .i64 f.xid, .pointer (some ⟨f.b, 0, none⟩)])) w') : wpList Try.prog ops Q (o :: rest) a w := by
  obtain ⟨D, left, cnt, hr, hat, hl⟩ := h
  refine wpList_next_ranges w hg it hop 3 keyed_int selfR (fun v : Value => v) (fun v : Value => v) (fun key _ _ => ⟨key, rfl⟩) (fun v _ _ => ⟨v, rfl⟩) b r n D left cnt hit hr (fun _ hno => hDone ?_) (fun x c kl y w' cnt' hkey hlk hv hd hrg hlt hgr hsz hen => ?_)
  · cases todo with
    | nil => rfl
    | cons f l => have := (hl (.int .i64 f.xid) trivial).2 (by simp); rw [hno] at this; cases this
  · obtain ⟨f, hf, rfl⟩ := List.mem_map.1 ((hl kl (keyed_int.key hkey)).1 hlk)
    obtain ⟨x', rfl, he⟩ : ∃ z, x = .int .i64 z ∧ z = f.xid := by
      obtain ⟨z, h1, h2, _⟩ := Maps.keyOf_int_inv Try.underlying3 hkey
      exact ⟨z, h1, by cases h2; rfl⟩
    subst he
    have hc : c = .pointer (some ⟨f.b, 0, none⟩) := by
      have e1 := hd (.held undef)
      rw [hat f hf undef] at e1
      simp only [selfR, Option.some.injEq] at hv
      rw [← hv] at e1
      simpa using e1.symm
    subst hc
    refine hMore f hf w' ⟨D, _, cnt', hrg, fun g hg z => hat g (List.mem_filter.1 hg).1 z, fun z hz => ?_⟩ ((Fr.refl _ w).grown hgr (fun j hj _ => by simpa using hj.symm)) (by rw [hrg.left_eq, hr.left_eq]; exact hlt) hsz hen
    rw [Bool.and_eq_true, hl z hz]
    constructor
    · rintro ⟨h1, h2⟩
      obtain ⟨g, hg, rfl⟩ := List.mem_map.1 h1
      refine List.mem_map.2 ⟨g, List.mem_filter.2 ⟨hg, ?_⟩, rfl⟩
      cases hb : g.xid == f.xid with
      | false => rfl
      | true => rw [eq_of_beq hb, Go.WideAt.sameKey_self (show Go.WideAt.IsKeyLit (Lit.int .i64 f.xid) from trivial)] at h2; cases h2
    · intro h1
      obtain ⟨g, hg, rfl⟩ := List.mem_map.1 h1
      obtain ⟨h2, h3⟩ := List.mem_filter.1 hg
      refine ⟨List.mem_map_of_mem (f := fun f => Lit.int .i64 f.xid) h2, ?_⟩
      rw [Go.Maps.sameKey_ne (fun e => by rw [(Lit.int.inj e).2] at h3; simp at h3)]
      rfl
end Go.Proofs.Ytiimomgbklgicaa
/- Spilled: how many changes lie in the spills. -/
namespace Go.Proofs.Ytiimomgbklgicaa
open Go.RowKit Go.VB Go.VB.Oct Go.VB.Cat Go.VB.Rec Go.VB.Slt
/-- how many changes are spilled -/
def spl (l : List FolV) : Nat := (l.map fun f => f.ss.length).sum
theorem spl_out {l : List FolV} (hn : (l.map FolV.xid).Nodup) {f : FolV} (hf : f ∈ l) : spl l = f.ss.length + spl (l.filter fun g => !(g.xid == f.xid)) := by
  induction l with
  | nil => simp at hf
  | cons g l ih =>
    rw [List.map_cons, List.nodup_cons] at hn
    rcases List.mem_cons.1 hf with e | e
    · subst e
      have : (l.filter fun g => !(g.xid == f.xid)) = l := List.filter_eq_self.2 (fun x hx => by
        cases hb : x.xid == f.xid with
        | false => rfl
        | true => exact absurd (by rw [← eq_of_beq hb]; exact List.mem_map_of_mem hx) hn.1)
      rw [List.filter_cons_of_neg (by simp), this]
      simp [spl]
    · have hne : ¬ g.xid = f.xid := fun h => hn.1 (by rw [h]; exact List.mem_map_of_mem e)
      rw [List.filter_cons_of_pos (by simpa using hne)]
      have := ih hn.2 e
      simp only [spl, List.map_cons, List.sum_cons] at this ⊢
      omega
theorem fol_sub {l : List FolV} (hn : (l.map FolV.xid).Nodup) (f : FolV) : ((l.filter fun g => !(g.xid == f.xid)).map FolV.xid).Nodup := List.Nodup.sublist (List.Sublist.map _ List.filter_sublist) hn
set_option maxRecDepth 20000 in
set_option maxHeartbeats 4000000 in
theorem Spilled_go {S C : Nat → Prop} {w : World} {s : Nat} {v : SltV} (h : SlO S C w s v) (hb : spl v.fs ≤ 1099511627776) : Calls Try.prog 15 #[.pointer (some ⟨s, 0, none⟩)] w fun e w' => e = .returned (.int .i64 (spl v.fs)) ∧ Fr (fun _ => False) w w' := by
  have q : w.cell? ⟨s, 4, none⟩ = some (.map (some v.mb)) := h.b.cell 4
  have H0 := hid h
  clear h
  go_enter Try.func15, Try.ntmps15
  go_wp2_with (refine wpList_range_F rfl (m := .tmp 11) rfl Try.underlying68 H0.out.fx rfl H0.out.m ?_; intro w1 hr0 f0 sz0; have HR0 := hid hr0; have F0 := hid f0; have HRE := hid (show w.heap.size = w.heap.size from rfl); clear hr0 f0 sz0 q)
  go_loopw [3] (fun s3 wr => ∃ (todo : List FolV) (m : Nat), s3 = .int .i64 m ∧ m + spl todo = spl v.fs ∧ (todo.map FolV.xid).Nodup ∧ (∀ f ∈ todo, f ∈ v.fs) ∧ RngF wr v.mb w.heap.size v.n v.fs todo ∧ Fr (fun _ => False) w wr) (fun _ wr => wr.rangeLeft v.mb w.heap.size)
  case atStart => exact ⟨v.fs, 0, rfl, by omega, H0.out.fx, fun f hf => hf, HR0.out, F0.out⟩
  case round =>
    obtain ⟨todo, m, rfl, hm, hn, hsub, hr, hf⟩ := hrel
    have HM := hid hm
    have HN := hid hn
    have HS := hid hsub
    have HR := hid hr
    have FR := hid hf
    clear hm hn hsub hr hf HR0 F0
    cases todo with
    | nil =>
      go_wp2_with (refine wpList_next_F rfl (it := .tmp 12) rfl rfl HR.out (fun _ => ?_) (fun f hf => by simp at hf))
      go_ret
      exact ⟨by rw [← HM.out]; simp [spl], FR.out⟩
    | cons g l =>
      have HNN := hid (show ¬ (g :: l) = [] from by simp)
      generalize g :: l = todo at *
      go_wp2_with (refine wpList_next_F rfl (it := .tmp 12) rfl rfl HR.out (fun h => absurd h HNN.out) ?_; intro f hf w2 hr2 f2 hlt hsz hen; have HF := hid (H0.out.f f (HS.out f hf)); obtain ⟨ga, gc, es, _⟩ := HF.out.s.r.slice; have F2 := hid (FR.out.trans f2 (fun k hk hl => by omega)); have k2 : w2.cell? ⟨f.b, 2, none⟩ = some (.slice ga f.ss.length gc) := (by rw [← es]; exact (Blk.fr HF.out.b F2.out (fun h => h)).cell 2); have HMS := hid (spl_out HN.out hf); have HSS := hid (fun x (hx : x ∈ todo.filter fun g => !(g.xid == f.xid)) => HS.out x (List.mem_filter.1 hx).1); have HNF := hid (fol_sub HN.out f); have HR2 := hid hr2; have HLT := hid hlt; have i9 : IntKind.i64.wrap ((m : Int) + (f.ss.length : Int)) = ((m + f.ss.length : Nat) : Int) := ((IntWalk.i64_in _ (by have h1 := HMS.out; have h2 := HM.out; constructor <;> omega)).trans (by omega)); clear hf hr2 f2 hlt hsz es)
      go_roundw
      case rel => exact ⟨_, m + f.ss.length, rfl, by have := HMS.out; have := HM.out; omega, HNF.out, HSS.out, HR2.out, F2.out⟩
      case measure => exact HLT.out
end Go.Proofs.Ytiimomgbklgicaa
