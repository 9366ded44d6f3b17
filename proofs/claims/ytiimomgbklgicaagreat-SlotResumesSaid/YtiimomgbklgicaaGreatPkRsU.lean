import Derived.Maps.RangeWalk
import Derived.Shelf.SlGeneric
import Derived.Shelf.SlSortCmp.WholeK
import Derived.Shelf.SlSortCmp.NoneTotal
import Derived.Ground.SlsfProg
import Derived.Test.YtiimomgbklgicaaGreatProg
import Derived.Test.YtiimomgbklgicaaGreatPkRsS
set_option linter.unusedVariables false
namespace Go.Proofs.YtiimomgbklgicaaGreat
open Go.RowKit Go.VB Go.VB.Oct Go.VB.Cat Go.VB.Rec Go.VB.Slt
set_option maxRecDepth 20000
set_option maxHeartbeats 4000000
theorem Name_go {S C : Nat → Prop} {w : World} {s : Nat} {v : SltV} (h : SlO S C w s v) : Calls Tryz.prog 87 #[.pointer (some ⟨s, 0, none⟩)] w fun e w' => e = .returned (.string (bs v.name)) ∧ w' = w := by
  have q : w.cell? ⟨s, 0, none⟩ = some (.string (bs v.name)) := h.b.cell 0
  clear h
  go_enter Tryz.func87, Tryz.ntmps87
  go_wp2_with (fail)
  go_ret
  exact ⟨rfl, rfl⟩
theorem Acked_go {S C : Nat → Prop} {w : World} {s : Nat} {v : SltV} (h : SlO S C w s v) : Calls Tryz.prog 24 #[.pointer (some ⟨s, 0, none⟩)] w fun e w' => e = .returned (.int .i64 v.acked) ∧ w' = w := by
  have q : w.cell? ⟨s, 1, none⟩ = some (.int .i64 v.acked) := h.b.cell 1
  clear h
  go_enter Tryz.func24, Tryz.ntmps24
  go_wp2_with (fail)
  go_ret
  exact ⟨rfl, rfl⟩
end Go.Proofs.YtiimomgbklgicaaGreat
namespace Go.VB.Slt
open Go.VB Go.VB.Oct Go.VB.Cat Go.VB.Rec
def DnV.agg (d : DnV) : Value := .agg d.cells.toArray
end Go.VB.Slt
namespace Go.Proofs.YtiimomgbklgicaaGreat
open Go.RowKit Go.VB Go.VB.Oct Go.VB.Cat Go.VB.Rec Go.VB.Slt
theorem dn3_len (d : DnV) : d.cells.length = 3 := rfl
theorem ack1_go (x : DnV) (k : Int) {w : World} (b : Nat) (hc : w.cell? ⟨b, 0, none⟩ = some (.int .i64 k)) :
    Calls Tryz.prog 78 #[x.agg, .pointer (some ⟨b, 0, none⟩)] w fun e w' => e = .returned (.bool (decide (x.lsn ≤ k))) ∧ Fr (fun _ => False) w w' := by
  obtain ⟨first, lsn, v, cs⟩ := x
  unfold DnV.agg DnV.cells
  dsimp only
  have f := (Fr.refl (fun _ => False) w).alloc (.cells #[.int .i64 first, .int .i64 lsn, v] 133)
  have F1 := hid f
  have B1 := Blk.new w [.int .i64 first, .int .i64 lsn, v] 133
  have l1 : (w.alloc (.cells #[.int .i64 first, .int .i64 lsn, v] 133)).cell? ⟨w.heap.size, 1, none⟩ = some (.int .i64 lsn) := B1.cell 1
  have l2 := cell_fr hc f (fun h => h)
  clear f B1 hc
  go_enter Tryz.func78, Tryz.ntmps78
  go_wp2_with (fail)
  go_ret
  exact ⟨rfl, F1.out⟩
set_option maxRecDepth 20000 in
theorem IndexFunc_dn {R : Nat → Prop} {w : World} {va cv : Value} {r : List DnV} {p : DnV → Bool} (h : Sl R w va r.length (r.flatMap DnV.cells)) (hn : r.length ≤ 1099511627776) (hf : ∀ x ∈ r, ∀ w', Fr (fun _ => False) w w' → Calls Tryz.prog 78 #[DnV.agg x, cv] w' fun e w'' => e = .returned (.bool (p x)) ∧ Fr (fun _ => False) w' w'') :
    Calls Tryz.prog 124 #[va, .func (.func 78) #[] #[cv]] w fun e w' => e = .returned (.int .i64 (pos p r)) ∧ Fr (fun _ => False) w w' := by
  obtain ⟨a, c, rfl, hc, hx⟩ := h
  have HX := hid (show Sl R w (.slice a r.length c) r.length (r.flatMap DnV.cells) from ⟨a, c, rfl, hc, hx⟩)
  clear hx
  have HV := hid hf
  have F0 := hid (Fr.refl (fun _ => False) w)
  clear hf
  go_enter Tryz.func124, Tryz.ntmps124
  go_wp2_with (fail)
  go_loopw [8] (fun i wr => ∃ j : Nat, j ≤ r.length ∧ i = .int .i64 j ∧ (∀ i (hi : i < j) (hr : i < r.length), p r[i] = false) ∧ Fr (fun _ => False) w wr) (fun i _ => r.length - (intOf i).toNat)
  case atStart => exact ⟨0, by omega, rfl, fun i hi => by omega, F0.out⟩
  case round =>
    obtain ⟨j, hj, rfl, hall, fr⟩ := hrel
    by_cases hjl : j < r.length
    · obtain ⟨g, o, rfl, hg, q⟩ := slK (k := 3) (f := DnV.cells) (by decide) dn3_len (HX.out.fr fr (fun _ _ h => h)) hjl
      have HQ := hid q
      have HM := hid (HV.out r[j] (List.getElem_mem hjl))
      have FR := hid fr
      have HA := hid hall
      have i1 : (0 : Int) ≤ (j : Int) := by omega
      have i2 : (j : Int) < r.length := by omega
      have HP : ∀ b, p r[j] = b → Hid (p r[j] = b) := fun b h => hid h
      have q0 := HQ.out 0 (by decide); have q1 := HQ.out 1 (by decide); have q2 := HQ.out 2 (by decide)
      clear fr hall HX HV q
      cases hr : p r[j] with
      | true =>
        have HR := HP _ hr
        rw [hr] at HM
        have hfa := hid (pos_at hjl hr (fun i hi => HA.out i hi (by omega)))
        clear hr HP HR HQ
        generalize r[j] = x at *
        simp only [DnV.cells, Nat.add_zero, List.getElem?_cons_zero, List.getElem?_cons_succ] at q0 q1 q2
        go_wp2_with (go_at_call 78; refine (HM.out _ FR.out).mono ?_; rintro e w1 ⟨rfl, f1⟩; have F1 := hid (FR.out.trans f1 (fun _ h _ => h)); clear f1)
        go_ret
        exact ⟨by rw [hfa.out]; exact ret_int (by go_num), F1.out⟩
      | false =>
        have HR := HP _ hr
        rw [hr] at HM
        clear hr HP HQ
        obtain ⟨x, hx⟩ : ∃ x, x = r[j] := ⟨_, rfl⟩
        rw [← hx] at q0 q1 q2 HM
        clear hx
        simp only [DnV.cells, Nat.add_zero, List.getElem?_cons_zero, List.getElem?_cons_succ] at q0 q1 q2
        go_wp2_with (go_at_call 78; refine (HM.out _ FR.out).mono ?_; rintro e w1 ⟨rfl, f1⟩; have F1 := hid (FR.out.trans f1 (fun _ h _ => h)); clear f1)
        go_roundw
        case rel => exact ⟨j + 1, by omega, by go_num, fun i hi hr => by
          by_cases hij : i = j
          · subst hij; exact HR.out
          · exact HA.out i (by omega) hr, F1.out⟩
        case measure => simp [intOf]; omega
    · obtain rfl : j = r.length := by omega
      have FR := hid fr
      have hfa := hid (pos_none (p := p) (l := r) (fun x hx => by obtain ⟨i, hi, rfl⟩ := List.getElem_of_mem hx; exact hall i hi hi))
      clear HX HV fr hall
      go_wp2_with (fail)
      go_ret
      exact ⟨by rw [hfa.out]; rfl, FR.out⟩
end Go.Proofs.YtiimomgbklgicaaGreat
namespace Go.VB
open Go.RowKit Go.Maps
namespace MapG
variable {P : Program} {k : TypeId} {w w' : World} {b n : Nat} {f : Lit → Option Value}
theorem del {t e : TypeId} (h : MapG P k w b n f) (K : Keyed P k) (ht : P.underlying t = some (.map k e)) {key : Value} {x : Lit} (hkey : keyOf P k key = some x) (ty : TypeId) :
    ∃ w', (Builtin.delete_ #[t, k] ty #[.map (some b), key]).run P w = .ok (.tuple #[]) w' ∧ MapG P k w' b n (updG f x none) ∧ Fr (fun j => j = b) w w' := by
  obtain ⟨D, h1, h2, h3⟩ := h
  obtain ⟨w', hrun, h', hg⟩ := h1.drop K ht hkey ty
  refine ⟨w', hrun, ⟨_, h', h2.del _, fun y hy => ?_⟩, (Fr.refl _ w).grown hg.grown (fun j hj _ => by simpa using hj.symm)⟩
  by_cases e : y = x
  · subst e
    rw [updG_same]
    exact ⟨Go.Maps.has_del_same, fun z => Go.Maps.atKey_del_same _⟩
  · rw [updG_ne _ _ e]
    exact ⟨(Go.Maps.has_del_other e).trans (h3 y hy).1, fun z => (Go.Maps.atKey_del_other e _).trans ((h3 y hy).2 z)⟩
theorem size_keys {D : DataW Value} (ht : Tidy D) (hk : ∀ E, D = .map E → ∀ p ∈ E, Go.WideAt.IsKeyLit p.1) {ks : List Lit} (hn : ks.Nodup) (hks : ∀ x ∈ ks, Go.WideAt.IsKeyLit x) (hh : ∀ x, Go.WideAt.IsKeyLit x → (has D x = true ↔ x ∈ ks)) : size D = ks.length := by
  obtain ⟨E, rfl, hp⟩ := ht
  have hnod : (E.map Prod.fst).Nodup := by
    unfold List.Nodup
    rw [List.pairwise_map]
    exact hp
  have hperm : (E.map Prod.fst).Perm ks := (List.perm_ext_iff_of_nodup hnod hn).2 (fun x => by
    constructor
    · intro hx
      obtain ⟨q, hq, rfl⟩ := List.mem_map.1 hx
      have hkl := hk E rfl q hq
      refine (hh q.1 hkl).1 ?_
      rw [has_eq]
      exact List.any_eq_true.2 ⟨q, hq, Go.WideAt.sameKey_self hkl⟩
    · intro hx
      have := (hh x (hks x hx)).2 hx
      rw [has_eq] at this
      obtain ⟨q, hq, e⟩ := List.any_eq_true.1 this
      exact List.mem_map.2 ⟨q, hq, Go.WideAt.sameKey_eq e⟩)
  rw [size_eq, ← hperm.length_eq, List.length_map]
/-- the length of a map whose keys are ks -/
theorem len (h : MapG P k w b n f) (K : Keyed P k) {ks : List Lit} (hn : ks.Nodup) (hks : ∀ x ∈ ks, Go.WideAt.IsKeyLit x) (hf : ∀ x, Go.WideAt.IsKeyLit x → ((f x).isSome = true ↔ x ∈ ks)) : ∃ D : DataW Value, w.ownsMap P k selfR b n D ∧ size D = ks.length := by
  obtain ⟨D, h1, h2, h3⟩ := h
  refine ⟨D, h1, size_keys h2 (fun E hE p hp => ?_) hn hks (fun x hx => by rw [(h3 x hx).1]; exact hf x hx)⟩
  obtain ⟨es, clock, _, F, _, hD⟩ := h1
  rw [hD] at hE
  cases hE
  obtain ⟨v, hv⟩ := Go.Maps.keys_perm (Go.WideShapes.sorted_perm _).symm (Go.Maps.fit_keys F) p hp
  exact K.key hv
end MapG
theorem wpList_delete_G {P : Program} {ops : Array Oper} {rest : List Oper} {o : Oper} {a : Act} {w : World} {Q : Exit → Act → World → Prop} (hg : o.guard = none) {m x : Operand} {t k e : TypeId} (hop : o.op = Op.call { callee := Callee.builtin Builtin.delete, args := #[m, x], argTypes := #[t, k] })
    {b n : Nat} {f : Lit → Option Value} (hm : a.eval m = .map (some b)) (h : MapG P k w b n f) (K : Keyed P k) (ht : P.underlying t = some (.map k e)) {key : Value} {l : Lit} (hx : a.eval x = key) (hkey : keyOf P k key = some l)
    (hK : ∀ w', MapG P k w' b n (updG f l none) → Fr (fun j => j = b) w w' → wpList P ops Q rest (a.put o.dst (.tuple #[])) w') : wpList P ops Q (o :: rest) a w := by
  refine wpList_plain hg fun K' hK' => ?_
  obtain ⟨w', hrun, r1, r2⟩ := h.del K ht hkey o.type
  unfold Oper.wp
  simp [execOp, hop, resolve, invoke, builtin, hm, hx, hrun, Result.andThen]
  exact hK' _ _ (hK w' r1 r2)
theorem wpList_len_G {P : Program} {ops : Array Oper} {rest : List Oper} {o : Oper} {a : Act} {w : World} {Q : Exit → Act → World → Prop} (hg : o.guard = none) {m : Operand} {t k e : TypeId} (hop : o.op = Op.call { callee := Callee.builtin Builtin.len, args := #[m], argTypes := #[t] })
    {b n : Nat} {f : Lit → Option Value} (hm : a.eval m = .map (some b)) (h : MapG P k w b n f) (K : Keyed P k) (ht : P.underlying t = some (.map k e)) {ks : List Lit} (hn : ks.Nodup) (hks : ∀ x ∈ ks, Go.WideAt.IsKeyLit x) (hf : ∀ x, Go.WideAt.IsKeyLit x → ((f x).isSome = true ↔ x ∈ ks))
    (hK : wpList P ops Q rest (a.put o.dst (.int .i64 ks.length)) w) : wpList P ops Q (o :: rest) a w := by
  obtain ⟨D, hown, hs⟩ := h.len K hn hks hf
  refine wpList_len_own _ hg m t hop k e ht selfR b n D hm hown ?_
  rw [hs]
  exact hK
end Go.VB
namespace Go.Proofs.YtiimomgbklgicaaGreat
open Go.RowKit Go.VB Go.VB.Oct Go.VB.Cat Go.VB.Rec Go.VB.Slt
theorem folF_keys {fs : List FolV} (x : Lit) : (folF fs x).isSome = true ↔ x ∈ fs.map (fun f => Lit.int .i64 f.xid) := by
  constructor
  · intro h
    match x, h with
    | .int .i64 z, h =>
      simp only [folF, Option.isSome_map, List.find?_isSome] at h
      obtain ⟨f, hf, e⟩ := h
      exact List.mem_map.2 ⟨f, hf, by rw [eq_of_beq e]⟩
  · intro h
    obtain ⟨f, hf, rfl⟩ := List.mem_map.1 h
    simp only [folF, Option.isSome_map, List.find?_isSome]
    exact ⟨f, hf, by simp⟩
theorem fol_nodup {fs : List FolV} (h : (fs.map FolV.xid).Nodup) : (fs.map (fun f => Lit.int .i64 f.xid)).Nodup := by
  unfold List.Nodup at h ⊢
  rw [List.pairwise_map] at h ⊢
  exact h.imp (fun hne e => hne (Lit.int.inj e).2)
set_option maxRecDepth 20000 in
set_option maxHeartbeats 4000000 in
theorem Open_go {S C : Nat → Prop} {w : World} {s : Nat} {v : SltV} (h : SlO S C w s v) : Calls Tryz.prog 28 #[.pointer (some ⟨s, 0, none⟩)] w fun e w' => e = .returned (.int .i64 v.fs.length) ∧ w' = w := by
  have q : w.cell? ⟨s, 4, none⟩ = some (.map (some v.mb)) := h.b.cell 4
  have HM := hid h.m
  have HN := hid (fol_nodup h.fx)
  have HL := hid (show (v.fs.map (fun f => Lit.int .i64 f.xid)).length = v.fs.length from List.length_map ..)
  clear h
  go_enter Tryz.func28, Tryz.ntmps28
  go_wp2_with (at_len; refine wpList_len_G rfl (m := .tmp 8) (t := 113) rfl rfl HM.out keyed_int Tryz.underlying113 HN.out (fun x hx => by obtain ⟨f, _, rfl⟩ := List.mem_map.1 hx; trivial) (fun x _ => folF_keys x) ?_; rw [HL.out])
  go_ret
  exact ⟨rfl, rfl⟩
end Go.Proofs.YtiimomgbklgicaaGreat
namespace Go.Proofs.YtiimomgbklgicaaGreat
open Go.RowKit Go.VB Go.VB.Oct Go.VB.Cat Go.VB.Rec Go.VB.Slt
/-- the range at block r over the map b of fs: 'todo' is still to come -/
def RngF (w : World) (b r n : Nat) (fs todo : List FolV) : Prop :=
  ∃ (D : DataW Value) (left : Lit → Bool) (cnt : Nat), w.ranges Tryz.prog 3 selfR b r n D left cnt ∧ (∀ (f : FolV), f ∈ todo → ∀ z, D.atKey (.int .i64 f.xid) (.held z) = .held (.pointer (some ⟨f.b, 0, none⟩))) ∧ (∀ x, Go.WideAt.IsKeyLit x → (left x = true ↔ x ∈ todo.map (fun f => Lit.int .i64 f.xid)))
theorem folF_has {fs : List FolV} (hn : (fs.map FolV.xid).Nodup) {f : FolV} (hf : f ∈ fs) : folF fs (.int .i64 f.xid) = some (.pointer (some ⟨f.b, 0, none⟩)) := by
  simp only [folF]
  induction fs with
  | nil => simp at hf
  | cons g l ih =>
    rw [List.map_cons, List.nodup_cons] at hn
    rcases List.mem_cons.1 hf with e | e
    · subst e; simp
    · have hne : ¬ g.xid = f.xid := fun h => hn.1 (by rw [h]; exact List.mem_map_of_mem e)
      rw [List.find?_cons_of_neg (by simpa using hne)]
      exact ih hn.2 e
theorem fol_iff {fs : List FolV} (x : Lit) : (folF fs x).isSome = true ↔ x ∈ fs.map (fun f => Lit.int .i64 f.xid) := by
  constructor
  · intro h
    match x, h with
    | .int .i64 z, h =>
      simp only [folF, Option.isSome_map, List.find?_isSome] at h
      obtain ⟨f, hf, e⟩ := h
      exact List.mem_map.2 ⟨f, hf, by rw [eq_of_beq e]⟩
  · intro h
    obtain ⟨f, hf, rfl⟩ := List.mem_map.1 h
    simp only [folF, Option.isSome_map, List.find?_isSome]
    exact ⟨f, hf, by simp⟩
theorem wpList_range_F {ops : Array Oper} {rest : List Oper} {o : Oper} {a : Act} {w : World} {Q : Exit → Act → World → Prop} (hg : o.guard = none) {m : Operand} {t e : TypeId} (hop : o.op = Op.range t m) (ht : Tryz.prog.underlying t = some (.map 3 e)) {b n : Nat} {fs : List FolV} (hn : (fs.map FolV.xid).Nodup)
    (hm : a.eval m = .map (some b)) (h : MapG Tryz.prog 3 w b n (folF fs))
    (hK : ∀ w', RngF w' b w.heap.size n fs fs → Fr (fun _ => False) w w' → w'.heap.size = w.heap.size + 1 → wpList Tryz.prog ops Q rest (a.put o.dst (.pointer (some ⟨w.heap.size, 0, none⟩))) w') : wpList Tryz.prog ops Q (o :: rest) a w := by
  obtain ⟨D, h1, h2, h3⟩ := h
  refine wpList_range_own _ hg m t hop 3 e keyed_int ht selfR b n D hm h1 (fun w' r g sz => hK w' ⟨D, _, _, r, fun f hf z => ?_, fun x hx => ?_⟩ ((Fr.refl _ w).grown g (fun j hj _ => by simp at hj)) sz)
  · rw [(h3 (.int .i64 f.xid) trivial).2 z, folF_has hn hf]; rfl
  · rw [(h3 x hx).1]; exact fol_iff x
theorem wpList_next_F {ops : Array Oper} {rest : List Oper} {o : Oper} {a : Act} {w : World} {Q : Exit → Act → World → Prop} (hg : o.guard = none) {it : Operand} (hop : o.op = Op.next it false) {b r n : Nat} {fs todo : List FolV}
    (hit : a.eval it = .pointer (some ⟨r, 0, none⟩)) (h : RngF w b r n fs todo) (hDone : todo = [] → wpList Tryz.prog ops Q rest (a.put o.dst (.tuple #[.bool false])) w)
    (hMore : ∀ f ∈ todo, ∀ w', RngF w' b r n fs (todo.filter fun g => !(g.xid == f.xid)) → Fr (fun k => k = r) w w' → w'.rangeLeft b r < w.rangeLeft b r → w'.heap.size = w.heap.size → (Instr.entry (.pointer (some ⟨r, 0, none⟩))).run Tryz.prog w' = .ok (.tuple #[.int .i64 f.xid, .pointer (some ⟨f.b, 0, none⟩)]) w' → wpList Tryz.prog ops Q rest (a.put o.dst (.tuple #[.bool true, .int .i64 f.xid, .pointer (some ⟨f.b, 0, none⟩)])) w') : wpList Tryz.prog ops Q (o :: rest) a w := by
  obtain ⟨D, left, cnt, hr, hat, hl⟩ := h
  refine wpList_next_ranges w hg it hop 3 keyed_int selfR (fun v : Value => v) (fun v : Value => v) (fun key _ _ => ⟨key, rfl⟩) (fun v _ _ => ⟨v, rfl⟩) b r n D left cnt hit hr (fun _ hno => hDone ?_) (fun x c kl y w' cnt' hkey hlk hv hd hrg hlt hgr hsz hen => ?_)
  · cases todo with
    | nil => rfl
    | cons f l => have := (hl (.int .i64 f.xid) trivial).2 (by simp); rw [hno] at this; cases this
  · obtain ⟨f, hf, rfl⟩ := List.mem_map.1 ((hl kl (keyed_int.key hkey)).1 hlk)
    obtain ⟨x', rfl, he⟩ : ∃ z, x = .int .i64 z ∧ z = f.xid := by
      obtain ⟨z, h1, h2, _⟩ := Maps.keyOf_int_inv Tryz.underlying3 hkey
      exact ⟨z, h1, by cases h2; rfl⟩
    subst he
    have hc : c = .pointer (some ⟨f.b, 0, none⟩) := by
      have e1 := hd (.held undef)
      rw [hat f hf undef] at e1
      simp only [selfR, Option.some.injEq] at hv
      rw [← hv] at e1
      simpa using e1.symm
    subst hc
    refine hMore f hf w' ⟨D, _, cnt', hrg, fun g hg z => hat g (List.mem_filter.1 hg).1 z, fun z hz => ?_⟩ ((Fr.refl _ w).grown hgr (fun j hj _ => by simpa using hj.symm)) (by rw [hrg.left_eq, hr.left_eq]; exact hlt) hsz hen
    rw [Bool.and_eq_true, hl z hz]
    constructor
    · rintro ⟨h1, h2⟩
      obtain ⟨g, hg, rfl⟩ := List.mem_map.1 h1
      refine List.mem_map.2 ⟨g, List.mem_filter.2 ⟨hg, ?_⟩, rfl⟩
      cases hb : g.xid == f.xid with
      | false => rfl
      | true => rw [eq_of_beq hb, Go.WideAt.sameKey_self (show Go.WideAt.IsKeyLit (Lit.int .i64 f.xid) from trivial)] at h2; cases h2
    · intro h1
      obtain ⟨g, hg, rfl⟩ := List.mem_map.1 h1
      obtain ⟨h2, h3⟩ := List.mem_filter.1 hg
      refine ⟨List.mem_map_of_mem (f := fun f => Lit.int .i64 f.xid) h2, ?_⟩
      rw [Go.Maps.sameKey_ne (fun e => by rw [(Lit.int.inj e).2] at h3; simp at h3)]
      rfl
end Go.Proofs.YtiimomgbklgicaaGreat
namespace Go.Proofs.YtiimomgbklgicaaGreat
open Go.RowKit Go.VB Go.VB.Oct Go.VB.Cat Go.VB.Rec Go.VB.Slt
theorem fol_sub {l : List FolV} (hn : (l.map FolV.xid).Nodup) (f : FolV) : ((l.filter fun g => !(g.xid == f.xid)).map FolV.xid).Nodup := List.Nodup.sublist (List.Sublist.map _ List.filter_sublist) hn
end Go.Proofs.YtiimomgbklgicaaGreat
namespace Go.Proofs
open Go.Shelf
def Tryz.sortV_ren : Go.Shelf.Ren := ⟨fun | 6 => 61 | 15 => 118 | 14 => 117 | 28 => 155 | 29 => 156 | 20 => 147 | 21 => 148 | 22 => 149 | 23 => 150 | 24 => 151 | 25 => 152 | 26 => 153 | 27 => 154 | 46 => 170 | 47 => 171 | 48 => 172 | 49 => 173 | 50 => 174 | 57 => 191 | n => n, fun | 22 => 117 | 24 => 121 | 25 => 131 | 3 => 3 | 39 => 188 | 0 => 0 | 53 => 110 | 55 => 186 | 4 => 4 | 46 => 235 | 45 => 234 | 50 => 239 | 5 => 5 | 9 => 9 | 66 => 251 | 70 => 255 | 76 => 271 | 77 => 272 | n => n, fun | n => n⟩
theorem Tryz.sortV : Go.Proofs.SlLaysF0.n6 Tryz.prog Tryz.sortV_ren := {
  mixed := by kernel_rfl
  f6 := ⟨Tryz.f61.name, by decide, Tryz.func61.trans (congrArg some (by kernel_rfl))⟩
  f14 := ⟨Tryz.f117.name, by decide, Tryz.func117.trans (congrArg some (by kernel_rfl))⟩
  f15 := Tryz.func118.trans (congrArg some (by kernel_rfl))
  f20 := ⟨Tryz.f147.name, by decide, Tryz.func147.trans (congrArg some (by kernel_rfl))⟩
  f21 := ⟨Tryz.f148.name, by decide, Tryz.func148.trans (congrArg some (by kernel_rfl))⟩
  f22 := ⟨Tryz.f149.name, by decide, Tryz.func149.trans (congrArg some (by kernel_rfl))⟩
  f23 := ⟨Tryz.f150.name, by decide, Tryz.func150.trans (congrArg some (by kernel_rfl))⟩
  f24 := ⟨Tryz.f151.name, by decide, Tryz.func151.trans (congrArg some (by kernel_rfl))⟩
  f25 := ⟨Tryz.f152.name, by decide, Tryz.func152.trans (congrArg some (by kernel_rfl))⟩
  f26 := ⟨Tryz.f153.name, by decide, Tryz.func153.trans (congrArg some (by kernel_rfl))⟩
  f27 := ⟨Tryz.f154.name, by decide, Tryz.func154.trans (congrArg some (by kernel_rfl))⟩
  f28 := Tryz.func155.trans (congrArg some (by kernel_rfl))
  f29 := Tryz.func156.trans (congrArg some (by kernel_rfl))
  f46 := ⟨Tryz.f170.name, by decide, Tryz.func170.trans (congrArg some (by kernel_rfl))⟩
  f47 := Tryz.func171.trans (congrArg some (by kernel_rfl))
  f48 := Tryz.func172.trans (congrArg some (by kernel_rfl))
  f49 := ⟨Tryz.f173.name, by decide, Tryz.func173.trans (congrArg some (by kernel_rfl))⟩
  f50 := ⟨Tryz.f174.name, by decide, Tryz.func174.trans (congrArg some (by kernel_rfl))⟩
  f57 := ⟨Tryz.f191.name, by decide, Tryz.func191.trans (congrArg some (by kernel_rfl))⟩
  t0 := Tryz.underlying0
  a0 := Tryz.isAgg0
  z0 := Tryz.sizeOf0
  v0 := Tryz.zeroValue0
  t3 := Tryz.underlying3
  a3 := Tryz.isAgg3
  z3 := Tryz.sizeOf3
  v3 := Tryz.zeroValue3
  t4 := Tryz.underlying4
  a4 := Tryz.isAgg4
  z4 := Tryz.sizeOf4
  v4 := Tryz.zeroValue4
  t5 := Tryz.underlying5
  a5 := Tryz.isAgg5
  z5 := Tryz.sizeOf5
  v5 := Tryz.zeroValue5
  t9 := Tryz.underlying9
  a9 := Tryz.isAgg9
  z9 := Tryz.sizeOf9
  v9 := Tryz.zeroValue9
  t22 := Tryz.underlying117
  a22 := Tryz.isAgg117
  z22 := Tryz.sizeOf117
  v22 := Tryz.zeroValue117
  t25 := Tryz.underlying131
  a25 := Tryz.isAgg131
  z25 := Tryz.sizeOf131
  v25 := Tryz.zeroValue131
  t39 := Tryz.underlying188
  a39 := Tryz.isAgg188
  z39 := Tryz.sizeOf188
  v39 := Tryz.zeroValue188
  t45 := Tryz.underlying234
  a45 := Tryz.isAgg234
  z45 := Tryz.sizeOf234
  v45 := Tryz.zeroValue234
  t46 := Tryz.underlying235
  a46 := Tryz.isAgg235
  z46 := Tryz.sizeOf235
  v46 := Tryz.zeroValue235
  t50 := Tryz.underlying239
  a50 := Tryz.isAgg239
  z50 := Tryz.sizeOf239
  v50 := Tryz.zeroValue239
  t53 := Tryz.underlying110
  a53 := Tryz.isAgg110
  z53 := Tryz.sizeOf110
  v53 := Tryz.zeroValue110
  t55 := Tryz.underlying186
  a55 := Tryz.isAgg186
  z55 := Tryz.sizeOf186
  v55 := Tryz.zeroValue186
  t66 := Tryz.underlying251
  a66 := Tryz.isAgg251
  z66 := Tryz.sizeOf251
  v66 := Tryz.zeroValue251
  t70 := Tryz.underlying255
  a70 := Tryz.isAgg255
  z70 := Tryz.sizeOf255
  v70 := Tryz.zeroValue255
  t76 := Tryz.underlying271
  a76 := Tryz.isAgg271
  z76 := Tryz.sizeOf271
  v76 := Tryz.zeroValue271
  t77 := Tryz.underlying272
  a77 := Tryz.isAgg272
  z77 := Tryz.sizeOf272
  v77 := Tryz.zeroValue272 }
end Go.Proofs
namespace Go.VB.Slt
open Go.VB Go.VB.Oct Go.VB.Cat Go.VB.Rec
open Go.Proofs.YtiimomgbklgicaaGreat (atM)
/-- sorted by LSN -/
def sortT (l : List Trn) : List Trn := l.mergeSort fun a b => decide (a.lsn ≤ b.lsn)
theorem sortT_perm (l : List Trn) : (sortT l).Perm l := List.mergeSort_perm ..
theorem sortT_asc (l : List Trn) : (sortT l).Pairwise fun a b => a.lsn ≤ b.lsn := by
  have := List.pairwise_mergeSort (le := fun a b : Trn => decide (a.lsn ≤ b.lsn)) (fun a b c h1 h2 => by simp only [decide_eq_true_eq] at *; omega) (fun a b => by simp only [Bool.or_eq_true, decide_eq_true_eq]; omega) l
  exact this.imp (fun h => by simpa using h)
theorem asc_uniq : ∀ {l m : List Trn}, l.Perm m → l.Pairwise (fun a b => a.lsn ≤ b.lsn) → m.Pairwise (fun a b => a.lsn ≤ b.lsn) → (l.map Trn.lsn).Nodup → l = m
  | [], m, hp, _, _, _ => (List.nil_perm.1 hp).symm
  | a :: l, [], hp, _, _, _ => by have := hp.length_eq; simp at this
  | a :: l, b :: m, hp, hl, hm, hn => by
    have hn' := hn
    rw [List.map_cons, List.nodup_cons] at hn
    rw [List.pairwise_cons] at hl hm
    have hab : a = b := by
      have h1 : a ∈ b :: m := hp.mem_iff.1 (List.mem_cons_self ..)
      have h2 : b ∈ a :: l := hp.mem_iff.2 (List.mem_cons_self ..)
      rcases List.mem_cons.1 h1 with e | h1
      · exact e
      · rcases List.mem_cons.1 h2 with e | h2
        · exact e.symm
        · have g1 := hl.1 b h2
          have g2 := hm.1 a h1
          exact absurd (List.mem_map.2 ⟨b, h2, by omega⟩) hn.1
    subst hab
    rw [asc_uniq ((List.perm_cons a).1 hp) hl.2 hm.2 hn.2]
theorem sortT_uniq {l m : List Trn} (hp : m.Perm l) (hm : m.Pairwise fun a b => a.lsn ≤ b.lsn) (hn : (l.map Trn.lsn).Nodup) : m = sortT l :=
  asc_uniq (hp.trans (sortT_perm l).symm) hm (sortT_asc l) ((hp.map Trn.lsn).nodup_iff.2 hn)
theorem sortT_of {l : List Trn} (h : l.Pairwise fun a b => a.lsn ≤ b.lsn) : sortT l = l := List.mergeSort_of_pairwise (h.imp (fun h => by simpa using h))
/-- all changes that are followed -/
def turnsOf (l : List Fol) : List Trn := l.flatMap Fol.turns
/-- the follows of the xids xs, and the others -/
def mine (l : List Fol) (xs : List Int) : List Fol := l.filter fun f => xs.contains f.xid
def others (l : List Fol) (xs : List Int) : List Fol := l.filter fun f => !xs.contains f.xid
/-- the catalog that holds now -/
def Slt.now (s : Slt) : List Tab := (s.times.getLast?.map Prod.snd).getD []
def Rc.xs (r : Rc) : List Int := r.xids ++ [r.xid]
/-- a transaction queued -/
def queueM (s : Slt) (lsn : Int) (ts : List Trn) : Slt :=
  if ts = [] ∨ lsn ≤ s.acked then s else { s with queue := s.queue ++ [⟨(ts.head?.map Trn.lsn).getD 0, lsn, ts.map Trn.c⟩] }
/-- a record, but for the transaction that it queues -/
def midM (s : Slt) (lsn : Int) (r : Rc) : Slt :=
  if r.kind = 2 ∨ r.kind = 3 ∨ r.kind = 4 then addM { s with last := lsn } r.xid ⟨lsn, chgM (atM s.now r.table).1 r⟩
  else if r.kind = 10 then (match readM r.note with | some m => { s with last := lsn, times := s.times ++ [(lsn, m)] } | none => { s with last := lsn })
  else if r.kind = 5 ∨ r.kind = 6 then { s with last := lsn, fols := others s.fols r.xs }
  else { s with last := lsn }
/-- the changes of the transaction that a record ends -/
def toldM (s : Slt) (r : Rc) : List Trn := if r.kind = 5 then sortT (turnsOf (mine s.fols r.xs)) else []
def feedM (s : Slt) (lsn : Int) (r : Rc) : Slt := if lsn ≤ s.last then s else queueM (midM s lsn r) lsn (toldM s r)
/-- what holds of a slot -/
structure SOk (s : Slt) : Prop where
  dis : ((turnsOf s.fols).map Trn.lsn).Nodup
  le : ∀ t ∈ turnsOf s.fols, t.lsn ≤ s.last
  asc : ∀ f ∈ s.fols, f.turns.Pairwise fun a b => a.lsn < b.lsn
  ne : ∀ f ∈ s.fols, f.turns ≠ []
  nod : (s.fols.map Fol.xid).Nodup
theorem perm_split {α : Type} (p : α → Bool) : ∀ l : List α, (l.filter p ++ l.filter fun x => !p x).Perm l
  | [] => List.Perm.refl _
  | x :: l => by
    have ih := perm_split p l
    cases h : p x with
    | true => simp only [List.filter_cons, h, if_true, Bool.not_true, Bool.false_eq_true, if_false, List.cons_append]; exact ih.cons x
    | false =>
      simp only [List.filter_cons, h, Bool.not_false, if_true, Bool.false_eq_true, if_false]
      exact List.perm_middle.trans (ih.cons x)
theorem mine_others (l : List Fol) (xs : List Int) : (turnsOf (mine l xs) ++ turnsOf (others l xs)).Perm (turnsOf l) := by
  unfold turnsOf
  rw [← List.flatMap_append]
  exact (perm_split _ l).flatMap_right _
theorem others_sub (l : List Fol) (xs : List Int) : (others l xs).Sublist l := List.filter_sublist
theorem addF_map (l : List Fol) (x : Int) (t : Trn) : (turnsOf (addF l x t)).Perm (turnsOf l ++ [t]) := by
  induction l with
  | nil => simp [addF, turnsOf]
  | cons f l ih =>
    unfold addF
    split
    · simp only [turnsOf, List.flatMap_cons, List.append_assoc]
      exact List.Perm.append_left _ List.perm_append_comm
    · have := ih.append_left f.turns
      simpa [turnsOf, List.flatMap_cons, List.append_assoc] using this
theorem addF_xids (l : List Fol) (x : Int) (t : Trn) : (addF l x t).map Fol.xid = if x ∈ l.map Fol.xid then l.map Fol.xid else l.map Fol.xid ++ [x] := by
  induction l with
  | nil => simp [addF]
  | cons f l ih =>
    unfold addF
    split
    · rename_i e
      simp [e]
    · rename_i e
      rw [List.map_cons, ih, List.map_cons]
      have : (x ∈ f.xid :: l.map Fol.xid) ↔ x ∈ l.map Fol.xid := by
        rw [List.mem_cons]
        exact ⟨fun h => h.elim (fun h => absurd h.symm e) id, .inr⟩
      by_cases h : x ∈ l.map Fol.xid
      · rw [if_pos h, if_pos (this.2 h)]
      · rw [if_neg h, if_neg (fun g => h (this.1 g))]; rfl
theorem addF_mem {l : List Fol} {x : Int} {t : Trn} {f : Fol} (h : f ∈ addF l x t) : f ∈ l ∨ f.turns = [t] ∨ ∃ g ∈ l, f.turns = g.turns ++ [t] := by
  induction l with
  | nil => simp [addF] at h; exact .inr (.inl (by rw [h]))
  | cons g l ih =>
    unfold addF at h
    split at h
    · rcases List.mem_cons.1 h with e | e
      · exact .inr (.inr ⟨g, List.mem_cons_self .., by rw [e]⟩)
      · exact .inl (List.mem_cons_of_mem _ e)
    · rcases List.mem_cons.1 h with e | e
      · exact .inl (by rw [e]; exact List.mem_cons_self ..)
      · rcases ih e with h | h | ⟨g', hg, h⟩
        · exact .inl (List.mem_cons_of_mem _ h)
        · exact .inr (.inl h)
        · exact .inr (.inr ⟨g', List.mem_cons_of_mem _ hg, h⟩)
theorem mem_turns {l : List Fol} {t : Trn} : t ∈ turnsOf l ↔ ∃ f ∈ l, t ∈ f.turns := List.mem_flatMap
theorem SOk.last {s : Slt} (h : SOk s) {n : Int} (hn : s.last ≤ n) : SOk { s with last := n } := ⟨h.dis, fun t ht => Int.le_trans (h.le t ht) hn, h.asc, h.ne, h.nod⟩
theorem SOk.add {s : Slt} (h : SOk s) (x : Int) {t : Trn} (ht : s.last < t.lsn) : SOk (addM { s with last := t.lsn } x t) := by
  have hp := addF_map s.fols x t
  refine ⟨?_, fun u hu => ?_, fun f hf => ?_, fun f hf => ?_, ?_⟩
  · refine ((hp.map Trn.lsn).nodup_iff).2 ?_
    rw [List.map_append, List.nodup_append]
    refine ⟨h.dis, by simp, fun a ha b hb e => ?_⟩
    simp only [List.map_cons, List.map_nil, List.mem_singleton] at hb
    obtain ⟨u, hu, rfl⟩ := List.mem_map.1 ha
    have := h.le u hu
    omega
  · rcases List.mem_append.1 (hp.mem_iff.1 hu) with g | g
    · have := h.le u g; show u.lsn ≤ t.lsn; omega
    · rw [List.mem_singleton.1 g]; exact Int.le_refl _
  · rcases addF_mem hf with g | g | ⟨g, hg, e⟩
    · exact h.asc f g
    · rw [g]; exact List.pairwise_singleton _ _
    · rw [e, List.pairwise_append]
      refine ⟨h.asc g hg, List.pairwise_singleton _ _, fun a ha b hb => ?_⟩
      rw [List.mem_singleton.1 hb]
      have := h.le a (mem_turns.2 ⟨g, hg, ha⟩)
      omega
  · rcases addF_mem hf with g | g | ⟨g, hg, e⟩
    · exact h.ne f g
    · rw [g]; simp
    · rw [e]; simp
  · show ((addF s.fols x t).map Fol.xid).Nodup
    rw [addF_xids]
    split
    · exact h.nod
    · rename_i hx
      rw [List.nodup_append]
      refine ⟨h.nod, by simp, fun a ha b hb e => ?_⟩
      rw [List.mem_singleton.1 hb] at e
      exact hx (e ▸ ha)
theorem SOk.others {s : Slt} (h : SOk s) (xs : List Int) : SOk { s with fols := others s.fols xs } := by
  have hs := others_sub s.fols xs
  have hm : ∀ t ∈ turnsOf (Slt.others s.fols xs), t ∈ turnsOf s.fols := fun t ht => by
    obtain ⟨f, hf, ht⟩ := mem_turns.1 ht
    exact mem_turns.2 ⟨f, hs.subset hf, ht⟩
  refine ⟨?_, fun t ht => h.le t (hm t ht), fun f hf => h.asc f (hs.subset hf), fun f hf => h.ne f (hs.subset hf), h.nod.sublist (hs.map _)⟩
  have hd := ((mine_others s.fols xs).map Trn.lsn).nodup_iff.2 h.dis
  rw [List.map_append, List.nodup_append] at hd
  exact hd.2.1
theorem SOk.queue {s : Slt} (h : SOk s) (q : List Dn) : SOk { s with queue := q } := ⟨h.dis, h.le, h.asc, h.ne, h.nod⟩
theorem SOk.queueM {s : Slt} (h : SOk s) (lsn : Int) (ts : List Trn) : SOk (queueM s lsn ts) := by
  unfold Slt.queueM
  split
  · exact h
  · exact h.queue _
theorem SOk.mid {s : Slt} (h : SOk s) {lsn : Int} (hl : s.last < lsn) (r : Rc) : SOk (midM s lsn r) := by
  unfold midM
  split
  · exact h.add r.xid (t := ⟨lsn, _⟩) hl
  · split
    · split
      · exact ⟨h.dis, (h.last (by omega : s.last ≤ lsn)).le, h.asc, h.ne, h.nod⟩
      · exact h.last (by omega)
    · split
      · exact (h.last (by omega : s.last ≤ lsn)).others r.xs
      · exact h.last (by omega)
theorem SOk.feed {s : Slt} (h : SOk s) (lsn : Int) (r : Rc) : SOk (feedM s lsn r) := by
  unfold feedM
  split
  · exact h
  · exact (h.mid (by omega) r).queueM _ _
theorem mine_nodup {s : Slt} (h : SOk s) (xs : List Int) : ((turnsOf (mine s.fols xs)).map Trn.lsn).Nodup := by
  have hd := ((mine_others s.fols xs).map Trn.lsn).nodup_iff.2 h.dis
  rw [List.map_append, List.nodup_append] at hd
  exact hd.1
/-- how much a slot holds -/
structure FewM (s : Slt) (N : Nat) : Prop where
  ts : s.times.length ≤ N
  qs : s.queue.length ≤ N
  tot : (turnsOf s.fols).length ≤ N
  q : ∀ d ∈ s.queue, d.cs.length ≤ N
theorem FewM.mono {s : Slt} {N M : Nat} (h : FewM s N) (hM : N ≤ M) : FewM s M := ⟨Nat.le_trans h.ts hM, Nat.le_trans h.qs hM, Nat.le_trans h.tot hM, fun d hd => Nat.le_trans (h.q d hd) hM⟩
theorem sub_len {l m : List Fol} (h : l.Sublist m) : (turnsOf l).length ≤ (turnsOf m).length := by
  unfold turnsOf
  induction h with
  | slnil => exact Nat.le_refl _
  | cons a _ ih => rw [List.flatMap_cons, List.length_append]; omega
  | cons_cons a _ ih => rw [List.flatMap_cons, List.flatMap_cons, List.length_append, List.length_append]; omega
theorem FewM.mid {s : Slt} {N : Nat} (h : FewM s N) (lsn : Int) (r : Rc) : FewM (midM s lsn r) (N + 1) := by
  have h1 := h.mono (Nat.le_succ N)
  unfold midM
  split
  · refine ⟨h1.ts, h1.qs, ?_, h1.q⟩
    show (turnsOf (addF s.fols r.xid _)).length ≤ N + 1
    rw [(addF_map s.fols r.xid _).length_eq, List.length_append, List.length_singleton]
    have := h.tot
    omega
  · split
    · split
      · refine ⟨?_, h1.qs, h1.tot, h1.q⟩
        show (s.times ++ _).length ≤ N + 1
        rw [List.length_append, List.length_singleton]
        have := h.ts
        omega
      · exact ⟨h1.ts, h1.qs, h1.tot, h1.q⟩
    · split
      · exact ⟨h1.ts, h1.qs, Nat.le_trans (sub_len (others_sub _ _)) h1.tot, h1.q⟩
      · exact ⟨h1.ts, h1.qs, h1.tot, h1.q⟩
theorem told_len (s : Slt) (r : Rc) : (toldM s r).length ≤ (turnsOf s.fols).length := by
  unfold toldM
  split
  · rw [(sortT_perm _).length_eq]
    exact sub_len List.filter_sublist
  · exact Nat.zero_le _
theorem mid_queue (s : Slt) (lsn : Int) (r : Rc) : (midM s lsn r).queue = s.queue := by
  unfold midM addM
  split
  · rfl
  · split
    · split <;> rfl
    · split <;> rfl
theorem mid_acked (s : Slt) (lsn : Int) (r : Rc) : (midM s lsn r).acked = s.acked := by
  unfold midM addM
  split
  · rfl
  · split
    · split <;> rfl
    · split <;> rfl
theorem FewM.feed {s : Slt} {N : Nat} (h : FewM s N) (lsn : Int) (r : Rc) : FewM (feedM s lsn r) (N + 1) := by
  unfold feedM
  split
  · exact h.mono (Nat.le_succ N)
  · have hm := h.mid lsn r
    unfold queueM
    split
    · exact hm
    · refine ⟨hm.ts, ?_, hm.tot, fun d hd => ?_⟩
      · show ((midM s lsn r).queue ++ _).length ≤ N + 1
        rw [mid_queue, List.length_append, List.length_singleton]
        have := h.qs
        omega
      · rcases List.mem_append.1 hd with g | g
        · exact hm.q d g
        · rw [List.mem_singleton.1 g]
          show ((toldM s r).map Trn.c).length ≤ N + 1
          rw [List.length_map]
          exact Nat.le_trans (told_len s r) (Nat.le_trans h.tot (Nat.le_succ N))
end Go.VB.Slt
namespace Go.VB
open Go.RowKit
/-- the world has grown: draws, new blocks, nothing else -/
structure FG (w w' : World) : Prop where
  fr : Fr (fun _ => False) w w'
  gw : ∃ (q : Nat) (os : Array Obj), w' = Go.Sort.grow (w.drewN q) os
namespace FG
variable {w w' w'' : World}
theorem refl (w : World) : FG w w := ⟨Fr.refl _ w, 0, #[], by rw [Go.Sort.grow_empty]; rfl⟩
theorem alloc (h : FG w w') (o : Obj) : FG w (w'.alloc o) := by
  obtain ⟨q, os, e⟩ := h.gw
  exact ⟨h.fr.alloc o, q, os ++ #[o], by rw [e, Go.Sort.alloc_eq_grow, Go.Sort.grow_grow]⟩
theorem drew (h : FG w w') : FG w w'.drew := by
  obtain ⟨q, os, e⟩ := h.gw
  exact ⟨h.fr.drew, q + 1, os, by rw [e]; rfl⟩
end FG
end Go.VB
namespace Go.VB.Slt
open Go.VB Go.VB.Oct Go.VB.Cat Go.VB.Rec
def cmpT (a b : TrnV) : Int := Lib.compareInt a.lsn b.lsn
/-- a value of one cell -/
def one1 (u : Value) : Value := if u.oneCell' = true then u else .slice none 0 0
theorem one1_one (u : Value) : (one1 u).oneCell' = true := by
  unfold one1
  split
  · assumption
  · rfl
theorem one1_of {u : Value} (h : u.oneCell' = true) : one1 u = u := if_pos h
/-- a change under way as six cells, whatever it is -/
def TrnV.enc (t : TrnV) : List Value := [.int .i64 t.lsn, .int .i64 t.c.c.kind, .string (bs t.c.c.table), one1 t.c.vn, one1 t.c.vo, one1 t.c.vw]
theorem enc_len (t : TrnV) : t.enc.length = 6 := rfl
theorem enc_one (t : TrnV) : ∀ u ∈ t.enc, u.oneCell' = true := by
  intro u hu
  simp only [TrnV.enc, List.mem_cons, List.not_mem_nil, or_false] at hu
  rcases hu with rfl | rfl | rfl | rfl | rfl | rfl
  · rfl
  · rfl
  · rfl
  · exact one1_one _
  · exact one1_one _
  · exact one1_one _
instance : Inhabited TrnV := ⟨⟨0, ⟨⟨0, [], [], [], []⟩, .slice none 0 0, .slice none 0 0, .slice none 0 0⟩⟩⟩
theorem cmpInt_lt {a b : Int} : Lib.compareInt a b < 0 ↔ a < b := by
  unfold Lib.compareInt
  split
  · simp; assumption
  · split <;> simp <;> omega
theorem swo_T : Go.Sort.SWO (Go.Proofs.ltOf cmpT) := by
  refine ⟨fun x => ?_, fun x y z h1 h2 => ?_, fun x y z h1 h2 => ?_⟩
  · unfold Go.Proofs.ltOf cmpT; rw [decide_eq_false_iff_not, cmpInt_lt]; omega
  · unfold Go.Proofs.ltOf cmpT at *
    rw [decide_eq_true_eq, cmpInt_lt] at *
    omega
  · unfold Go.Proofs.ltOf cmpT at *
    rw [decide_eq_false_iff_not, cmpInt_lt] at *
    omega
end Go.VB.Slt
namespace Go.Proofs.YtiimomgbklgicaaGreat
open Go.RowKit Go.VB Go.VB.Oct Go.VB.Cat Go.VB.Rec Go.VB.Slt
theorem cmpT_go (a b : TrnV) (w : World) : Calls Tryz.prog 62 #[.agg a.enc.toArray, .agg b.enc.toArray] w fun e w' => e = .returned (.int .i64 (cmpT a b)) ∧ FG w w' := by
  have HC := hid (fun w => Tryz.cmp_Compare_int a.lsn b.lsn w)
  have HE := hid (show Lib.compareInt a.lsn b.lsn = cmpT a b from rfl)
  obtain ⟨l1, ⟨k1, t1, n1, o1, w1⟩, vn1, vo1, vw1⟩ := a
  obtain ⟨l2, ⟨k2, t2, n2, o2, w2⟩, vn2, vo2, vw2⟩ := b
  unfold TrnV.enc
  dsimp only at *
  generalize cmpT _ _ = z at *
  generalize one1 vn1 = vn1 at *
  generalize one1 vo1 = vo1 at *
  generalize one1 vw1 = vw1 at *
  generalize one1 vn2 = vn2 at *
  generalize one1 vo2 = vo2 at *
  generalize one1 vw2 = vw2 at *
  have B0 := (Blk.new w [.int .i64 l1, .int .i64 k1, .string (bs t1), vn1, vo1, vw1] 121).alloc (.cells #[.int .i64 l2, .int .i64 k2, .string (bs t2), vn2, vo2, vw2] 121)
  have B1 := Blk.new (w.alloc (.cells #[.int .i64 l1, .int .i64 k1, .string (bs t1), vn1, vo1, vw1] 121)) [.int .i64 l2, .int .i64 k2, .string (bs t2), vn2, vo2, vw2] 121
  have FZ := hid (((FG.refl w).alloc (.cells #[.int .i64 l1, .int .i64 k1, .string (bs t1), vn1, vo1, vw1] 121)).alloc (.cells #[.int .i64 l2, .int .i64 k2, .string (bs t2), vn2, vo2, vw2] 121))
  have c0 := B0.cell 0
  have c1 := B1.cell 0
  simp only [World.size_alloc, List.getElem?_cons_zero] at c0 c1
  clear B0 B1
  go_enter Tryz.func62, Tryz.ntmps62
  go_wp2_with (go_at_call 63; refine (HC.out _).mono ?_; rintro e w1 ⟨rfl, rfl⟩)
  go_ret
  exact ⟨ret_int HE.out, FZ.out⟩
theorem flatT (d : Array TrnV) : (Go.Sort.flatK TrnV.enc 6 d).toList = d.toList.flatMap TrnV.enc := by
  apply List.ext_getElem?
  intro t
  by_cases ht : t < d.size * 6
  · have h1 : t / 6 < d.toList.length := by rw [Array.length_toList]; omega
    have h2 : t % 6 < 6 := Nat.mod_lt _ (by decide)
    have h3 := Cat.flatK TrnV.enc enc_len d.toList (t / 6) h1 (t % 6) h2
    rw [Nat.div_add_mod'] at h3
    rw [h3]
    have hs : t < (Go.Sort.flatK TrnV.enc 6 d).size := by rw [Go.Sort.size_flatK]; exact ht
    have h4 := Go.Sort.get_flatK TrnV.enc 6 d t ht
    rw [getElem!_pos _ t hs] at h4
    have h5 : t / 6 < d.size := by simpa using h1
    have h6 : t % 6 < (TrnV.enc d[t / 6]).length := by rw [enc_len]; exact h2
    rw [getElem!_pos d (t / 6) h5, getElem!_pos (TrnV.enc d[t / 6]) (t % 6) h6] at h4
    rw [List.getElem?_eq_getElem (by simpa using hs), Array.getElem_toList, h4]
    show _ = (TrnV.enc d[t / 6])[t % 6]?
    rw [List.getElem?_eq_getElem h6]
  · rw [List.getElem?_eq_none (by rw [Array.length_toList, Go.Sort.size_flatK]; omega), List.getElem?_eq_none (by rw [flat_len enc_len, Array.length_toList]; omega)]
/-- a world of the sort's -/
theorem sort_fr (w : World) (g m : Nat) (d : Array TrnV) (os : Array Obj) : Fr (fun k => k = g) w (sortWorldK TrnV.enc 6 w g 0 m d os) := by
  refine ⟨rfl, rfl, rfl, ?_, fun k hk hn => ?_⟩
  · show w.heap.size ≤ ((Go.Sort.putRowK TrnV.enc 6 (Go.Sort.ahead w m) g 0 d).heap ++ os).size
    rw [Array.size_append]
    have : (Go.Sort.putRowK TrnV.enc 6 (Go.Sort.ahead w m) g 0 d).heap.size = w.heap.size := Array.size_modify ..
    omega
  · have hs : (Go.Sort.putRowK TrnV.enc 6 (Go.Sort.ahead w m) g 0 d).heap.size = w.heap.size := Array.size_modify ..
    rw [sortWorldK, Go.Sort.heap_grow_old _ _ (by rw [hs]; exact hk)]
    show (w.heap.modify g _)[k]? = w.heap[k]?
    rw [Array.getElem?_modify, if_neg (fun e => hn e.symm)]
theorem putCells_list (F c : Array Value) (h : F.size ≤ c.size) : (Go.Sort.putCells id 0 F c).toList = F.toList ++ c.toList.drop F.size := by
  apply List.ext_getElem?
  intro t
  unfold Go.Sort.putCells
  rw [Array.getElem?_toList, Array.getElem?_mapIdx]
  by_cases ht : t < F.size
  · rw [List.getElem?_append_left (by simpa using ht), Array.getElem?_toList, Array.getElem?_eq_getElem ht, Array.getElem?_eq_getElem (by omega), Option.map_some, if_pos ⟨by omega, by omega⟩]
    simp [ht]
  · rw [List.getElem?_append_right (by simpa using ht), List.getElem?_drop, Array.length_toList, Array.getElem?_toList, show F.size + (t - F.size) = t by omega]
    cases hc : c[t]? with
    | none => rfl
    | some x => rw [Option.map_some, if_neg (by omega)]
theorem row_putT {B n cap g m : Nat} {w : World} {l l' : List TrnV} (h : Row 121 6 B w (.slice (some ⟨g, 0, none⟩) n cap) n (l.flatMap TrnV.enc)) (hl : l'.length = n) (os : Array Obj) :
    Row 121 6 B (sortWorldK TrnV.enc 6 w g 0 m l'.toArray os) (.slice (some ⟨g, 0, none⟩) n cap) n (l'.flatMap TrnV.enc) := by
  refine ⟨⟨by rw [flat_len enc_len, hl], ?_⟩, h.new⟩
  rcases h.own.2 with ⟨h1, _⟩ | ⟨g', cap', cur, h1, hb, hgg, h2, h3, h4, h5⟩
  · cases h1
  · cases h1
    have hlt : g < w.heap.size := (Array.getElem?_eq_some_iff.1 hgg).1
    have hF : (Go.Sort.flatK TrnV.enc 6 l'.toArray).size = n * 6 := by rw [Go.Sort.size_flatK, List.size_toArray, hl]
    have hle : (Go.Sort.flatK TrnV.enc 6 l'.toArray).size ≤ cur.size := by rw [hF, h4]; exact Nat.mul_le_mul_right 6 h2
    refine .inr ⟨g, cap, Go.Sort.putCells id 0 (Go.Sort.flatK TrnV.enc 6 l'.toArray) cur, rfl, hb, ?_, h2, h3, ?_, ?_⟩
    · have hs : (Go.Sort.putRowK TrnV.enc 6 (Go.Sort.ahead w m) g 0 l'.toArray).heap.size = w.heap.size := Array.size_modify ..
      rw [sortWorldK, Go.Sort.heap_grow_old _ _ (by rw [hs]; exact hlt)]
      show (w.heap.modify g _)[g]? = _
      rw [Array.getElem?_modify, if_pos rfl, hgg]
      rfl
    · unfold Go.Sort.putCells
      rw [Array.size_mapIdx]
      exact h4
    · rw [putCells_list _ _ hle, List.take_append_of_le_length (by rw [Array.length_toList, hF]; exact Nat.le_refl _), List.take_of_length_le (by rw [Array.length_toList, hF]; exact Nat.le_refl _), flatT]
theorem row_holdsT {B n cap g : Nat} {w : World} {l : List TrnV} (h : Row 121 6 B w (.slice (some ⟨g, 0, none⟩) n cap) n (l.flatMap TrnV.enc)) : Go.Sort.HoldsK TrnV.enc 6 w g 0 l.toArray := by
  intro j hj
  obtain ⟨lg, hb⟩ := row_blk h (k := g) rfl
  have e := flatT l.toArray
  have hx : l.flatMap TrnV.enc ≠ [] := by
    intro e2
    have e3 := congrArg List.length (e.trans e2)
    rw [Array.length_toList, List.length_nil] at e3
    omega
  obtain ⟨g', h1, _, h3⟩ := row_range h hx
  cases h1
  refine ⟨?_, hb.frozen _⟩
  refine h3 j _ ?_
  rw [show l.flatMap TrnV.enc = (Go.Sort.flatK TrnV.enc 6 l.toArray).toList from e.symm, Array.getElem?_toList, Array.getElem?_eq_getElem hj, getElem!_pos _ j hj]
  rfl
theorem cmpLaysT (g : Nat) (n : Nat) (w : World) : CmpLays Tryz.prog 62 #[] TrnV.enc 6 cmpT g 0 n w := by
  intro m os dk hs x y
  exact (cmpT_go x y _).mono fun e w' h => ⟨h.1, h.2.gw⟩
theorem ChgV_one {B : Nat} {w : World} {c : ChgV} (h : ChgR B w c) : ∀ u ∈ c.cells, u.oneCell' = true := by
  intro u hu
  obtain ⟨a1, c1, e1, -⟩ := h.n.slice
  obtain ⟨a2, c2, e2, -⟩ := h.o.slice
  obtain ⟨a3, c3, e3, -⟩ := h.w.slice
  simp only [ChgV.cells, List.mem_cons, List.not_mem_nil, or_false, e1, e2, e3] at hu
  rcases hu with rfl | rfl | rfl | rfl | rfl <;> rfl
theorem enc_cells {B : Nat} {w : World} {t : TrnV} (h : ChgR B w t.c) : t.enc = t.cells := by
  have h1 := ChgV_one h
  unfold TrnV.enc TrnV.cells ChgV.cells
  rw [one1_of (h1 t.c.vn (by simp [ChgV.cells])), one1_of (h1 t.c.vo (by simp [ChgV.cells])), one1_of (h1 t.c.vw (by simp [ChgV.cells]))]
theorem enc_flat {B : Nat} {w : World} {l : List TrnV} (h : ∀ t ∈ l, ChgR B w t.c) : l.flatMap TrnV.enc = l.flatMap TrnV.cells := by
  induction l with
  | nil => rfl
  | cons t l ih => rw [List.flatMap_cons, List.flatMap_cons, enc_cells (h t (List.mem_cons_self ..)), ih (fun x hx => h x (List.mem_cons_of_mem _ hx))]
theorem SortT_go {B A n : Nat} {w : World} {v : Value} {l : List TrnV} (h : Row 121 6 B w v n (l.flatMap TrnV.cells)) (hc : ∀ t ∈ l, ChgR A w t.c) (hn : l.length = n) (hsz : n < 4611686018427387904) :
    Calls Tryz.prog 61 #[v, .func (.func 62) #[] #[]] w fun e w' => e = .returned (.tuple #[]) ∧ ∃ l' : List TrnV, l'.Perm l ∧ l'.Pairwise (fun a b => a.lsn ≤ b.lsn) ∧ Row 121 6 B w' v n (l'.flatMap TrnV.cells) ∧ Fr (fun k => v.ownBlock = some k) w w' := by
  subst hn
  have HE := enc_flat hc
  have HP : ∀ l' : List TrnV, l'.Perm l → l'.flatMap TrnV.enc = l'.flatMap TrnV.cells := fun l' hp => enc_flat (fun t ht => hc t (hp.mem_iff.1 ht))
  rw [← HE] at h
  obtain ⟨a, cap, rfl, _⟩ := h.slice
  cases l with
  | nil =>
    refine (AnyF.slices_SortFunc_none Tryz.sortV a cap (.func (.func 62) #[] #[]) w).mono ?_
    rintro e w' ⟨rfl, rfl⟩
    exact ⟨rfl, [], List.Perm.refl _, List.Pairwise.nil, h, Fr.refl _ _⟩
  | cons x l =>
    obtain ⟨g, rfl, hg, _⟩ := row_range h (by simp [TrnV.enc])
    have eg : ∀ args w, (callFunc 62 args).run Tryz.prog w = .ok (.enter 62 args) w := enters_of Tryz.func62 (by kernel_rfl) rfl
    have hc := AnyQ.slices_SortFunc Tryz.sortV 6 Tryz.isAgg121 Tryz.sizeOf121 TrnV.enc enc_len enc_one cmpT swo_T 62 #[] g 0 cap (x :: l).toArray w eg (cmpLaysT g _ w) (row_holdsT h) (h.lt rfl) (by simpa using hsz)
    refine Calls.mono hc ?_
    rintro e w' ⟨rfl, d', m, os, ⟨hp1, _, hp3⟩, hs, rfl⟩
    have hsz' : d'.size = (x :: l).length := by simpa using hp1
    have e1 : d'.toList.toArray = d' := by simp
    have hperm : d'.toList.Perm (x :: l) := by
      have e2 : (d'.extract 0 (x :: l).toArray.size).toList = d'.toList := by rw [show (x :: l).toArray.size = d'.size from hp1.symm, Array.extract_size]
      have e3 : ((x :: l).toArray.extract 0 (x :: l).toArray.size).toList = x :: l := by rw [Array.extract_size]
      rw [e2, e3] at hp3
      exact hp3
    refine ⟨rfl, d'.toList, hperm, ?_, ?_, ?_⟩
    · rw [List.pairwise_iff_getElem]
      intro i j hi hj hij
      have hi' : i < d'.size := by simpa using hi
      have hj' : j < d'.size := by simpa using hj
      have := hs i j (Nat.zero_le _) hij (by rw [← hp1]; exact hj')
      rw [getElem!_pos d' i hi', getElem!_pos d' j hj'] at this
      unfold Go.Proofs.ltOf cmpT at this
      rw [decide_eq_false_iff_not, cmpInt_lt] at this
      rw [Array.getElem_toList, Array.getElem_toList]
      omega
    · have := row_putT (m := m) (l' := d'.toList) h (by rw [Array.length_toList]; exact hsz') os
      rw [e1, HP _ hperm] at this
      exact this
    · exact (sort_fr w g m d' os).mono (fun k hk _ => by rw [hk]; rfl)
end Go.Proofs.YtiimomgbklgicaaGreat
namespace Go.Proofs.YtiimomgbklgicaaGreat
open Go.RowKit Go.VB Go.VB.Oct Go.VB.Cat Go.VB.Rec Go.VB.Slt
theorem find_filter (fs : List FolV) (x y : Int) : (fs.filter fun f => !(f.xid == x)).find? (fun f => f.xid == y) = if y = x then none else fs.find? (fun f => f.xid == y) := by
  induction fs with
  | nil => simp
  | cons f fs ih =>
    by_cases hx : f.xid = x
    · rw [List.filter_cons_of_neg (by simp [hx]), ih]
      by_cases hy : y = x
      · rw [if_pos hy, if_pos hy]
      · rw [if_neg hy, if_neg hy, List.find?_cons_of_neg (by simp; omega)]
    · rw [List.filter_cons_of_pos (by simp [hx])]
      by_cases hy : f.xid = y
      · rw [List.find?_cons_of_pos (by simp [hy]), List.find?_cons_of_pos (by simp [hy]), if_neg (by omega)]
      · rw [List.find?_cons_of_neg (by simp [hy]), ih, List.find?_cons_of_neg (by simp [hy])]
/-- one follow less -/
theorem SlO.delF {S C : Nat → Prop} {W W' : World} {s : Nat} {v : SltV} (h : SlO S C W s v) (x : Int) (f : Fr (fun k => k = v.mb) W W') (hm : MapG Tryz.prog 3 W' v.mb v.n (updG (folF v.fs) (.int .i64 x) none)) :
    SlO S C W' s { v with fs := v.fs.filter fun f => !(f.xid == x) } := by
  have own : Own (fun k => k = v.mb) W v.mb := fun k hk => .inl hk
  have rows : ∀ {e : TypeId} {size B n : Nat} {va : Value} {xs : List Value}, Row e size B W va n xs → Row e size B W' va n xs := fun r => r.fr f (fun k hk e => Row_ne_map r h.m k hk e)
  have hs : (v.fs.filter fun f => !(f.xid == x)).Sublist v.fs := List.filter_sublist
  refine ⟨h.b.fr f (fun e => MapG_ne h.m h.b e.symm), h.bS, rows h.t, h.tS, h.tne, fun t ht => ⟨(h.tc t ht).1.fr f (fun k hk e => h.CS k hk (by rw [e]; exact h.mS)), (h.tc t ht).2⟩, h.CS, ?_, h.mS, fun g hg => ?_, h.fx.sublist (hs.map _), fun g hg => h.fi g (hs.subset hg), h.fd.sublist hs, rows h.q, h.qS, fun d hd => (h.d d hd).off h.m own f, fun k hk => Nat.lt_of_lt_of_le (h.lt k hk) f.size⟩
  · refine hm.cast fun l hl => ?_
    clear hl
    by_cases e : l = .int .i64 x
    · subst e
      rw [updG_same, folF_int, find_filter, if_pos rfl]
      rfl
    · rw [updG_ne _ _ e]
      unfold folF
      split
      · rename_i y
        have hne : ¬ y = x := fun h => e (by rw [h])
        show _ = ((v.fs.filter fun f => !(f.xid == x)).find? fun f => f.xid == y).map _
        rw [find_filter, if_neg hne]
      · rfl
  · have hg := h.f g (hs.subset hg)
    exact hg.off h.m own f (fun e => MapG_ne h.m hg.b e.symm) (fun k hk e => by
      rcases hk with hk | hk
      · exact Row_ne_map hg.h.r h.m k hk e
      · exact Row_ne_map hg.s.r h.m k hk e)
/-- the slot's own cells, its times or its queue written -/
theorem SlO.re {S T C D U : Nat → Prop} {W W' : World} {s : Nat} {v v' : SltV} (h : SlO S C W s v) (f : Fr U W W') (hU : ∀ k, U k → k = s ∨ v.vt.ownBlock = some k ∨ v.vq.ownBlock = some k) (hb : Blk W' s v'.cells 116)
    (ht : Row 125 2 0 W' v'.vt v'.ts.length (v'.ts.flatMap TimV.cells)) (htS : ∀ k, v'.vt.ownBlock = some k → T k) (tne : v'.ts ≠ []) (tc : ∀ t ∈ v'.ts, t ∈ v.ts ∨ CR 225 D W' t.c t.m ∧ Ok t.m)
    (hq : Row 133 3 0 W' v'.vq v'.qs.length (v'.qs.flatMap DnV.cells)) (hqS : ∀ k, v'.vq.ownBlock = some k → T k) (hd : ∀ d ∈ v'.qs, d ∈ v.qs ∨ DnO T W' d)
    (hmb : v'.mb = v.mb) (hn : v'.n = v.n) (hfs : v'.fs = v.fs) (hST : ∀ k, S k → T k) (hCD : ∀ k, C k → D k) (DT : ∀ k, D k → ¬ T k) (lt : ∀ k, T k ∨ D k → k < W'.heap.size) : SlO T D W' s v' := by
  have own : Own U W v.mb := fun k hk => by
    rcases hU k hk with rfl | hk | hk
    · exact .inr ⟨_, _, h.b, .inl rfl⟩
    · obtain ⟨l, hl⟩ := row_blk h.t hk
      exact .inr ⟨l, _, hl, .inr (.inl rfl)⟩
    · obtain ⟨l, hl⟩ := row_blk h.q hk
      exact .inr ⟨l, _, hl, .inr (.inr (.inr (.inr rfl)))⟩
  have offB : ∀ {b : Nat} {l : List Value} {t : TypeId}, Blk W b l t → t ≠ 116 → t ≠ 125 → t ≠ 133 → ¬ U b := fun {b l t} hb h1 h2 h3 hu => by
    rcases hU b hu with e | hk | hk
    · exact hb.ne_of_type h.b h1 e
    · obtain ⟨l, hl⟩ := row_blk h.t hk
      exact hb.ne_of_type hl h2 rfl
    · obtain ⟨l, hl⟩ := row_blk h.q hk
      exact hb.ne_of_type hl h3 rfl
  have mU : ¬ U v.mb := fun hu => by
    rcases hU _ hu with e | hk | hk
    · exact MapG_ne h.m h.b e
    · exact Row_ne_map h.t h.m _ hk rfl
    · exact Row_ne_map h.q h.m _ hk rfl
  have US : ∀ k, U k → S k := fun k hk => by
    rcases hU k hk with rfl | hk | hk
    · exact h.bS
    · exact h.tS k hk
    · exact h.qS k hk
  refine ⟨hb, hST _ h.bS, ht, htS, tne, fun t ht => ?_, DT, ?_, by rw [hmb]; exact hST _ h.mS, fun g hg => ?_, by rw [hfs]; exact h.fx, by rw [hfs]; exact h.fi, by rw [hfs]; exact h.fd, hq, hqS, fun d hd' => ?_, lt⟩
  · rcases tc t ht with g | g
    · have := (h.tc t g).1.fr f (fun k hk hu => h.CS k hk (US k hu))
      obtain ⟨v0, ts0, c, e⟩ := this
      exact ⟨⟨v0, ts0, c.mono hCD (fun k hk => lt k (.inr hk)), e⟩, (h.tc t g).2⟩
    · exact g
  · rw [hmb, hn, hfs]
    exact h.m.fr f mU
  · rw [hfs] at hg
    have hg := h.f g hg
    refine (hg.off h.m own f (offB hg.b (by decide) (by decide) (by decide)) (fun k hk => ?_)).mono hST
    rcases hk with hk | hk
    · obtain ⟨l, hl⟩ := row_blk hg.h.r hk
      exact offB hl (by decide) (by decide) (by decide)
    · obtain ⟨l, hl⟩ := row_blk hg.s.r hk
      exact offB hl (by decide) (by decide) (by decide)
  · rcases hd d hd' with g | g
    · exact ((h.d d g).off h.m own f).mono hST
    · exact g
/-- acked and last written -/
theorem SlO.nums {S C : Nat → Prop} {W W' : World} {s : Nat} {v : SltV} (h : SlO S C W s v) (a l : Int) (f : Fr (fun k => k = s) W W') (hb : Blk W' s { v with acked := a, last := l }.cells 116) : SlO S C W' s { v with acked := a, last := l } :=
  h.re (v' := { v with acked := a, last := l }) f (fun k hk => .inl hk) hb (h.t.fr f (h.t.ne h.b (by decide))) h.tS h.tne (fun t ht => .inl ht) (h.q.fr f (h.q.ne h.b (by decide))) h.qS (fun d hd => .inl hd) rfl rfl rfl (fun _ h => h) (fun _ h => h) h.CS (fun k hk => Nat.lt_of_lt_of_le (h.lt k hk) f.size)
/-- a catalog more -/
theorem SlO.timeF {S T C D : Nat → Prop} {W wg W' : World} {s : Nat} {v : SltV} (h : SlO S C W s v) {x : TimV} {v2 : Value} (a : App 125 2 0 W wg v.vt v2 v.ts.length (v.ts.flatMap TimV.cells) x.cells) (f : Fr (fun k => k = s) wg W')
    (hb : Blk W' s { v with vt := v2, ts := v.ts ++ [x] }.cells 116) (bg : ∃ l, Blk wg s l 116) (hx : CR 225 D W' x.c x.m ∧ Ok x.m) (hST : ∀ k, S k → T k) (hnew : ∀ k, v2.ownBlock = some k → T k) (hCD : ∀ k, C k → D k) (DT : ∀ k, D k → ¬ T k) (lt : ∀ k, T k ∨ D k → k < W'.heap.size) : SlO T D W' s { v with vt := v2, ts := v.ts ++ [x] } := by
  obtain ⟨l, bg⟩ := bg
  have f2 : Fr (fun k => k = s ∨ v.vt.ownBlock = some k) W W' := (a.fr.mono (fun k hk _ => .inr hk)).trans f (fun k hk _ => .inl hk)
  have r := a.row.cast (m := (v.ts ++ [x]).length) (ys := (v.ts ++ [x]).flatMap TimV.cells) (by simp) (by simp)
  refine h.re (v' := { v with vt := v2, ts := v.ts ++ [x] }) f2 (fun k hk => hk.elim .inl (fun hk => .inr (.inl hk))) hb (r.fr f (r.ne bg (by decide))) hnew (by simp) (fun t ht => ?_) (h.q.fr f2 (fun k hk hu => ?_)) (fun k hk => hST k (h.qS k hk)) (fun d hd => .inl hd) rfl rfl rfl hST hCD DT lt
  · rcases List.mem_append.1 ht with g | g
    · exact .inl g
    · rw [List.mem_singleton.1 g]; exact .inr hx
  · rcases hu with hu | hu
    · exact h.q.ne h.b (by decide) k hk hu
    · exact rows_ne h.q h.t (by decide) k hk hu
/-- a transaction more in the queue -/
theorem SlO.queueF {S T C : Nat → Prop} {W wg W' : World} {s : Nat} {v : SltV} (h : SlO S C W s v) {x : DnV} {v2 : Value} (a : App 133 3 0 W wg v.vq v2 v.qs.length (v.qs.flatMap DnV.cells) x.cells) (f : Fr (fun k => k = s) wg W')
    (hb : Blk W' s { v with vq := v2, qs := v.qs ++ [x] }.cells 116) (bg : ∃ l, Blk wg s l 116) (hx : DnO T W' x) (hST : ∀ k, S k → T k) (hnew : ∀ k, v2.ownBlock = some k → T k) (CT : ∀ k, C k → ¬ T k) (lt : ∀ k, T k → k < W'.heap.size) : SlO T C W' s { v with vq := v2, qs := v.qs ++ [x] } := by
  obtain ⟨l, bg⟩ := bg
  have f2 : Fr (fun k => k = s ∨ v.vq.ownBlock = some k) W W' := (a.fr.mono (fun k hk _ => .inr hk)).trans f (fun k hk _ => .inl hk)
  have r := a.row.cast (m := (v.qs ++ [x]).length) (ys := (v.qs ++ [x]).flatMap DnV.cells) (by simp) (by simp)
  refine h.re (v' := { v with vq := v2, qs := v.qs ++ [x] }) f2 (fun k hk => hk.elim .inl (fun hk => .inr (.inr hk))) hb (h.t.fr f2 (fun k hk hu => ?_)) (fun k hk => hST k (h.tS k hk)) h.tne (fun t ht => .inl ht) (r.fr f (r.ne bg (by decide))) hnew (fun d hd => ?_) rfl rfl rfl hST (fun _ h => h) CT (fun k hk => hk.elim (lt k) (fun hk => Nat.lt_of_lt_of_le (h.lt k (.inr hk)) f2.size))
  · rcases hu with hu | hu
    · exact h.t.ne h.b (by decide) k hk hu
    · exact rows_ne h.t h.q (by decide) k hk hu
  · rcases List.mem_append.1 hd with g | g
    · exact .inl g
    · rw [List.mem_singleton.1 g]; exact .inr hx
end Go.Proofs.YtiimomgbklgicaaGreat
