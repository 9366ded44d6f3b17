import Derived.Test.YtiimomgbklgicaaCtC
import Derived.Test.YtiimomgbklgicaaMap
import Derived.Maps.OwnSet
import Derived.StringKeys
/- A name twice. -/
set_option linter.unusedVariables false
namespace Go.VB.Cat
open Go.VB Go.VB.Oct
/-- how many different names (a list read from its end) -/
def cnt : List Bs → Nat
  | [] => 0
  | x :: l => cnt l + (if x ∈ l then 0 else 1)
theorem cnt_le : ∀ l : List Bs, cnt l ≤ l.length
  | [] => Nat.le_refl _
  | x :: l => by
    have := cnt_le l
    unfold cnt
    rw [List.length_cons]
    split <;> omega
theorem cnt_eq : ∀ l : List Bs, cnt l = l.length ↔ l.Nodup
  | [] => by simp [cnt]
  | x :: l => by
    have h1 := cnt_le l
    have h2 := cnt_eq l
    unfold cnt
    rw [List.length_cons, List.nodup_cons]
    by_cases hx : x ∈ l
    · rw [if_pos hx]
      exact ⟨fun h => by omega, fun h => absurd hx h.1⟩
    · rw [if_neg hx]
      exact ⟨fun h => ⟨hx, h2.1 (by omega)⟩, fun h => by rw [h2.2 h.2]⟩
theorem dup_cnt (l : List Bs) : dup l = decide (cnt l.reverse < l.length) := by
  unfold dup
  have h1 := cnt_le l.reverse
  have h2 := cnt_eq l.reverse
  rw [List.length_reverse] at h1 h2
  have h3 : l.reverse.Nodup ↔ l.Nodup := by
    unfold List.Nodup
    rw [List.pairwise_reverse]
    exact ⟨fun h => h.imp fun g => g.symm, fun h => h.imp fun g => g.symm⟩
  rw [h3] at h2
  by_cases h : l.Nodup
  · rw [decide_eq_false (fun g => g h), decide_eq_false]
    have := h2.2 h
    omega
  · rw [decide_eq_true h, decide_eq_true]
    have : cnt l.reverse ≠ l.length := fun e => h (h2.1 e)
    omega
end Go.VB.Cat
namespace Go.Proofs.Ytiimomgbklgicaa
open Go.RowKit Go.VB Go.VB.Oct Go.VB.Cat
attribute [local go_sem] Oper.semAt_some
/-- block b is a map whose keys are the names of L -/
def CntMap (w : World) (b : Nat) (L : List Bs) : Prop :=
  ∃ (D : DataW Value) (n : Nat), n ≤ L.length ∧ w.ownsMap Try.prog 9 selfR b n D ∧ Go.Maps.Tidy D ∧ (∀ x : Bs, Go.Maps.has D (.string x) = decide (x ∈ L)) ∧ Go.Maps.size D = cnt L ∧ ∀ x : Bs, ∃ v : Int, D.atKey (.string x) (.held (.int .i64 0)) = .held (.int .i64 v)
theorem CntMap.new (w : World) : CntMap (w.alloc (.map #[] 0)) w.heap.size [] :=
  ⟨.map [], 0, Nat.le_refl _, World.ownsMap_made w _ _ _, Go.Maps.tidy_empty, fun x => rfl, rfl, fun x => ⟨0, by rw [Go.WideAt.atKey_none _ (by simp)]⟩⟩
theorem CntMap.lt {w : World} {b : Nat} {L : List Bs} (h : CntMap w b L) : b < w.heap.size := by
  obtain ⟨D, n, _, h, _⟩ := h
  exact h.lt
theorem zero_int (w : World) : (zeroValue 3).run Try.prog w = .ok (.int .i64 0) w := by kernel_rfl
theorem key_str (x : Bs) (h : x.length ≤ 9223372036854775807) : keyOf Try.prog 9 (.string (bs x)) = some (.string x) := by
  have := Go.WideMaps.keyOf_string_mk (P := Try.prog) Try.underlying9 (s := bs x) (by rw [bs_size]; unfold maxLen; omega)
  rw [this]
  simp [bs]
theorem wpList_lookup_cnt {ops : Array Oper} {rest : List Oper} {o : Oper} {a : Act} {w : World} {Q : Exit → Act → World → Prop} (hg : o.guard = none) {m x : Operand} (hop : o.op = Op.lookup 173 m x false)
    {b : Nat} {L : List Bs} (hm : a.eval m = .map (some b)) (h : CntMap w b L) {s : Bs} (hs : s.length ≤ 9223372036854775807) (hx : a.eval x = .string (bs s))
    (hK : ∀ v : Int, wpList Try.prog ops Q rest (a.put o.dst (.int .i64 v)) w) : wpList Try.prog ops Q (o :: rest) a w := by
  refine wpList_plain hg fun K' hK' => ?_
  obtain ⟨D, n, hn, hD, ht, hh, hz, hv⟩ := h
  obtain ⟨v, ps, hrun, hvv⟩ := hD.lookup (Go.Maps.string_keyed Try.underlying9) Try.underlying173 (zero_int w) (zd := .held (.int .i64 0)) (zp := []) rfl (key_str s hs)
  obtain ⟨u, hu⟩ := hv s
  rw [hu] at hvv
  simp only [selfR, Option.some.injEq, Prod.mk.injEq, DataW.held.injEq] at hvv
  unfold Oper.wp
  simp [execOp, hop, hm, hx, hrun, Result.andThen]
  rw [hvv.1]
  exact hK' _ _ (hK u)
theorem wpList_update_cnt {ops : Array Oper} {rest : List Oper} {o : Oper} {a : Act} {w : World} {Q : Exit → Act → World → Prop} (hg : o.guard = none) {m x v : Operand} (hop : o.op = Op.mapUpdate 173 m x v)
    {b : Nat} {L : List Bs} (hm : a.eval m = .map (some b)) (h : CntMap w b L) (hL : L.length ≤ 1048576) {s : Bs} (hs : s.length ≤ 9223372036854775807) (hx : a.eval x = .string (bs s)) {u : Int} (hv : a.eval v = .int .i64 u)
    (hK : ∀ w', CntMap w' b (s :: L) → Fr (fun j => j = b) w w' → wpList Try.prog ops Q rest (a.put o.dst undef) w') : wpList Try.prog ops Q (o :: rest) a w := by
  refine wpList_plain hg fun K' hK' => ?_
  obtain ⟨D, n, hn, hD, ht, hh, hz, hat⟩ := h
  obtain ⟨w', hrun, hD', hgr⟩ := hD.update (Go.Maps.string_keyed Try.underlying9) Try.underlying173 (by unfold maxLen; omega) (key_str s hs) (val := .int .i64 u) (d := .held (.int .i64 u)) (ps := []) rfl
  unfold Oper.wp
  simp [execOp, hop, hm, hx, hv, hrun, Result.andThen]
  refine hK' _ _ (hK w' ⟨_, n + 1, by rw [List.length_cons]; omega, hD', ht.put (by trivial) _, fun y => ?_, ?_, fun y => ?_⟩ ((Fr.refl _ w).grown hgr (fun j hj _ => by simpa using hj.symm)))
  · by_cases e : y = s
    · subst e
      rw [Go.Maps.has_put_same ht.isMap (by trivial)]
      simp
    · rw [Go.Maps.has_put_other (by intro g; exact e (by cases g; rfl)), hh y]
      simp [e]
  · have hc : cnt (s :: L) = cnt L + (if s ∈ L then 0 else 1) := rfl
    rw [Go.Maps.size_put ht, hh s, hz, hc]
    by_cases e : s ∈ L
    · rw [if_pos e, decide_eq_true e]; rfl
    · rw [if_neg e, decide_eq_false e]; rfl
  · by_cases e : y = s
    · subst e
      exact ⟨u, by rw [Go.Maps.atKey_put_same ht.isMap (by trivial)]⟩
    · obtain ⟨z, hz2⟩ := hat y
      exact ⟨z, by rw [Go.Maps.atKey_put_other (by intro g; exact e (by cases g; rfl)), hz2]⟩
set_option maxRecDepth 20000 in
theorem twice_go {R : Nat → Prop} {w : World} {va : Value} {l : List Bs} (h : Sl R w va l.length (sv l)) (hR : ∀ k, R k → k < w.heap.size) (hn : l.length ≤ 1048576) (hs : ∀ s ∈ l, s.length ≤ 9223372036854775807) :
    Calls Try.prog 83 #[va] w fun e w' => e = .returned (.bool (dup l)) ∧ Fr (fun _ => False) w w' := by
  rw [dup_cnt]
  obtain ⟨a, c, rfl, hc, hx⟩ := h
  have HX := hid (show Sl R w (.slice a l.length c) l.length (sv l) from ⟨a, c, rfl, hc, hx⟩)
  clear hx
  have HRR := hid hR
  have HS := hid hs
  clear hR hs
  have F0 := hid ((Fr.refl (fun _ => False) w).alloc (.map #[] 0))
  have M0 := hid (CntMap.new w)
  have hmm := @run_makeMap Try.prog
  have hlast : ∀ w' D n, w'.ownsMap Try.prog 9 selfR w.heap.size n D → (Builtin.len_ #[173] 3 #[.map (some w.heap.size)]).run Try.prog w' = .ok (.int .i64 (Go.Maps.size D)) w' := fun w' D n (h : w'.ownsMap Try.prog 9 selfR w.heap.size n (D : DataW Value)) => h.len Try.underlying173 3
  have HLAST := hid hlast
  clear hlast
  go_enter Try.func83, Try.ntmps83
  go_upto_region 2 with fail
  clear hmm
  generalize hd : w.heap.size = d at *
  have HD := hid hd
  clear hd
  generalize w.alloc _ = W1 at *
  go_wp2_with (fail)
  go_loopw [9] (fun i wr => ∃ j : Nat, j ≤ l.length ∧ i = .int .i64 j ∧ CntMap wr d (l.take j).reverse ∧ Fr (fun _ => False) w wr) (fun i _ => l.length - (intOf i).toNat)
  case atStart => exact ⟨0, by omega, rfl, M0.out, F0.out⟩
  case round =>
    obtain ⟨j, hj, rfl, hm, fr⟩ := hrel
    have HM := hid hm
    have FR := hid fr
    clear hm fr M0 F0
    by_cases hjl : j < l.length
    · have i1 : (0 : Int) ≤ (j : Int) := by omega
      have i2 : (j : Int) < l.length := by omega
      have hsj := HS.out _ (List.getElem_mem hjl)
      have hne : sv l ≠ [] := by intro e; have := congrArg List.length e; simp [sv] at this; subst this; simp at hjl
      obtain ⟨_, _, he, _, hx⟩ := HX.out
      cases he
      obtain ⟨g, o, rfl, hg, hr⟩ := hx hne
      have HRG := HRR.out g hg
      have q0 : wr.cell? ⟨g, o + j, none⟩ = some (.string (bs l[j])) := cell_fr (hr j _ (by simp [sv, hjl])) FR.out (fun h => h)
      have HT := hid (show (l.take (j + 1)).reverse = l[j] :: (l.take j).reverse from by rw [List.take_succ_eq_append_getElem hjl]; simp)
      have HLL : (l.take j).reverse.length ≤ 1048576 := by rw [List.length_reverse, List.length_take]; omega
      generalize l[j] = s at *
      generalize (l.take j).reverse = L at *
      clear hx hr hne
      go_wp2_with (first
        | (refine wpList_lookup_cnt rfl (m := .tmp 13) (x := .tmp 14) rfl rfl HM.out hsj rfl ?_; intro v)
        | (refine wpList_update_cnt rfl (m := .tmp 13) (x := .tmp 14) (v := .tmp 16) rfl rfl HM.out HLL hsj rfl rfl ?_; intro wg hm2 fg; have HM2 := hid hm2; have FG := hid (FR.out.trans fg (fun k hk hl => by have := HD.out; omega)); clear hm2 fg))
      go_roundw
      case rel => exact ⟨j + 1, by omega, by go_num, by rw [HT.out]; exact HM2.out, FG.out⟩
      case measure => simp [intOf]; omega
    · obtain rfl : j = l.length := by omega
      rw [List.take_length] at HM
      obtain ⟨D, n, -, hD, -, -, hz, -⟩ := HM.out
      have hlen := HLAST.out wr D n hD
      rw [hz] at hlen
      obtain ⟨c2, hc2⟩ : ∃ c2, cnt l.reverse = c2 := ⟨_, rfl⟩
      rw [hc2] at hlen
      have HC2 := hid hc2
      clear HM HLAST hD hz hc2
      go_wp2_with (fail)
      go_ret
      exact ⟨ret_bool (by rw [HC2.out]), FR.out⟩
end Go.Proofs.Ytiimomgbklgicaa
