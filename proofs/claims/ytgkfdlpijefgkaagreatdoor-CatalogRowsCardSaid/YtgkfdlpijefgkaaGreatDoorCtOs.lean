import Derived.Test.YtgkfdlpijefgkaaGreatDoorCtZ
/- A catalog of the call's own in the blocks S. -/
set_option linter.unusedVariables false
namespace Go.Proofs.YtgkfdlpijefgkaaGreatDoor
open Go.RowKit Go.VB Go.VB.Oct Go.VB.Cat Go.VB.Rec
structure OS (w0 : World) (S : Nat → Prop) (W : World) (c : Nat) (m : List Tab) : Prop where
  fr : Fr (fun _ => False) w0 W
  cr : CR 104 S W c m
  ge : ∀ k, S k → w0.heap.size ≤ k
  ok : Ok m
namespace OS
variable {w0 W W' : World} {S : Nat → Prop} {c : Nat} {m : List Tab}
theorem fre (h : OS w0 S W c m) (f : Fr (fun _ => False) W W') : OS w0 S W' c m := ⟨h.fr.trans f (fun _ h _ => h), h.cr.fre f, h.ge, h.ok⟩
theorem keep {U : Nat → Prop} (h : OS w0 S W c m) (f : Fr U W W') (hU : ∀ k, U k → ¬ S k ∧ w0.heap.size ≤ k) : OS w0 S W' c m :=
  ⟨h.fr.trans f (fun k hk hl => by have := (hU k hk).2; omega), h.cr.fr f (fun k hs hu => (hU k hu).1 hs), h.ge, h.ok⟩
theorem lt (h : OS w0 S W c m) {k : Nat} (hk : S k) : k < W.heap.size := h.cr.lt hk
theorem did {m' : List Tab} (h : OS w0 S W c m) (hc : CR 104 (Ext S W W') W' c m') (f : Fr S W W') (ok : Ok m') : OS w0 (Ext S W W') W' c m' := by
  have z1 := h.fr.size
  refine ⟨h.fr.trans f (fun k hk hl => by have := h.ge k hk; omega), hc, fun k hk => ?_, ok⟩
  rcases hk with hk | hk
  · exact h.ge k hk
  · omega
theorem new {w w' : World} (h : CR 104 (fun k => k = w.heap.size) w' w.heap.size []) (f : Fr (fun _ => False) w w') : OS w (fun k => k = w.heap.size) w' w.heap.size [] :=
  ⟨f, h, fun k hk => Nat.le_of_eq hk.symm, ok_nil⟩
theorem base {w1 : World} (h : OS w1 S W c m) (f : Fr (fun _ => False) w0 w1) : OS w0 S W c m := ⟨f.trans h.fr (fun _ h _ => h), h.cr, fun k hk => Nat.le_trans f.size (h.ge k hk), h.ok⟩
theorem st (h : OS w0 S W c m) {P : Nat → Prop} (k : Int) (tn n j : Bs) {l : List Col} {ns : List Bs} {oc on : Option Addr} {cc cn : Nat} (hk : -9223372036854775808 ≤ k ∧ k ≤ 9223372036854775807)
    (hl : Sl P W (.slice oc l.length cc) l.length (l.flatMap Col.cells)) (hn : Sl P W (.slice on ns.length cn) ns.length (sv ns)) (hll : l.length ≤ 1048576) (hnl : ns.length ≤ 1048576) (hlc : ∀ c ∈ l, c.name.length ≤ 1048576) (hnc : ∀ n ∈ ns, n.length ≤ 1048576) (root : Int) :
    Calls Tryz.prog 16 #[.pointer (some ⟨c, 0, none⟩), .agg #[.int .i64 k, .string (bs tn), .string (bs n), .slice oc l.length cc, .slice on ns.length cn, .slice none 0 0, .slice none 0 0, .slice none 0 0, .string (bs j), .string ⟨#[]⟩, .string ⟨#[]⟩, .int .i64 0, .slice none 0 0, .int .i64 0, .int .i64 0], .int .i64 root] W fun e w' =>
      e = .returned (.int .i64 (doM m ⟨k, tn, n, l, ns, j⟩ root).2) ∧ OS w0 (Ext S W w') w' c (doM m ⟨k, tn, n, l, ns, j⟩ root).1 ∧ Fr S W w' := by
  refine (Do_st h.cr h.ok k tn n j hk hl hn hll hnl hlc hnc root).mono ?_
  rintro e w' ⟨rfl, hc, f⟩
  exact ⟨rfl, h.did hc f (ok_do h.ok _ _), f⟩
end OS
end Go.Proofs.YtgkfdlpijefgkaaGreatDoor
