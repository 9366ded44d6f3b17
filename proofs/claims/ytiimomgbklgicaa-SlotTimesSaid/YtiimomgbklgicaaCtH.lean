import Derived.Test.YtiimomgbklgicaaCtG
/- The tests of index. -/
set_option linter.unusedVariables false
namespace Go.Proofs.Ytiimomgbklgicaa
open Go.RowKit Go.VB Go.VB.Oct Go.VB.Cat Go.VB.Rec
theorem index1_go (x : IxV) (s : Bs) (d : Nat) {w : World} (hb : w.cell? ⟨d, 2, none⟩ = some (.string (bs s))) :
    Calls Try.prog 87 #[IxV.agg x, .pointer (some ⟨d, 0, none⟩)] w fun e w' => e = .returned (.bool (x.x.name == s)) ∧ Fr (fun _ => False) w w' := by
  obtain ⟨⟨name, cols, root⟩, v⟩ := x
  unfold IxV.agg IxV.cells
  dsimp only
  have F1 := hid ((Fr.refl (fun _ => False) w).alloc (.cells #[.string (bs name), v, .int .i64 root] 113))
  have hb2 := cell_fr hb F1.out (fun h => h)
  have HB := hid (beq_bs name s)
  go_enter Try.func87, Try.ntmps87
  go_wp2_with (fail)
  go_ret
  exact ⟨ret_bool HB.out, F1.out⟩
set_option maxRecDepth 20000 in
theorem index2_go {R : Nat → Prop} (t : TabV) (s : Bs) (d e : Nat) {w : World} (hb : w.cell? ⟨d, 2, none⟩ = some (.string (bs s))) (he : w.cell? ⟨e, 0, none⟩ = some (.func (.func 87) #[] #[.pointer (some ⟨d, 0, none⟩)]))
    (hs : Sl R w t.vi t.ix.length (t.ix.flatMap IxV.cells)) (hl : t.ix.length ≤ 1048576) :
    Calls Try.prog 90 #[TabV.agg t, .pointer (some ⟨e, 0, none⟩)] w fun e w' => e = .returned (.bool (t.ix.any fun x => x.x.name == s)) ∧ Fr (fun _ => False) w w' := by
  obtain ⟨⟨id, name, cols, ixs⟩, vc, vi, ix⟩ := t
  unfold TabV.agg TabV.cells
  dsimp only at hs hl ⊢
  have F1 := hid ((Fr.refl (fun _ => False) w).alloc (.cells #[.int .i64 id, .string (bs name), vc, vi] 110))
  have hb2 := cell_fr hb F1.out (fun h => h)
  have he2 := cell_fr he F1.out (fun h => h)
  have HC := hid (ContainsFunc_ix (cv := .pointer (some ⟨d, 0, none⟩)) (p := fun x : IxV => x.x.name == s) (hs.fr F1.out (fun _ _ h => h)) (by omega) (fun x _ w' f => index1_go x s d (cell_fr hb2 f (fun h => h))))
  generalize (ix.any fun x => x.x.name == s) = b at *
  clear hs hb he hb2
  go_enter Try.func90, Try.ntmps90
  go_wp2_with (go_at_call 91; refine HC.out.mono ?_; rintro e w1 ⟨rfl, f⟩; have F2 := hid (F1.out.trans f (fun _ h _ => h)); clear f)
  go_ret
  exact ⟨rfl, F2.out⟩
end Go.Proofs.Ytiimomgbklgicaa
