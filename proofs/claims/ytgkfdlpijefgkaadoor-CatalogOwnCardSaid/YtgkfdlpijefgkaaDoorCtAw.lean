import Derived.Test.YtgkfdlpijefgkaaDoorCtMl
/- Arrays of the call's own whose cells may be anything; what CatalogOwn's round holds. -/
set_option linter.unusedVariables false
namespace Go.VB
open Go.RowKit
def Arr (e : TypeId) (size B : Nat) (W : World) (v : Value) (n : Nat) : Prop := ∃ xs, Row e size B W v n xs
namespace Arr
variable {e : TypeId} {size B n : Nat} {W W' : World} {v : Value}
theorem fr {S : Nat → Prop} (h : Arr e size B W v n) (f : Fr S W W') (hS : ∀ k, v.ownBlock = some k → ¬ S k) : Arr e size B W' v n := by
  obtain ⟨xs, h⟩ := h
  exact ⟨xs, h.fr f hS⟩
theorem fre (h : Arr e size B W v n) (f : Fr (fun _ => False) W W') : Arr e size B W' v n := h.fr f (fun _ _ h => h)
theorem slice (h : Arr e size B W v n) : ∃ a c, v = .slice a n c ∧ n ≤ c := by
  obtain ⟨xs, h⟩ := h
  exact h.slice
theorem low {A : Nat} (h : Arr e size B W v n) (hA : A ≤ B) : Arr e size A W v n := by
  obtain ⟨xs, h⟩ := h
  exact ⟨xs, h.low hA⟩
/-- the block -/
theorem blk {a : Option Addr} {c : Nat} (h : Arr e size B W (.slice a n c) n) (hn : 0 < n) : ∃ g l, a = some ⟨g, 0, none⟩ ∧ B ≤ g ∧ Blk W g l e ∧ n * size ≤ l.length := by
  obtain ⟨xs, h⟩ := h
  rcases h.own.2 with ⟨h1, h2⟩ | ⟨g, cap, cur, h1, hb, hgg, h2, h3, h4, h5⟩
  · omega
  · cases h1
    refine ⟨g, cur.toList, rfl, h.new g rfl, by unfold Blk; simpa using hgg, ?_⟩
    rw [Array.length_toList, h4]
    exact Nat.mul_le_mul_right _ h2
/-- a cell -/
theorem cellAt {a : Option Addr} {c : Nat} (h : Arr e size B W (.slice a n c) n) {i : Nat} (hn : 0 < n) (hi : i < n * size) : ∃ g u, a = some ⟨g, 0, none⟩ ∧ B ≤ g ∧ W.cell? ⟨g, i, none⟩ = some u ∧ W.frozen? ⟨g, i, none⟩ = false ∧ ∃ l, Blk W g l e := by
  obtain ⟨g, l, h1, h2, h3, h4⟩ := h.blk hn
  exact ⟨g, l[i]'(by omega), h1, h2, by rw [h3.cell]; exact List.getElem?_eq_getElem (by omega), h3.frozen i, l, h3⟩
theorem lt (h : Arr e size B W v n) {k : Nat} (hk : v.ownBlock = some k) : k < W.heap.size := by
  obtain ⟨xs, h⟩ := h
  exact h.lt hk
/-- any cell of memory set -/
theorem set (h : Arr e size B W v n) (g i : Nat) (u : Value) : Arr e size B (W.setCell ⟨g, i, none⟩ u) v n := by
  by_cases hg : v.ownBlock = some g
  · obtain ⟨xs, h⟩ := h
    rcases h.own.2 with ⟨h1, h2⟩ | ⟨g', cap, cur, h1, hb, hgg, h2, h3, h4, h5⟩
    · rw [h1] at hg; simp [Value.ownBlock] at hg
    · subst h1
      obtain rfl : g' = g := by simpa [Value.ownBlock] using hg
      have hB : Blk W g' cur.toList e := by unfold Blk; simpa using hgg
      have hB2 := hB.set i u
      refine ⟨(cur.toList.set i u).take (n * size), ⟨?_, .inr ⟨g', cap, (cur.toList.set i u).toArray, rfl, hb, ?_, h2, h3, ?_, ?_⟩⟩, h.new⟩
      · rw [List.length_take, List.length_set, Array.length_toList, h4]
        exact Nat.min_eq_left (Nat.mul_le_mul_right _ h2)
      · exact hB2
      · rw [List.size_toArray, List.length_set, Array.length_toList, h4]
      · rw [List.toList_toArray]
  · exact h.fr ((Fr.refl (fun k => k = g) W).setCell ⟨g, i, none⟩ u (fun _ => rfl)) (fun k hk e => hg (e ▸ hk))
end Arr
theorem Row.arr {e : TypeId} {size B n : Nat} {W : World} {v : Value} {xs : List Value} (h : Row e size B W v n xs) : Arr e size B W v n := ⟨xs, h⟩
theorem Arr.put {e : TypeId} {size B n : Nat} {v : Value} {g : Nat} : ∀ (vs : List Value) (o : Nat) (W : World), Arr e size B W v n → Arr e size B (W.setCells g o vs) v n
  | [], _, _, h => h
  | u :: vs, o, W, h => Arr.put vs (o + 1) _ (h.set g o u)
end Go.VB
namespace Go.Proofs.YtgkfdlpijefgkaaDoor
open Go.RowKit Go.VB Go.VB.Oct Go.VB.Cat Go.VB.Rec
/-- the catalog, all its tables as they were given out -/
structure OA (w W : World) (S : Nat → Prop) (c : Nat) (m : List Tab) (B : Nat) (v : Value) (ys : List TabV) : Prop where
  os : OS w S W c m
  sb : ∀ k, S k → k < B
  wb : w.heap.size ≤ B
  bs : B ≤ W.heap.size
  r : Row 25 4 B W v ys.length (ys.flatMap TabV.cells)
  y : ∀ y ∈ ys, Arr 40 2 B W y.vc y.t.cols.length ∧ Arr 73 3 B W y.vi y.ix.length
namespace OA
variable {w W W' : World} {S : Nat → Prop} {c : Nat} {m : List Tab} {B : Nat} {v : Value} {ys : List TabV}
theorem fre (h : OA w W S c m B v ys) (f : Fr (fun _ => False) W W') : OA w W' S c m B v ys :=
  ⟨h.os.fre f, h.sb, h.wb, Nat.le_trans h.bs f.size, h.r.fre f, fun y hy => ⟨(h.y y hy).1.fre f, (h.y y hy).2.fre f⟩⟩
theorem set (h : OA w W S c m B v ys) {g : Nat} {l : List Value} {t : TypeId} (hb : Blk W g l t) (ht : t ≠ 25) (hg : B ≤ g) (i : Nat) (u : Value) : OA w (W.setCell ⟨g, i, none⟩ u) S c m B v ys := by
  have f := (Fr.refl (fun k => k = g) W).setCell ⟨g, i, none⟩ u (fun _ => rfl)
  exact ⟨h.os.keep f (fun k hk => ⟨fun hs => by have := h.sb k hs; omega, by have := h.wb; omega⟩), h.sb, h.wb, Nat.le_trans h.bs f.size, h.r.fr f (fun k hk e => h.r.ne hb ht k hk e), fun y hy => ⟨(h.y y hy).1.set g i u, (h.y y hy).2.set g i u⟩⟩
end OA
/-- a table that was given out, in a variable -/
structure OT (W : World) (B Bt d : Nat) (t : TabV) : Prop where
  b : Blk W d t.cells 25
  c : Arr 40 2 B W t.vc t.t.cols.length
  i : Row 73 3 Bt W t.vi t.ix.length (t.ix.flatMap IxV.cells)
  x : ∀ x ∈ t.ix, Arr 3 1 B W x.v x.x.cols.length
namespace OT
variable {W W' : World} {B Bt d : Nat} {t : TabV}
theorem fre (h : OT W B Bt d t) (f : Fr (fun _ => False) W W') : OT W' B Bt d t := ⟨Blk.fr h.b f (fun h => h), h.c.fre f, h.i.fre f, fun x hx => (h.x x hx).fre f⟩
theorem set (h : OT W B Bt d t) {g : Nat} {l : List Value} {ty : TypeId} (hb : Blk W g l ty) (ht : ty ≠ 25) (hi : ty ≠ 73 ∨ g < Bt) (i : Nat) (u : Value) : OT (W.setCell ⟨g, i, none⟩ u) B Bt d t := by
  have f := (Fr.refl (fun k => k = g) W).setCell ⟨g, i, none⟩ u (fun _ => rfl)
  refine ⟨h.b.fr f (fun e => Blk.ne_of_type h.b hb (fun e => ht e.symm) e), h.c.set g i u, h.i.fr f (fun k hk e => ?_), fun x hx => (h.x x hx).set g i u⟩
  rcases hi with hi | hi
  · exact h.i.ne hb hi k hk e
  · have := h.i.new k hk; omega
theorem new {S : Nat → Prop} {B : Nat} (h : TabO (fun k => W.heap.size ≤ k) W' t) (hB : B ≤ W.heap.size) : OT (W'.alloc (.cells t.cells.toArray 25)) B W.heap.size W'.heap.size t := by
  have f := (Fr.refl (fun _ => False) W').alloc (.cells t.cells.toArray 25)
  have up : ∀ {e : TypeId} {size n : Nat} {v : Value} {xs : List Value}, Row e size 0 W' v n xs → (∀ k, v.ownBlock = some k → W.heap.size ≤ k) → Row e size W.heap.size W' v n xs := fun h hk => ⟨h.own, hk⟩
  exact ⟨Blk.new W' _ _, (((up h.c h.cS).fre f).low hB).arr, (up h.i h.iS).fre f, fun x hx => (((up (h.x x hx).1 (h.x x hx).2).fre f).low hB).arr⟩
end OT
theorem Do_nil_go (k : Int) (s1 s2 s8 s9 s10 : ByteArray) (a3 a4 a5 a6 a7 a12 : Option Addr) (n3 n4 n5 n6 n7 n12 c3 c4 c5 c6 c7 c12 : Nat) (i11 i13 i14 root : Int) (w : World) :
    Calls Tryd.prog 21 #[.pointer none, .agg #[.int .i64 k, .string s1, .string s2, .slice a3 n3 c3, .slice a4 n4 c4, .slice a5 n5 c5, .slice a6 n6 c6, .slice a7 n7 c7, .string s8, .string s9, .string s10, .int .i64 i11, .slice a12 n12 c12, .int .i64 i13, .int .i64 i14], .int .i64 root] w fun e w' => e = .returned (.int .i64 1) ∧ Fr (fun _ => False) w w' := by
  have F1 := hid ((Fr.refl (fun _ => False) w).alloc (.cells #[.int .i64 k, .string s1, .string s2, .slice a3 n3 c3, .slice a4 n4 c4, .slice a5 n5 c5, .slice a6 n6 c6, .slice a7 n7 c7, .string s8, .string s9, .string s10, .int .i64 i11, .slice a12 n12 c12, .int .i64 i13, .int .i64 i14] 51))
  go_enter Tryd.func21, Tryd.ntmps21
  go_wp2_with (fail)
  go_ret
  exact ⟨rfl, F1.out⟩
theorem bytes_none : Cat.bytes [] = [0] := by decide
end Go.Proofs.YtgkfdlpijefgkaaDoor
