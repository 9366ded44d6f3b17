import Derived.Test.YtiimomgbklgicaaSmE
import Derived.Test.YtiimomgbklgicaaFin
/- What the laws share: rest, a record with one row, arguments. -/
set_option linter.unusedVariables false
namespace Go.VB.Slt
open Go.VB Go.VB.Oct Go.VB.Cat Go.VB.Rec
open Go.Proofs.Ytiimomgbklgicaa (atM)
/-- the change of a row of one number -/
def rowC (n : Int) : Chg := ⟨2, [], [], [], [⟨1, n, []⟩]⟩
theorem addF_append {fp fq : List Fol} {x : Int} {t : Trn} (h : ∀ f ∈ fp, f.xid ≠ x) : addF (fp ++ fq) x t = fp ++ addF fq x t := by
  induction fp with
  | nil => rfl
  | cons f l ih =>
    rw [List.cons_append]
    show (if f.xid = x then _ else _) = _
    rw [if_neg (h f (List.mem_cons_self ..)), ih (fun g hg => h g (List.mem_cons_of_mem _ hg))]
    rfl
theorem feed_row {s : Slt} {lsn x n : Int} (h : s.last < lsn) (ht : s.now = []) : feedM s lsn ⟨2, x, 0, [], [⟨1, n, []⟩], [], []⟩ = addM { s with last := lsn } x ⟨lsn, rowC n⟩ := by
  rw [feed_ins h rfl, ht]
  rfl
end Go.VB.Slt
namespace Go.Proofs.Ytiimomgbklgicaa
open Go.RowKit Go.VB Go.VB.Oct Go.VB.Cat Go.VB.Rec Go.VB.Slt
theorem rest_any (w : World) (x n : Int) (hn : 0 < n) (hn2 : n ≤ 1099511627776) : Calls Try.prog 10 #[.int .i64 x, .int .i64 n] w fun e w' => e = .returned (.int .i64 (x % n)) ∧ w = w' := by
  have h1 := Int.tmod_lt_of_pos x hn
  have h2 : -n < x.tmod n := Int.lt_tmod_of_pos x hn
  have h3 := tmod_fix x n hn
  go_enter Try.func10, Try.ntmps10
  go_wp2
  go_ret
  exact ⟨rfl, rfl⟩
namespace SH
variable {X : Nat → Prop} {W : World} {s N : Nat} {m : Slt}
/-- a record whose New is one row, in block g -/
theorem feedAt (h : SH X W s m N) (hN : N ≤ 1000000) {g : Nat} {n : Int} (hb : Blk W g [.int .i64 1, .int .i64 n, .string ⟨#[]⟩] 30) (hg : ¬ X g) (lsn kind xid : Int) (hx : I64 xid) :
    Calls Try.prog 12 #[.pointer (some ⟨s, 0, none⟩), .int .i64 lsn, .agg #[.int .i64 kind, .int .i64 xid, .int .i64 0, .slice none 0 0, .slice (some ⟨g, 0, none⟩) 1 1, .slice none 0 0, .slice none 0 0, .string ⟨#[]⟩]] W fun e w' => e = .returned (.tuple #[]) ∧ ∃ X' : Nat → Prop, SH X' w' s (feedM m lsn ⟨kind, xid, 0, [], [⟨1, n, []⟩], [], []⟩) (N + 1) ∧ (∀ k, X' k → X k ∨ W.heap.size ≤ k) ∧ Fr X W w' := by
  have hs : ∀ xs : List Value, xs = [] → Sl (fun k => k = g) W (.slice none 0 0) 0 xs := fun xs e => ⟨none, 0, rfl, Nat.le_refl _, fun h => absurd e h⟩
  exact h.feedX (Fr.refl _ _) hN (P := fun k => k = g) (r := ⟨⟨kind, xid, 0, [], [⟨1, n, []⟩], [], []⟩, .slice none 0 0, .slice (some ⟨g, 0, none⟩) 1 1, .slice none 0 0, .slice none 0 0⟩)
    ⟨hs _ rfl, ⟨some ⟨g, 0, none⟩, 1, rfl, Nat.le_refl _, fun _ => ⟨g, 0, rfl, rfl, hb.all⟩⟩, hs _ rfl, ⟨_, _, _, rfl⟩, Nat.zero_le _, by show 1 ≤ 1048576; omega, Nat.zero_le _⟩ (fun k hk => by rw [hk]; exact ⟨hg, hb.lt⟩) lsn hx ⟨by show (-9223372036854775808 : Int) ≤ 0; omega, by show (0 : Int) ≤ 9223372036854775807; omega⟩ (fun x hx => by simp at hx) (Nat.zero_le _)
/-- the row made just ahead of the call -/
theorem feedRow (h : SH X W s m N) (hN : N ≤ 1000000) (n lsn kind xid : Int) (hx : I64 xid) :
    Calls Try.prog 12 #[.pointer (some ⟨s, 0, none⟩), .int .i64 lsn, .agg #[.int .i64 kind, .int .i64 xid, .int .i64 0, .slice none 0 0, .slice (some ⟨W.heap.size, 0, none⟩) 1 1, .slice none 0 0, .slice none 0 0, .string ⟨#[]⟩]] (W.alloc (.cells #[.int .i64 1, .int .i64 n, .string ⟨#[]⟩] 30)) fun e w' => e = .returned (.tuple #[]) ∧ ∃ X' : Nat → Prop, SH X' w' s (feedM m lsn ⟨kind, xid, 0, [], [⟨1, n, []⟩], [], []⟩) (N + 1) ∧ (∀ k, X' k → X k ∨ W.heap.size ≤ k) ∧ Fr X W w' := by
  have fa := (Fr.refl (fun _ => False) W).alloc (.cells #[.int .i64 1, .int .i64 n, .string ⟨#[]⟩] 30)
  refine ((h.fre fa).feedAt hN (Blk.new W [.int .i64 1, .int .i64 n, .string ⟨#[]⟩] 30) (fun hx => Nat.lt_irrefl _ (h.lt hx)) lsn kind xid hx).mono ?_
  rintro e w' ⟨rfl, X', h1, h2, h3⟩
  exact ⟨rfl, X', h1, fun k hk => (h2 k hk).elim .inl (fun h => .inr (by have := fa.size; omega)), (fa.mono (fun _ h _ => h.elim)).trans h3 (fun k hk _ => hk)⟩
end SH
/-- an element that is a truth value -/
theorem elem_bool {H : Type} {enc : TypeId × Value → H} {P : Program} {w : World} {base : Nat} {sp : Nat → Bool} {held : Bool} {e : TypeId} (hu : P.underlying e = some .bool) : ∀ fuel cs (r : DataW H × List MemPlace), DataW.trod enc P w base sp held fuel e cs = some r → ∃ x : Bool, cs = [.bool x] := by
  intro fuel cs r h
  cases fuel with
  | zero => simp [DataW.trod] at h
  | succ n =>
    unfold DataW.trod at h
    rw [hu] at h
    split at h <;> simp_all
end Go.Proofs.Ytiimomgbklgicaa
