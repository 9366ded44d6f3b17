import Derived.Test.YtfalehgngioheaaDiskO
set_option linter.unusedVariables false
namespace Go.Proofs.Ytfalehgngioheaa
open Go.RowKit Go.VB Go.VB.Disk
def iv (q : List Int) : List Value := q.map (Value.int .i64)
/-- v is a slice of the numbers q, in a block that R holds for -/
def QRep (R : Nat → Prop) (w : World) (v : Value) (q : List Int) : Prop :=
  ∃ (a : Option Addr) (cap : Nat), v = .slice a q.length cap ∧ q.length ≤ cap ∧ (q ≠ [] → ∃ g o, a = some ⟨g, o, none⟩ ∧ R g ∧ w.rangeAt g o (iv q))
theorem QRep.fr {R S : Nat → Prop} {w w' : World} {v : Value} {q : List Int} (h : QRep R w v q) (hf : Fr S w w') (hS : ∀ k, R k → ¬ S k) : QRep R w' v q := by
  obtain ⟨a, cap, rfl, hc, h⟩ := h
  refine ⟨a, cap, rfl, hc, fun hq => ?_⟩
  obtain ⟨g, o, rfl, hR, hr⟩ := h hq
  refine ⟨g, o, rfl, hR, fun j u hj => ?_⟩
  have := hr j u hj
  have hlt : g < w.heap.size := by
    simp only [World.cell?] at this
    cases hg : w.heap[g]? with
    | none => simp [hg] at this
    | some _ => exact (Array.getElem?_eq_some_iff.1 hg).1
  rw [← this]
  simp only [World.cell?]
  rw [hf.blk g hlt (hS g hR)]
set_option maxHeartbeats 400000 in
theorem Crash1_nil (w : World) (qb : Nat) (n : Int) (a : Option Addr) (cap : Nat) (hq : w.cell? ⟨qb, 0, none⟩ = some (.slice a 0 cap)) :
    Calls Try.prog 41 #[.int .i64 n, .pointer (some ⟨qb, 0, none⟩)] w fun e w' => e = .returned (.int .i64 0) ∧ w = w' := by
  go_enter Try.func41, Try.ntmps41
  go_wp2
  go_ret
  exact ⟨rfl, rfl⟩
set_option maxHeartbeats 400000 in
theorem Crash1_cons (w : World) (qb : Nat) (n x : Int) (g o len cap : Nat) (hq : w.cell? ⟨qb, 0, none⟩ = some (.slice (some ⟨g, o, none⟩) (len + 1) cap)) (hz : w.frozen? ⟨qb, 0, none⟩ = false)
    (hx : w.cell? ⟨g, o, none⟩ = some (.int .i64 x)) (hn0 : 0 < n) (hn : n ≤ 1099511627776) (hcap : len + 1 ≤ cap) (hlen : len < 9223372036854775807) :
    Calls Try.prog 41 #[.int .i64 n, .pointer (some ⟨qb, 0, none⟩)] w fun e w' => e = .returned (.int .i64 (x % n)) ∧ ∃ a, w' = w.setCell ⟨qb, 0, none⟩ (.slice a len (cap - 1)) ∧ (len ≠ 0 → a = some ⟨g, o + 1, none⟩) := by
  have hlen0 : (0 : Int) ≤ len := by omega
  have hl1 : ¬ (len : Int) + 1 = 0 := by omega
  have e1 := tmod_fix x n hn0
  have b1 := Int.tmod_lt_of_pos x hn0
  have b2 : -n < x.tmod n := Int.lt_tmod_of_pos x hn0
  go_enter Try.func41, Try.ntmps41
  go_wp2
  all_goals go_ret
  · exact ⟨rfl, _, rfl, fun h => (by exfalso; omega)⟩
  · exact ⟨rfl, _, rfl, fun _ => rfl⟩
theorem Crash1_rep {R : Nat → Prop} (w : World) (qb : Nat) (n : Nat) (q : List Int) (v : Value) (hb : Blk w qb [v] 32) (hq : QRep R w v q) (hR : ¬ R qb) (hn0 : 0 < n) (hn : n ≤ 1099511627776) (hlen : q.length ≤ 9223372036854775807) :
    Calls Try.prog 41 #[.int .i64 n, .pointer (some ⟨qb, 0, none⟩)] w fun e w' => e = .returned (.int .i64 (takeQ q n)) ∧ Fr (fun k => k = qb) w w' ∧ w'.heap.size = w.heap.size ∧ ∃ v', Blk w' qb [v'] 32 ∧ QRep R w' v' q.tail := by
  obtain ⟨a, cap, rfl, hcap, hr⟩ := hq
  cases q with
  | nil =>
    refine (Crash1_nil w qb n a cap (hb.cell 0)).mono ?_
    rintro e w' ⟨rfl, rfl⟩
    exact ⟨rfl, Fr.refl _ _, rfl, _, hb, a, cap, rfl, hcap, fun h => absurd rfl h⟩
  | cons x q =>
    obtain ⟨g, o, rfl, hRg, hr⟩ := hr (by simp)
    have hx : w.cell? ⟨g, o, none⟩ = some (.int .i64 x) := by simpa using hr 0 (.int .i64 x) rfl
    simp only [List.length_cons] at hcap hlen
    refine (Crash1_cons w qb n x g o q.length cap (hb.cell 0) (hb.frozen 0) hx (by omega) (by omega) hcap (by omega)).mono ?_
    rintro e w' ⟨rfl, a, rfl, ha⟩
    have hf : Fr (fun k => k = qb) w (w.setCell ⟨qb, 0, none⟩ (.slice a q.length (cap - 1))) := (Fr.refl _ _).setCell _ _ (fun _ => rfl)
    refine ⟨?_, hf, by simp, _, hb.set 0 _, ?_⟩
    · have : ((x % (n : Int)).toNat : Int) = x % n := Int.toNat_of_nonneg (Int.emod_nonneg _ (by omega))
      simp [takeQ, this]
    · have hq' : QRep R w (.slice a q.length (cap - 1)) q := by
        refine ⟨a, cap - 1, rfl, by omega, fun hq => ?_⟩
        have := ha (by intro h; exact hq (List.eq_nil_of_length_eq_zero h))
        refine ⟨g, o + 1, this, hRg, fun j u hj => ?_⟩
        have := hr (j + 1) u (by simpa [iv] using hj)
        rwa [show o + (j + 1) = o + 1 + j by omega] at this
      exact hq'.fr hf (fun k hk e => hR (e ▸ hk))
