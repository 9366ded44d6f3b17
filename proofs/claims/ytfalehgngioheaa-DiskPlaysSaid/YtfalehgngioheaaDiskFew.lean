import Derived.Test.YtfalehgngioheaaDiskDo
import Derived.Test.YtfalehgngioheaaDiskLogM
/- law.few: the first 60 calls, cut short. -/
set_option linter.unusedVariables false
namespace Go.VB.Disk
open Go.RowKit
structure Ca where
  kind : Int
  n : Int
  s : Bytes
  q : List Int
def ccs (p : Ca × Value) : List Value := [.int .i64 p.1.kind, .int .i64 p.1.n, .string (bs p.1.s), p.2]
def Ca.cut (c : Ca) : Ca := { c with s := c.s.take 40, q := c.q.take 12 }
def cutV : Value → Value
  | .slice a n cap => .slice a (min 12 n) cap
  | v => v
def fewL (L : List (Ca × Value)) : List (Ca × Value) := (L.take 60).map fun p => (p.1.cut, cutV p.2)
theorem fewL_length (L : List (Ca × Value)) : (fewL L).length = min 60 L.length := by simp [fewL]
theorem fewL_take {L : List (Ca × Value)} {k : Nat} (hk : k < L.length) (h60 : k < 60) : (fewL L).take (k + 1) = (fewL L).take k ++ [(L[k].1.cut, cutV L[k].2)] := by
  rw [List.take_add_one]
  simp [fewL, hk, h60]
end Go.VB.Disk
namespace Go.VB
theorem flatMap_at {α : Type} (f : α → List Value) (k : Nat) (hf : ∀ x, (f x).length = k) : ∀ (L : List α) (i : Nat) (hi : i < L.length) (j : Nat), j < k → (L.flatMap f)[i * k + j]? = (f L[i])[j]?
  | [], i, hi, _, _ => by simp at hi
  | x :: L, 0, _, j, hj => by
    rw [List.flatMap_cons, Nat.zero_mul, Nat.zero_add, List.getElem?_append_left (by rw [hf]; exact hj)]
    rfl
  | x :: L, i + 1, hi, j, hj => by
    have := flatMap_at f k hf L i (by simpa using hi) j hj
    rw [List.flatMap_cons, List.getElem?_append_right (by rw [hf, Nat.succ_mul]; omega), hf, Nat.succ_mul, show i * k + k + j - k = i * k + j by omega, this]
    rfl
end Go.VB
namespace Go.Proofs.Ytfalehgngioheaa
open Go.RowKit Go.VB Go.VB.Disk
theorem QRep_cut {R : Nat → Prop} {w : World} {v : Value} {q : List Int} (h : QRep R w v q) : QRep R w (cutV v) (q.take 12) := by
  obtain ⟨a, cap, rfl, hc, h⟩ := h
  refine ⟨a, cap, by simp [cutV], by simp; omega, fun hq => ?_⟩
  have hq' : q ≠ [] := by intro e; subst e; simp at hq
  obtain ⟨g, o, rfl, hR, hr⟩ := h hq'
  refine ⟨g, o, rfl, hR, fun j u hj => hr j u ?_⟩
  simp only [iv, List.map_take] at hj ⊢
  rw [List.getElem?_take] at hj
  split at hj
  · exact hj
  · cases hj
theorem Try.info_call : (Try.prog.info? 52).map (fun i => (i.zero, i.size, i.bytes)) = some (some (.agg #[.int .i64 0, .int .i64 0, .string ⟨#[]⟩, .slice none 0 0]), 4, 56) := by kernel_rfl
theorem Try.size_call : (Try.prog.info? 52).map (·.size) = some 4 := by kernel_rfl
structure FewPost (R : Nat → Prop) (L : List (Ca × Value)) (w w' : World) (v : Value) : Prop where
  own : w'.ownsRow 0 52 4 v (fewL L).length ((fewL L).flatMap ccs)
  new : ∀ k, v.ownBlock = some k → w.heap.size ≤ k
  fr : Fr (fun _ => False) w w'
structure FewInv (L : List (Ca × Value)) (w wr : World) (k : Nat) (v : Value) : Prop where
  own : wr.ownsRow 0 52 4 v k (((fewL L).take k).flatMap ccs)
  new : ∀ k, v.ownBlock = some k → w.heap.size ≤ k
  fr : Fr (fun _ => False) w wr
set_option maxHeartbeats 2000000 in
theorem few_go (R : Nat → Prop) (L : List (Ca × Value)) (hLl : L.length ≤ 9223372036854775807) (hL : ∀ p ∈ L, p.1.s.length ≤ 9223372036854775807 ∧ p.1.q.length ≤ 9223372036854775807) (w : World) (hQ : ∀ p ∈ L, QRep R w p.2 p.1.q) (v : Value) (hv : Sl (fun _ => True) w v L.length (L.flatMap ccs)) :
    Calls Try.prog 31 #[v] w fun e w' => ∃ v', e = .returned v' ∧ FewPost R L w w' v' := by
  obtain ⟨a, cap, rfl, hcap, hc⟩ := hv
  have HC := hid hc
  have HL := hid hL
  have HQ := hid hQ
  have HLl := hid hLl
  clear hc hL hQ hLl
  have h0 : FewInv L w w 0 (.slice none 0 0) := ⟨own_nil, fun k hk => by simp [Value.ownBlock] at hk, Fr.refl _ _⟩
  go_enter Try.func31, Try.ntmps31
  go_wp2
  go_loopw [3, 4] (fun v i wr => ∃ k : Nat, k ≤ 60 ∧ k ≤ L.length ∧ i = .int .i64 k ∧ FewInv L w wr k v) (fun _ i _ => 60 - (intOf i).toNat)
  case atStart => exact ⟨0, by omega, by omega, rfl, h0⟩
  case round =>
    obtain ⟨k, hk6, hkl, rfl, inv⟩ := hrel
    clear h0
    have HLl2 := HLl.out
    by_cases hc : k < L.length ∧ k < 60
    · obtain ⟨hk, h60⟩ := hc
      have hne : L.flatMap ccs ≠ [] := by
        cases L with
        | nil => simp at hk
        | cons p L => simp [ccs]
      obtain ⟨g0, o0, rfl, -, hr⟩ := HC.out hne
      have hmem := List.getElem_mem hk
      have hpl := HL.out _ hmem
      have hpq := HQ.out _ hmem
      have hrow : w.rangeAt g0 (o0 + k * 4) (ccs L[k]) := by
        intro j u hj
        have hj4 : j < 4 := (List.getElem?_eq_some_iff.1 hj).1
        have := hr (k * 4 + j) u (by rw [flatMap_at ccs 4 (fun _ => rfl) L k hk j hj4]; exact hj)
        rwa [← Nat.add_assoc] at this
      have hrow2 := range_fr hrow inv.fr (fun h => h)
      have HT := hid (fewL_take hk h60)
      generalize L[k] = p at *
      clear hrow hr hmem HC HL HQ hne
      obtain ⟨c, vq⟩ := p
      dsimp only at hpl hpq HT
      obtain ⟨qa, qc, rfl, hqc, -⟩ := hpq
      obtain ⟨q1, hm1, e1, hq1⟩ := cut_str c.s 40
      have hm1 := hm1 40 rfl
      have hs := bs_size c.s
      have hsl : c.s.length ≤ 9223372036854775807 := hpl.1
      have hql : c.q.length ≤ 9223372036854775807 := hpl.2
      obtain ⟨q2, hq2⟩ : ∃ x : Nat, x = min 12 c.q.length := ⟨_, rfl⟩
      have hm2 : (if (12 : Int) < (c.q.length : Int) then (12 : Int) else (c.q.length : Int)) = (q2 : Int) := by split <;> omega
      have hq3 : (q2 : Int) ≤ qc := by omega
      have hrow3 : wr.rangeAt g0 (o0 + k * 4) [.int .i64 c.kind, .int .i64 c.n, .string (bs c.s), .slice qa c.q.length qc] := hrow2
      generalize hb : bs c.s = b at *
      have fo := ((Fr.refl (fun _ => False) wr).alloc (.cells [Value.int .i64 c.kind, .int .i64 c.n, .string (bs (c.s.take 40)), .slice qa q2 qc].toArray 52)).alloc (.cells [Value.int .i64 c.kind, .int .i64 c.n, .string (bs (c.s.take 40)), .slice qa q2 qc].toArray 52)
      have ho := own_fr inv.own fo (fun _ _ h => h)
      have hsrc : Src Try.prog ((wr.alloc (.cells [Value.int .i64 c.kind, .int .i64 c.n, .string (bs (c.s.take 40)), .slice qa q2 qc].toArray 52)).alloc (.cells [Value.int .i64 c.kind, .int .i64 c.n, .string (bs (c.s.take 40)), .slice qa q2 qc].toArray 52)) 4 (.slice (some ⟨wr.heap.size + 1, 0, none⟩) 1 1) 1 [Value.int .i64 c.kind, .int .i64 c.n, .string (bs (c.s.take 40)), .slice qa q2 qc] := by
        have hB := Blk.new (wr.alloc (.cells [Value.int .i64 c.kind, .int .i64 c.n, .string (bs (c.s.take 40)), .slice qa q2 qc].toArray 52)) [Value.int .i64 c.kind, .int .i64 c.n, .string (bs (c.s.take 40)), .slice qa q2 qc] 52
        rw [World.size_alloc] at hB
        exact Src.slice (by simp) (by simp [Value.oneCell']) hB.all
      have HQ2 := hid hq2
      clear hb hpl hrow2 hq2
      have HI := hid inv
      have HF := hid fo
      clear inv fo
      go_wp2_with (first
        | (refine wpList_load_mid rfl 52 _ rfl g0 _ rfl _ _ hrow3 Try.underlying52 rfl Try.size_call ?_)
        | (refine wpList_append rfl (s := .tmp 36) (x := .tmp 38) (t := 54) (tx := 54) rfl Try.underlying54 Try.underlying54 (.inr ⟨_, rfl⟩) Try.info_call rfl rfl rfl ho hsrc (by omega) (by omega) ?_; intro ab ac wg hown hg hat))
      have hg := show World.grownBy _ wg u3.ownBlock from hg
      have hat : ∀ j, (Value.slice ab (k + 1) ac).ownBlock = some j → u3.ownBlock = some j ∨ j = _ := hat
      have fg := (HI.out.fr.trans HF.out (fun _ h _ => h)).grown hg (fun j hj hlt => by have := HI.out.new j hj; omega)
      have inv' : FewInv L w wg (k + 1) (.slice ab (k + 1) ac) := by
        refine ⟨?_, fun j hj => ?_, fg⟩
        · have hq2 := HQ2.out
          subst hq2
          rw [HT.out, List.flatMap_append]
          exact hown
        · rcases hat j hj with h | h
          · exact HI.out.new j h
          · subst h
            have := HI.out.fr.size
            rw [World.size_alloc, World.size_alloc]
            omega
      clear hg hat fg hown ho hsrc HF HI
      go_roundw
      case rel => exact ⟨k + 1, by omega, by omega, by go_num, inv'⟩
      case measure => simp [intOf]; omega
    · have hkk : k = (fewL L).length := by rw [fewL_length]; omega
      have inv2 : FewPost R L w wr u3 := by
        obtain ⟨h1, h2, h3⟩ := inv
        rw [hkk, List.take_length] at h1
        exact ⟨h1, h2, h3⟩
      have INV := hid inv2
      clear inv inv2 hkk
      by_cases hk : k < L.length
      all_goals
        go_wp2
        go_ret
        exact ⟨_, rfl, INV.out⟩
