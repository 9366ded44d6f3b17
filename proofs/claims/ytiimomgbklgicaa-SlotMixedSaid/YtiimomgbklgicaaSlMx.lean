/- Proved: for every three numbers of changes and every interleaving the law SlotMixed of chapter 16 returns true, and its arguments read afterwards as before. Conditions: none beyond the given statement. -/
import Derived.Test.YtiimomgbklgicaaSlMxM
import Derived.SizedLaws
set_option linter.unusedVariables false
namespace Go.Proofs.Ytiimomgbklgicaa
open Go.RowKit Go.VB Go.VB.Oct Go.VB.Cat Go.VB.Rec Go.VB.Slt
/-- three numbers -/
def tri (f : Nat → Int) : List Value := [.int .i64 (f 0), .int .i64 (f 1), .int .i64 (f 2)]
theorem tri_at (f : Nat → Int) {x : Nat} (h : x < 3) : (tri f)[x]? = some (.int .i64 (f x)) := by
  rcases (by omega : x = 0 ∨ x = 1 ∨ x = 2) with rfl | rfl | rfl <;> rfl
theorem tri_set (f : Nat → Int) {x : Nat} (h : x < 3) (v : Int) : (tri f).set x (.int .i64 v) = tri (fun y => if y = x then v else f y) := by
  rcases (by omega : x = 0 ∨ x = 1 ∨ x = 2) with rfl | rfl | rfl <;> rfl
/-- two slots and three blocks of three numbers -/
structure MS (w W : World) (sa sb d0 dl dt : Nat) (A l t : Nat → Int) (Xa Xb : Nat → Prop) (ma mb : Slt) (Na Nb : Nat) : Prop where
  a : SH Xa W sa ma Na
  b : SH Xb W sb mb Nb
  xa : ∀ k, Xa k → w.heap.size ≤ k
  xb : ∀ k, Xb k → w.heap.size ≤ k
  ab : ∀ k, Xa k → ¬ Xb k
  bm : Blk W d0 (tri A) 39
  bl : Blk W dl (tri l) 39
  bt : Blk W dt (tri t) 39
  mo : ¬ Xa d0 ∧ ¬ Xb d0
  lo : ¬ Xa dl ∧ ¬ Xb dl
  too : ¬ Xa dt ∧ ¬ Xb dt
  ge : w.heap.size ≤ dl ∧ w.heap.size ≤ dt
  f : Fr (fun _ => False) w W
namespace MS
variable {w W W' : World} {sa sb d0 dl dt : Nat} {A l t : Nat → Int} {Xa Xb : Nat → Prop} {ma mb : Slt} {Na Nb : Nat}
theorem fre (h : MS w W sa sb d0 dl dt A l t Xa Xb ma mb Na Nb) (f : Fr (fun _ => False) W W') : MS w W' sa sb d0 dl dt A l t Xa Xb ma mb Na Nb :=
  ⟨h.a.fre f, h.b.fre f, h.xa, h.xb, h.ab, h.bm.fr f (fun h => h), h.bl.fr f (fun h => h), h.bt.fr f (fun h => h), h.mo, h.lo, h.too, h.ge, h.f.trans f (fun _ h _ => h)⟩
theorem feedA (h : MS w W sa sb d0 dl dt A l t Xa Xb ma mb Na Nb) {X' : Nat → Prop} {m' : Slt} {N' B : Nat} (hB : W.heap.size ≤ B) (h1 : SH X' W' sa m' N') (h2 : ∀ k, X' k → Xa k ∨ B ≤ k) (f : Fr Xa W W') : MS w W' sa sb d0 dl dt A l t X' Xb m' mb N' Nb :=
  ⟨h1, h.b.fr f (fun k hk ha => h.ab k ha hk), fun k hk => (h2 k hk).elim (h.xa k) (fun g => by have := h.f.size; omega), h.xb, fun k hk hb => (h2 k hk).elim (fun ha => h.ab k ha hb) (fun g => by have := h.b.lt hb; omega), h.bm.fr f h.mo.1, h.bl.fr f h.lo.1, h.bt.fr f h.too.1,
    ⟨fun hx => (h2 _ hx).elim h.mo.1 (fun g => by have := h.bm.lt; omega), h.mo.2⟩, ⟨fun hx => (h2 _ hx).elim h.lo.1 (fun g => by have := h.bl.lt; omega), h.lo.2⟩, ⟨fun hx => (h2 _ hx).elim h.too.1 (fun g => by have := h.bt.lt; omega), h.too.2⟩, h.ge, h.f.trans f (fun k hk hl => by have := h.xa k hk; omega)⟩
theorem feedB (h : MS w W sa sb d0 dl dt A l t Xa Xb ma mb Na Nb) {X' : Nat → Prop} {m' : Slt} {N' B : Nat} (hB : W.heap.size ≤ B) (h1 : SH X' W' sb m' N') (h2 : ∀ k, X' k → Xb k ∨ B ≤ k) (f : Fr Xb W W') : MS w W' sa sb d0 dl dt A l t Xa X' ma m' Na N' :=
  ⟨h.a.fr f (fun k hk hb => h.ab k hk hb), h1, h.xa, fun k hk => (h2 k hk).elim (h.xb k) (fun g => by have := h.f.size; omega), fun k hk hb => (h2 k hb).elim (fun hb => h.ab k hk hb) (fun g => by have := h.a.lt hk; omega), h.bm.fr f h.mo.2, h.bl.fr f h.lo.2, h.bt.fr f h.too.2,
    ⟨h.mo.1, fun hx => (h2 _ hx).elim h.mo.2 (fun g => by have := h.bm.lt; omega)⟩, ⟨h.lo.1, fun hx => (h2 _ hx).elim h.lo.2 (fun g => by have := h.bl.lt; omega)⟩, ⟨h.too.1, fun hx => (h2 _ hx).elim h.too.2 (fun g => by have := h.bt.lt; omega)⟩, h.ge, h.f.trans f (fun k hk hl => by have := h.xb k hk; omega)⟩
theorem putL (h : MS w W sa sb d0 dl dt A l t Xa Xb ma mb Na Nb) (h0 : d0 ≠ dl) (h1 : dt ≠ dl) {x : Nat} (hx : x < 3) (v : Int) : MS w (W.setCell ⟨dl, x, none⟩ (.int .i64 v)) sa sb d0 dl dt A (fun y => if y = x then v else l y) t Xa Xb ma mb Na Nb := by
  have f := (Fr.refl (fun k => k = dl) W).setCell ⟨dl, x, none⟩ (.int .i64 v) (fun _ => rfl)
  exact ⟨h.a.fr f (fun k hk e => h.lo.1 (by rw [← e]; exact hk)), h.b.fr f (fun k hk e => h.lo.2 (by rw [← e]; exact hk)), h.xa, h.xb, h.ab, h.bm.fr f h0, by rw [← tri_set l hx v]; exact h.bl.set x (.int .i64 v), h.bt.fr f h1, h.mo, h.lo, h.too, h.ge, h.f.trans f (fun k hk hl => by have := h.ge.1; omega)⟩
theorem putT (h : MS w W sa sb d0 dl dt A l t Xa Xb ma mb Na Nb) (h0 : d0 ≠ dt) (h1 : dl ≠ dt) {x : Nat} (hx : x < 3) (v : Int) : MS w (W.setCell ⟨dt, x, none⟩ (.int .i64 v)) sa sb d0 dl dt A l (fun y => if y = x then v else t y) Xa Xb ma mb Na Nb := by
  have f := (Fr.refl (fun k => k = dt) W).setCell ⟨dt, x, none⟩ (.int .i64 v) (fun _ => rfl)
  exact ⟨h.a.fr f (fun k hk e => h.too.1 (by rw [← e]; exact hk)), h.b.fr f (fun k hk e => h.too.2 (by rw [← e]; exact hk)), h.xa, h.xb, h.ab, h.bm.fr f h0, h.bl.fr f h1, by rw [← tri_set t hx v]; exact h.bt.set x (.int .i64 v), h.mo, h.lo, h.too, h.ge, h.f.trans f (fun k hk hl => by have := h.ge.2; omega)⟩
end MS
/-- how many changes transaction x makes -/
def mxN (A : Nat → Int) (x : Nat) : Nat := (A x % 9).toNat
theorem mxN_le (A : Nat → Int) (x : Nat) : mxN A x ≤ 8 := by unfold mxN; omega
theorem mxN_int (A : Nat → Int) (x : Nat) : A x % 9 = (mxN A x : Int) := by unfold mxN; omega
def tot (c : Nat → Nat) : Nat → Nat
  | 0 => 0
  | x + 1 => tot c x + c x
theorem tot3 (c : Nat → Nat) : tot c 3 = c 0 + c 1 + c 2 := by simp [tot]
theorem tot_le {c : Nat → Nat} (h : ∀ x, c x ≤ 8) : ∀ x, tot c x ≤ 8 * x
  | 0 => Nat.le_refl _
  | x + 1 => by have := tot_le h x; have := h x; unfold tot; omega
theorem MS.cast {w W : World} {sa sb d0 dl dt : Nat} {A l t l' t' : Nat → Int} {Xa Xb : Nat → Prop} {ma mb : Slt} {Na Nb : Nat} (h : MS w W sa sb d0 dl dt A l t Xa Xb ma mb Na Nb) (e : ∀ x, x < 3 → l x = l' x) (e' : ∀ x, x < 3 → t x = t' x) : MS w W sa sb d0 dl dt A l' t' Xa Xb ma mb Na Nb := by
  have h1 : tri l = tri l' := by unfold tri; rw [e 0 (by omega), e 1 (by omega), e 2 (by omega)]
  have h2 : tri t = tri t' := by unfold tri; rw [e' 0 (by omega), e' 1 (by omega), e' 2 (by omega)]
  exact ⟨h.a, h.b, h.xa, h.xb, h.ab, h.bm, h1 ▸ h.bl, h2 ▸ h.bt, h.mo, h.lo, h.too, h.ge, h.f⟩
theorem MS.cellM {w W : World} {sa sb d0 dl dt : Nat} {A l t : Nat → Int} {Xa Xb : Nat → Prop} {ma mb : Slt} {Na Nb : Nat} (h : MS w W sa sb d0 dl dt A l t Xa Xb ma mb Na Nb) {x : Nat} (hx : x < 3) : W.cell? ⟨d0, x, none⟩ = some (.int .i64 (A x)) := by rw [h.bm.cell, tri_at _ hx]
theorem MS.cellL {w W : World} {sa sb d0 dl dt : Nat} {A l t : Nat → Int} {Xa Xb : Nat → Prop} {ma mb : Slt} {Na Nb : Nat} (h : MS w W sa sb d0 dl dt A l t Xa Xb ma mb Na Nb) {x : Nat} (hx : x < 3) : W.cell? ⟨dl, x, none⟩ = some (.int .i64 (l x)) := by rw [h.bl.cell, tri_at _ hx]
theorem MS.cellT {w W : World} {sa sb d0 dl dt : Nat} {A l t : Nat → Int} {Xa Xb : Nat → Prop} {ma mb : Slt} {Na Nb : Nat} (h : MS w W sa sb d0 dl dt A l t Xa Xb ma mb Na Nb) {x : Nat} (hx : x < 3) : W.cell? ⟨dt, x, none⟩ = some (.int .i64 (t x)) := by rw [h.bt.cell, tri_at _ hx]
set_option maxRecDepth 20000 in
set_option maxHeartbeats 16000000 in
theorem SlotMixed_walk (A : Nat → Int) (L : List Int) (vL : Value) (w : World) (hL : Sl (fun k => k < w.heap.size) w vL L.length (L.flatMap icell)) (hLS : L.length ≤ 1152921504606846976) :
    Calls Try.prog 4 #[.agg (tri A).toArray, vL] w fun e w' => e = .returned (.bool true) ∧ Fr (fun _ => False) w w' := by
  have HL := hid hL
  have HLS := hid hLS
  obtain ⟨aL, cL, rfl, -, -⟩ := hL
  clear hLS
  unfold tri
  have M0 := hid (show Blk (w.alloc (.cells #[.int .i64 (A 0), .int .i64 (A 1), .int .i64 (A 2)] 39)) w.heap.size (tri A) 39 from Blk.new w (tri A) 39)
  have F0 := hid ((Fr.refl (fun _ => False) w).alloc (.cells #[.int .i64 (A 0), .int .i64 (A 1), .int .i64 (A 2)] 39))
  have eb : bs [115] = ⟨#[115]⟩ := rfl
  go_enter Try.func4, Try.ntmps4
  go_upto_region 1 with fail
  obtain ⟨d0, hd⟩ : ∃ d0, d0 = w.heap.size := ⟨_, rfl⟩
  rw [← hd] at M0 ⊢
  have HD := hid hd
  clear hd
  generalize w.alloc _ = W0 at *
  have HS := hid (sanity_go W0)
  go_upto_region 2 with (go_at_call 8; refine HS.out.mono ?_; rintro e w1 ⟨rfl, f⟩; have F1 := hid (F0.out.trans f (fun _ h _ => h)); have M1 := hid (Blk.fr M0.out f (fun h => h)); clear f)
  clear HS M0 F0
  have HN := hid (SH.new_ [115] 0 w1)
  rw [eb] at HN
  go_upto_region 3 with (go_at_call 9; refine HN.out.mono ?_; rintro e w2 ⟨sa, rfl, h, f⟩; obtain ⟨Xa, h, hx⟩ : ∃ X0 : Nat → Prop, SH X0 w2 sa (newM [115] 0 []) 1 ∧ ∀ k, X0 k → w1.heap.size ≤ k := ⟨_, h, fun k hk => hk.1⟩; have HA := hid h; have HXA := hid hx; have F2 := hid (F1.out.trans f (fun _ h _ => h)); have M2 := hid (Blk.fr M1.out f (fun h => h)); have HM1 := hid (show d0 < w1.heap.size ∧ w.heap.size ≤ w1.heap.size ∧ w1.heap.size ≤ w2.heap.size from ⟨M1.out.lt, F1.out.size, f.size⟩); clear h hx f)
  clear HN M1 F1
  have HN := hid (SH.new_ [115] 0 w2)
  rw [eb] at HN
  go_upto_region 4 with (go_at_call 9; refine HN.out.mono ?_; rintro e w3 ⟨sb, rfl, h, f⟩; obtain ⟨Xb, h, hx⟩ : ∃ X0 : Nat → Prop, SH X0 w3 sb (newM [115] 0 []) 1 ∧ ∀ k, X0 k → w2.heap.size ≤ k := ⟨_, h, fun k hk => hk.1⟩; have HB := hid h; have HXB := hid hx; have HA3 := hid (HA.out.fre f); have F3 := hid (F2.out.trans f (fun _ h _ => h)); have M3 := hid (Blk.fr M2.out f (fun h => h)); have HM2 := hid (show w2.heap.size ≤ w3.heap.size ∧ (∀ k, Xa k → k < w2.heap.size) from ⟨f.size, fun k hk => HA.out.lt hk⟩); clear h hx f)
  clear HN HA F2 M2 eb
  have fa := (Fr.refl (fun _ => False) w3).alloc (.cells #[.int .i64 0, .int .i64 0, .int .i64 0] 39)
  have HMS := hid (show MS w (w3.alloc (.cells #[.int .i64 0, .int .i64 0, .int .i64 0] 39)) sa sb d0 w3.heap.size d0 A (fun _ => 0) A Xa Xb (newM [115] 0 []) (newM [115] 0 []) 1 1 from
    ⟨HA3.out.fre fa, HB.out.fre fa, fun k hk => by have h1 := HXA.out k hk; have h2 := HM1.out.2.1; omega, fun k hk => by have h1 := HXB.out k hk; have h2 := HM1.out; omega, fun k hk hb => by have h1 := HM2.out.2 k hk; have h2 := HXB.out k hb; omega, Blk.fr M3.out fa (fun h => h), Blk.new w3 (tri fun _ => 0) 39, Blk.fr M3.out fa (fun h => h),
      ⟨fun hk => by have h1 := HXA.out _ hk; have h2 := HM1.out.1; omega, fun hk => by have h1 := HXB.out _ hk; have h2 := HM1.out; omega⟩, ⟨fun hk => by have := HA3.out.lt hk; omega, fun hk => by have := HB.out.lt hk; omega⟩, ⟨fun hk => by have h1 := HXA.out _ hk; have h2 := HM1.out.1; omega, fun hk => by have h1 := HXB.out _ hk; have h2 := HM1.out; omega⟩,
      ⟨by have h1 := HM1.out; have h2 := HM2.out.1; omega, by rw [HD.out]; exact Nat.le_refl _⟩, F3.out.trans fa (fun _ h _ => h)⟩)
  have HNE := hid (show d0 ≠ w3.heap.size from by have h1 := HM1.out; have h2 := HM2.out.1; omega)
  clear fa
  go_upto_region 5 with fail
  clear HA3 HB HXA HXB HM1 HM2 F3 M3
  generalize w3.heap.size = dl at *
  generalize w3.alloc _ = W4 at *
  have HC8 := hid (mxN_le A)
  have HCI := hid (mxN_int A)
  obtain ⟨c, hc⟩ : ∃ c, c = mxN A := ⟨_, rfl⟩
  rw [← hc] at HC8 HCI
  clear hc
  have HT24 := hid (tot_le HC8.out)
  go_upto_block 0 with fail
  go_cut [9] (fun s9 wx => ∃ (Xa : Nat → Prop) (ma : Slt) (Na : Nat), s9 = .int .i64 ((tot c 3 : Nat) : Int) ∧ Mx c ((tot c 3 : Nat) : Int) ma ∧ MS w wx sa sb d0 dl d0 A (fun x => (c x : Int)) A Xa Xb ma (newM [115] 0 []) Na 1 ∧ Na ≤ 1 + tot c 3)
  case first =>
    go_wp2_with (fail)
    go_loopw [9, 10] (fun s9 s10 wr => ∃ (x : Nat) (Xa : Nat → Prop) (ma : Slt) (Na : Nat), x ≤ 3 ∧ s10 = .int .i64 x ∧ s9 = .int .i64 ((tot c x : Nat) : Int) ∧ Mx (fun y => if y < x then c y else 0) ((tot c x : Nat) : Int) ma ∧ MS w wr sa sb d0 dl d0 A (fun y => if y < x then (c y : Int) else 0) A Xa Xb ma (newM [115] 0 []) Na 1 ∧ Na ≤ 1 + tot c x) (fun _ s10 _ => 3 - (intOf s10).toNat)
    case atStart => exact ⟨0, Xa, _, 1, by omega, rfl, rfl, Mx.new.cast (fun x hx => by rw [if_neg (by omega)]), HMS.out.cast (fun x hx => by rw [if_neg (by omega)]) (fun _ _ => rfl), by omega⟩
    case round =>
      obtain ⟨x, Xa, ma, Na, hx, rfl, rfl, hm, hs, hn⟩ := hrel
      have HM := hid hm
      have HS := hid hs
      have HN := hid hn
      clear hm hs hn HMS
      rename World => WR
      by_cases hx3 : x < 3
      · have i1 : (x : Int) < 3 := by omega
        have i2 : (0 : Int) ≤ (x : Int) := by omega
        have p0 := HS.out.cellM hx3
        have p1 := HS.out.cellL hx3
        have z1 : WR.frozen? ⟨dl, x, none⟩ = false := HS.out.bl.frozen x
        have HR := hid (rest_any WR (A x) 9 (by omega) (by omega))
        rw [HCI.out x] at HR
        have HS2 := hid ((HS.out.putL HNE.out HNE.out hx3 (c x : Int)).cast (l' := fun y => if y < x + 1 then (c y : Int) else 0) (t' := A) (fun y hy => by
          show (if y = x then (c x : Int) else if y < x then (c y : Int) else 0) = if y < x + 1 then (c y : Int) else 0
          by_cases e : y = x
          · rw [if_pos e, if_pos (by omega), e]
          · rw [if_neg e]
            by_cases e2 : y < x
            · rw [if_pos e2, if_pos (by omega)]
            · rw [if_neg e2, if_neg (by omega)]) (fun _ _ => rfl))
        have HCX := hid (HC8.out x)
        have HTX := hid (HT24.out x)
        go_upto_region 10 with (go_at_call 10; refine HR.out.mono ?_; rintro e w5 ⟨rfl, rfl⟩)
        clear p0 p1 z1 HR HS
        generalize WR.setCell _ _ = W5 at *
        go_wp2_with (fail)
        go_loopw [9, 11] (fun s9 s11 wr => ∃ (j : Nat) (Xa : Nat → Prop) (ma : Slt) (Na : Nat), j ≤ c x ∧ s11 = .int .i64 j ∧ s9 = .int .i64 ((tot c x + j : Nat) : Int) ∧ Mx (fun y => if y < x then c y else if y = x then j else 0) ((tot c x + j : Nat) : Int) ma ∧ MS w wr sa sb d0 dl d0 A (fun y => if y < x + 1 then (c y : Int) else 0) A Xa Xb ma (newM [115] 0 []) Na 1 ∧ Na ≤ 1 + tot c x + j) (fun _ s11 _ => c x - (intOf s11).toNat)
        case atStart => exact ⟨0, Xa, ma, Na, by omega, rfl, rfl, HM.out.cast (fun y hy => by
          show (if y < x then c y else 0) = if y < x then c y else if y = x then 0 else 0
          by_cases e : y < x
          · rw [if_pos e, if_pos e]
          · rw [if_neg e, if_neg e]; split <;> rfl), HS2.out, by have := HN.out; omega⟩
        case round =>
          obtain ⟨j, Xa, ma, Na, hj, rfl, rfl, hm, hs, hn⟩ := hrel
          have HM1 := hid hm
          have HS1 := hid hs
          have HN1 := hid hn
          clear hm hs hn HM HS2 HN
          rename World => WK
          have p1 : WK.cell? ⟨dl, x, none⟩ = some (.int .i64 (c x : Int)) := by have := HS1.out.cellL hx3; rwa [if_pos (by omega)] at this
          by_cases hjc : j < c x
          · have j1 : (j : Int) < (c x : Int) := by omega
            have w1 : IntKind.i64.wrap (((tot c x + j : Nat) : Int) + 1) = ((tot c x + j : Nat) : Int) + 1 := IntWalk.i64_in _ (by have h1 := HTX.out; have h2 := HCX.out; omega)
            have w2 : IntKind.i64.wrap (3 + (x : Int)) = 3 + (x : Int) := IntWalk.i64_in _ (by omega)
            have w3 : IntKind.i64.wrap (10 * (x : Int)) = 10 * (x : Int) := IntWalk.i64_in _ (by omega)
            have w4 : IntKind.i64.wrap (10 * (x : Int) + (j : Int)) = 10 * (x : Int) + (j : Int) := IntWalk.i64_in _ (by have h2 := HCX.out; omega)
            have w5 : IntKind.i64.wrap ((j : Int) + 1) = (j : Int) + 1 := IntWalk.i64_in _ (by have h2 := HCX.out; omega)
            have HF := hid (SH.feedRow HS1.out.a (by have h0 := HN1.out; have h1 := HTX.out; have h2 := HCX.out; omega) (10 * (x : Int) + (j : Int)) (((tot c x + j : Nat) : Int) + 1) 2 (3 + (x : Int)) ⟨by omega, by omega⟩)
            have HE := hid (show (if x < x then c x else if x = x then j else 0) = j from by rw [if_neg (by omega), if_pos rfl])
            have HST := hid (HM1.out.step HS1.out.a.ok hx3)
            have hst := HST.out
            rw [HE.out] at hst
            replace HST := hid hst
            clear hst
            obtain ⟨q, hq⟩ : ∃ q, q = tot c x + j := ⟨_, rfl⟩
            rw [← hq] at HF HST w1 ⊢
            have HQ := hid hq
            clear hq
            go_wp2_with (go_at_call 12; refine HF.out.mono ?_; rintro e w6 ⟨rfl, X2, h2, hx2, f2⟩; have HS3 := hid (HS1.out.feedA (Nat.le_refl _) h2 hx2 f2); clear h2 hx2 f2)
            go_roundw
            case rel => exact ⟨j + 1, X2, _, Na + 1, by omega, by go_num, by rw [← Nat.add_assoc, ← HQ.out]; go_num, by
              rw [← Nat.add_assoc, ← HQ.out, show (((q + 1 : Nat)) : Int) = (q : Int) + 1 from by push_cast; rfl]
              exact HST.out.cast (fun y hy => by
                show (if y = x then j + 1 else if y < x then c y else if y = x then j else 0) = if y < x then c y else if y = x then j + 1 else 0
                by_cases e : y = x
                · rw [if_pos e, if_neg (by omega), if_pos e]
                · rw [if_neg e]
                  by_cases e2 : y < x
                  · rw [if_pos e2, if_pos e2]
                  · rw [if_neg e2, if_neg e, if_neg e2, if_neg e]), HS3.out, by have := HN1.out; omega⟩
            case measure => simp [intOf]; omega
          · obtain rfl : j = c x := by omega
            have j1 : ¬ ((c x : Int) < (c x : Int)) := by omega
            have w5 : IntKind.i64.wrap ((x : Int) + 1) = (x : Int) + 1 := IntWalk.i64_in _ (by omega)
            go_wp2_with (fail)
            go_roundw
            case rel => exact ⟨x + 1, Xa, ma, Na, by omega, by go_num, rfl, HM1.out.cast (fun y hy => by
              show (if y < x then c y else if y = x then c x else 0) = if y < x + 1 then c y else 0
              by_cases e2 : y < x
              · rw [if_pos e2, if_pos (by omega)]
              · rw [if_neg e2]
                by_cases e : y = x
                · rw [if_pos e, if_pos (by omega), e]
                · rw [if_neg e, if_neg (by omega)]), HS1.out, by have := HN1.out; unfold tot; omega⟩
            case measure => simp [intOf]; omega
      · obtain rfl : x = 3 := by omega
        go_wp2_with (fail)
        go_meet
        exact ⟨Xa, ma, Na, rfl, HM.out.cast (fun y hy => by rw [if_pos hy]), HS.out.cast (fun y hy => by rw [if_pos hy]) (fun _ _ => rfl), HN.out⟩
  case rest =>
    obtain ⟨Xa, ma, Na, rfl, hm, hs, hn⟩ := hcut
    generalize wc = WB at *
    have HMA := hid hm
    have HS := hid hs
    have HN := hid hn
    clear hm hs hn HMS
    have HT3 := hid (tot3 c)
    have HTB := hid (HT24.out 3)
    obtain ⟨T, hT⟩ : ∃ T, T = tot c 3 := ⟨_, rfl⟩
    rw [← hT] at HMA HN HT3 HTB ⊢
    clear hT
    have fa := (Fr.refl (fun _ => False) WB).alloc (.cells #[.int .i64 0, .int .i64 0, .int .i64 0] 39)
    have HS2 := hid (show MS w (WB.alloc (.cells #[.int .i64 0, .int .i64 0, .int .i64 0] 39)) sa sb d0 dl WB.heap.size A (fun x => (c x : Int)) (fun _ => 0) Xa Xb ma (newM [115] 0 []) Na 1 from by
      have h := HS.out.fre fa
      exact ⟨h.a, h.b, h.xa, h.xb, h.ab, h.bm, h.bl, Blk.new WB (tri fun _ => 0) 39, h.mo, h.lo, ⟨fun hk => by have := HS.out.a.lt hk; omega, fun hk => by have := HS.out.b.lt hk; omega⟩, ⟨h.ge.1, HS.out.f.size⟩, h.f⟩)
    have HNT := hid (show d0 ≠ WB.heap.size ∧ dl ≠ WB.heap.size from ⟨fun e => by have := HS.out.bm.lt; omega, fun e => by have := HS.out.bl.lt; omega⟩)
    clear fa
    go_upto_region 16 with fail
    clear HS
    generalize WB.heap.size = dt at *
    generalize WB.alloc _ = W4' at *
    go_upto_block 4 with fail
    go_cut [13] (fun s13 wx => ∃ (Xb : Nat → Prop) (mb : Slt) (Nb : Nat) (t : Nat → Int), Mx c (T : Int) mb ∧ MS w wx sa sb d0 dl dt A (fun x => (c x : Int)) t Xa Xb ma mb Na Nb ∧ Nb ≤ 1 + T)
    case first =>
      go_wp2_with (fail)
      go_loopw [13, 14] (fun s13 s14 wr => ∃ (n i r : Nat) (at_ : Nat → Nat) (Xb : Nat → Prop) (mb : Slt) (Nb : Nat), s13 = .int .i64 n ∧ s14 = .int .i64 i ∧ n ≤ T ∧ (∀ x, x < 3 → at_ x ≤ c x) ∧ at_ 0 + at_ 1 + at_ 2 = n ∧ Mx at_ (n : Int) mb ∧ MS w wr sa sb d0 dl dt A (fun x => (c x : Int)) (fun x => (at_ x : Int)) Xa Xb ma mb Na Nb ∧ Nb ≤ 1 + n ∧ i ≤ L.length + 3 * n + r ∧ r ≤ 2 ∧ r ≤ i ∧ (∀ q, q < r → at_ ((i - 1 - q) % 3) = c ((i - 1 - q) % 3))) (fun _ s14 _ => L.length + 3 * T + 3 - (intOf s14).toNat)
      case atStart => exact ⟨0, 0, 0, fun _ => 0, Xb, _, 1, rfl, rfl, by omega, fun x _ => Nat.zero_le _, rfl, Mx.new, HS2.out, by omega, by omega, by omega, by omega, fun q hq => by omega⟩
      case round =>
        obtain ⟨n, i, r, at_, Xb, mb, Nb, rfl, rfl, hnT, hat, hsum, hm, hs, hn, hi, hr2, hri, hex⟩ := hrel
        have HAT := hid hat
        have HSUM := hid hsum
        have HM := hid hm
        have HS3 := hid hs
        have HNB := hid hn
        have HI := hid hi
        have HEX := hid hex
        have HRI := hid hri
        clear hat hsum hm hs hn hi hex hri HS2
        rename World => WR
        by_cases hnl : n < T
        · have i1 : (n : Int) < (T : Int) := by omega
          have i2 : (0 : Int) ≤ (i : Int) := by omega
          have hmod : (i : Int).tmod 3 = ((i % 3 : Nat) : Int) := by rw [Int.tmod_eq_emod_of_nonneg i2]; omega
          have HBD := hid (show i + 1 ≤ 4611686018427387904 from by have := HI.out; have := HTB.out; have := HLS.out; omega)
          have w1 : IntKind.i64.wrap ((i : Int) + 1) = (i : Int) + 1 := IntWalk.i64_in _ (by have := HBD.out; omega)
          go_upto_if 61 with fail
          go_cut [15] (fun s15 wx => ∃ x : Nat, x < 3 ∧ s15 = .int .i64 x ∧ (L.length ≤ i → x = i % 3) ∧ wx = WR)
          case first =>
            by_cases hil : i < L.length
            · have i3 : (i : Int) < (L.length : Int) := by omega
              obtain ⟨g, o, rfl, rl⟩ := sl_at (k := 1) (by decide) icell_len (HL.out.fr HS3.out.f (fun _ _ h => h)) hil
              have q0 : WR.cell? ⟨g, o + i, none⟩ = some (.int .i64 L[i]) := by have := rl 0 (.int .i64 L[i]) rfl; simpa using this
              have HR := hid (rest_any WR L[i] 3 (by omega) (by omega))
              obtain ⟨x, hx, hx2⟩ : ∃ x : Nat, x < 3 ∧ L[i] % 3 = (x : Int) := ⟨(L[i] % 3).toNat, by omega, by omega⟩
              rw [hx2] at HR
              clear hx2 rl
              generalize L[i] = li at *
              go_wp2_with (go_at_call 10; refine HR.out.mono ?_; rintro e w5 ⟨rfl, rfl⟩)
              go_meet
              exact ⟨x, hx, rfl, fun h => by omega, rfl⟩
            · have i3 : ¬ (i : Int) < (L.length : Int) := by omega
              go_wp2_with (fail)
              go_meet
              exact ⟨i % 3, Nat.mod_lt _ (by omega), rfl, fun _ => rfl, rfl⟩
          case rest =>
            obtain ⟨x, hx, rfl, hxi, hwr⟩ := hcut
            replace hwr := hwr.symm
            subst hwr
            have HXI := hid hxi
            clear hxi hmod
            have j1 : (0 : Int) ≤ (x : Int) := by omega
            have j2 : (x : Int) < 3 := by omega
            have p1 := HS3.out.cellL hx
            have p2 := HS3.out.cellT hx
            have HAX := hid (HAT.out x hx)
            by_cases hlt : at_ x < c x
            · have HLT := hid hlt
              go_upto_region 23 with fail
              go_quiet (fail)
              have HS4 := hid (HS3.out.fre ((Fr.refl (fun _ => False) WR).drewN nq))
              clear p1 p2 HS3
              generalize WR.drewN nq = WQ at *
              have p2 := HS4.out.cellT hx
              have HC8X := hid (HC8.out x)
              have w2 : IntKind.i64.wrap ((n : Int) + 1) = (n : Int) + 1 := IntWalk.i64_in _ (by have := HTB.out; omega)
              have w3 : IntKind.i64.wrap (3 + (x : Int)) = 3 + (x : Int) := IntWalk.i64_in _ (by omega)
              have w4 : IntKind.i64.wrap (10 * (x : Int)) = 10 * (x : Int) := IntWalk.i64_in _ (by omega)
              have w5 : IntKind.i64.wrap (10 * (x : Int) + (at_ x : Int)) = 10 * (x : Int) + (at_ x : Int) := IntWalk.i64_in _ (by have := HC8X.out; omega)
              have w6 : IntKind.i64.wrap ((at_ x : Int) + 1) = (at_ x : Int) + 1 := IntWalk.i64_in _ (by have := HC8X.out; omega)
              have HF := hid (SH.feedRow HS4.out.b (by have h0 := HNB.out; have h1 := HTB.out; omega) (10 * (x : Int) + (at_ x : Int)) ((n : Int) + 1) 2 (3 + (x : Int)) ⟨by omega, by omega⟩)
              have HST := hid (HM.out.step HS4.out.b.ok hx)
              obtain ⟨a, ha⟩ : ∃ a, a = at_ x := ⟨_, rfl⟩
              rw [← ha] at HF HST w5 w6 p2 HLT
              have HAE := hid ha
              clear ha hlt
              go_upto_region 26 with (go_at_call 12; refine HF.out.mono ?_; rintro e w6 ⟨rfl, X2, h2, hx2, f2⟩; have HS5 := hid (HS4.out.feedB (Nat.le_refl _) h2 hx2 f2); clear h2 hx2 f2 p2)
              have p3 : w6.cell? ⟨dt, x, none⟩ = some (.int .i64 (a : Int)) := by have := HS5.out.cellT hx; rw [HAE.out]; exact this
              have z3 : w6.frozen? ⟨dt, x, none⟩ = false := HS5.out.bt.frozen x
              have HS6 := hid ((HS5.out.putT HNT.out.1 HNT.out.2 hx ((a : Int) + 1)).cast (l' := fun x => (c x : Int)) (t' := fun y => ((updN at_ x (a + 1) y : Nat) : Int)) (fun _ _ => rfl) (fun y hy => by
                unfold updN
                by_cases e : y = x
                · rw [if_pos e, if_pos e]; push_cast; rfl
                · rw [if_neg e, if_neg e]))
              go_wp2_with (fail)
              go_roundw
              case rel =>
                refine ⟨n + 1, i + 1, 0, updN at_ x (a + 1), X2, _, Nb + 1, by go_num, by go_num, by omega, fun y hy => ?_, ?_, by rw [show (((n + 1 : Nat)) : Int) = (n : Int) + 1 from by push_cast; rfl]; exact HST.out, HS6.out, by have := HNB.out; omega, by have := HI.out; omega, by omega, by omega, fun q hq => by omega⟩
                · unfold updN
                  by_cases e : y = x
                  · rw [if_pos e, e]; have := HLT.out; omega
                  · rw [if_neg e]; exact HAT.out y hy
                · have h1 := HSUM.out
                  have h2 := HAE.out
                  unfold updN
                  rcases (by omega : x = 0 ∨ x = 1 ∨ x = 2) with rfl | rfl | rfl
                  · rw [if_pos rfl, if_neg (by omega), if_neg (by omega)]; omega
                  · rw [if_neg (by omega), if_pos rfl, if_neg (by omega)]; omega
                  · rw [if_neg (by omega), if_neg (by omega), if_pos rfl]; omega
              case measure => simp [intOf]; have := HI.out; omega
            · have HNL := hid hlt
              go_upto_region 23 with fail
              go_quiet (fail)
              have HS4 := hid (HS3.out.fre ((Fr.refl (fun _ => False) WR).drewN nq))
              clear p1 p2 HS3
              generalize WR.drewN nq = WQ at *
              have HEQ := hid (show at_ x = c x from by have h1 := HAX.out; have h2 := HNL.out; omega)
              go_wp2_with (fail)
              go_roundw
              case rel =>
                by_cases hil : i < L.length
                · exact ⟨n, i + 1, 0, at_, Xb, mb, Nb, rfl, by go_num, by omega, HAT.out, HSUM.out, HM.out, HS4.out, HNB.out, by omega, by omega, by omega, fun q hq => by omega⟩
                · have hx3 := HXI.out (by omega)
                  have hex' : ∀ q, q < r + 1 → at_ ((i + 1 - 1 - q) % 3) = c ((i + 1 - 1 - q) % 3) := fun q hq => by
                    cases q with
                    | zero =>
                      have e : i + 1 - 1 - 0 = i := by omega
                      rw [e, ← hx3]; exact HEQ.out
                    | succ q =>
                      have := HEX.out q (by omega)
                      have e : i + 1 - 1 - (q + 1) = i - 1 - q := by omega
                      rw [e]; exact this
                  have hr1 : r + 1 ≤ 2 := by
                    by_cases h : r = 2
                    · exfalso
                      have e0 := hex' 0 (by omega)
                      have e1 := hex' 1 (by omega)
                      have e2 := hex' 2 (by omega)
                      have hri := HRI.out
                      have hs := HSUM.out
                      have ht := HT3.out
                      have m0 : i + 1 - 1 - 0 = i := by omega
                      have m1 : i + 1 - 1 - 1 = i - 1 := by omega
                      have m2 : i + 1 - 1 - 2 = i - 2 := by omega
                      rw [m0] at e0
                      rw [m1] at e1
                      rw [m2] at e2
                      rcases (by omega : i % 3 = 0 ∨ i % 3 = 1 ∨ i % 3 = 2) with h0 | h0 | h0
                      · rw [h0] at e0; rw [show (i - 1) % 3 = 2 from by omega] at e1; rw [show (i - 2) % 3 = 1 from by omega] at e2; omega
                      · rw [h0] at e0; rw [show (i - 1) % 3 = 0 from by omega] at e1; rw [show (i - 2) % 3 = 2 from by omega] at e2; omega
                      · rw [h0] at e0; rw [show (i - 1) % 3 = 1 from by omega] at e1; rw [show (i - 2) % 3 = 0 from by omega] at e2; omega
                    · omega
                  exact ⟨n, i + 1, r + 1, at_, Xb, mb, Nb, rfl, by go_num, by omega, HAT.out, HSUM.out, HM.out, HS4.out, HNB.out, by have := HI.out; omega, hr1, by have := HRI.out; omega, hex'⟩
              case measure => simp [intOf]; have := HI.out; omega
        · obtain rfl : n = T := by omega
          have i1 : ¬ (n : Int) < (n : Int) := by omega
          go_wp2_with (fail)
          go_meet
          refine ⟨Xb, mb, Nb, _, HM.out.cast (fun x hx => ?_), HS3.out, HNB.out⟩
          have h0 := HAT.out 0 (by omega)
          have h1 := HAT.out 1 (by omega)
          have h2 := HAT.out 2 (by omega)
          have hs := HSUM.out
          have ht := HT3.out
          rcases (by omega : x = 0 ∨ x = 1 ∨ x = 2) with rfl | rfl | rfl <;> omega
    case rest =>
      obtain ⟨Xb, mb, Nb, t, hmb, hs, hnb⟩ := hcut
      generalize wc = WC at *
      have HS3 := hid hs
      have HMB := hid hmb
      have HNB := hid hnb
      clear hs hmb hnb HS2 HNT
      have hT24 := HTB.out
      go_upto_region 28 with fail
      go_loopw [16] (fun s16 wr => ∃ (d : Nat) (Xa Xb : Nat → Prop) (ma mb : Slt) (Na Nb : Nat), d ≤ 3 ∧ s16 = .int .i64 d ∧ Mc c (T : Int) d ma ∧ Mc c (T : Int) d mb ∧ MS w wr sa sb d0 dl dt A (fun x => (c x : Int)) t Xa Xb ma mb Na Nb ∧ Na ≤ 1 + T + d ∧ Nb ≤ 1 + T + d) (fun s16 _ => 3 - (intOf s16).toNat)
      case atStart => exact ⟨0, Xa, Xb, ma, mb, Na, Nb, by omega, rfl, Mc.start HMA.out, Mc.start HMB.out, HS3.out, HN.out, HNB.out⟩
      case round =>
        obtain ⟨d, Xa, Xb, ma, mb, Na, Nb, hd, rfl, hma, hmb, hs, hna, hnb⟩ := hrel
        have HA1 := hid hma
        have HB1 := hid hmb
        have HS4 := hid hs
        have HNA := hid hna
        have HNB1 := hid hnb
        clear hma hmb hs hna hnb HMA HMB HS3 HN HNB
        rename World => WR
        by_cases hd3 : d < 3
        · have i1 : (d : Int) < 3 := by omega
          have w1 : IntKind.i64.wrap ((T : Int) + 1) = (T : Int) + 1 := IntWalk.i64_in _ (by omega)
          have w2 : IntKind.i64.wrap ((T : Int) + 1 + (d : Int)) = (T : Int) + 1 + (d : Int) := IntWalk.i64_in _ (by omega)
          have w3 : IntKind.i64.wrap (5 - (d : Int)) = 5 - (d : Int) := IntWalk.i64_in _ (by omega)
          have w4 : IntKind.i64.wrap ((d : Int) + 1) = (d : Int) + 1 := IntWalk.i64_in _ (by omega)
          have HF := hid (SH.feedX0 HS4.out.a (by have := HNA.out; omega) ((T : Int) + 1 + (d : Int)) 5 (5 - (d : Int)) 0 ⟨by omega, by omega⟩ ⟨by omega, by omega⟩)
          go_upto_region 31 with (go_at_call 12; refine HF.out.mono ?_; rintro e w6 ⟨rfl, X2, h2, hx2, f2⟩; have HS5 := hid (HS4.out.feedA (Nat.le_refl _) h2 hx2 f2); clear h2 hx2 f2)
          clear HF
          have HF := hid (SH.feedX0 HS5.out.b (by have := HNB1.out; omega) ((T : Int) + 1 + (d : Int)) 5 (5 - (d : Int)) 0 ⟨by omega, by omega⟩ ⟨by omega, by omega⟩)
          go_wp2_with (go_at_call 12; refine HF.out.mono ?_; rintro e w7 ⟨rfl, X3, h3, hx3, f3⟩; have HS6 := hid (HS5.out.feedB (Nat.le_refl _) h3 hx3 f3); clear h3 hx3 f3)
          go_roundw
          case rel => exact ⟨d + 1, X2, X3, _, _, Na + 1, Nb + 1, by omega, by go_num, HA1.out.step HS4.out.a.ok hd3, HB1.out.step HS5.out.b.ok hd3, HS6.out, by have := HNA.out; omega, by have := HNB1.out; omega⟩
          case measure => simp [intOf]; omega
        · obtain rfl : d = 3 := by omega
          have HLA := hid (show ma.queue.length ≤ 3 from by have h1 := congrArg List.length HA1.out.told; have h2 := mxT_len c (T : Int) 3; unfold Slt.told at h1; rw [List.length_map] at h1; omega)
          have HLB := hid (show mb.queue.length ≤ 3 from by have h1 := congrArg List.length HB1.out.told; have h2 := mxT_len c (T : Int) 3; unfold Slt.told at h1; rw [List.length_map] at h1; omega)
          have HQA := hid (SH.queued HS4.out.a (by have := HNA.out; omega) 9)
          have HQB := hid (fun W (f : Fr (fun _ => False) WR W) => SH.queued (HS4.out.b.fre f) (by have := HNB1.out; omega) 9)
          rw [show ma.told.take (qn 9 ma.queue.length) = mxT c (T : Int) 3 from by
            rw [List.take_of_length_le (by unfold Slt.told; rw [List.length_map]; have := HLA.out; unfold qn; omega)]; exact HA1.out.told] at HQA
          rw [show mb.told.take (qn 9 mb.queue.length) = mxT c (T : Int) 3 from by
            rw [List.take_of_length_le (by unfold Slt.told; rw [List.length_map]; have := HLB.out; unfold qn; omega)]; exact HB1.out.told] at HQB
          have HOA := hid (fun W (f : Fr (fun _ => False) WR W) => SH.open_ (HS4.out.a.fre f))
          have HOB := hid (fun W (f : Fr (fun _ => False) WR W) => SH.open_ (HS4.out.b.fre f))
          rw [HA1.out.done] at HOA
          rw [HB1.out.done] at HOB
          have HXT := hid (mxT_len c (T : Int) 3)
          have HTA := hid HA1.out.told
          generalize mxT c (T : Int) 3 = TT at *
          have HFW := hid HS4.out.f
          have HFA := hid HS4.out.a.few
          have HFB := hid HS4.out.b.few
          clear HS4 HA1 HB1 HLA HLB
          go_wp2_with (fail)
          refine HQA.out.mono ?_
          rintro e w8 ⟨u1, xs, rfl, hx1, ht1, f1⟩
          have HX1 := hid hx1
          have HT1 := hid ht1
          have F1 := hid f1
          clear hx1 ht1 f1 HQA
          go_wp2_with (fail)
          refine (HQB.out _ F1.out).mono ?_
          rintro e w9 ⟨u2, ys, rfl, hx2, ht2, f2⟩
          have HX2 := hid hx2
          have HT2 := hid ht2
          have F2 := hid (F1.out.trans f2 (fun _ h _ => h))
          have HT12 := hid (HT1.out.fre f2)
          clear hx2 ht2 f2 HQB HT1
          have HSA := hid (Same_go HT12.out.s HT2.out.s (HX1.out.trans HX2.out.symm) (by have h := congrArg List.length HX1.out; rw [List.length_map] at h; have := HXT.out; omega) (fun x hx => by
            have h1 : TxnV.t x ∈ ma.told := by rw [HTA.out, ← HX1.out]; exact List.mem_map_of_mem hx
            obtain ⟨dn, h2, h3⟩ := List.mem_map.1 h1
            have h4 := HFA.out.q dn h2
            have h5 : dn.cs = x.cs.map ChgV.c := (Prod.mk.inj h3).2
            rw [h5, List.length_map] at h4
            have := HNA.out
            omega))
          go_wp2_with (fail)
          refine HSA.out.mono ?_
          rintro e w10 ⟨rfl, f3⟩
          have F3 := hid (F2.out.trans f3 (fun _ h _ => h))
          clear f3 HSA
          go_wp2_with (fail)
          refine (HOA.out _ F3.out).mono ?_
          rintro e w11 ⟨rfl, rfl⟩
          go_wp2_with (fail)
          refine (HOB.out _ F3.out).mono ?_
          rintro e w12 ⟨rfl, rfl⟩
          go_wp2_with (fail)
          go_ret
          exact ⟨rfl, HFW.out.trans F3.out (fun _ h _ => h)⟩
theorem list3 {α : Type} {l : List α} (h : l.length = 3) : ∃ x y z, l = [x, y, z] := by
  match l, h with
  | [x, y, z], _ => exact ⟨x, y, z, rfl⟩
theorem small_ints {H : Type} {enc : TypeId × Value → H} {w : World} {base : Nat} {sp : Nat → Bool} {held : Bool} {a : Option Addr} {n c : Nat} {d : DataW H} {ps : List MemPlace} (h : DataW.Trod enc Try.prog w base sp held 22 (.slice a n c) d ps) (hw : (d.weights Try.prog 22).all (· ≤ reachBytes) = true) : n ≤ 1152921504606846976 := by
  obtain ⟨fuel, hh⟩ := h
  rcases DataW.trod_slice Try.underlying22 hh with ⟨h1, -⟩ | ⟨a', len, cap, elems, rest, m, -, h1, h2, -, -, -, hl, -⟩
  · have : n = 0 := by simpa [Value.cells] using congrArg (fun l => match l with | [Value.slice _ n _] => n | _ => 0) h1
    omega
  · have hn : n = len := by simpa [Value.cells] using congrArg (fun l => match l with | [Value.slice _ n _] => n | _ => 0) h1
    have hd : d = .slice (elems.map (·.1)) (rest.map (·.1)) := congrArg Prod.fst h2
    subst hd
    simp only [DataW.weights, Try.underlying22, List.all_cons, Bool.and_eq_true, decide_eq_true_eq, List.length_map] at hw
    have hb : Try.prog.bytesOf 3 = 8 := by kernel_rfl
    rw [hb] at hw
    have := hw.1
    unfold reachBytes at this
    omega
end Go.Proofs.Ytiimomgbklgicaa
namespace Go.Proofs.Ytiimomgbklgicaa.slotMixed
open Go.ChangeShapes Go.WideShapes Go.ChangeAt Go.RowKit Go.VB
set_option maxHeartbeats 400000 in
set_option maxRecDepth 100000 in
theorem lifted (os : Os) (started : os.Started) (H : Type) (enc : TypeId × Value → H) :
    ReturnsInHanded {} Try.checked os 4 .any (Rows.slotMixedSpec.pre6 enc Try.prog Try.f4 Rows.slotMixedRow.domain false) (Rows.slotMixedSpec.post enc Try.prog Try.f4 false true false false) := by
  refine returnsInHanded_of_change_sized (C := Try.checked) own started (by kernel_rfl) Try.func4
    (ChangeSpec.witness6 (enc := enc) (C := Try.checked) false ⟨#[], #[.agg #[.int .i64 0, .int .i64 0, .int .i64 0], .slice none 0 0], []⟩ 8 (by kernel_rfl) (by kernel_rfl) (by kernel_rfl) (by kernel_rfl)) ?_
  intro W base args ds gs before hval0 hW hcnd hsz0 _
  have hval : ∀ (j : Nat) t v, Try.f4.params[j]? = some t → args[j]? = some v → Value.okWide Try.prog W .any base t v := hval0
  have hW' := hW
  obtain ⟨p, q, hA0, hV, rfl, hfz, hnd⟩ := hW
  have hA : DataW.TrodAll enc Try.prog W 0 (fun _ => true) true Try.f4.params.toList args.toList ds p := hA0
  rw [Try.params4] at hA hval hsz0
  obtain ⟨v0, vs0, d0, ds0, p0, q0, hargs, rfl, rfl, h0, r0⟩ := trodAll_cons hA
  obtain ⟨v1, vs1, d1, ds1, p1, q1, rfl, rfl, rfl, h1, r1⟩ := trodAll_cons r0
  obtain ⟨rfl, rfl, rfl⟩ := trodAll_nil r1
  obtain rfl : args = #[v0, v1] := by cases args; simp_all
  obtain ⟨rfl, rfl⟩ := trodVars_none hV
  clear hA0 hval0
  refine Calls.mono (R := fun e w' => e = .returned (.bool true) ∧ Fr (fun _ => False) W w') ?_ fun e W' ⟨he, hf⟩ => ⟨_, he, post_law sound (by decide +kernel) rfl rfl (ht := Try.underlying4) (by rfl) hW' hf⟩
  obtain ⟨A, rfl, hal, -⟩ := open_ar Try.underlying39 (k := 1) (by kernel_rfl) (by kernel_rfl) (hval 0 39 v0 rfl rfl) h0 (fun x => [Value.int .i64 x]) (fun x => True) (fun fuel cs r h => by obtain ⟨x, h1, _⟩ := elem_int Try.underlying3 fuel cs r h; exact ⟨x, h1, trivial⟩)
  obtain ⟨q, hq, -, hql⟩ := open_sl Try.underlying22 (k := 1) (by kernel_rfl) (by omega) (hval 1 22 v1 rfl rfl) h1 (fun x => [Value.int .i64 x]) (fun x => True) (fun _ => rfl) (fun fuel cs r _ h => by obtain ⟨x, h1, _⟩ := elem_int Try.underlying3 fuel cs r h; exact ⟨x, h1, trivial⟩)
  have hsm : q.length ≤ 1152921504606846976 := by
    have hq' := hq
    obtain ⟨a, c, rfl, -, -⟩ := hq'
    refine small_ints h1 ?_
    have h3 : (DataW.weightsEach Try.prog [39, 22] [d0, d1]).all (· ≤ reachBytes) = true := hsz0
    simp only [DataW.weightsEach, List.all_append, Bool.and_eq_true] at h3
    exact h3.2.1
  have hA : (Value.agg (A.flatMap fun x => [Value.int .i64 x]).toArray) = .agg (tri fun i => A.getD i 0).toArray := by
    obtain ⟨x, y, z, rfl⟩ := list3 hal
    rfl
  rw [hA]
  exact SlotMixed_walk _ q v1 W hq hsm
theorem proved : Rows.SlotMixedSaid :=
  OpenClaim.holds_of_wide 4 Try.f4 rfl rfl rfl rfl rfl rfl rfl ⟨rfl, rfl, rfl, rfl, rfl⟩ rfl rfl rfl rfl rfl (by kernel_rfl) Try.func4 (by kernel_rfl)
    (of_decide_eq_true (by kernel_rfl)) (by unfold Func.isWrapper; first | (rw [if_pos (by decide +kernel)]; kernel_rfl) | (rw [if_neg (by decide +kernel)]; exact ⟨rfl, rfl⟩))
    (fun os started H enc _ => lifted os started H enc)
end Go.Proofs.Ytiimomgbklgicaa.slotMixed
