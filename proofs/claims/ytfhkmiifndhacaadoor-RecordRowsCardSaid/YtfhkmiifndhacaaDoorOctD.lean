import Derived.Test.YtfhkmiifndhacaaDoorOctC
/- octet's Reader: Num, Text. -/
set_option linter.unusedVariables false
namespace Go.Proofs.YtfhkmiifndhacaaDoor
open Go.RowKit Go.VB Go.VB.Oct
theorem i64_or_nat (a b : Nat) (ha : a < 9223372036854775808) (hb : b < 9223372036854775808) : bits .or .i64 (a : Int) (b : Int) = ((a ||| b : Nat) : Int) := by
  have hx : a ||| b < 2 ^ 63 := Nat.or_lt_two_pow (by omega) (by omega)
  show IntKind.i64.wrap ((BitVec.ofInt 64 (a : Int) ||| BitVec.ofInt 64 (b : Int)).toNat : Int) = _
  rw [BitVec.toNat_or, ofInt_u64 a (by omega), ofInt_u64 b (by omega)]
  exact IntWalk.i64_in _ (by omega)
theorem or_i64 (y x : Nat) (hy : y < 281474976710656) (hx : x < 256) : bits .or .i64 ((y : Int) * 256) (x : Int) = ((y * 256 + x : Nat) : Int) := by
  have h := i64_or_nat (y * 256) x (by omega) (by omega)
  rw [show ((y * 256 : Nat) : Int) = (y : Int) * 256 by omega] at h
  rw [h, Nat.mul_comm y 256, ← Nat.two_pow_add_eq_or_of_lt (i := 8) (by simpa using hx) y]
variable {w : World} {p : Nat} {r : RM}
set_option maxRecDepth 20000 in
set_option maxHeartbeats 2000000 in
theorem ONum_go (h : RdRep w p r) (ok : r.Ok) (k : Nat) (hk : k ≤ 6) : Calls Tryd.prog 23 #[.pointer (some ⟨p, 0, none⟩), .int .i64 k] w fun e w' => e = .returned (.int .i64 (r.num k).2) ∧ RdRep w' p (r.num k).1 ∧ Fr (fun k => k = p) w w' := by
  have HS := hid (size_go k (by omega) w)
  have HT := hid (OTake_go h ok k (by omega))
  have HL := hid (RM.take_len r k)
  have hl6 := Nat.le_trans (RM.take_len r k) hk
  have hn1 : (r.num k).1 = (r.take k).1 := rfl
  have hn2 : (r.num k).2 = Go.VB.Oct.num (r.take k).2 := rfl
  rw [hn1, hn2]
  clear h hn1 hn2
  generalize (r.take k).2 = l at *
  generalize (r.take k).1 = r' at *
  go_enter Tryd.func23, Tryd.ntmps23
  go_wp2_with (first | (go_at_call 57; refine HS.out.mono ?_; rintro e w' ⟨rfl, rfl⟩) | (go_at_call 44; refine HT.out.mono ?_; rintro e w1 ⟨rfl, hr, f1⟩) | (refine wpList_str_bytes rfl rfl Tryd.underlying9 Tryd.underlying64 Tryd.underlying5 rfl ?_; intro c w2 hb))
  have HC := hid hb.cap
  have HB := hid hb.blk
  have HR := hid (RdRep.fre hr hb.fr)
  have HF := hid (f1.trans hb.fr (fun k hk hl => hk.elim))
  clear hb hr f1 HS HT
  generalize w1.heap.size = b at *
  have HSN := hid (fun i (h : i < l.length) => show Go.VB.Oct.num (l.take (i + 1)) = Go.VB.Oct.num (l.take i) * 256 + l[i].toNat from by
    rw [List.take_add_one, List.getElem?_eq_getElem h]; exact num_snoc _ _)
  go_loopw [5, 14] (fun t i wr => ∃ j : Nat, j ≤ l.length ∧ t = .int .i64 (Go.VB.Oct.num (l.take j)) ∧ i = .int .i64 j ∧ wr = w2) (fun _ i _ => l.length - (intOf i).toNat)
  case atStart => exact ⟨0, by omega, rfl, rfl, rfl⟩
  case round =>
    obtain ⟨j, hj, rfl, rfl, rfl⟩ := hrel
    by_cases hjl : j < l.length
    · have hc : wr.cell? ⟨b, j, none⟩ = some (.int .u8 ((l[j]).toNat : Int)) := by
        rw [HB.out.cell, List.getElem?_append_left (by rw [bv_length]; exact hjl)]; simp [bv, hjl]
      have hsn := HSN.out j hjl
      have i1 : (0 : Int) ≤ (j : Int) := by omega
      have i2 : (j : Int) < l.length := by omega
      have hlt : Go.VB.Oct.num (l.take j) < 256 ^ (k - 1) := by
        refine Nat.lt_of_lt_of_le (Go.VB.Oct.num_lt _) (Nat.pow_le_pow_right (by omega) ?_)
        have := HL.out
        rw [List.length_take]; omega
      have hlt' : Go.VB.Oct.num (l.take j) < 281474976710656 := Nat.lt_of_lt_of_le hlt (Nat.le_trans (Nat.pow_le_pow_right (by omega) (show k - 1 ≤ 6 by omega)) (by decide))
      have hx := l[j].toNat_lt
      generalize l[j].toNat = x at *
      generalize Go.VB.Oct.num (l.take j) = y at *
      have hor := or_i64 y x hlt' (by omega)
      have x1 : (0 : Int) ≤ x := by omega
      have x2 : (x : Int) < 256 := by omega
      have y1 : (0 : Int) ≤ y := by omega
      have y2 : (y : Int) < 281474976710656 := by omega
      clear hlt hlt' hx
      have HSS := hid hsn
      clear hsn
      go_wp2_with (fail)
      go_roundw
      case rel => exact ⟨j + 1, by omega, by rw [HSS.out]; simp, by go_num, trivial⟩
      case measure => simp [intOf]; omega
    · obtain rfl : j = l.length := by omega
      rw [List.take_length]
      go_wp2_with (fail)
      go_ret
      exact ⟨rfl, HR.out, HF.out⟩

def undo (a : Nat) (r : RM) : RM := if r.failed then { r with at_ := a } else r
theorem OText_go (h : RdRep w p r) (ok : r.Ok) : Calls Tryd.prog 21 #[.pointer (some ⟨p, 0, none⟩)] w fun e w' => e = .returned (.string (bs r.text.2)) ∧ RdRep w' p r.text.1 ∧ Fr (fun k => k = p) w w' := by
  have HN := hid (ONum_go h ok 2 (by omega))
  have HK := hid (ok.num 2)
  have hn2 := RM.num_lt r 2
  have hm : r.text = (undo r.at_ ((r.num 2).1.take (r.num 2).2).1, ((r.num 2).1.take (r.num 2).2).2) := rfl
  rw [hm]
  have c1 := h.c1
  clear h hm
  generalize (r.num 2).2 = n at *
  generalize (r.num 2).1 = r1 at *
  have HT0 := hid (fun (w : World) (h : RdRep w p r1) => OTake_go h HK.out n (by omega))
  generalize r1.take n = q at *
  obtain ⟨r2, s2⟩ := q
  go_enter Tryd.func21, Tryd.ntmps21
  go_wp2_with (go_at_call 23; refine HN.out.mono ?_; rintro e w1 ⟨rfl, h1, f1⟩)
  have HT := hid (HT0.out w1 h1)
  clear h1
  refine HT.out.mono ?_
  rintro e w2 ⟨rfl, h2, f2⟩
  have F2 := hid (f1.trans f2 (fun k hk _ => hk))
  clear f1 f2 HN HT
  replace h2 : RdRep w2 p r2 := h2
  have c2 := h2.c2
  have d1 := h2.c1
  have z1 := Blk.frozen h2 1
  have HH := hid h2
  have HB := hid (Blk.set h2 1 (.int .i64 r.at_))
  have HF := hid (F2.out.setCell ⟨p, 1, none⟩ (.int .i64 r.at_) (fun _ => rfl))
  clear h2 HT0
  have HQ := hid (show (rcells r2).set 1 (.int .i64 r.at_) = rcells { r2 with at_ := r.at_ } from rfl)
  cases hf : r2.failed with
  | true =>
    rw [hf] at c2
    go_wp2_with (fail)
    go_ret
    exact ⟨rfl, by have := HB.out; rw [HQ.out] at this; simpa [undo, hf] using this, HF.out⟩
  | false =>
    rw [hf] at c2
    go_wp2_with (fail)
    go_ret
    exact ⟨rfl, by simpa [undo, hf] using HH.out, F2.out⟩
end Go.Proofs.YtfhkmiifndhacaaDoor
