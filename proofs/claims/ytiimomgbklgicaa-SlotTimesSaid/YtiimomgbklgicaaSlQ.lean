import Derived.Test.YtiimomgbklgicaaSmC
import Derived.Test.YtiimomgbklgicaaSlH
/- slices.DeleteFunc of the queue; Ack. -/
set_option linter.unusedVariables false
namespace Go.VB.Slt
open Go.VB Go.VB.Oct Go.VB.Cat Go.VB.Rec
/-- the queue beyond k -/
def keep (k : Int) (r : List DnV) : List DnV := r.filter fun d => !decide (d.lsn ≤ k)
theorem keep_take {k : Int} {r : List DnV} {j : Nat} (h : j < r.length) : keep k (r.take (j + 1)) = keep k (r.take j) ++ (if r[j].lsn ≤ k then [] else [r[j]]) := by
  unfold keep
  rw [List.take_succ_eq_append_getElem h, List.filter_append]
  congr 1
  by_cases hk : r[j].lsn ≤ k
  · rw [if_pos hk]; simp [hk]
  · rw [if_neg hk]; simp [hk]
theorem keep_all {k : Int} {r : List DnV} (h : ∀ x ∈ r, ¬ x.lsn ≤ k) : keep k r = r := List.filter_eq_self.2 (fun x hx => by simpa using h x hx)
theorem keep_none {k : Int} {r : List DnV} (h : ∀ x ∈ r, x.lsn ≤ k) : keep k r = [] := List.filter_eq_nil_iff.2 (fun x hx => by simpa using h x hx)
theorem keep_le (k : Int) (r : List DnV) : (keep k r).length ≤ r.length := List.length_filter_le ..
theorem take_put {lg vs : List Value} {a b : Nat} (h : a ≤ lg.length) (hb : b = a + vs.length) : (lg.take a ++ vs ++ lg.drop (a + vs.length)).take b = lg.take a ++ vs := by
  subst hb
  rw [List.take_append_of_le_length (by rw [List.length_append, List.length_take]; omega), List.take_of_length_le (by rw [List.length_append, List.length_take]; omega)]
theorem take_put0 {lg vs : List Value} {a : Nat} (h : a ≤ lg.length) : (lg.take a ++ vs ++ lg.drop (a + vs.length)).take a = lg.take a := by
  rw [List.append_assoc, List.take_append_of_le_length (by rw [List.length_take]; omega), List.take_of_length_le (by rw [List.length_take]; omega)]
theorem put_get {lg vs : List Value} {a o : Nat} (h : a + vs.length ≤ lg.length) (ho : a + vs.length ≤ o) : (lg.take a ++ vs ++ lg.drop (a + vs.length))[o]? = lg[o]? := by
  rw [List.getElem?_append_right (by rw [List.length_append, List.length_take]; omega), List.getElem?_drop, List.length_append, List.length_take]
  congr 1
  omega
theorem put_len {lg vs : List Value} {a : Nat} (h : a + vs.length ≤ lg.length) : (lg.take a ++ vs ++ lg.drop (a + vs.length)).length = lg.length := by
  simp only [List.length_append, List.length_take, List.length_drop]
  omega
end Go.VB.Slt
namespace Go.Proofs.Ytiimomgbklgicaa
open Go.RowKit Go.VB Go.VB.Oct Go.VB.Cat Go.VB.Rec Go.VB.Slt
/-- 'clear' of a slice of structs -/
theorem run_clear_k {P : Program} (w : World) (t e ty : TypeId) (z : Value) (ht : P.underlying t = some (.slice e)) (hv : ∀ w, (zeroValue e).run P w = .ok z w) (h1 : ∀ v ∈ z.cells, v.oneCell' = true) (b o n c : Nat) (hn : 0 < n)
    (hc : ∀ j, j < n * z.cells.size → (w.cell? ⟨b, o + j, none⟩).isSome = true) (hf : ∀ j, j < n * z.cells.size → w.frozen? ⟨b, o + j, none⟩ = false) :
    (Builtin.clear_ #[t] ty #[.slice (some ⟨b, o, none⟩) n c]).run P w = .ok (.tuple #[]) (w.setCells b o (Builtin.zeroCells z.cells n).toList) := by
  have hl : (Builtin.zeroCells z.cells n).toList.length = n * z.cells.size := by simp [Builtin.zeroCells]
  have hst := run_storeCells_cells (P := P) b o (Builtin.zeroCells z.cells n).toList 0 w (by rw [hl]; simpa using hc) (by rw [hl]; simpa using hf) (by
    intro v hv'
    unfold Builtin.zeroCells at hv'
    rw [Array.toList_map, List.mem_map] at hv'
    obtain ⟨i, hi, rfl⟩ := hv'
    have hi : i < n * z.cells.size := by simpa using hi
    have hp : 0 < z.cells.size := Nat.pos_of_ne_zero fun h => by rw [h] at hi; omega
    have hm := Nat.mod_lt i hp
    rw [getElem!_pos z.cells _ hm]
    exact h1 _ (Array.getElem_mem hm))
  simp only [Nat.add_zero] at hst
  obtain ⟨m, rfl⟩ : ∃ m, n = m + 1 := ⟨n - 1, by omega⟩
  simp [Builtin.clear_, run_underlying ht, hv, hst]
theorem zero_dn (w : World) : (zeroValue 72).run Try.prog w = .ok (.agg #[.int .i64 0, .int .i64 0, .slice none 0 0]) w := by kernel_rfl
theorem size_dn : (Try.prog.info? 72).map (·.size) = some 3 := by kernel_rfl
/-- a row's array -/
theorem row_arr {e : TypeId} {size B n g c : Nat} {W : World} {xs : List Value} (h : Row e size B W (.slice (some ⟨g, 0, none⟩) n c) n xs) : ∃ lg, Blk W g lg e ∧ lg.length = c * size ∧ n ≤ c ∧ c ≤ maxLen ∧ lg.take (n * size) = xs := by
  rcases h.own.2 with ⟨h1, _⟩ | ⟨g', cap', cur, h1, hb, hgg, e2, e3, e4, e5⟩
  · cases h1
  · cases h1
    exact ⟨cur.toList, by unfold Blk; simpa using hgg, by rw [Array.length_toList]; exact e4, e2, e3, e5⟩
/-- an array's row -/
theorem arr_row {e : TypeId} {size B n g c : Nat} {W : World} {lg xs : List Value} (hg : B ≤ g) (hb : Blk W g lg e) (hl : lg.length = c * size) (hn : n ≤ c) (hc : c ≤ maxLen) (hx : lg.take (n * size) = xs) (hxl : xs.length = n * size) : Row e size B W (.slice (some ⟨g, 0, none⟩) n c) n xs :=
  ⟨⟨hxl, .inr ⟨g, c, lg.toArray, rfl, Nat.zero_le _, hb, hn, hc, by simpa using hl, by simpa using hx⟩⟩, fun k hk => by simp [Value.ownBlock] at hk; omega⟩
set_option maxRecDepth 20000 in
set_option maxHeartbeats 4000000 in
theorem DeleteDn_go {B b : Nat} {k : Int} {w : World} {va : Value} {r : List DnV} (h : Row 72 3 B w va r.length (r.flatMap DnV.cells)) (hn : r.length ≤ 1048576) (hv : ∀ d ∈ r, ∃ a n c, d.v = .slice a n c) (hc : w.cell? ⟨b, 0, none⟩ = some (.int .i64 k)) (hb : ∀ g, va.ownBlock = some g → g ≠ b) :
    Calls Try.prog 42 #[va, .func (.func 43) #[] #[.pointer (some ⟨b, 0, none⟩)]] w fun e w' => ∃ v', e = .returned v' ∧ Row 72 3 B w' v' (keep k r).length ((keep k r).flatMap DnV.cells) ∧ (∀ g, v'.ownBlock = some g → va.ownBlock = some g) ∧ Fr (fun g => va.ownBlock = some g) w w' := by
  have HI := hid (IndexFunc_dn (p := fun d => decide (d.lsn ≤ k)) h.sl (by omega) (fun x _ w' f => ack1_go x k b (cell_fr hc f (fun h => h))))
  have HH := hid h
  have HC := hid hc
  have HV := hid hv
  obtain ⟨a, cap, rfl, -⟩ := h.slice
  rcases pos_cases (fun d : DnV => decide (d.lsn ≤ k)) r with ⟨hp, hall⟩ | ⟨i0, hi0, hp, hat, hbf⟩
  · have HK := hid (keep_all (k := k) (fun x hx => by simpa using hall x hx))
    rw [hp] at HI
    clear hp hall h hc hv hb
    go_enter Try.func42, Try.ntmps42
    go_wp2_with (go_at_call 64; refine HI.out.mono ?_; rintro e w1 ⟨rfl, f⟩; have F1 := hid f; clear f)
    go_ret
    rw [HK.out]
    exact ⟨_, rfl, HH.out.fre F1.out, fun g h => h, F1.out.mono (fun _ h _ => h.elim)⟩
  · obtain ⟨g, rfl, hgB, -⟩ := row_range h (by
      cases r with
      | nil => simp at hi0
      | cons x l => simp [DnV.cells])
    have HGB := hid (hb g rfl)
    rw [hp] at HI
    obtain ⟨lg0, hlg0, hll0, hnc, hcm, hlt0⟩ := row_arr h
    have HK0 := hid (show keep k (r.take (i0 + 1)) = r.take i0 from by
      rw [keep_take hi0, if_pos (by simpa using hat), List.append_nil]
      exact keep_all (fun x hx => by
        obtain ⟨j, hj, rfl⟩ := List.getElem_of_mem hx
        have hj' : j < i0 := by rw [List.length_take] at hj; omega
        have := hbf j hj'
        rw [List.getElem_take]
        simpa using this))
    have HL0 := hid hlg0
    have HLL := hid hll0
    have HLT := hid hlt0
    have HCM := hid hcm
    obtain ⟨N, hN⟩ : ∃ N, N = r.length := ⟨_, rfl⟩
    rw [← hN] at HI hi0 hn hnc HLT ⊢
    have HNL := hid hN
    have HAT := hid (fun t (ht : t < r.length) => (fun q u hu => by
      have hq : q < 3 := (List.getElem?_eq_some_iff.1 hu).1
      rw [hlg0.cell]
      have e2 := flatK (k := 3) DnV.cells dn3_len r t ht q hq
      have hlt2 : t * 3 + q < r.length * 3 := by omega
      rw [← hlt0, List.getElem?_take, if_pos hlt2] at e2
      rw [e2]; exact hu : w.rangeAt g (t * 3) (DnV.cells r[t])))
    have w9 : IntKind.i64.wrap ((i0 : Int) + 1) = (i0 : Int) + 1 := IntWalk.i64_in _ (by omega)
    have hi1 : ((i0 : Int) == -1) = false := beq_eq_false_iff_ne.2 (by omega)
    have HGG := hid hgB
    clear hp hat hbf h hc hv hb hlg0 hll0 hlt0 hN hcm hgB
    go_enter Try.func42, Try.ntmps42
    go_upto_region 4 with (go_at_call 64; refine HI.out.mono ?_; rintro e w1 ⟨rfl, f⟩; have F1 := hid f; clear f)
    clear HI
    go_wp2_with (fail)
    go_loopw [5, 6] (fun s5 s6 wr => ∃ (i j : Nat) (lg : List Value), i < j ∧ j ≤ N ∧ s5 = .int .i64 i ∧ s6 = .int .i64 j ∧ (keep k (r.take j)).length = i ∧ Blk wr g lg 72 ∧ lg.length = cap * 3 ∧ lg.take (i * 3) = (keep k (r.take j)).flatMap DnV.cells ∧ (∀ t (ht : t < r.length), j ≤ t → wr.rangeAt g (t * 3) (DnV.cells r[t])) ∧ Fr (fun q => q = g) w wr) (fun _ s6 _ => N - (intOf s6).toNat)
    case atStart =>
      refine ⟨i0, i0 + 1, lg0, by omega, by omega, rfl, by go_num, by rw [HK0.out, List.length_take]; have := HNL.out; omega, Blk.fr HL0.out F1.out (fun h => h), HLL.out, ?_, fun t ht hj q u hu => cell_fr (HAT.out t ht q u hu) F1.out (fun h => h), F1.out.mono (fun _ h _ => h.elim)⟩
      rw [HK0.out]
      have e1 := HLT.out
      have e2 : (lg0.take (N * 3)).take (i0 * 3) = lg0.take (i0 * 3) := by rw [List.take_take]; congr 1; omega
      rw [← e2, e1]
      have hnl := HNL.out
      have e3 : r = r.take i0 ++ r.drop i0 := (List.take_append_drop i0 r).symm
      conv => lhs; rw [e3, List.flatMap_append]
      rw [List.take_append_of_le_length (by rw [flat_len dn3_len, List.length_take]; omega), List.take_of_length_le (by rw [flat_len dn3_len, List.length_take]; omega)]
    case round =>
      obtain ⟨i, j, lg, hij, hjN, rfl, rfl, hil, hlg, hlen, htk, hrest, fr⟩ := hrel
      have HIL := hid hil
      have HLG := hid hlg
      have HLEN := hid hlen
      have HTK := hid htk
      have HRS := hid hrest
      have FR := hid fr
      have HCW := hid (cell_fr HC.out fr (fun e => HGB.out e.symm))
      clear hil hlg hlen htk hrest fr HL0 HLL HLT HAT F1 HK0
      by_cases hjn : j < N
      · have hjr : j < r.length := by have := HNL.out; omega
        have HX := hid (HRS.out j hjr (Nat.le_refl _))
        have HKT := hid (keep_take (k := k) hjr)
        obtain ⟨xa, xn, xc, hxv⟩ := HV.out r[j] (List.getElem_mem hjr)
        obtain ⟨x, hx⟩ : ∃ x, x = r[j] := ⟨_, rfl⟩
        rw [← hx] at HX HKT hxv
        clear hx
        obtain ⟨first, lsn, v, cs⟩ := x
        dsimp only at hxv HKT
        subst hxv
        have i1 : (j : Int) < (N : Int) := by omega
        have i2 : (0 : Int) ≤ (j : Int) := by omega
        have q0 : wr.cell? ⟨g, j * 3, none⟩ = some (.int .i64 first) := by have := HX.out 0 (.int .i64 first) rfl; simpa using this
        have q1 : wr.cell? ⟨g, j * 3 + 1, none⟩ = some (.int .i64 lsn) := HX.out 1 (.int .i64 lsn) rfl
        have q2 : wr.cell? ⟨g, j * 3 + 2, none⟩ = some (.slice xa xn xc) := HX.out 2 (.slice xa xn xc) rfl
        go_upto_region 8 with fail
        clear q0 q1 q2 HX
        have fa := (Fr.refl (fun _ => False) wr).alloc (.cells #[.int .i64 first, .int .i64 lsn, .slice xa xn xc] 72)
        have D1 := hid (Blk.new wr [.int .i64 first, .int .i64 lsn, .slice xa xn xc] 72)
        have HDG := hid (show g ≠ wr.heap.size from fun e => by have := HLG.out.lt; omega)
        have HLG1 := hid (Blk.fr HLG.out fa (fun h => h))
        have HRS1 := hid (fun t (ht : t < r.length) (hj : j ≤ t) => (fun q u hu => cell_fr (HRS.out t ht hj q u hu) fa (fun h => h) : (wr.alloc (.cells #[.int .i64 first, .int .i64 lsn, .slice xa xn xc] 72)).rangeAt g (t * 3) (DnV.cells r[t])))
        have FR1 := hid (FR.out.trans fa (fun _ h _ => h.elim))
        have HCW1 := hid (cell_fr HCW.out fa (fun h => h))
        clear fa HLG HRS FR HCW
        generalize wr.heap.size = d at *
        generalize wr.alloc _ = W1 at *
        have HP := hid (ack1_go ⟨first, lsn, .slice xa xn xc, cs⟩ k b HCW1.out)
        have HDA := hid D1.out.all
        cases hd : decide (lsn ≤ k) with
        | true =>
          have hle : lsn ≤ k := by simpa using hd
          have HK2 := hid (show keep k (r.take (j + 1)) = keep k (r.take j) from by rw [HKT.out, if_pos hle, List.append_nil])
          dsimp only at HP
          rw [hd] at HP
          unfold DnV.agg DnV.cells at HP
          clear hd hle HKT
          go_wp2_with (first
            | (refine wpList_load_mid rfl 72 (.tmp 7) rfl d 0 rfl _ _ HDA.out Try.underlying72 rfl size_dn ?_)
            | (go_at_call 43; refine HP.out.mono ?_; rintro e w2 ⟨rfl, f⟩; have F2 := hid f; clear f))
          go_roundw
          case rel => exact ⟨i, j + 1, lg, by omega, by omega, rfl, by go_num, by rw [HK2.out]; exact HIL.out, Blk.fr HLG1.out F2.out (fun h => h), HLEN.out, by rw [HK2.out]; exact HTK.out, fun t ht hj q u hu => cell_fr (HRS1.out t ht (by omega) q u hu) F2.out (fun h => h), FR1.out.trans F2.out (fun _ h _ => h.elim)⟩
          case measure => simp [intOf]; omega
        | false =>
          have hle : ¬ lsn ≤ k := by simpa using hd
          have HK2 := hid (show keep k (r.take (j + 1)) = keep k (r.take j) ++ [⟨first, lsn, .slice xa xn xc, cs⟩] from by rw [HKT.out, if_neg hle])
          dsimp only at HP
          rw [hd] at HP
          unfold DnV.agg DnV.cells at HP
          clear hd hle HKT
          go_upto_region 9 with (first
            | (refine wpList_load_mid rfl 72 (.tmp 7) rfl d 0 rfl _ _ HDA.out Try.underlying72 rfl size_dn ?_)
            | (go_at_call 43; refine HP.out.mono ?_; rintro e w2 ⟨rfl, f⟩; have F2 := hid f; clear f))
          have D2 := hid (Blk.fr D1.out F2.out (fun h => h))
          have HLG2 := hid (Blk.fr HLG1.out F2.out (fun h => h))
          have HRS2 := hid (fun t (ht : t < r.length) (hj : j ≤ t) => (fun q u hu => cell_fr (HRS1.out t ht hj q u hu) F2.out (fun h => h) : w2.rangeAt g (t * 3) (DnV.cells r[t])))
          have FR2 := hid (FR1.out.trans F2.out (fun _ h _ => h.elim))
          have HDA2 := hid D2.out.all
          have hcap : j + 1 ≤ cap := by omega
          have hll : (i + 1) * 3 ≤ lg.length := by rw [HLEN.out]; omega
          have hth := HLG2.out.there (i * 3) 3 (by omega)
          have HLA := hid (show Blk (w2.setCells g (i * 3) [.int .i64 first, .int .i64 lsn, .slice xa xn xc]) g (lg.take (i * 3) ++ [Value.int .i64 first, .int .i64 lsn, .slice xa xn xc] ++ lg.drop (i * 3 + 3)) 72 from HLG2.out.put (i * 3) [.int .i64 first, .int .i64 lsn, .slice xa xn xc] (by simp; omega))
          have HLN := hid (show (lg.take (i * 3) ++ [Value.int .i64 first, .int .i64 lsn, .slice xa xn xc] ++ lg.drop (i * 3 + 3)).length = cap * 3 from by rw [← HLEN.out]; exact put_len (vs := [.int .i64 first, .int .i64 lsn, .slice xa xn xc]) (by simp; omega))
          have HTA := hid (show (lg.take (i * 3) ++ [Value.int .i64 first, .int .i64 lsn, .slice xa xn xc] ++ lg.drop (i * 3 + 3)).take ((i + 1) * 3) = (keep k (r.take (j + 1))).flatMap DnV.cells from by
            refine (take_put (lg := lg) (vs := [.int .i64 first, .int .i64 lsn, .slice xa xn xc]) (a := i * 3) (b := (i + 1) * 3) (by omega) (by simp; omega)).trans ?_
            rw [HTK.out, HK2.out, List.flatMap_append]
            rfl)
          have HRA := hid (fun t (ht : t < r.length) (hj : j + 1 ≤ t) => (fun q u hu => by
            have hq : q < 3 := (List.getElem?_eq_some_iff.1 hu).1
            rw [HLA.out.cell]
            refine (put_get (lg := lg) (vs := [.int .i64 first, .int .i64 lsn, .slice xa xn xc]) (a := i * 3) (o := t * 3 + q) (by simp; omega) (by simp; omega)).trans ?_
            rw [← HLG2.out.cell]
            exact HRS2.out t ht (by omega) q u hu : (w2.setCells g (i * 3) [.int .i64 first, .int .i64 lsn, .slice xa xn xc]).rangeAt g (t * 3) (DnV.cells r[t])))
          have FRA := hid (FR2.out.trans ((Fr.refl (fun k => k = g) w2).put g (i * 3) [.int .i64 first, .int .i64 lsn, .slice xa xn xc] (fun _ => rfl)) (fun _ h _ => h))
          have b6 : (i : Int) < (N : Int) := by omega
          have b7 : (0 : Int) ≤ (i : Int) := by omega
          have HTH := hid hth
          clear hth D1 HLG1 HRS1 FR1 F2 HDA
          go_wp2_with (first
            | (refine wpList_load_mid rfl 72 (.tmp 7) rfl d 0 rfl _ _ HDA2.out Try.underlying72 rfl size_dn ?_)
            | (refine wpList_store_mid rfl 72 (.tmp 33) (.tmp 32) rfl g (i * 3) #[.int .i64 first, .int .i64 lsn, .slice xa xn xc] rfl rfl HTH.out size_dn (by simp [Value.oneCell']) ?_))
          go_roundw
          case rel => exact ⟨i + 1, j + 1, _, by omega, by omega, by go_num, by go_num, by rw [HK2.out, List.length_append, HIL.out]; rfl, HLA.out, HLN.out, HTA.out, HRA.out, FRA.out⟩
          case measure => simp [intOf]; omega
      · obtain rfl : j = N := by omega
        have i1 : ¬ (j : Int) < (j : Int) := by omega
        have HKE := hid (show keep k (r.take j) = keep k r from by rw [List.take_of_length_le (by have := HNL.out; omega)])
        have hll : lg.length = cap * 3 := HLEN.out
        have hcl : ∀ ty, (Builtin.clear_ #[66] ty #[.slice (some ⟨g, i * 3, none⟩) (j - i) (cap - i)]).run Try.prog wr = .ok (.tuple #[]) (wr.setCells g (i * 3) (Builtin.zeroCells (Value.agg #[.int .i64 0, .int .i64 0, .slice none 0 0]).cells (j - i)).toList) :=
          fun ty => run_clear_k wr 66 72 ty _ Try.underlying66 zero_dn (by simp [Value.cells, Value.oneCell']) g (i * 3) _ _ (by omega)
            (fun q hq => by
              have hq : q < (j - i) * 3 := hq
              rw [HLG.out.cell, List.getElem?_eq_getElem (by omega)]; rfl) (fun q hq => HLG.out.frozen _)
        have HZL := hid (show (Builtin.zeroCells (Value.agg #[.int .i64 0, .int .i64 0, .slice none 0 0]).cells (j - i)).toList.length = (j - i) * 3 from by simp [Builtin.zeroCells, Value.cells])
        generalize (Builtin.zeroCells (Value.agg #[.int .i64 0, .int .i64 0, .slice none 0 0]).cells (j - i)).toList = Z at *
        have HLA := hid (HLG.out.put (i * 3) Z (by rw [HZL.out]; omega))
        have FRA := hid (FR.out.trans ((Fr.refl (fun k => k = g) wr).put g (i * 3) Z (fun _ => rfl)) (fun _ h _ => h))
        have HROW := hid (show Row 72 3 B (wr.setCells g (i * 3) Z) (.slice (some ⟨g, 0, none⟩) i cap) i ((keep k r).flatMap DnV.cells) from
          arr_row HGG.out HLA.out (by rw [put_len (by rw [HZL.out]; omega)]; exact hll) (by omega) HCM.out (by rw [take_put0 (by omega), HTK.out, HKE.out]) (by rw [flat_len dn3_len, ← HKE.out, HIL.out]))
        have b6 : (i : Int) ≤ (j : Int) := by omega
        have b7 : (0 : Int) ≤ (i : Int) := by omega
        have b8 : (i : Int) ≤ (cap : Int) := by omega
        go_wp2_with (fail)
        go_ret
        have e1 : (keep k r).length = i := by rw [← HKE.out]; exact HIL.out
        rw [e1]
        exact ⟨_, rfl, HROW.out, fun q h => h, FRA.out.mono (fun q hq _ => by rw [hq]; rfl)⟩
end Go.Proofs.Ytiimomgbklgicaa
