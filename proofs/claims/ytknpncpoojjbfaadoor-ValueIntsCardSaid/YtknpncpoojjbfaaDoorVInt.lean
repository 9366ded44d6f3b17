/- Proved: for every two 64-bit integers the law ValueInts of chapter 02 returns true. Conditions: none beyond the given statement, a tied card. -/
import Derived.Test.YtknpncpoojjbfaaDoorVF2
import Derived.Test.YtknpncpoojjbfaaDoorVIp
import Derived.Test.YtknpncpoojjbfaaDoorVH
import Derived.Test.YtknpncpoojjbfaaDoorVK
import Derived.Test.YtknpncpoojjbfaaDoorVR
import Derived.Test.YtknpncpoojjbfaaDoorCards
import Derived.Test.YtknpncpoojjbfaaDoorTie
import Derived.SevenTiedAt
set_option linter.unusedVariables false
namespace Go.Proofs.YtknpncpoojjbfaaDoor
open Go.RowKit Go.VB Go.VB.Oct Go.VB.Rec
theorem lbytes_go (a b : List UInt8) (ha : a.length ≤ 1099511627776) (hb : b.length ≤ 1099511627776) (w : World) : Calls Tryd.prog 31 #[.string (bs a), .string (bs b)] w fun e w' => e = .returned (.int .i64 (Lib.compareBytes a b)) ∧ Fr (fun _ => False) w w' := by
  have H := hid (Texts_go a b ha hb)
  go_enter Tryd.func31, Tryd.ntmps31
  go_wp2_with (go_at_call 41; refine (H.out _).mono ?_; rintro e w1 ⟨rfl, f⟩; have F1 := hid f; clear f)
  go_ret
  exact ⟨rfl, F1.out⟩
/-- integers as cells -/
def ic (l : List Int) : List Value := l.map fun n => .int .i64 n
/-- the array and two values in variables -/
structure IS (w0 W : World) (d e1 e2 : Nat) (l : List Int) (X Y : V) : Prop where
  l : Blk W d (ic l) 51
  x : Blk W e1 (V.cells X) 28
  y : Blk W e2 (V.cells Y) 28
  gv : Gv W
  fr : Fr (fun _ => False) w0 W
theorem IS.fre {w0 W W' : World} {d e1 e2 : Nat} {l : List Int} {X Y : V} (h : IS w0 W d e1 e2 l X Y) (f : Fr (fun _ => False) W W') : IS w0 W' d e1 e2 l X Y :=
  ⟨h.l.fr f (fun h => h), h.x.fr f (fun h => h), h.y.fr f (fun h => h), h.gv.fre f, h.fr.trans f (fun _ h _ => h)⟩
theorem IS.rx {w0 W : World} {d e1 e2 : Nat} {l : List Int} {X Y : V} (h : IS w0 W d e1 e2 l X Y) : W.rangeAt e1 0 (V.cells X) := h.x.all
theorem IS.ry {w0 W : World} {d e1 e2 : Nat} {l : List Int} {X Y : V} (h : IS w0 W d e1 e2 l X Y) : W.rangeAt e2 0 (V.cells Y) := h.y.all
/-- a row of one value that was just built -/
theorem one_sl (W : World) (X : V) : Sl (fun k => k < (W.alloc (.cells (V.cells X).toArray 28)).heap.size) (W.alloc (.cells (V.cells X).toArray 28)) (.slice (some ⟨W.heap.size, 0, none⟩) 1 1) [X].length ([X].flatMap V.cells) :=
  ⟨_, 1, rfl, Nat.le_refl _, fun _ => ⟨W.heap.size, 0, rfl, by rw [World.size_alloc]; omega, by
    have := (Blk.new W (V.cells X) 28).all
    simpa using this⟩⟩
theorem ic_at {l : List Int} {j : Nat} (h : j < l.length) : (ic l)[j]? = some (.int .i64 l[j]) := by simp [ic, h]
set_option maxRecDepth 20000 in
set_option maxHeartbeats 4000000 in
theorem Ints_walk {w : World} (G : Gv w) {a b : Int} (ha : in64 a) (hb : in64 b) :
    Calls Tryd.prog 11 #[.int .i64 a, .int .i64 b] w fun e w' => e = .returned (.bool true) ∧ Fr (fun _ => False) w w' := by
  have HG := hid G
  have HSA := hid (sanity_go G)
  have HA := hid ha
  have HB := hid hb
  clear G ha hb
  go_enter Tryd.func11, Tryd.ntmps11
  go_wp2_with (fail)
  refine HSA.out.mono ?_
  rintro e w1 ⟨rfl, f⟩
  have F1 := hid f
  clear f HSA
  go_upto_region 3 with fail
  obtain ⟨L, hL⟩ : ∃ L : List Int, L = [a, b, wrap64 (a + 1), wrap64 (-b)] := ⟨_, rfl⟩
  have HLL := hid (show L.length = 4 by rw [hL]; rfl)
  have w64 : ∀ n, in64 (wrap64 n) := fun n => by unfold in64 wrap64; omega
  have HIN := hid (show ∀ x ∈ L, in64 x from by
    intro x hx
    rw [hL] at hx
    simp only [List.mem_cons, List.not_mem_nil, or_false] at hx
    rcases hx with rfl | rfl | rfl | rfl
    · exact HA.out
    · exact HB.out
    · exact w64 _
    · exact w64 _)
  have B0 := hid (Blk.new_of w1 (l := ic L) 51 (by rw [hL]; rfl) : Blk (w1.alloc (.cells #[.int .i64 a, .int .i64 b, .int .i64 (wrap64 (a + 1)), .int .i64 (wrap64 (-b))] 51)) w1.heap.size (ic L) 51)
  have F2 := hid (F1.out.alloc (.cells #[.int .i64 a, .int .i64 b, .int .i64 (wrap64 (a + 1)), .int .i64 (wrap64 (-b))] 51))
  have HGW := hid (HG.out.fre F2.out)
  clear w64 hL F1 HG HA HB
  generalize w1.heap.size = d at *
  generalize w1.alloc _ = W at *
  go_wp2_with (fail)
  go_loopw [7] (fun i wr => ∃ j : Nat, j ≤ 4 ∧ i = .int .i64 j ∧ Blk wr d (ic L) 51 ∧ Gv wr ∧ Fr (fun _ => False) w wr) (fun i _ => 4 - (intOf i).toNat)
  case atStart => exact ⟨0, by omega, rfl, B0.out, HGW.out, F2.out⟩
  case round =>
    obtain ⟨j, hj4, rfl, hb, hg, hf⟩ := hrel
    have B1 := hid hb
    have G1 := hid hg
    have F3 := hid hf
    clear hb hg hf B0 F2 HGW
    by_cases hj : j < 4
    · have i1 : (0 : Int) ≤ (j : Int) := by omega
      have i2 : (j : Int) < 4 := by omega
      go_wp2_with (fail)
      go_loopw [8] (fun i wt => ∃ m : Nat, m ≤ 4 ∧ i = .int .i64 m ∧ Blk wt d (ic L) 51 ∧ Gv wt ∧ Fr (fun _ => False) w wt) (fun i _ => 4 - (intOf i).toNat)
      case atStart => exact ⟨0, by omega, rfl, B1.out, G1.out, F3.out⟩
      case round =>
        obtain ⟨m, hm4, rfl, hb, hg, hf⟩ := hrel
        have B2 := hid hb
        have G2 := hid hg
        have F4 := hid hf
        clear hb hg hf B1 F3 G1
        by_cases hm : m < 4
        · have i3 : (0 : Int) ≤ (m : Int) := by omega
          have i4 : (m : Int) < 4 := by omega
          have hjl : j < L.length := by have := HLL.out; omega
          have hml : m < L.length := by have := HLL.out; omega
          obtain ⟨x, hx⟩ : ∃ x, x = L[j] := ⟨_, rfl⟩
          obtain ⟨y, hy⟩ : ∃ y, y = L[m] := ⟨_, rfl⟩
          have q1 : wr.cell? ⟨d, j, none⟩ = some (.int .i64 x) := by rw [hx]; exact (B2.out.cell j).trans (ic_at hjl)
          have q2 : wr.cell? ⟨d, m, none⟩ = some (.int .i64 y) := by rw [hy]; exact (B2.out.cell m).trans (ic_at hml)
          have hcx : (ic L)[j]? = some (.int .i64 x) := by rw [hx]; exact ic_at hjl
          have hcy : (ic L)[m]? = some (.int .i64 y) := by rw [hy]; exact ic_at hml
          have IX := hid (show in64 x from hx ▸ HIN.out _ (List.getElem_mem hjl))
          have IY := hid (show in64 y from hy ▸ HIN.out _ (List.getElem_mem hml))
          clear hx hy hjl hml
          go_upto_region 10 with fail
          have FA := (Fr.refl (fun _ => False) wr).alloc (.cells #[.int .i64 1, .int .i64 x, .string ⟨#[]⟩] 28)
          have BX := hid (Blk.new_of wr (l := V.cells (vi x)) 28 rfl : Blk (wr.alloc (.cells #[.int .i64 1, .int .i64 x, .string ⟨#[]⟩] 28)) wr.heap.size (V.cells (vi x)) 28)
          replace B2 := hid (B2.out.fr FA (fun h => h))
          replace G2 := hid (G2.out.fre FA)
          replace F4 := hid (F4.out.trans FA (fun _ h _ => h))
          replace q2 := cell_fr q2 FA (fun h => h)
          clear FA q1
          generalize wr.heap.size = e1 at *
          generalize wr.alloc _ = W1 at *
          go_upto_region 11 with fail
          have FA := (Fr.refl (fun _ => False) W1).alloc (.cells #[.int .i64 1, .int .i64 y, .string ⟨#[]⟩] 28)
          have HS := hid (show IS w (W1.alloc (.cells #[.int .i64 1, .int .i64 y, .string ⟨#[]⟩] 28)) d e1 W1.heap.size L (vi x) (vi y) from
            ⟨B2.out.fr FA (fun h => h), BX.out.fr FA (fun h => h), Blk.new_of W1 (l := V.cells (vi y)) 28 rfl, G2.out.fre FA, F4.out.trans FA (fun _ h _ => h)⟩)
          replace q2 := cell_fr q2 FA (fun h => h)
          have q1 : (W1.alloc (.cells #[.int .i64 1, .int .i64 y, .string ⟨#[]⟩] 28)).cell? ⟨d, j, none⟩ = some (.int .i64 x) := (HS.out.l.cell j).trans hcx
          clear FA BX B2 G2 F4
          generalize W1.heap.size = e2 at *
          generalize W1.alloc _ = W2 at *
          have l1 := vi_keys IX.out IY.out
          have l2 := vi_key_len x
          have l3 := vi_key_len y
          have l4 := vi_fits x y
          have l5 := vi_text x y
          have l6 := vi_bytes_len x
          have l7 := vi_cmp x y
          have hz : (x < y ∧ ¬ y < x ∧ Lib.compareInt x y = -1) ∨ (¬ x < y ∧ ¬ y < x ∧ Lib.compareInt x y = 0) ∨ (¬ x < y ∧ y < x ∧ Lib.compareInt x y = 1) := by unfold Lib.compareInt; split <;> (try split) <;> omega
          have HTA := hid (fun W (h : IS w W d e1 e2 L (vi x) (vi y)) => VText_go (vi x) (Nat.zero_le _) IX.out.1 IX.out.2 h.gv.tb h.gv.ml)
          have HTB := hid (fun W (h : IS w W d e1 e2 L (vi x) (vi y)) => VText_go (vi y) (Nat.zero_le _) IY.out.1 IY.out.2 h.gv.tb h.gv.ml)
          have HFI := hid (fun W (h : IS w W d e1 e2 L (vi x) (vi y)) => VFits_go (vi x) 3 (vi y) h.gv.kn)
          have HCM := hid (fun W (h : IS w W d e1 e2 L (vi x) (vi y)) => VCompare_go (vi x) (vi y) h.gv.kn)
          have HKA := hid (fun W (h : IS w W d e1 e2 L (vi x) (vi y)) => VKey_go (one_sl W (vi x)) (fun _ h => h) (Nat.le_of_ble_eq_true rfl) (h.gv.fre ((Fr.refl _ W).alloc _)).ml)
          have HKB := hid (fun W (h : IS w W d e1 e2 L (vi x) (vi y)) => VKey_go (one_sl W (vi y)) (fun _ h => h) (Nat.le_of_ble_eq_true rfl) (h.gv.fre ((Fr.refl _ W).alloc _)).ml)
          have HBY := hid (fun W (_ : IS w W d e1 e2 L (vi x) (vi y)) => VBytes_go (one_sl W (vi x)) (fun _ h => h) (Nat.le_of_ble_eq_true rfl))
          generalize rowKey [vi x] = K at *
          generalize rowKey [vi y] = L' at *
          generalize rowBytes [vi x] = X at *
          generalize (vi x).text = ta at *
          generalize (vi y).text = tb at *
          have HLB := hid (lbytes_go K L' (by omega) (by omega))
          rw [l1] at HLB
          rw [l7] at HCM
          rw [l4] at HFI
          rw [Bool.eq_iff_iff, beq_iff_eq, ← decide_eq_true_iff (p := ta = tb), ← Bool.eq_iff_iff, ← beq_dec] at l5
          have e1s := bs_size K
          have e2s := bs_size X
          rw [l2] at e1s
          rw [l6] at e2s
          clear l1 l2 l3 l6 l7
          generalize Lib.compareInt x y = z at *
          have HQ := hid (fun (W' : World) (h : IS w W' d e1 e2 L (vi x) (vi y)) => (And.intro ((h.l.cell j).trans hcx) ((h.l.cell m).trans hcy) : W'.cell? ⟨d, j, none⟩ = some (.int .i64 x) ∧ W'.cell? ⟨d, m, none⟩ = some (.int .i64 y)))
          clear hcx hcy l4
          rcases hz with ⟨hz1, hz2, rfl⟩ | ⟨hz1, hz2, rfl⟩ | ⟨hz1, hz2, rfl⟩
          all_goals
            first
              | have l5f : ((bs ta).toList == (bs tb).toList) = false := l5
              | have l5f : ((bs ta).toList == (bs tb).toList) = true := l5
            clear l5
            go_upto_region 12 with fail
            replace HS := hid (HS.out.fre ((Fr.refl (fun _ => False) W2).drew))
            clear q1 q2
            refine wp_region_scr (.take 0 (.take 1 (.take 2 (.take 3 (.take 4 (.take 5 (.take 6 .done))))))) (fun kz w => (kz ≤ 7 → w.cell? ⟨d, j, none⟩ = some (.int .i64 x) ∧ w.cell? ⟨d, m, none⟩ = some (.int .i64 y)) ∧ True) (by kernel_rfl) (by kernel_rfl) (by intro c a d v w h; cases d <;> exact h) ?_
            repeat
              first
              | (refine wpT_pure rfl rfl rfl ?_; apply Exists.intro; refine ⟨?_, ?_⟩; intro w; (first | (obtain ⟨qa1, qa2⟩ := qa; go_simp <;> rfl) | (go_simp <;> rfl)); simp only [Act.put, List.setIfInBounds_toArray, List.set_cons_zero, List.set_cons_succ])
              | (refine wpT_take 7 rfl rfl (by decide +kernel) ⟨fun _ => HQ.out _ HS.out, trivial⟩ ?_; apply Exists.intro; refine ⟨?_, ?_⟩; intro w hw; (have qa := hw.1 (Nat.le_refl _); have qb := hw.2); (first | (obtain ⟨qa1, qa2⟩ := qa; go_simp <;> rfl) | (go_simp <;> rfl)); simp only [Act.put, List.setIfInBounds_toArray, List.set_cons_zero, List.set_cons_succ])
              | (refine wpT_skip rfl rfl ?_; simp only [Act.put, List.setIfInBounds_toArray, List.set_cons_zero, List.set_cons_succ])
            refine wpT_nil ?_
            go_upto_region 14 with fail
            replace HS := hid (HS.out.fre ((Fr.refl (fun _ => False) _).drew))
            refine wp_region_scr (.take 0 (.take 1 (.take 2 (.take 3 (.take 4 (.take 5 (.take 6 .done))))))) (fun kz w => (kz ≤ 7 → w.cell? ⟨d, j, none⟩ = some (.int .i64 x) ∧ w.cell? ⟨d, m, none⟩ = some (.int .i64 y)) ∧ True) (by kernel_rfl) (by kernel_rfl) (by intro c a d v w h; cases d <;> exact h) ?_
            repeat
              first
              | (refine wpT_pure rfl rfl rfl ?_; apply Exists.intro; refine ⟨?_, ?_⟩; intro w; (first | (obtain ⟨qa1, qa2⟩ := qa; go_simp <;> rfl) | (go_simp <;> rfl)); simp only [Act.put, List.setIfInBounds_toArray, List.set_cons_zero, List.set_cons_succ])
              | (refine wpT_take 7 rfl rfl (by decide +kernel) ⟨fun _ => HQ.out _ HS.out, trivial⟩ ?_; apply Exists.intro; refine ⟨?_, ?_⟩; intro w hw; (have qa := hw.1 (Nat.le_refl _); have qb := hw.2); (first | (obtain ⟨qa1, qa2⟩ := qa; go_simp <;> rfl) | (go_simp <;> rfl)); simp only [Act.put, List.setIfInBounds_toArray, List.set_cons_zero, List.set_cons_succ])
              | (refine wpT_skip rfl rfl ?_; simp only [Act.put, List.setIfInBounds_toArray, List.set_cons_zero, List.set_cons_succ])
            refine wpT_nil ?_
            generalize W2.drew.drew = W3 at *
            obtain ⟨p0, p1, p2⟩ : W3.cell? ⟨e1, 0, none⟩ = some (.int .i64 1) ∧ W3.cell? ⟨e1, 1, none⟩ = some (.int .i64 x) ∧ W3.cell? ⟨e1, 2, none⟩ = some (.string ⟨#[]⟩) := ⟨HS.out.x.cell 0, HS.out.x.cell 1, HS.out.x.cell 2⟩
            go_wp2_with (fail)
            refine (HKA.out _ HS.out).mono ?_
            rintro e w3 ⟨rfl, f⟩
            replace HS := hid (HS.out.fre (((Fr.refl (fun _ => False) W3).alloc _).trans f (fun _ h _ => h)))
            clear f p0 p1 p2
            obtain ⟨p0, p1, p2⟩ : w3.cell? ⟨e2, 0, none⟩ = some (.int .i64 1) ∧ w3.cell? ⟨e2, 1, none⟩ = some (.int .i64 y) ∧ w3.cell? ⟨e2, 2, none⟩ = some (.string ⟨#[]⟩) := ⟨HS.out.y.cell 0, HS.out.y.cell 1, HS.out.y.cell 2⟩
            go_wp2_with (fail)
            refine (HKB.out _ HS.out).mono ?_
            rintro e w4 ⟨rfl, f⟩
            replace HS := hid (HS.out.fre (((Fr.refl (fun _ => False) w3).alloc _).trans f (fun _ h _ => h)))
            clear f p0 p1 p2
            go_upto_region 18 with fail
            replace HS := hid (HS.out.fre ((Fr.refl (fun _ => False) w4).drew))
            refine wp_region_scr (.take 0 (.take 1 (.take 3 (.op 2 (.take 4 (.take 5 (.take 6 (.take 7 (.take 9 (.op 8 (.take 10 (.take 11 (.take 12 (.take 13 (.take 14 (.take 15 (.take 16 (.take 17 (.take 18 (.take 19 (.take 21 (.take 22 (.op 20 (.take 23 (.take 24 (.take 25 (.take 26 (.take 28 (.take 31 (.take 32 (.op 27 (.op 29 (.take 30 (.take 33 (.take 34 (.take 35 (.take 36 (.op 37 (.op 38 (.take 39 (.take 40 (.take 41 .done)))))))))))))))))))))))))))))))))))))))))) (fun kz w => (kz ≤ 42 → w.rangeAt e1 0 [.int .i64 1, .int .i64 x, .string ⟨#[]⟩] ∧ w.rangeAt e2 0 [.int .i64 1, .int .i64 y, .string ⟨#[]⟩]) ∧ True) (by kernel_rfl) (by kernel_rfl) (by intro c a d v w h; cases d <;> exact h) ?_
            repeat
              first
              | (refine wpT_pure rfl rfl rfl ?_; apply Exists.intro; refine ⟨?_, ?_⟩; intro w; (first | (first | exact run_load_mid _ _ rfl e1 _ rfl _ _ qa.1 Tryd.underlying28 rfl size_V | exact run_load_mid _ _ rfl e2 _ rfl _ _ qa.2 Tryd.underlying28 rfl size_V | (go_simp <;> rfl)) | (go_simp <;> rfl)); simp only [Act.put, List.setIfInBounds_toArray, List.set_cons_zero, List.set_cons_succ])
              | (refine wpT_take 42 rfl rfl (by decide +kernel) ⟨fun _ => ⟨HS.out.rx, HS.out.ry⟩, trivial⟩ ?_; apply Exists.intro; refine ⟨?_, ?_⟩; intro w hw; (have qa := hw.1 (Nat.le_refl _); have qb := hw.2); (first | (first | exact run_load_mid _ _ rfl e1 _ rfl _ _ qa.1 Tryd.underlying28 rfl size_V | exact run_load_mid _ _ rfl e2 _ rfl _ _ qa.2 Tryd.underlying28 rfl size_V | (go_simp <;> rfl)) | (go_simp <;> rfl)); simp only [Act.put, List.setIfInBounds_toArray, List.set_cons_zero, List.set_cons_succ])
              | (refine wpT_skip rfl rfl ?_; simp only [Act.put, List.setIfInBounds_toArray, List.set_cons_zero, List.set_cons_succ])
            refine wpT_op rfl ?_
            go_wp2_with ((go_at_call 17; refine (HCM.out _ HS.out).mono ?_; rintro e w_ ⟨rfl, f⟩; replace HS := hid (HS.out.fre f); clear f))
            (refine ⟨?_, ?_⟩; focus (intro kz hk hk2 hh; first | (exfalso; simp at hk2; omega) | exact hh | exact (fun h => absurd h (by omega)) | obtain ⟨qa, qb⟩ := hh; first | exact ⟨qa, qb⟩ | (refine ⟨fun h => absurd h (by omega), ?_⟩; first | exact qb | (exact ⟨HS.out.rx, HS.out.ry⟩)) | (refine ⟨fun h => ?_, ?_⟩; (have qa := qa h); all_goals (first | exact qa | exact qb | (exact ⟨HS.out.rx, HS.out.ry⟩)))))
            repeat
              first
              | (refine wpT_pure rfl rfl rfl ?_; apply Exists.intro; refine ⟨?_, ?_⟩; intro w; (first | (first | exact run_load_mid _ _ rfl e1 _ rfl _ _ qa.1 Tryd.underlying28 rfl size_V | exact run_load_mid _ _ rfl e2 _ rfl _ _ qa.2 Tryd.underlying28 rfl size_V | (go_simp <;> rfl)) | (go_simp <;> rfl)); simp only [Act.put, List.setIfInBounds_toArray, List.set_cons_zero, List.set_cons_succ])
              | (refine wpT_take 42 rfl rfl (by decide +kernel) ⟨fun _ => ⟨HS.out.rx, HS.out.ry⟩, trivial⟩ ?_; apply Exists.intro; refine ⟨?_, ?_⟩; intro w hw; (have qa := hw.1 (Nat.le_refl _); have qb := hw.2); (first | (first | exact run_load_mid _ _ rfl e1 _ rfl _ _ qa.1 Tryd.underlying28 rfl size_V | exact run_load_mid _ _ rfl e2 _ rfl _ _ qa.2 Tryd.underlying28 rfl size_V | (go_simp <;> rfl)) | (go_simp <;> rfl)); simp only [Act.put, List.setIfInBounds_toArray, List.set_cons_zero, List.set_cons_succ])
              | (refine wpT_skip rfl rfl ?_; simp only [Act.put, List.setIfInBounds_toArray, List.set_cons_zero, List.set_cons_succ])
            refine wpT_op rfl ?_
            go_wp2_with ((go_at_call 31; refine (HLB.out _).mono ?_; rintro e w_ ⟨rfl, f⟩; replace HS := hid (HS.out.fre f); clear f))
            (refine ⟨?_, ?_⟩; focus (intro kz hk hk2 hh; first | (exfalso; simp at hk2; omega) | exact hh | exact (fun h => absurd h (by omega)) | obtain ⟨qa, qb⟩ := hh; first | exact ⟨qa, qb⟩ | (refine ⟨fun h => absurd h (by omega), ?_⟩; first | exact qb | (exact ⟨HS.out.rx, HS.out.ry⟩)) | (refine ⟨fun h => ?_, ?_⟩; (have qa := qa h); all_goals (first | exact qa | exact qb | (exact ⟨HS.out.rx, HS.out.ry⟩)))))
            repeat
              first
              | (refine wpT_pure rfl rfl rfl ?_; apply Exists.intro; refine ⟨?_, ?_⟩; intro w; (first | (first | exact run_load_mid _ _ rfl e1 _ rfl _ _ qa.1 Tryd.underlying28 rfl size_V | exact run_load_mid _ _ rfl e2 _ rfl _ _ qa.2 Tryd.underlying28 rfl size_V | (go_simp <;> rfl)) | (go_simp <;> rfl)); simp only [Act.put, List.setIfInBounds_toArray, List.set_cons_zero, List.set_cons_succ])
              | (refine wpT_take 42 rfl rfl (by decide +kernel) ⟨fun _ => ⟨HS.out.rx, HS.out.ry⟩, trivial⟩ ?_; apply Exists.intro; refine ⟨?_, ?_⟩; intro w hw; (have qa := hw.1 (Nat.le_refl _); have qb := hw.2); (first | (first | exact run_load_mid _ _ rfl e1 _ rfl _ _ qa.1 Tryd.underlying28 rfl size_V | exact run_load_mid _ _ rfl e2 _ rfl _ _ qa.2 Tryd.underlying28 rfl size_V | (go_simp <;> rfl)) | (go_simp <;> rfl)); simp only [Act.put, List.setIfInBounds_toArray, List.set_cons_zero, List.set_cons_succ])
              | (refine wpT_skip rfl rfl ?_; simp only [Act.put, List.setIfInBounds_toArray, List.set_cons_zero, List.set_cons_succ])
            refine wpT_op rfl ?_
            go_wp2_with ((go_at_call 32; refine (HFI.out _ HS.out).mono ?_; rintro e w_ ⟨rfl, f⟩; replace HS := hid (HS.out.fre f); clear f))
            (refine ⟨?_, ?_⟩; focus (intro kz hk hk2 hh; first | (exfalso; simp at hk2; omega) | exact hh | exact (fun h => absurd h (by omega)) | obtain ⟨qa, qb⟩ := hh; first | exact ⟨qa, qb⟩ | (refine ⟨fun h => absurd h (by omega), ?_⟩; first | exact qb | (exact ⟨HS.out.rx, HS.out.ry⟩)) | (refine ⟨fun h => ?_, ?_⟩; (have qa := qa h); all_goals (first | exact qa | exact qb | (exact ⟨HS.out.rx, HS.out.ry⟩)))))
            repeat
              first
              | (refine wpT_pure rfl rfl rfl ?_; apply Exists.intro; refine ⟨?_, ?_⟩; intro w; (first | (first | exact run_load_mid _ _ rfl e1 _ rfl _ _ qa.1 Tryd.underlying28 rfl size_V | exact run_load_mid _ _ rfl e2 _ rfl _ _ qa.2 Tryd.underlying28 rfl size_V | (go_simp <;> rfl)) | (go_simp <;> rfl)); simp only [Act.put, List.setIfInBounds_toArray, List.set_cons_zero, List.set_cons_succ])
              | (refine wpT_take 42 rfl rfl (by decide +kernel) ⟨fun _ => ⟨HS.out.rx, HS.out.ry⟩, trivial⟩ ?_; apply Exists.intro; refine ⟨?_, ?_⟩; intro w hw; (have qa := hw.1 (Nat.le_refl _); have qb := hw.2); (first | (first | exact run_load_mid _ _ rfl e1 _ rfl _ _ qa.1 Tryd.underlying28 rfl size_V | exact run_load_mid _ _ rfl e2 _ rfl _ _ qa.2 Tryd.underlying28 rfl size_V | (go_simp <;> rfl)) | (go_simp <;> rfl)); simp only [Act.put, List.setIfInBounds_toArray, List.set_cons_zero, List.set_cons_succ])
              | (refine wpT_skip rfl rfl ?_; simp only [Act.put, List.setIfInBounds_toArray, List.set_cons_zero, List.set_cons_succ])
            refine wpT_op rfl ?_
            go_wp2_with ((go_at_call 34; refine (HTA.out _ HS.out).mono ?_; rintro e w_ ⟨rfl, f⟩; replace HS := hid (HS.out.fre f); clear f))
            (refine ⟨?_, ?_⟩; focus (intro kz hk hk2 hh; first | (exfalso; simp at hk2; omega) | exact hh | exact (fun h => absurd h (by omega)) | obtain ⟨qa, qb⟩ := hh; first | exact ⟨qa, qb⟩ | (refine ⟨fun h => absurd h (by omega), ?_⟩; first | exact qb | (exact ⟨HS.out.rx, HS.out.ry⟩)) | (refine ⟨fun h => ?_, ?_⟩; (have qa := qa h); all_goals (first | exact qa | exact qb | (exact ⟨HS.out.rx, HS.out.ry⟩)))))
            repeat
              first
              | (refine wpT_pure rfl rfl rfl ?_; apply Exists.intro; refine ⟨?_, ?_⟩; intro w; (first | (first | exact run_load_mid _ _ rfl e1 _ rfl _ _ qa.1 Tryd.underlying28 rfl size_V | exact run_load_mid _ _ rfl e2 _ rfl _ _ qa.2 Tryd.underlying28 rfl size_V | (go_simp <;> rfl)) | (go_simp <;> rfl)); simp only [Act.put, List.setIfInBounds_toArray, List.set_cons_zero, List.set_cons_succ])
              | (refine wpT_take 42 rfl rfl (by decide +kernel) ⟨fun _ => ⟨HS.out.rx, HS.out.ry⟩, trivial⟩ ?_; apply Exists.intro; refine ⟨?_, ?_⟩; intro w hw; (have qa := hw.1 (Nat.le_refl _); have qb := hw.2); (first | (first | exact run_load_mid _ _ rfl e1 _ rfl _ _ qa.1 Tryd.underlying28 rfl size_V | exact run_load_mid _ _ rfl e2 _ rfl _ _ qa.2 Tryd.underlying28 rfl size_V | (go_simp <;> rfl)) | (go_simp <;> rfl)); simp only [Act.put, List.setIfInBounds_toArray, List.set_cons_zero, List.set_cons_succ])
              | (refine wpT_skip rfl rfl ?_; simp only [Act.put, List.setIfInBounds_toArray, List.set_cons_zero, List.set_cons_succ])
            refine wpT_op rfl ?_
            go_wp2_with ((go_at_call 34; refine (HTB.out _ HS.out).mono ?_; rintro e w_ ⟨rfl, f⟩; replace HS := hid (HS.out.fre f); clear f))
            (refine ⟨?_, ?_⟩; focus (intro kz hk hk2 hh; first | (exfalso; simp at hk2; omega) | exact hh | exact (fun h => absurd h (by omega)) | obtain ⟨qa, qb⟩ := hh; first | exact ⟨qa, qb⟩ | (refine ⟨fun h => absurd h (by omega), ?_⟩; first | exact qb | (exact ⟨HS.out.rx, HS.out.ry⟩)) | (refine ⟨fun h => ?_, ?_⟩; (have qa := qa h); all_goals (first | exact qa | exact qb | (exact ⟨HS.out.rx, HS.out.ry⟩)))))
            repeat
              first
              | (refine wpT_pure rfl rfl rfl ?_; apply Exists.intro; refine ⟨?_, ?_⟩; intro w; (first | (first | exact run_load_mid _ _ rfl e1 _ rfl _ _ qa.1 Tryd.underlying28 rfl size_V | exact run_load_mid _ _ rfl e2 _ rfl _ _ qa.2 Tryd.underlying28 rfl size_V | (go_simp <;> rfl)) | (go_simp <;> rfl)); simp only [Act.put, List.setIfInBounds_toArray, List.set_cons_zero, List.set_cons_succ])
              | (refine wpT_take 42 rfl rfl (by decide +kernel) ⟨fun _ => ⟨HS.out.rx, HS.out.ry⟩, trivial⟩ ?_; apply Exists.intro; refine ⟨?_, ?_⟩; intro w hw; (have qa := hw.1 (Nat.le_refl _); have qb := hw.2); (first | (first | exact run_load_mid _ _ rfl e1 _ rfl _ _ qa.1 Tryd.underlying28 rfl size_V | exact run_load_mid _ _ rfl e2 _ rfl _ _ qa.2 Tryd.underlying28 rfl size_V | (go_simp <;> rfl)) | (go_simp <;> rfl)); simp only [Act.put, List.setIfInBounds_toArray, List.set_cons_zero, List.set_cons_succ])
              | (refine wpT_skip rfl rfl ?_; simp only [Act.put, List.setIfInBounds_toArray, List.set_cons_zero, List.set_cons_succ])
            refine wpT_op rfl ?_
            go_wp2_with (fail)
            (refine ⟨?_, ?_⟩; focus (intro kz hk hk2 hh; first | (exfalso; simp at hk2; omega) | exact hh | exact (fun h => absurd h (by omega)) | obtain ⟨qa, qb⟩ := hh; first | exact ⟨qa, qb⟩ | (refine ⟨fun h => absurd h (by omega), ?_⟩; first | exact qb | (exact ⟨(HS.out.fre ((Fr.refl (fun _ => False) _).alloc _)).rx, (HS.out.fre ((Fr.refl (fun _ => False) _).alloc _)).ry⟩)) | (refine ⟨fun h => ?_, ?_⟩; (have qa := qa h); all_goals (first | exact qa | exact qb | (exact ⟨(HS.out.fre ((Fr.refl (fun _ => False) _).alloc _)).rx, (HS.out.fre ((Fr.refl (fun _ => False) _).alloc _)).ry⟩)))))
            refine wpT_op rfl ?_
            go_wp2_with ((go_at_call 22; refine (HBY.out _ HS.out).mono ?_; rintro e w_ ⟨rfl, f⟩; replace HS := hid (HS.out.fre (((Fr.refl (fun _ => False) _).alloc _).trans f (fun _ h _ => h))); clear f))
            (refine ⟨?_, ?_⟩; focus (intro kz hk hk2 hh; first | (exfalso; simp at hk2; omega) | exact hh | exact (fun h => absurd h (by omega)) | obtain ⟨qa, qb⟩ := hh; first | exact ⟨qa, qb⟩ | (refine ⟨fun h => absurd h (by omega), ?_⟩; first | exact qb | (exact ⟨HS.out.rx, HS.out.ry⟩)) | (refine ⟨fun h => ?_, ?_⟩; (have qa := qa h); all_goals (first | exact qa | exact qb | (exact ⟨HS.out.rx, HS.out.ry⟩)))))
            repeat
              first
              | (refine wpT_pure rfl rfl rfl ?_; apply Exists.intro; refine ⟨?_, ?_⟩; intro w; (first | (first | exact run_load_mid _ _ rfl e1 _ rfl _ _ qa.1 Tryd.underlying28 rfl size_V | exact run_load_mid _ _ rfl e2 _ rfl _ _ qa.2 Tryd.underlying28 rfl size_V | (go_simp <;> rfl)) | (go_simp <;> rfl)); simp only [Act.put, List.setIfInBounds_toArray, List.set_cons_zero, List.set_cons_succ])
              | (refine wpT_take 42 rfl rfl (by decide +kernel) ⟨fun _ => ⟨HS.out.rx, HS.out.ry⟩, trivial⟩ ?_; apply Exists.intro; refine ⟨?_, ?_⟩; intro w hw; (have qa := hw.1 (Nat.le_refl _); have qb := hw.2); (first | (first | exact run_load_mid _ _ rfl e1 _ rfl _ _ qa.1 Tryd.underlying28 rfl size_V | exact run_load_mid _ _ rfl e2 _ rfl _ _ qa.2 Tryd.underlying28 rfl size_V | (go_simp <;> rfl)) | (go_simp <;> rfl)); simp only [Act.put, List.setIfInBounds_toArray, List.set_cons_zero, List.set_cons_succ])
              | (refine wpT_skip rfl rfl ?_; simp only [Act.put, List.setIfInBounds_toArray, List.set_cons_zero, List.set_cons_succ])
            refine wpT_nil ?_
            go_wp2_with (fail)
            go_roundw
            case rel => exact ⟨m + 1, by omega, by go_num, HS.out.l, HS.out.gv, HS.out.fr⟩
            case measure => simp [intOf]; omega
        · go_wp2_with (fail)
          go_roundw
          case rel => exact ⟨j + 1, by omega, by go_num, B2.out, G2.out, F4.out⟩
          case measure => simp [intOf]; omega
    · go_wp2_with (fail)
      go_ret
      exact ⟨rfl, F3.out⟩
end Go.Proofs.YtknpncpoojjbfaaDoor
namespace Go.Proofs.YtknpncpoojjbfaaDoor.valueInts
open Go.ChangeShapes Go.WideShapes Go.ChangeAt Go.ChangeMaps Go.RowKit Go.VB Go.VB.Rec
set_option maxHeartbeats 400000 in
set_option maxRecDepth 100000 in
theorem lifted (os : Os) (started : os.Started) (H : Type) (enc : TypeId × Value → H) :
    ReturnsInHanded {} Tryd.checked os 11 .any (fun w args => (Rows.valueIntsSpec.pre enc Tryd.prog Tryd.f11 Rows.valueIntsRow.domain false w args ∧ laidMetH Tryd.prog Rows.valueIntsRow.laid w) ∧ sizedMet enc Tryd.prog Tryd.f11 (OpenSpec.ofChange Rows.valueIntsSpec) false w args) (Rows.valueIntsSpec.post enc Tryd.prog Tryd.f11 false true false false) := by
  refine handed_and_shaped (C := Tryd.checked) (X := fun w _ => laidMetH Tryd.prog Rows.valueIntsRow.laid w) (fun _ _ _ hh h => h.of_heap hh) own started (by kernel_rfl) Tryd.func11
    (ChangeSpec.witness_shaped (enc := enc) (C := Tryd.checked) (os := os) (X := fun w _ => laidMetH Tryd.prog Rows.valueIntsRow.laid w) false (startW os) #[.int .i64 0, .int .i64 0] 8 rfl (start_shaped os _) (by kernel_rfl) (by kernel_rfl) (by kernel_rfl) (start_met os _)) ?_
  intro W base args ds gs before hval0 hW hL hsh
  have GV : Hid (Gv W) := hid (gv_of hL hsh)
  clear hL hsh
  have hval : ∀ (j : Nat) t v, Tryd.f11.params[j]? = some t → args[j]? = some v → Value.okWide Tryd.prog W .any base t v := hval0
  have hW' := hW
  obtain ⟨p, q, hA0, hV, rfl, hfz, hnd⟩ := hW
  have hA : DataW.TrodAll enc Tryd.prog W 0 (fun _ => true) true Tryd.f11.params.toList args.toList ds p := hA0
  rw [Tryd.params11] at hA hval
  obtain ⟨v0, vs0, d0, ds0, p0, q0, hargs, rfl, rfl, h0, r0⟩ := trodAll_cons hA
  obtain ⟨v1, vs1, d1, ds1, p1, q1, rfl, rfl, rfl, h1, r1⟩ := trodAll_cons r0
  obtain ⟨rfl, rfl, rfl⟩ := trodAll_nil r1
  obtain rfl : args = #[v0, v1] := by cases args; simp_all
  obtain ⟨rfl, rfl⟩ := trodVars_none hV
  clear hA0 hval0
  refine Calls.mono (R := fun e w' => e = .returned (.bool true) ∧ Fr (fun _ => False) W w') ?_ fun e W' ⟨he, hf⟩ => ⟨_, he, post_law sound (by decide +kernel) rfl rfl (ht := Tryd.underlying4) (by rfl) hW' hf⟩
  obtain ⟨a, rfl, -, -, ha⟩ := open_int (k := .i64) Tryd.underlying2 (hval 0 2 v0 rfl rfl) h0
  obtain ⟨b, rfl, -, -, hb⟩ := open_int (k := .i64) Tryd.underlying2 (hval 1 2 v1 rfl rfl) h1
  exact Ints_walk GV.out (wf_in ha) (wf_in hb)
theorem row_holds : Rows.ValueIntsSaid :=
  OpenClaim.holds_of_wide 11 Tryd.f11 rfl rfl rfl rfl rfl rfl rfl ⟨rfl, rfl, rfl, rfl, rfl⟩ rfl rfl rfl rfl rfl (by kernel_rfl) Tryd.func11 (by kernel_rfl)
    (of_decide_eq_true (by kernel_rfl)) (by unfold Func.isWrapper; first | (rw [if_pos (by decide +kernel)]; kernel_rfl) | (rw [if_neg (by decide +kernel)]; exact ⟨rfl, rfl⟩))
    (fun os started H enc _ => lifted os started H enc)
theorem proved : Rows.ValueIntsCardSaid :=
  Claim7.holds_tied_plain_at .later [] Rows.valueIntsCard.laidKinds true Rows.valueIntsCard.stood.harness true row_holds (fun _ h => by cases h) (by kernel_rfl) (fun _ h => by cases h) valueInts_row_tie rfl ⟨rfl, rfl⟩ (by kernel_rfl) rfl
    (fun f fn hf hfn => by
      obtain rfl : f = 11 := Option.some.inj ((show Tryd.prog.funcNamed "vintner/vintnerlaw02.ValueInts" = some 11 by kernel_rfl).symm.trans hf) |>.symm
      obtain rfl : fn = Tryd.f11 := (Option.some.inj (Tryd.func11.symm.trans hfn)).symm
      exact ⟨by kernel_rfl, fun j t ht => by
        rw [Tryd.params11] at ht
        have hm : t ∈ [2] := by simpa using Array.mem_of_getElem? ht
        have hall : ([2].all fun u => !Tryd.prog.wantsStandIn u) = true := by kernel_rfl
        exact (show Tryd.prog.wantsStandIn t = false by simpa using List.all_eq_true.1 hall t hm)⟩)
    (by kernel_rfl)
end Go.Proofs.YtknpncpoojjbfaaDoor.valueInts
