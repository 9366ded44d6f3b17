/- Proved: for every two integers the law DiskFull of chapter 05 returns true, and its arguments read afterwards as before. Conditions: none beyond the given statement. -/
import Derived.Test.YtfalehgngioheaaDiskY
import Derived.Test.YtfalehgngioheaaFin
namespace Go.Proofs.Ytfalehgngioheaa
open Go.RowKit Go.VB Go.VB.Disk
theorem append_ok {m : DM} {l : Bytes} (h : m.off = false) (ha : m.armed = false) (hl : m.log.length + l.length ≤ 1048576) : m.append l = ({ m with log := m.log ++ l, left := wrap64 (m.left - 1) }, 0) := by
  unfold DM.append DM.operate
  rw [if_neg (by simp [h]), if_neg (by omega)]
  simp [ha]
theorem append_full {m : DM} {l : Bytes} (h : m.off = false) (hl : 1048576 < m.log.length + l.length) : m.append l = (m, 31) := by
  unfold DM.append DM.operate
  rw [if_neg (by simp [h]), if_pos hl]
  simp
def zs (n : Nat) : Bytes := List.replicate n 0
theorem zs_len (n : Nat) : (zs n).length = n := by simp [zs]
theorem bv_zs (n : Nat) : bv (zs n) = zcells n := by
  unfold zs bv zcells
  rw [List.map_replicate]
  rfl
theorem make_conv (w : World) (n : Nat) (hn : n ≤ 1048576) : (convert 37 9 (.slice (some ⟨w.heap.size, 0, none⟩) n n)).run Try.prog (w.alloc (.cells (zcells n).toArray 5)) = .ok (.string (bs (zs n))) (w.alloc (.cells (zcells n).toArray 5)) := by
  have B := Blk.new w (zcells n) 5
  generalize w.alloc (.cells (zcells n).toArray 5) = w1 at *
  have R : w1.rangeAt w.heap.size 0 (bv (zs n)) := by rw [bv_zs]; exact B.all
  exact run_bytes_string (P := Try.prog) R (src := 37) (dst := 9) (e := 5) Try.underlying37 Try.underlying5 Try.underlying9 n n (zs_len n).symm
theorem append_zs {m : DM} {k t n : Nat} (ok : m.Ok k) (h : m.off = false) (ha : m.armed = false) (hl : m.log.length = t) (hn : t + n ≤ 1048576) :
    ∃ m' : DM, m.append (zs n) = (m', 0) ∧ m'.Ok k ∧ m'.off = false ∧ m'.armed = false ∧ m'.log.length = t + n := by
  refine ⟨_, append_ok h ha (by rw [zs_len]; omega), ?_, h, ha, ?_⟩
  · have := Ok_append ok (zs n)
    rwa [append_ok h ha (by rw [zs_len]; omega)] at this
  · simp [zs_len, hl]
set_option maxHeartbeats 1000000 in
theorem DiskFull_walk (a0 a1 : Int) (w : World) : Calls Try.prog 4 #[.int .i64 a0, .int .i64 a1] w fun e w' => e = .returned (.bool true) ∧ Fr (fun _ => False) w w' := by
  obtain ⟨s, hs, hs2⟩ : ∃ s : Nat, a0 % 101 = s ∧ s ≤ 100 := ⟨(a0 % 101).toNat, by omega, by omega⟩
  obtain ⟨m, hm, hm2⟩ : ∃ m : Nat, a1 % 201 = m ∧ m ≤ 200 := ⟨(a1 % 201).toNat, by omega, by omega⟩
  obtain ⟨t, ht⟩ : ∃ t : Nat, t = 1048576 - s := ⟨_, rfl⟩
  have HS := hid hs
  have HM := hid hm
  have HT := hid (show (1048576 : Int) - s = t by omega)
  have HT2 := hid ht
  clear hs hm ht
  go_enter Try.func4, Try.ntmps4
  go_wp2_with (fail)
  refine (sanity_go _).mono ?_
  rintro e w1 ⟨rfl, f1⟩
  go_wp2_with (fail)
  refine (New_G _ _).mono ?_
  rintro e w2 ⟨rfl, g2, f2⟩
  have F2 := f1.trans f2 (fun _ h _ => h)
  have hX : ∀ k, ¬ (fun k => k < w1.heap.size) k → k < w.heap.size → False := fun k h1 h2 => h1 (Nat.lt_of_lt_of_le h2 f1.size)
  clear f1 f2
  generalize w1.heap.size + 1 = d at *
  have hr := fun (x : Int) (hx : x = t) => hx ▸ run_make_u8 w2 t (by have := HT2.out; omega)
  have hc := make_conv w2 t (by have := HT2.out; omega)
  have f3 := (Fr.refl (fun _ => False) w2).alloc (.cells (zcells t).toArray 5)
  generalize w2.alloc (.cells (zcells t).toArray 5) = w3 at *
  have HR := hid hr
  clear hr
  go_wp2_with (first
    | (go_at_call 18; refine (rest_any _ _ _ (by omega) (by omega)).mono ?_; rintro e w' ⟨rfl, rfl⟩; first | rw [HS.out] | rw [HM.out])
    | (refine wpList_makeSlice rfl (t := 37) (lo := .tmp 19) (co := .tmp 19) rfl (v := .slice (some ⟨w2.heap.size, 0, none⟩) t t) (w' := w3) (by exact HR.out _ HT.out) ?_)
    | fail)
  obtain ⟨M1, hM1, ok1, off1, arm1, len1⟩ := append_zs (n := t) (t := 0) (Ok_new 0 (by omega)) rfl rfl rfl (by have := HT2.out; omega)
  have g3 : G (fun k => k < w1.heap.size) w3 d (DM.new 0) := g2.fr f3 (fun _ h => h.elim)
  have F3 := F2.trans f3 (fun _ h _ => h)
  clear hc HR f3 F2 g2
  have hA := Append_G g3 (Ok_new 0 (by omega)) (zs t) (by rw [zs_len]; have := HT2.out; omega)
  rw [hM1] at hA
  refine hA.mono ?_
  rintro e w4 ⟨rfl, g4, f4⟩
  have F4 := F3.trans f4 hX
  clear hM1 hA F3 f4 g3
  have hr := run_make_u8 w4 m (by omega)
  have hc := make_conv w4 m (by omega)
  have f5 := (Fr.refl (fun _ => False) w4).alloc (.cells (zcells m).toArray 5)
  generalize w4.alloc (.cells (zcells m).toArray 5) = w5 at *
  have HR := hid hr
  have L1 := hid len1
  have O1 := hid off1
  have A1 := hid arm1
  clear hr len1 off1 arm1
  go_wp2_with (first
    | (refine wpList_makeSlice rfl (t := 37) (lo := .tmp 24) (co := .tmp 24) rfl (v := .slice (some ⟨w4.heap.size, 0, none⟩) m m) (w' := w5) (by exact HR.out) ?_)
    | fail)
  have g5 := g4.fr f5 (fun _ h => h.elim)
  have F5 := F4.trans f5 (fun _ h _ => h)
  clear HR hc f5 F4 g4
  have hB := Append_G g5 ok1 (zs m) (by rw [zs_len]; omega)
  by_cases hms : s < m
  · have hd : decide (s < m) = true := by simpa using hms
    rw [append_full O1.out (by rw [L1.out, zs_len]; have := HT2.out; omega)] at hB
    refine hB.mono ?_
    rintro e w6 ⟨rfl, g6, f6⟩
    have F6 := F5.trans f6 hX
    clear hB F5 f6 g5
    have hl := Log_G g6
    have ho := On_G g6
    rw [O1.out] at ho
    have hls : (bs M1.log).size = t := by rw [bs_size, L1.out]; omega
    generalize bs M1.log = b at *
    have HL := hid hl
    have HO := hid ho
    have HT3 := HT.out
    clear hl ho
    go_wp2_with (first
      | (go_at_call 22; refine HL.out.mono ?_; rintro e w' ⟨rfl, rfl⟩)
      | (go_at_call 23; refine HO.out.mono ?_; rintro e w' ⟨rfl, rfl⟩))
    go_ret
    exact ⟨rfl, F6⟩
  · have hd : decide (s < m) = false := by simpa using hms
    obtain ⟨M2, hM2, ok2, off2, arm2, len2⟩ := append_zs (n := m) ok1 O1.out A1.out L1.out (by have := HT2.out; omega)
    rw [hM2] at hB
    refine hB.mono ?_
    rintro e w6 ⟨rfl, g6, f6⟩
    have F6 := F5.trans f6 hX
    clear hB F5 f6 g5
    have hl := Log_G g6
    have hls : ((bs M2.log).size : Int) = t + m := by rw [bs_size, len2]; omega
    generalize bs M2.log = b at *
    have HL := hid hl
    have HT3 := HT.out
    clear hl hM2 off2 arm2 len2
    go_wp2_with (first
      | (go_at_call 22; refine HL.out.mono ?_; rintro e w' ⟨rfl, rfl⟩))
    go_ret
    exact ⟨rfl, F6⟩
end Go.Proofs.Ytfalehgngioheaa
namespace Go.Proofs.Ytfalehgngioheaa.diskFull
open Go.ChangeShapes Go.WideShapes Go.ChangeAt Go.RowKit Go.VB
set_option maxRecDepth 100000 in
theorem lifted (os : Os) (started : os.Started) (H : Type) (enc : TypeId × Value → H) :
    ReturnsInHanded {} Try.checked os 4 .any (Rows.diskFullSpec.pre6 enc Try.prog Try.f4 Rows.diskFullRow.domain false) (Rows.diskFullSpec.post enc Try.prog Try.f4 false true false false) := by
  refine returnsInHanded_of_change (C := Try.checked) own started (by kernel_rfl) Try.func4
    (ChangeSpec.witness6 (enc := enc) (C := Try.checked) false ⟨#[], #[.int .i64 0, .int .i64 0], []⟩ 8 (by kernel_rfl) (by kernel_rfl) (by kernel_rfl) (by kernel_rfl)) ?_
  intro W base args ds gs before hval0 hW hcnd _
  have hval : ∀ (j : Nat) t v, Try.f4.params[j]? = some t → args[j]? = some v → Value.okWide Try.prog W .any base t v := hval0
  have hW' := hW
  obtain ⟨p, q, hA0, hV, rfl, hfz, hnd⟩ := hW
  have hA : DataW.TrodAll enc Try.prog W 0 (fun _ => true) true Try.f4.params.toList args.toList ds p := hA0
  rw [Try.params4] at hA hval
  obtain ⟨v0, vs0, d0, ds0, p0, q0, hargs, rfl, rfl, h0, r0⟩ := trodAll_cons hA
  obtain ⟨v1, vs1, d1, ds1, p1, q1, rfl, rfl, rfl, h1, r1⟩ := trodAll_cons r0
  obtain ⟨rfl, rfl, rfl⟩ := trodAll_nil r1
  obtain rfl : args = #[v0, v1] := by cases args; simp_all
  obtain ⟨rfl, rfl⟩ := trodVars_none hV
  clear hA0 hval0
  refine Calls.mono (R := fun e w' => e = .returned (.bool true) ∧ Fr (fun _ => False) W w') ?_ fun e W' ⟨he, hf⟩ => ⟨_, he, post_law sound (by decide +kernel) rfl rfl (ht := Try.underlying4) (by rfl) hW' hf⟩
  obtain ⟨a0, rfl, -, -, -⟩ := open_int Try.underlying3 (hval 0 3 v0 rfl rfl) h0
  obtain ⟨a1, rfl, -, -, -⟩ := open_int Try.underlying3 (hval 1 3 v1 rfl rfl) h1
  exact DiskFull_walk a0 a1 W
theorem proved : Rows.DiskFullSaid :=
  OpenClaim.holds_of_wide 4 Try.f4 rfl rfl rfl rfl rfl rfl rfl ⟨rfl, rfl, rfl, rfl, rfl⟩ rfl rfl rfl rfl rfl (by kernel_rfl) Try.func4 (by kernel_rfl)
    (of_decide_eq_true (by kernel_rfl)) (by unfold Func.isWrapper; first | (rw [if_pos (by decide +kernel)]; kernel_rfl) | (rw [if_neg (by decide +kernel)]; exact ⟨rfl, rfl⟩))
    (fun os started H enc _ => lifted os started H enc)
end Go.Proofs.Ytfalehgngioheaa.diskFull
