/- Proved: for every number of renames the law SlotTimes of chapter 16 returns true, and its argument reads afterwards as before. Conditions: none beyond the given statement. -/
import Derived.Test.YtiimomgbklgicaaSlTmM
import Derived.Test.YtiimomgbklgicaaSlY
import Derived.Test.YtiimomgbklgicaaFin
set_option linter.unusedVariables false
namespace Go.Proofs.Ytiimomgbklgicaa
open Go.RowKit Go.VB Go.VB.Oct Go.VB.Cat Go.VB.Rec Go.VB.Slt
/-- a catalog and a slot, apart -/
structure TS (w W : World) (c s : Nat) (Sc X : Nat → Prop) (t : List Tab) (m : Slt) (N : Nat) : Prop where
  c : CR 93 Sc W c t
  h : SH X W s m N
  cs : ∀ k, Sc k → w.heap.size ≤ k
  xs : ∀ k, X k → w.heap.size ≤ k
  ap : ∀ k, Sc k → ¬ X k
  f : Fr (fun _ => False) w W
theorem CR.lt2 {tc : TypeId} {S : Nat → Prop} {W : World} {c : Nat} {m : List Tab} (h : CR tc S W c m) {k : Nat} (hk : S k) : k < W.heap.size := by
  obtain ⟨v, ts, h, -⟩ := h
  exact h.lt k hk
theorem TS.fre {w W W' : World} {c s : Nat} {Sc X : Nat → Prop} {t : List Tab} {m : Slt} {N : Nat} (h : TS w W c s Sc X t m N) (f : Fr (fun _ => False) W W') : TS w W' c s Sc X t m N := ⟨h.c.fre f, h.h.fre f, h.cs, h.xs, h.ap, h.f.trans f (fun _ h _ => h)⟩
theorem TS.feed {w W W' : World} {c s : Nat} {Sc X X' : Nat → Prop} {t : List Tab} {m m' : Slt} {N N' : Nat} (h : TS w W c s Sc X t m N) (h1 : SH X' W' s m' N') (h2 : ∀ k, X' k → X k ∨ W.heap.size ≤ k) (f : Fr X W W') : TS w W' c s Sc X' t m' N' :=
  ⟨h.c.fr f h.ap, h1, h.cs, fun k hk => (h2 k hk).elim (h.xs k) (fun g => Nat.le_trans h.f.size g), fun k hk hx => (h2 k hx).elim (h.ap k hk) (fun g => by have := h.c.lt2 hk; omega), h.f.trans f (fun k hk hl => by have := h.xs k hk; omega)⟩
theorem TS.did {w W W' : World} {c s : Nat} {Sc X : Nat → Prop} {t t' : List Tab} {m : Slt} {N : Nat} (h : TS w W c s Sc X t m N) (hc : CR 93 (Ext Sc W W') W' c t') (f : Fr Sc W W') : TS w W' c s (Ext Sc W W') X t' m N :=
  ⟨hc, h.h.fr f (fun k hk hs => h.ap k hs hk), fun k hk => hk.elim (h.cs k) (fun g => Nat.le_trans h.f.size g.1), h.xs, fun k hk hx => hk.elim (fun g => h.ap k g hx) (fun g => by have := h.h.lt hx; omega), h.f.trans f (fun k hk hl => by have := h.cs k hk; omega)⟩
theorem cols_small : ∀ c ∈ [(⟨[97, 48], 1⟩ : Col), ⟨[122], 2⟩], c.name.length ≤ 1048576 := by decide
set_option maxRecDepth 20000 in
set_option maxHeartbeats 16000000 in
theorem SlotTimes_walk (n : Int) (w : World) :
    Calls Try.prog 6 #[.int .i64 n] w fun e w' => e = .returned (.bool true) ∧ Fr (fun _ => False) w w' := by
  have HS := hid (sanity_go w)
  obtain ⟨k, hk, hk10⟩ : ∃ k : Nat, n % 11 = (k : Int) ∧ k ≤ 10 := ⟨(n % 11).toNat, by omega, by omega⟩
  have HR := hid (fun W => rest_any W n 11 (by omega) (by omega))
  rw [hk] at HR
  clear hk
  go_enter Try.func6, Try.ntmps6
  go_upto_region 2 with (go_at_call 8; refine HS.out.mono ?_; rintro e w1 ⟨rfl, f⟩; have F1 := hid f; clear f)
  have HN := hid (New_go w1)
  go_upto_region 3 with (go_at_call 16; refine HN.out.mono ?_; rintro e w2 ⟨rfl, hc, f⟩; have HC2 := hid hc; have F2 := hid (F1.out.trans f (fun _ h _ => h)); have HW1 := hid F1.out.size; clear hc f)
  clear HN HS F1
  generalize w1.heap.size = c at *
  have fa := (Fr.refl (fun _ => False) w2).alloc (.cells #[.string ⟨#[97, 48]⟩, .int .i64 1, .string ⟨#[122]⟩, .int .i64 2] 55)
  have HRW := hid (show Row 55 2 w2.heap.size (w2.alloc (.cells #[.string ⟨#[97, 48]⟩, .int .i64 1, .string ⟨#[122]⟩, .int .i64 2] 55)) (.slice (some ⟨w2.heap.size, 0, none⟩) 2 2) 2 ([(⟨[97, 48], 1⟩ : Col), ⟨[122], 2⟩].flatMap Col.cells) from Row.built (n := 2) (size := 2) w2 (l := [.string ⟨#[97, 48]⟩, .int .i64 1, .string ⟨#[122]⟩, .int .i64 2]) rfl (by decide) (Nat.le_refl _))
  have HC3 := hid (HC2.out.fre fa)
  have F3 := hid (F2.out.trans fa (fun _ h _ => h))
  have HD := hid (Do_stS HC3.out ok_nil 1 [116] [] [] (l := [⟨[97, 48], 1⟩, ⟨[122], 2⟩]) (by decide) (HRW.out.sl' (R := fun _ => True) (fun _ _ => trivial)) (by decide) cols_small 0)
  rw [show (⟨1, [116], [], [⟨[97, 48], 1⟩, ⟨[122], 2⟩], [], []⟩ : St) = Slt.stT from rfl, do_create0] at HD
  have e1 : bs [116] = ⟨#[116]⟩ := rfl
  have e2 : bs [] = ⟨#[]⟩ := rfl
  have e3 : ([(⟨[97, 48], 1⟩ : Col), ⟨[122], 2⟩] : List Col).length = 2 := rfl
  rw [e1, e2, e3] at HD
  clear fa e1 e2 e3
  go_upto_region 4 with (go_at_call 17; refine HD.out.mono ?_; rintro e w4 ⟨rfl, hc, f⟩; have HC4 := hid hc; have F4 := hid (F3.out.trans f (fun k hk hl => by have hk : k = c := hk; have := HW1.out; omega)); clear hc f)
  have HW2 := hid (show w.heap.size ≤ w2.heap.size from F2.out.size)
  clear HD HRW HC2 HC3 F2 F3
  have HNC := hid (SH.newC HC4.out (ok_tb 0 (by omega)) [115] 0)
  have eb : bs [115] = ⟨#[115]⟩ := rfl
  rw [eb, show max (0 : Int) 0 = 0 from rfl] at HNC
  have HSC := hid (fun q (hq : Ext (fun k => k = c) (w2.alloc (.cells #[.string ⟨#[97, 48]⟩, .int .i64 1, .string ⟨#[122]⟩, .int .i64 2] 55)) w4 q) => show w.heap.size ≤ q from hq.elim (fun h => by have h : q = c := h; have := HW1.out; omega) (fun h => by have h1 := h.1; rw [World.size_alloc] at h1; have := HW2.out; omega))
  go_upto_block 0 with (first
    | (go_at_call 9; refine HNC.out.mono ?_; rintro e w5 ⟨s, rfl, h, f⟩; obtain ⟨X0, h, hx⟩ : ∃ X0 : Nat → Prop, SH X0 w5 s (newM [115] 0 (tb 0)) 1 ∧ ∀ k, X0 k → w4.heap.size ≤ k := ⟨_, h, fun k hk => hk.1⟩; have T0 := hid (show TS w w5 c s _ X0 (tb 0) (newM [115] 0 (tb 0)) 1 from ⟨HC4.out.fre f, h, HSC.out, fun k hk => Nat.le_trans F4.out.size (hx k hk), fun k hk hx' => by have h1 := HC4.out.lt2 hk; have h2 := hx k hx'; omega, F4.out.trans f (fun _ h _ => h)⟩); clear h hx f)
    | (go_at_call 10; refine (HR.out _).mono ?_; rintro e w6 ⟨rfl, rfl⟩))
  clear HNC HR HC4 F4 eb HSC
  generalize hNM : (⟨#[48, 49, 50, 51, 52, 53, 54, 55, 56, 57, 120]⟩ : ByteArray) = NM
  have HNM := hid (show NM.size = 11 ∧ ∀ i, i < 11 → NM.extract i (i + 1) = bs [dg i] from by subst hNM; exact ⟨rfl, fun i h => ex_nm h⟩)
  clear hNM
  go_cut [7] (fun s7 wx => ∃ (Sx X : Nat → Prop) (m : Slt) (N : Nat), s7 = .int .i64 ((2 * (k + 1) : Nat) : Int) ∧ Tm (k + 1) (k + 1) ((2 * (k + 1) : Nat) : Int) m ∧ TS w wx c s Sx X (tb (k + 1)) m N ∧ N ≤ 1 + 2 * (k + 1))
  case first =>
    clear HW1 HW2
    go_wp2_with (fail)
    go_loopw [7, 10] (fun s7 s10 wr => ∃ (j : Nat) (Sx X : Nat → Prop) (m : Slt) (N : Nat), j ≤ k + 1 ∧ s10 = .int .i64 j ∧ s7 = .int .i64 ((2 * j : Nat) : Int) ∧ Tm j j ((2 * j : Nat) : Int) m ∧ TS w wr c s Sx X (tb j) m N ∧ N ≤ 1 + 2 * j) (fun _ s10 _ => k + 1 - (intOf s10).toNat)
    case atStart => exact ⟨0, _, X0, _, 1, by omega, rfl, rfl, Tm.new, T0.out, by omega⟩
    case round =>
      obtain ⟨j, Sx, X, m, N, hj, rfl, rfl, hm, ht, hN⟩ := hrel
      have HTm := hid hm
      have HTS := hid ht
      have HN := hid hN
      clear hm ht hN T0
      rename World => WR
      by_cases hjk : j < k + 1
      · have k1 : (j : Int) ≤ (k : Int) := by omega
        have k2 : ((2 * j : Nat) : Int) = 2 * (j : Int) := by push_cast; rfl
        rw [k2] at HTm ⊢
        have w1 : IntKind.i64.wrap (2 * (j : Int) + 1) = 2 * (j : Int) + 1 := IntWalk.i64_in _ (by omega)
        have w2 : IntKind.i64.wrap (2 * (j : Int) + 2) = 2 * (j : Int) + 2 := IntWalk.i64_in _ (by omega)
        have HF := hid (HTS.out.h.feedX0 (by have := HN.out; omega) (2 * (j : Int) + 1) 2 4 1 ⟨by omega, by omega⟩ ⟨by omega, by omega⟩)
        go_upto_region 11 with fail
        go_wp2_with (go_at_call 12; refine HF.out.mono ?_; rintro e w4 ⟨rfl, X2, h2, hx2, f2⟩; have HS2 := hid (HTS.out.feed h2 hx2 f2); clear h2 hx2 f2)
        have j11 : j < 11 := by omega
        obtain ⟨r, hr, hr11, hdr⟩ : ∃ r : Nat, ((j : Int) + 1).tmod 11 = (r : Int) ∧ r < 11 ∧ dg r = dg (j + 1) := ⟨(j + 1) % 11, by rw [Int.tmod_eq_emod_of_nonneg (by omega)]; omega, by omega, dg_mod _⟩
        have w3 : IntKind.i64.wrap ((j : Int) + 1) = (j : Int) + 1 := IntWalk.i64_in _ (by omega)
        have w5 : IntKind.i64.wrap ((r : Int) + 1) = (r : Int) + 1 := IntWalk.i64_in _ (by omega)
        have hNM := HNM.out.1
        have x1 := HNM.out.2 j j11
        have x2 := HNM.out.2 r hr11
        rw [hdr] at x2
        have g1 : (0 : Int) ≤ (j : Int) + 1 ∧ (j : Int) + 1 ≤ 11 := by omega
        have g2 : (j : Int) ≤ (j : Int) + 1 := by omega
        have g3 : (0 : Int) ≤ (r : Int) + 1 ∧ (r : Int) + 1 ≤ 11 := by omega
        have g4 : (r : Int) ≤ (r : Int) + 1 := by omega
        refine wp_region_scr (.take 0 (.take 1 (.take 2 (.take 3 (.take 4 (.take 5 (.take 6 (.take 7 (.take 8 (.take 9 (.take 10 (.take 11 (.take 12 (.take 13 (.take 14 (.take 15 (.take 16 (.op 17 (.op 18 (.take 19 .done)))))))))))))))))))) (fun kz w => (kz ≤ 20 → Hid True) ∧ Hid True) (by kernel_rfl) (by kernel_rfl) (by intro c a d v w h; cases d <;> exact h) ?_
        repeat
          first
          | (refine wpT_pure rfl rfl rfl ?_; apply Exists.intro; refine ⟨?_, ?_⟩; intro w; (first | (first | (refine Eq.trans (b := Result.ok (Next.value (.string (bs [dg j]))) w) ?_ rfl; go_simp; rw [if_pos g1, if_pos g2]) | (refine Eq.trans (b := Result.ok (Next.value (.string (bs [dg (j + 1)]))) w) ?_ rfl; go_simp; rw [if_pos g3, if_pos g4]) | (refine Eq.trans (b := Result.ok (Next.value (.int .i64 (r : Int))) w) ?_ rfl; go_simp; first | done | rw [hr])) | (go_simp <;> rfl)); simp only [Act.put, List.setIfInBounds_toArray, List.set_cons_zero, List.set_cons_succ])
          | (refine wpT_take 20 rfl rfl (by decide +kernel) ⟨fun _ => hid trivial, hid trivial⟩ ?_; apply Exists.intro; refine ⟨?_, ?_⟩; intro w hw; (have qa := hw.1 (Nat.le_refl _); have qb := hw.2); (first | (first | (refine Eq.trans (b := Result.ok (Next.value (.string (bs [dg j]))) w) ?_ rfl; go_simp; rw [if_pos g1, if_pos g2]) | (refine Eq.trans (b := Result.ok (Next.value (.string (bs [dg (j + 1)]))) w) ?_ rfl; go_simp; rw [if_pos g3, if_pos g4]) | (refine Eq.trans (b := Result.ok (Next.value (.int .i64 (r : Int))) w) ?_ rfl; go_simp; first | done | rw [hr])) | (go_simp <;> rfl)); simp only [Act.put, List.setIfInBounds_toArray, List.set_cons_zero, List.set_cons_succ])
          | (refine wpT_skip rfl rfl ?_; simp only [Act.put, List.setIfInBounds_toArray, List.set_cons_zero, List.set_cons_succ])
        have HSD := hid (HS2.out.fre (W' := w4.drew) (Fr.refl _ _).drew)
        have HD := hid (Do_stS (P := fun _ => True) HSD.out.c (ok_tb j (by omega)) 3 [116] [97, dg j] [97, dg (j + 1)] (l := []) (oc := none) (cc := 0) ⟨by omega, by omega⟩ ⟨none, 0, rfl, Nat.le_refl _, fun h => absurd rfl h⟩ (by decide) (by simp) 0)
        rw [show (⟨3, [116], [97, dg j], [], [], [97, dg (j + 1)]⟩ : St) = stR j from rfl, do_ren j11, show bs [116] = ⟨#[116]⟩ from rfl, show bs [97, dg j] = ⟨#[97]⟩ ++ bs [dg j] from (bs_append [97] [dg j]).symm, show bs [97, dg (j + 1)] = ⟨#[97]⟩ ++ bs [dg (j + 1)] from (bs_append [97] [dg (j + 1)]).symm] at HD
        simp only [List.length_nil] at HD
        refine wpT_op rfl ?_
        go_wp2_with (fail)
        (refine ⟨?_, ?_⟩; focus (intro kz hk hk2 hh; first | (exfalso; simp at hk2; omega) | exact hh | exact (fun h => absurd h (by omega)) | obtain ⟨qa, qb⟩ := hh; first | exact ⟨qa, qb⟩ | (refine ⟨fun h => absurd h (by omega), ?_⟩; first | exact qb | (exact hid trivial)) | (refine ⟨fun h => ?_, ?_⟩; (have qa := qa h); all_goals (first | exact qa | exact qb | (exact hid trivial)))))
        repeat
          first
          | (refine wpT_pure rfl rfl rfl ?_; apply Exists.intro; refine ⟨?_, ?_⟩; intro w; ((go_simp <;> rfl)); simp only [Act.put, List.setIfInBounds_toArray, List.set_cons_zero, List.set_cons_succ])
          | (refine wpT_take 20 rfl rfl (by decide +kernel) ⟨fun _ => hid trivial, hid trivial⟩ ?_; apply Exists.intro; refine ⟨?_, ?_⟩; intro w hw; (have qa := hw.1 (Nat.le_refl _); have qb := hw.2); ((go_simp <;> rfl)); simp only [Act.put, List.setIfInBounds_toArray, List.set_cons_zero, List.set_cons_succ])
          | (refine wpT_skip rfl rfl ?_; simp only [Act.put, List.setIfInBounds_toArray, List.set_cons_zero, List.set_cons_succ])

        refine wpT_op rfl ?_
        go_wp2_with ((go_at_call 17; refine HD.out.mono ?_; rintro e w7 ⟨rfl, hc, f⟩; have HS3 := hid (HSD.out.did hc f); clear hc f))
        (refine ⟨?_, ?_⟩; focus (intro kz hk hk2 hh; first | (exfalso; simp at hk2; omega) | exact hh | exact (fun h => absurd h (by omega)) | obtain ⟨qa, qb⟩ := hh; first | exact ⟨qa, qb⟩ | (refine ⟨fun h => absurd h (by omega), ?_⟩; first | exact qb | (exact hid trivial)) | (refine ⟨fun h => ?_, ?_⟩; (have qa := qa h); all_goals (first | exact qa | exact qb | (exact hid trivial)))))
        repeat
          first
          | (refine wpT_pure rfl rfl rfl ?_; apply Exists.intro; refine ⟨?_, ?_⟩; intro w; ((go_simp <;> rfl)); simp only [Act.put, List.setIfInBounds_toArray, List.set_cons_zero, List.set_cons_succ])
          | (refine wpT_take 20 rfl rfl (by decide +kernel) ⟨fun _ => hid trivial, hid trivial⟩ ?_; apply Exists.intro; refine ⟨?_, ?_⟩; intro w hw; (have qa := hw.1 (Nat.le_refl _); have qb := hw.2); ((go_simp <;> rfl)); simp only [Act.put, List.setIfInBounds_toArray, List.set_cons_zero, List.set_cons_succ])
          | (refine wpT_skip rfl rfl ?_; simp only [Act.put, List.setIfInBounds_toArray, List.set_cons_zero, List.set_cons_succ])
        refine wpT_nil ?_
        clear HD HSD HS2 HF HTS x1 x2 hr hr11 hdr w5 g1 g2 g3 g4
        have HTi := hid HTm.out.ins
        clear HTm
        obtain ⟨m1, hm1⟩ : ∃ m1, feedM m (2 * (j : Int) + 1) ⟨2, 4, 1, [], [], [], []⟩ = m1 := ⟨_, rfl⟩
        rw [hm1] at HTi HS3
        clear hm1
        have HTt := hid (show Tm (j + 1) (j + 1) (2 * (j : Int) + 2) (feedM m1 (2 * (j : Int) + 2) ⟨10, 0, 0, [], [], [], Cat.bytes (tb (j + 1))⟩) from by have := HTi.out.tab (k := j + 1) (by omega); rwa [show 2 * (j : Int) + 1 + 1 = 2 * (j : Int) + 2 from by omega] at this)
        have HB := hid (Bytes_go HS3.out.c (ok_tb (j + 1) (by omega)))
        have hlen := len_tb (i := j + 1) (by omega)
        have HF2 := hid (fun (W : World) (f : Fr (fun _ => False) w7 W) => SH.feedN (HS3.out.fre f).h (by have := HN.out; omega) (2 * (j : Int) + 2) 10 (Cat.bytes (tb (j + 1))) (by omega))
        clear hlen HTi
        generalize Cat.bytes (tb (j + 1)) = BY at *
        go_wp2_with (first
          | (go_at_call 18; refine HB.out.mono ?_; rintro e w8 ⟨rfl, f⟩; have HS4 := hid (HS3.out.fre f); have HF3 := hid (HF2.out _ f); clear f)
          | (go_at_call 12; refine HF3.out.mono ?_; rintro e w9 ⟨rfl, X3, h3, hx3, f3⟩; have HS5 := hid (HS4.out.feed h3 hx3 f3); clear h3 hx3 f3))
        all_goals
          go_roundw
          case rel => exact ⟨j + 1, _, X3, _, N + 1 + 1, by omega, by go_num, congrArg (Value.int .i64) (by omega), by rw [show ((2 * (j + 1) : Nat) : Int) = 2 * (j : Int) + 2 from by omega]; exact HTt.out, HS5.out, by have := HN.out; omega⟩
          case measure => simp [intOf]; omega
      · have k1 : ¬ (j : Int) ≤ (k : Int) := by omega
        obtain rfl : j = k + 1 := by omega
        go_wp2_with (fail)
        go_meet
        exact ⟨Sx, X, m, N, rfl, HTm.out, HTS.out, HN.out⟩
  case rest =>
    obtain ⟨Sx, X, m, N, rfl, hm, ht, hN⟩ := hcut
    generalize wc = WB at *
    have HTm := hid hm
    have HTS := hid ht
    have HN := hid hN
    clear hm ht hN T0
    have HF := hid (HTS.out.h.feedX0 (by have := HN.out; omega) ((2 * (k + 1) : Nat) + 1 : Int) 5 4 0 ⟨by omega, by omega⟩ ⟨by omega, by omega⟩)
    have HFN := hid (HTm.out.fin (by obtain ⟨_, _, _, _, rfl, h, -⟩ := HTS.out.h; exact h) (by omega) (by omega))
    have w1 : IntKind.i64.wrap (((2 * (k + 1) : Nat) : Int) + 1) = ((2 * (k + 1) : Nat) : Int) + 1 := IntWalk.i64_in _ (by omega)
    go_upto_region 18 with (go_at_call 12; refine HF.out.mono ?_; rintro e w9 ⟨rfl, X3, h3, hx3, f3⟩; have HS5 := hid (HTS.out.feed h3 hx3 f3); clear h3 hx3 f3)
    have HQ := hid (SH.queued HS5.out.h (by have := HN.out; omega) 1)
    rw [HFN.out.2, HFN.out.1, show qn 1 1 = 1 from rfl] at HQ
    clear HF HFN HTm
    go_upto_region 19 with (go_at_call 11; refine HQ.out.mono ?_; rintro e w10 ⟨u, xs, rfl, hx, ht, f⟩; have HXX := hid hx; have HT := hid ht; have F10 := hid (HS5.out.f.trans f (fun _ h _ => h)); clear hx ht f)
    clear HQ HS5 HTS
    obtain ⟨x, rfl⟩ : ∃ x, xs = [x] := List.length_eq_one_iff.1 (by have h := congrArg List.length HXX.out; rw [List.length_map] at h; exact h)
    have HXC := hid (show x.cs.map ChgV.c = tmL (k + 1) from by have h := HXX.out; simp only [List.map_cons, List.map_nil, List.take_succ_cons, List.take_zero, List.cons.injEq, and_true] at h; unfold TxnV.t at h; exact (Prod.mk.inj h).2)
    have HCL := hid (show x.cs.length = k + 1 from by have h := congrArg List.length HXC.out; rwa [List.length_map, tmL_len] at h)
    have HTX := hid (HT.out.t x (by simp))
    obtain ⟨ax, cx, ex, -⟩ := HTX.out.r.slice
    rw [HCL.out] at ex
    have HEX := hid ex
    have hrt := HT.out.r
    obtain ⟨au, cu, eu, -⟩ := hrt.slice
    rw [eu] at hrt
    obtain ⟨gu, eg, -, hcu⟩ := row_cells hrt (by simp [TxnV.cells])
    subst eg
    rw [show ([x] : List TxnV).length = 1 from rfl] at eu
    subst eu
    have HP := hid (show w10.cell? ⟨gu, 1, none⟩ = some (.slice ax (k + 1) cx) from hcu 1 (.slice ax (k + 1) cx) (by show some x.v = _; rw [ex]))
    have p0 := HP.out
    have w2 : IntKind.i64.wrap ((k : Int) + 1) = (k : Int) + 1 := IntWalk.i64_in _ (by omega)
    clear hcu hrt ex HXX HT
    go_wp2_with (fail)
    clear p0
    go_loopw [13, 14] (fun s13 s14 wr => ∃ i : Nat, i ≤ k + 1 ∧ s13 = .int .i64 i ∧ Fr (fun _ => False) w10 wr) (fun s13 _ _ => k + 1 - (intOf s13).toNat)
    case atStart => exact ⟨0, by omega, rfl, Fr.refl _ _⟩
    case round =>
      obtain ⟨i, hi, rfl, hf⟩ := hrel
      have FR := hid hf
      clear hf
      rename World => WR
      by_cases hik : i < k + 1
      · have k1 : (i : Int) ≤ (k : Int) := by omega
        have k3 : (i : Int) < (k : Int) + 1 := by omega
        have k4 : (0 : Int) ≤ (i : Int) := by omega
        have hix : i < x.cs.length := by rw [HCL.out]; exact hik
        have hry := HTX.out.r
        rw [HEX.out, HCL.out] at hry
        obtain ⟨gx, ox, rfl, ry⟩ := sl_at (k := 5) (by decide) (fun _ => rfl) (hry.cast HCL.out.symm rfl).sl hix
        have HCY := hid (HTX.out.c _ (List.getElem_mem hix))
        have HYC := hid (show x.cs[i].c = tmC i from by
          have e := congrArg (fun l => l[i]?) HXC.out
          unfold tmL at e
          simp only [List.getElem?_map, List.getElem?_eq_getElem hix, Option.map_some] at e
          rw [List.getElem?_range (by exact hik), Option.map_some, Option.some.injEq] at e
          exact e)
        obtain ⟨y, hy⟩ : ∃ y, y = x.cs[i] := ⟨_, rfl⟩
        rw [← hy] at HCY HYC ry
        clear hy hry
        obtain ⟨yc, vn, vo, vw⟩ := y
        have hyc := HYC.out
        dsimp only at hyc
        subst hyc
        have hrn := HCY.out.n
        obtain ⟨a1, c1, e1, -⟩ := hrn.slice
        obtain ⟨a2, c2, e2, -⟩ := HCY.out.o.slice
        obtain ⟨a3, c3, e3, -⟩ := HCY.out.w.slice
        dsimp only at hrn
        dsimp only at e1 e2 e3
        rw [e1] at hrn
        obtain ⟨gn, en, -, hcn⟩ := row_cells hrn (by simp [tmC, scell])
        dsimp only [tmC] at e1 e2 e3
        subst en
        subst e1 e2 e3
        have hbs : bs [97, dg i] = ⟨#[97]⟩ ++ bs [dg i] := (bs_append [97] [dg i]).symm
        have HN0 := hid (show w10.cell? ⟨gn, 0, none⟩ = some (.string (⟨#[97]⟩ ++ bs [dg i])) from by rw [← hbs]; exact hcn 0 (.string (bs [97, dg i])) rfl)
        have HN1 := hid (show w10.cell? ⟨gn, 1, none⟩ = some (.string ⟨#[122]⟩) from hcn 1 (.string (bs [122])) rfl)
        have p0 := cell_fr HP.out FR.out (fun h => h)
        have q0 : WR.cell? ⟨gx, ox + i * 5, none⟩ = some (.int .i64 2) := cell_fr (show w10.cell? ⟨gx, ox + i * 5, none⟩ = some (.int .i64 2) from by have := ry 0 (.int .i64 2) rfl; simpa using this) FR.out (fun h => h)
        have q1 : WR.cell? ⟨gx, ox + i * 5 + 1, none⟩ = some (.string ⟨#[116]⟩) := cell_fr (ry 1 (.string ⟨#[116]⟩) rfl) FR.out (fun h => h)
        have q2 : WR.cell? ⟨gx, ox + i * 5 + 2, none⟩ = some (.slice (some ⟨gn, 0, none⟩) 2 c1) := cell_fr (ry 2 (.slice (some ⟨gn, 0, none⟩) 2 c1) rfl) FR.out (fun h => h)
        have q3 : WR.cell? ⟨gx, ox + i * 5 + 3, none⟩ = some (.slice a2 0 c2) := cell_fr (ry 3 (.slice a2 0 c2) rfl) FR.out (fun h => h)
        have q4 : WR.cell? ⟨gx, ox + i * 5 + 4, none⟩ = some (.slice a3 0 c3) := cell_fr (ry 4 (.slice a3 0 c3) rfl) FR.out (fun h => h)
        have fa := (Fr.refl (fun _ => False) WR).alloc (.cells #[.int .i64 2, .string ⟨#[116]⟩, .slice (some ⟨gn, 0, none⟩) 2 c1, .slice a2 0 c2, .slice a3 0 c3] 48)
        have D6 := hid (Blk.new WR [.int .i64 2, .string ⟨#[116]⟩, .slice (some ⟨gn, 0, none⟩) 2 c1, .slice a2 0 c2, .slice a3 0 c3] 48)
        have F6 := hid (FR.out.trans fa (fun _ h _ => h))
        clear fa ry hcn hrn HCY hbs
        go_upto_region 25 with fail
        clear q0 q1 q2 q3 q4 p0
        generalize WR.heap.size = dl at *
        generalize WR.alloc _ = W6 at *
        have r0 := cell_fr HN0.out F6.out (fun h => h)
        have r1 := cell_fr HN1.out F6.out (fun h => h)
        have r2 : W6.cell? ⟨dl, 1, none⟩ = some (.string ⟨#[116]⟩) := D6.out.cell 1
        have r3 : W6.cell? ⟨dl, 2, none⟩ = some (.slice (some ⟨gn, 0, none⟩) 2 c1) := D6.out.cell 2
        have w3 : IntKind.i64.wrap ((i : Int) + 1) = (i : Int) + 1 := IntWalk.i64_in _ (by omega)
        have hNM := HNM.out.1
        have x1 := HNM.out.2 i (by omega)
        have g1 : (0 : Int) ≤ (i : Int) + 1 ∧ (i : Int) + 1 ≤ 11 := by omega
        have g2 : (i : Int) ≤ (i : Int) + 1 := by omega
        refine wp_region_scr (.take 0 (.take 1 (.take 2 (.take 3 (.take 4 (.take 5 (.take 6 (.take 7 (.take 8 (.take 9 (.take 10 (.take 11 (.take 12 (.take 13 (.take 14 (.take 15 (.take 16 (.take 17 (.take 18 (.take 19 (.take 20 (.take 21 (.take 22 (.take 23 (.take 24 (.take 25 (.take 26 (.take 27 (.take 28 .done))))))))))))))))))))))))))))) (fun kz w => (kz ≤ 29 → (w.cell? ⟨gn, 0, none⟩ = some (.string (⟨#[97]⟩ ++ bs [dg i])) ∧ w.cell? ⟨gn, 1, none⟩ = some (.string ⟨#[122]⟩) ∧ w.cell? ⟨dl, 1, none⟩ = some (.string ⟨#[116]⟩) ∧ w.cell? ⟨dl, 2, none⟩ = some (.slice (some ⟨gn, 0, none⟩) 2 c1))) ∧ Hid True) (by kernel_rfl) (by kernel_rfl) (by intro c a d v w h; cases d <;> exact h) ?_
        repeat
          first
          | (refine wpT_pure rfl rfl rfl ?_; apply Exists.intro; refine ⟨?_, ?_⟩; intro w; (first | (first | (refine Eq.trans (b := Result.ok (Next.value (.string (bs [dg i]))) w) ?_ rfl; go_simp; rw [if_pos g1, if_pos g2]) | ((have qa0 := qa.1); (have qa1 := qa.2.1); (have qa2 := qa.2.2.1); (have qa3 := qa.2.2.2); (go_simp <;> rfl))) | (go_simp <;> rfl)); simp only [Act.put, List.setIfInBounds_toArray, List.set_cons_zero, List.set_cons_succ])
          | (refine wpT_take 29 rfl rfl (by decide +kernel) ⟨fun _ => ⟨r0, r1, r2, r3⟩, hid trivial⟩ ?_; apply Exists.intro; refine ⟨?_, ?_⟩; intro w hw; (have qa := hw.1 (Nat.le_refl _); have qb := hw.2); (first | (first | (refine Eq.trans (b := Result.ok (Next.value (.string (bs [dg i]))) w) ?_ rfl; go_simp; rw [if_pos g1, if_pos g2]) | ((have qa0 := qa.1); (have qa1 := qa.2.1); (have qa2 := qa.2.2.1); (have qa3 := qa.2.2.2); (go_simp <;> rfl))) | (go_simp <;> rfl)); simp only [Act.put, List.setIfInBounds_toArray, List.set_cons_zero, List.set_cons_succ])
          | (refine wpT_skip rfl rfl ?_; simp only [Act.put, List.setIfInBounds_toArray, List.set_cons_zero, List.set_cons_succ])
        refine wpT_nil ?_
        clear r0 r1 r2 r3
        go_wp2_with (fail)
        go_roundw
        case rel => exact ⟨i + 1, by omega, by go_num, F6.out.drew⟩
        case measure => simp [intOf]; omega
      · obtain rfl : i = k + 1 := by omega
        have j2 : ¬ (((k + 1 : Nat) : Int) ≤ (k : Int)) := by omega
        go_wp2_with (fail)
        go_ret
        exact ⟨rfl, F10.out.trans FR.out (fun _ h _ => h)⟩
end Go.Proofs.Ytiimomgbklgicaa
namespace Go.Proofs.Ytiimomgbklgicaa.slotTimes
open Go.ChangeShapes Go.WideShapes Go.ChangeAt Go.RowKit Go.VB
set_option maxHeartbeats 400000 in
set_option maxRecDepth 100000 in
theorem lifted (os : Os) (started : os.Started) (H : Type) (enc : TypeId × Value → H) :
    ReturnsInHanded {} Try.checked os 6 .any (Rows.slotTimesSpec.pre6 enc Try.prog Try.f6 Rows.slotTimesRow.domain false) (Rows.slotTimesSpec.post enc Try.prog Try.f6 false true false false) := by
  refine returnsInHanded_of_change (C := Try.checked) own started (by kernel_rfl) Try.func6
    (ChangeSpec.witness6 (enc := enc) (C := Try.checked) false ⟨#[], #[.int .i64 0], []⟩ 8 (by kernel_rfl) (by kernel_rfl) (by kernel_rfl) (by kernel_rfl)) ?_
  intro W base args ds gs before hval0 hW hcnd _
  have hval : ∀ (j : Nat) t v, Try.f6.params[j]? = some t → args[j]? = some v → Value.okWide Try.prog W .any base t v := hval0
  have hW' := hW
  obtain ⟨p, q, hA0, hV, rfl, hfz, hnd⟩ := hW
  have hA : DataW.TrodAll enc Try.prog W 0 (fun _ => true) true Try.f6.params.toList args.toList ds p := hA0
  rw [Try.params6] at hA hval
  obtain ⟨v0, vs0, d0, ds0, p0, q0, hargs, rfl, rfl, h0, r0⟩ := trodAll_cons hA
  obtain ⟨rfl, rfl, rfl⟩ := trodAll_nil r0
  obtain rfl : args = #[v0] := by cases args; simp_all
  obtain ⟨rfl, rfl⟩ := trodVars_none hV
  clear hA0 hval0
  refine Calls.mono (R := fun e w' => e = .returned (.bool true) ∧ Fr (fun _ => False) W w') ?_ fun e W' ⟨he, hf⟩ => ⟨_, he, post_law sound (by decide +kernel) rfl rfl (ht := Try.underlying4) (by rfl) hW' hf⟩
  obtain ⟨a0, rfl, -, -, -⟩ := open_int Try.underlying3 (hval 0 3 v0 rfl rfl) h0
  exact SlotTimes_walk a0 W
theorem proved : Rows.SlotTimesSaid :=
  OpenClaim.holds_of_wide 6 Try.f6 rfl rfl rfl rfl rfl rfl rfl ⟨rfl, rfl, rfl, rfl, rfl⟩ rfl rfl rfl rfl rfl (by kernel_rfl) Try.func6 (by kernel_rfl)
    (of_decide_eq_true (by kernel_rfl)) (by unfold Func.isWrapper; first | (rw [if_pos (by decide +kernel)]; kernel_rfl) | (rw [if_neg (by decide +kernel)]; exact ⟨rfl, rfl⟩))
    (fun os started H enc _ => lifted os started H enc)
end Go.Proofs.Ytiimomgbklgicaa.slotTimes
