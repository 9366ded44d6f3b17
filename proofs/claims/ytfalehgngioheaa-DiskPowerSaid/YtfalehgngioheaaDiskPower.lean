/- Proved: for every integer and every slice of integers the law DiskPower of chapter 05 returns true, and its arguments read afterwards as before. Conditions: none beyond the given statement. -/
import Derived.Test.YtfalehgngioheaaDiskDo
import Derived.Test.YtfalehgngioheaaDiskLogM
import Derived.Test.YtfalehgngioheaaFin
set_option linter.unusedVariables false
namespace Go.Proofs.Ytfalehgngioheaa
open Go.RowKit Go.VB Go.VB.Disk
theorem iv_flat (L : List Int) : L.flatMap (fun x => [Value.int .i64 x]) = iv L := by
  induction L with
  | nil => rfl
  | cons a L ih => rw [List.flatMap_cons, ih]; rfl
theorem fill_ab : (fill [97, 98]).length = 512 := fill_length _ (by decide)
theorem fill_q : (fill [113]).length = 512 := fill_length _ (by decide)
theorem pow_op {F : Bytes → Bytes} {m : DM} {kind : Int} (hF : (F [97, 98]).length = 512) (h0 : 0 ≤ kind) (h4 : kind < 4) (hp : m.pages.length = 2) (hl : m.log.length + 2 ≤ 1048576) :
    ∃ f : DM → DM, m.dok F kind 1 [97, 98] [] = ((m.operate 0 f).1, ([], (m.operate 0 f).2)) ∧ ∀ m' : DM, (f m').off = m'.off ∧ (f m').armed = m'.armed ∧ (f m').left = m'.left ∧ (f m').pages.length = m'.pages.length ∧ (f m').log.length ≤ m'.log.length + 2 := by
  rcases (show kind = 0 ∨ kind = 1 ∨ kind = 2 ∨ kind = 3 by omega) with rfl | rfl | rfl | rfl
  · refine ⟨fun m => { m with pages := m.pages.modify (1 : Int).toNat (Pg.write (F [97, 98])) }, ?_, fun m' => ⟨rfl, rfl, rfl, by simp, by simp⟩⟩
    have his : m.is 1 = true := by simp [DM.is, hp]
    unfold DM.dok DM.write
    rw [if_pos (by decide), his, hF]
    rfl
  · exact ⟨fun m => { m with pages := m.pages.map Pg.sync }, rfl, fun m' => ⟨rfl, rfl, rfl, by simp, by simp⟩⟩
  · refine ⟨fun m => { m with log := m.log ++ [97, 98] }, ?_, fun m' => ⟨rfl, rfl, rfl, rfl, by simp⟩⟩
    unfold DM.dok DM.append
    rw [if_neg (by decide), if_neg (by decide), if_pos (by decide), if_neg (by simp only [List.length_cons, List.length_nil]; omega)]
  · exact ⟨fun m => { m with flushed := m.log.length }, rfl, fun m' => ⟨rfl, rfl, rfl, rfl, by simp⟩⟩
theorem pow_off {m : DM} {kind : Int} (h0 : 0 ≤ kind) (h4 : kind < 4) (hp : m.pages.length = 2) (hl : m.log.length + 2 ≤ 1048576) (ho : m.off = true) : m.dok fill kind 1 [97, 98] [] = (m, ([], 24)) := by
  obtain ⟨f, e, -⟩ := pow_op fill_ab h0 h4 hp hl
  rw [e]
  simp [DM.operate, ho]
theorem pow_fail {m : DM} {kind : Int} (h0 : 0 ≤ kind) (h4 : kind < 4) (hp : m.pages.length = 2) (hl : m.log.length + 2 ≤ 1048576) (ho : m.off = false) (ha : m.armed = true) (hle : m.left ≤ 0) : m.dok fill kind 1 [97, 98] [] = ({ m with off := true }, ([], 24)) := by
  obtain ⟨f, e, -⟩ := pow_op fill_ab h0 h4 hp hl
  rw [e]
  simp [DM.operate, ho, ha, hle]
theorem pow_good {m : DM} {kind : Int} (h0 : 0 ≤ kind) (h4 : kind < 4) (hp : m.pages.length = 2) (hl : m.log.length + 2 ≤ 1048576) (ho : m.off = false) (ha : m.armed = true) (hle : 0 < m.left) (hle2 : m.left ≤ 100) :
    ∃ m' : DM, m.dok fill kind 1 [97, 98] [] = (m', ([], 0)) ∧ m'.off = false ∧ m'.armed = true ∧ m'.left = m.left - 1 ∧ m'.pages.length = 2 ∧ m'.log.length ≤ m.log.length + 2 := by
  obtain ⟨f, e, hf⟩ := pow_op fill_ab h0 h4 hp hl
  have hl3 : ¬ m.left ≤ 0 := by omega
  have hw : wrap64 (m.left - 1) = m.left - 1 := by simp only [wrap64]; omega
  have h2 := hf { m with left := wrap64 (m.left - 1) }
  refine ⟨f { m with left := wrap64 (m.left - 1) }, ?_, h2.1.trans ho, h2.2.1.trans ha, h2.2.2.1.trans hw, h2.2.2.2.1.trans hp, h2.2.2.2.2⟩
  rw [e]
  simp [DM.operate, ho, hl3]
structure PowM (k i : Nat) (m : DM) : Prop where
  ok : m.Ok i
  pages : m.pages.length = 2
  log : m.log.length ≤ 2 * i
  armed : m.armed = true
  on : i ≤ k → m.off = false ∧ m.left = (k : Int) - i
  off : k < i → m.off = true
theorem pow_step {k i : Nat} {m : DM} {kind : Int} (hk : k ≤ 20) (hi : i ≤ 40) (h0 : 0 ≤ kind) (h4 : kind < 4) (h : PowM k i m) :
    (i < k ∧ ∃ m', m.dok fill kind 1 [97, 98] [] = (m', ([], 0)) ∧ PowM k (i + 1) m') ∨ (k ≤ i ∧ ∃ m', m.dok fill kind 1 [97, 98] [] = (m', ([], 24)) ∧ PowM k (i + 1) m' ∧ m'.off = true) := by
  obtain ⟨ok, hp, hl, ha, hon, hoff⟩ := h
  have okd := Ok_dok ok kind 1 [97, 98] []
  by_cases hik : i < k
  · obtain ⟨h1, h2⟩ := hon (by omega)
    obtain ⟨m', e, a, b, c, d, f⟩ := pow_good h0 h4 hp (by omega) h1 ha (by omega) (by omega)
    rw [e] at okd
    exact .inl ⟨hik, m', e, okd, d, by omega, b, fun _ => ⟨a, by omega⟩, fun h => by omega⟩
  · refine .inr ⟨by omega, ?_⟩
    by_cases hki : k < i
    · have e := pow_off (m := m) h0 h4 hp (by omega) (hoff hki)
      rw [e] at okd
      exact ⟨m, e, ⟨okd, hp, by omega, ha, fun h => by omega, fun _ => hoff hki⟩, hoff hki⟩
    · obtain ⟨h1, h2⟩ := hon (by omega)
      have e := pow_fail h0 h4 hp (by omega) h1 ha (by omega)
      rw [e] at okd
      exact ⟨_, e, ⟨okd, hp, by show m.log.length ≤ _; omega, ha, fun h => by omega, fun _ => rfl⟩, rfl⟩
theorem pow_crash {m : DM} (hp : m.pages.length = 2) : (m.crash []).off = false ∧ (m.crash []).armed = false ∧ (m.crash []).pages.length = 2 := by
  have len : ∀ (ps : List Pg) (q : List Int), (crashPages ps q).1.length = ps.length := by
    intro ps
    induction ps with
    | nil => intro q; rfl
    | cons p ps ih =>
      intro q
      unfold crashPages
      split
      · simp [ih]
      · simp [ih]
  exact ⟨rfl, rfl, (len _ _).trans hp⟩
structure PowInv (d k : Nat) (w1 w wr : World) (i : Nat) (m : DM) : Prop where
  g : G (fun j => j < w1.heap.size) wr d m
  fr : Fr (fun _ => False) w wr
  m : PowM k i m
set_option maxHeartbeats 2000000 in
theorem DiskPower_walk (a0 : Int) (ops : List Int) (hol : ops.length ≤ maxLen) (w : World) (v : Value) (hv : Sl (fun k => k < w.heap.size) w v ops.length (iv ops)) :
    Calls Try.prog 9 #[.int .i64 a0, v] w fun e w' => e = .returned (.bool true) ∧ Fr (fun _ => False) w w' := by
  unfold maxLen at hol
  obtain ⟨a, cap, rfl, hcap, hc⟩ := hv
  have HC := hid hc
  have HOL := hid hol
  clear hc hol
  obtain ⟨k, hk, hk21⟩ : ∃ x : Nat, a0 % 21 = x ∧ x ≤ 20 := ⟨(a0 % 21).toNat, by omega, by omega⟩
  have HK := hid hk
  clear hk
  go_enter Try.func9, Try.ntmps9
  go_wp2_with (fail)
  refine (sanity_go _).mono ?_
  rintro e w1 ⟨rfl, f1⟩
  go_wp2_with (fail)
  refine (New_G _ _).mono ?_
  rintro e w2 ⟨rfl, g2, f2⟩
  have F2 := f1.trans f2 (fun _ h _ => h)
  have HX := hid (fun j (hj : j < w.heap.size) => Nat.lt_of_lt_of_le hj f1.size)
  generalize hd : w1.heap.size + 1 = d at *
  clear f2 f1 hd
  have g2 : G (fun j => j < w1.heap.size) w2 d (DM.new 2) := g2
  go_wp2_with (first | (go_at_call 18; refine (rest_any _ _ _ (by omega) (by omega)).mono ?_; rintro e w' ⟨rfl, rfl⟩; rw [HK.out]) | fail)
  refine (Arm_G g2 k).mono ?_
  rintro e w3 ⟨rfl, g3, f3⟩
  have F3 := F2.trans f3 (fun j hj hlt => hj (HX.out j hlt))
  have inv0 : PowInv d k w1 w w3 0 ((DM.new 2).arm k) := by
    refine ⟨g3, F3, Ok_arm (Ok_new 2 (by omega)) _, rfl, Nat.le_refl _, ?_, fun _ => ⟨rfl, ?_⟩, fun h => by omega⟩
    · show decide (0 ≤ (k : Int)) = true
      simp
    · show (k : Int) = k - (0 : Nat)
      simp
  clear g2 F2 g3 F3 f3
  have INV0 := hid inv0
  clear inv0
  go_wp2
  go_loopw [8, 9] (fun dn i wr => ∃ (j : Nat) (m : DM), j ≤ 40 ∧ j ≤ ops.length ∧ i = .int .i64 j ∧ dn = .int .i64 (min j k : Nat) ∧ PowInv d k w1 w wr j m) (fun _ i _ => 40 - (intOf i).toNat)
  case atStart => exact ⟨0, _, by omega, by omega, rfl, by simp, INV0.out⟩
  case round =>
    obtain ⟨j, m, hj, hjl, rfl, rfl, inv⟩ := hrel
    clear INV0
    have HOL2 := HOL.out
    by_cases hc : j < ops.length ∧ j < 40
    · obtain ⟨hjo, hj4⟩ := hc
      obtain ⟨g0, o0, rfl, hlt, hr⟩ := HC.out (by intro h; simp [iv] at h; subst h; simp at hjo)
      have hcell : wr.cell? ⟨g0, o0 + j, none⟩ = some (.int .i64 ops[j]) := cell_fr (hr j _ (by simp [iv, hjo])) inv.fr (fun h => h)
      generalize ops[j] = z at *
      have hz0 : 0 ≤ z % 4 := by omega
      have hz4 : z % 4 < 4 := by omega
      have hD := do_G inv.g inv.m.ok (by omega) (z % 4) 1 [97, 98] (by simp) (QRep_nil) (by simp)
      clear hr HC
      rcases pow_step hk21 hj hz0 hz4 inv.m with ⟨hjk, m', hm, pm⟩ | ⟨hjk, m', hm, pm, hoff⟩
      · rw [hm] at hD
        have hmin : min j k = j := by omega
        have hmin1 : min (j + 1) k = j + 1 := by omega
        rw [hmin]
        clear hz0 hz4
        go_wp2_with (first
          | (go_at_call 18; refine (rest_any _ _ _ (by omega) (by omega)).mono ?_; rintro e w' ⟨rfl, rfl⟩)
          | (go_at_call 30; refine hD.mono ?_; rintro e w5 ⟨rfl, g5, f5⟩))
        have F5 := inv.fr.trans f5 (fun j hj hlt => hj (HX.out j hlt))
        go_roundw
        case rel => exact ⟨j + 1, m', by omega, by omega, by go_num, by rw [hmin1]; go_num, ⟨g5, F5, pm⟩⟩
        case measure => simp [intOf]; omega
      · rw [hm] at hD
        have hmin : min j k = k := by omega
        have hmin1 : min (j + 1) k = k := by omega
        rw [hmin]
        clear hz0 hz4
        go_wp2_with (first
          | (go_at_call 18; refine (rest_any _ _ _ (by omega) (by omega)).mono ?_; rintro e w' ⟨rfl, rfl⟩)
          | (go_at_call 30; refine hD.mono ?_; rintro e w5 ⟨rfl, g5, f5⟩)
          | (go_at_call 23; refine (On_G g5).mono ?_; rintro e w' ⟨rfl, rfl⟩; rw [hoff]))
        have F5 := inv.fr.trans f5 (fun j hj hlt => hj (HX.out j hlt))
        go_roundw
        case rel => exact ⟨j + 1, m', by omega, by omega, by go_num, by rw [hmin1], ⟨g5, F5, pm⟩⟩
        case measure => simp [intOf]; omega
    · obtain ⟨hg, hfr, pm⟩ := inv
      have hjm : j = min ops.length 40 := by omega
      obtain ⟨c1, c2, c3⟩ := pow_crash pm.pages
      have okC : (m.crash []).Ok j := Ok_crash pm.ok []
      have hC := Crash_G hg pm.ok (by omega) (QRep_nil (R := fun j => j < w1.heap.size)) (by simp)
      have hrd : ∀ s : DM, s.off = false → s.pages.length = 2 → (s.read 0).2 = 0 := by
        intro s h1 h2
        simp [DM.read, h1, DM.is, h2]
      have hro : k < ops.length → (m.read 0).2 = 24 ∧ m.off = true := fun h => by
        have := pm.off (by omega)
        exact ⟨by simp [DM.read, this], this⟩
      have hrc := hrd _ c1 c3
      have hwr : ((m.crash []).write 0 (fill [113])).2 = 0 := by
        have hq := fill_q
        have his : (m.crash []).is 0 = true := by simp [DM.is, c3]
        unfold DM.write DM.operate
        rw [his, hq, c1, c2]
        rfl
      have HRC := hid hrc
      have HWR := hid hwr
      have HC1 := hid c1
      have hq : bs [113] = ⟨#[113]⟩ := rfl
      have HF := hid (fun w => Fill_go w [113] (by simp))
      rw [hq] at HF
      clear hrd hrc hwr c2 c3 HC hq
      have hro2 := hid hro
      clear hro
      have hrdm := Read_G hg pm.ok (by omega) 0
      generalize hrs : bs (m.read 0).1 = rs at *
      clear hrs
      by_cases hkl : k < ops.length
      · have r1 := (hro2.out hkl).1
        have r2 := hid (hro2.out hkl).2
        rw [r1] at hrdm
        clear r1
        have hmin : min j k = k := by omega
        rw [hmin]
        clear hmin hjm
        by_cases hjo : j < ops.length
        all_goals
          go_wp2_with (first
            | (go_at_call 20; refine hrdm.mono ?_; rintro e w4 ⟨rfl, g4, f4⟩)
            | (go_at_call 23; refine (On_G g4).mono ?_; rintro e w' ⟨rfl, rfl⟩; rw [r2.out])
            | fail)
          refine (Crash_G g4 pm.ok (by omega) (QRep_nil (R := fun j => j < w1.heap.size)) (by simp)).mono ?_
          rintro e w5 ⟨rfl, g5, f5⟩
          have F5 := (hfr.trans f4 (fun _ h _ => h)).trans f5 (fun j hj hlt => hj (HX.out j hlt))
          have hrd2 := Read_G g5 okC (by omega) 0
          rw [HRC.out] at hrd2
          generalize hrs2 : bs ((m.crash []).read 0).1 = rs2 at *
          clear hrs2 f4 f5 hfr hC g4
          go_wp2_with (fail)
          refine hrd2.mono ?_
          rintro e w6 ⟨rfl, g6, f6⟩
          have F6 := F5.trans f6 (fun _ h _ => h.elim)
          clear hrd2 f6 F5 g5
          go_wp2_with (first
            | (go_at_call 23; refine (On_G g6).mono ?_; rintro e w' ⟨rfl, rfl⟩; rw [HC1.out])
            | (go_at_call 16; refine (HF.out _).mono ?_; rintro e w7 ⟨rfl, f7⟩)
            | (go_at_call 17; refine (Write_G (g6.fr f7 (fun _ h => h.elim)) okC (by omega) 0 (fill [113])).mono ?_; rintro e w8 ⟨rfl, g8, f8⟩; rw [HWR.out]))
          go_ret
          exact ⟨rfl, (F6.trans f7 (fun _ h _ => h)).trans f8 (fun j hj hlt => hj (HX.out j hlt))⟩
      · obtain rfl : j = ops.length := by omega
        have hmin : min ops.length k = ops.length := by omega
        rw [hmin]
        clear hmin hjm
        by_cases hlk : ops.length < k
        · go_wp2_with (first
            | (go_at_call 20; refine hrdm.mono ?_; rintro e w4 ⟨rfl, g4, f4⟩)
            | fail)
          refine (Crash_G g4 pm.ok (by omega) (QRep_nil (R := fun j => j < w1.heap.size)) (by simp)).mono ?_
          rintro e w5 ⟨rfl, g5, f5⟩
          have F5 := (hfr.trans f4 (fun _ h _ => h)).trans f5 (fun j hj hlt => hj (HX.out j hlt))
          have hrd2 := Read_G g5 okC (by omega) 0
          rw [HRC.out] at hrd2
          generalize hrs2 : bs ((m.crash []).read 0).1 = rs2 at *
          clear hrs2 f4 f5 hfr hC g4
          go_wp2_with (fail)
          refine hrd2.mono ?_
          rintro e w6 ⟨rfl, g6, f6⟩
          have F6 := F5.trans f6 (fun _ h _ => h.elim)
          clear hrd2 f6 F5 g5
          go_wp2_with (first
            | (go_at_call 23; refine (On_G g6).mono ?_; rintro e w' ⟨rfl, rfl⟩; rw [HC1.out])
            | (go_at_call 16; refine (HF.out _).mono ?_; rintro e w7 ⟨rfl, f7⟩)
            | (go_at_call 17; refine (Write_G (g6.fr f7 (fun _ h => h.elim)) okC (by omega) 0 (fill [113])).mono ?_; rintro e w8 ⟨rfl, g8, f8⟩; rw [HWR.out]))
          go_ret
          exact ⟨rfl, (F6.trans f7 (fun _ h _ => h)).trans f8 (fun j hj hlt => hj (HX.out j hlt))⟩
        · obtain rfl : k = ops.length := by omega
          go_wp2_with (first
            | (go_at_call 20; refine hrdm.mono ?_; rintro e w4 ⟨rfl, g4, f4⟩)
            | fail)
          refine (Crash_G g4 pm.ok (by omega) (QRep_nil (R := fun j => j < w1.heap.size)) (by simp)).mono ?_
          rintro e w5 ⟨rfl, g5, f5⟩
          have F5 := (hfr.trans f4 (fun _ h _ => h)).trans f5 (fun j hj hlt => hj (HX.out j hlt))
          have hrd2 := Read_G g5 okC (by omega) 0
          rw [HRC.out] at hrd2
          generalize hrs2 : bs ((m.crash []).read 0).1 = rs2 at *
          clear hrs2 f4 f5 hfr hC g4
          go_wp2_with (fail)
          refine hrd2.mono ?_
          rintro e w6 ⟨rfl, g6, f6⟩
          have F6 := F5.trans f6 (fun _ h _ => h.elim)
          clear hrd2 f6 F5 g5
          go_wp2_with (first
            | (go_at_call 23; refine (On_G g6).mono ?_; rintro e w' ⟨rfl, rfl⟩; rw [HC1.out])
            | (go_at_call 16; refine (HF.out _).mono ?_; rintro e w7 ⟨rfl, f7⟩)
            | (go_at_call 17; refine (Write_G (g6.fr f7 (fun _ h => h.elim)) okC (by omega) 0 (fill [113])).mono ?_; rintro e w8 ⟨rfl, g8, f8⟩; rw [HWR.out]))
          go_ret
          exact ⟨rfl, (F6.trans f7 (fun _ h _ => h)).trans f8 (fun j hj hlt => hj (HX.out j hlt))⟩
end Go.Proofs.Ytfalehgngioheaa
namespace Go.Proofs.Ytfalehgngioheaa.diskPower
open Go.ChangeShapes Go.WideShapes Go.ChangeAt Go.RowKit Go.VB
set_option maxHeartbeats 400000 in
set_option maxRecDepth 100000 in
theorem lifted (os : Os) (started : os.Started) (H : Type) (enc : TypeId × Value → H) :
    ReturnsInHanded {} Try.checked os 9 .any (Rows.diskPowerSpec.pre6 enc Try.prog Try.f9 Rows.diskPowerRow.domain false) (Rows.diskPowerSpec.post enc Try.prog Try.f9 false true false false) := by
  refine returnsInHanded_of_change (C := Try.checked) own started (by kernel_rfl) Try.func9
    (ChangeSpec.witness6 (enc := enc) (C := Try.checked) false ⟨#[], #[.int .i64 0, .slice none 0 0], []⟩ 8 (by kernel_rfl) (by kernel_rfl) (by kernel_rfl) (by kernel_rfl)) ?_
  intro W base args ds gs before hval0 hW hcnd _
  have hval : ∀ (j : Nat) t v, Try.f9.params[j]? = some t → args[j]? = some v → Value.okWide Try.prog W .any base t v := hval0
  have hW' := hW
  obtain ⟨p, q, hA0, hV, rfl, hfz, hnd⟩ := hW
  have hA : DataW.TrodAll enc Try.prog W 0 (fun _ => true) true Try.f9.params.toList args.toList ds p := hA0
  rw [Try.params9] at hA hval
  obtain ⟨v0, vs0, d0, ds0, p0, q0, hargs, rfl, rfl, h0, r0⟩ := trodAll_cons hA
  obtain ⟨v1, vs1, d1, ds1, p1, q1, rfl, rfl, rfl, h1, r1⟩ := trodAll_cons r0
  obtain ⟨rfl, rfl, rfl⟩ := trodAll_nil r1
  obtain rfl : args = #[v0, v1] := by cases args; simp_all
  obtain ⟨rfl, rfl⟩ := trodVars_none hV
  clear hA0 hval0
  refine Calls.mono (R := fun e w' => e = .returned (.bool true) ∧ Fr (fun _ => False) W w') ?_ fun e W' ⟨he, hf⟩ => ⟨_, he, post_law sound (by decide +kernel) rfl rfl (ht := Try.underlying4) (by rfl) hW' hf⟩
  obtain ⟨a0, rfl, -, -, -⟩ := open_int Try.underlying3 (hval 0 3 v0 rfl rfl) h0
  obtain ⟨q, hq, -, hql⟩ := open_sl Try.underlying32 (k := 1) (by kernel_rfl) (by omega) (hval 1 32 v1 rfl rfl) h1 (fun x => [Value.int .i64 x]) (fun x => True) (fun _ => rfl) (fun fuel cs r _ h => by obtain ⟨x, h1, _⟩ := elem_int Try.underlying3 fuel cs r h; exact ⟨x, h1, trivial⟩)
  rw [iv_flat] at hq
  exact DiskPower_walk a0 q hql W v1 hq
theorem proved : Rows.DiskPowerSaid :=
  OpenClaim.holds_of_wide 9 Try.f9 rfl rfl rfl rfl rfl rfl rfl ⟨rfl, rfl, rfl, rfl, rfl⟩ rfl rfl rfl rfl rfl (by kernel_rfl) Try.func9 (by kernel_rfl)
    (of_decide_eq_true (by kernel_rfl)) (by unfold Func.isWrapper; first | (rw [if_pos (by decide +kernel)]; kernel_rfl) | (rw [if_neg (by decide +kernel)]; exact ⟨rfl, rfl⟩))
    (fun os started H enc _ => lifted os started H enc)
end Go.Proofs.Ytfalehgngioheaa.diskPower
