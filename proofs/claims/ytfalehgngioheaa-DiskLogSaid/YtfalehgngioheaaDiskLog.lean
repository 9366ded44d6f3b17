/- Proved: for every slice of strings, every integer and every slice of integers the law DiskLog of chapter 05 returns true, and its arguments read afterwards as before. Conditions: none beyond the given statement. -/
import Derived.Test.YtfalehgngioheaaDiskLogM
import Derived.Test.YtfalehgngioheaaFin
set_option linter.unusedVariables false
namespace Go.Proofs.Ytfalehgngioheaa
open Go.RowKit Go.VB Go.VB.Disk
def logJ (L : List Bytes) (k : Nat) : Bytes := (((L.take 12).map (fun t => t.take 40)).take k).flatten
theorem logJ_succ {L : List Bytes} {k : Nat} (h5 : k < 12) (hk : k < L.length) : logJ L (k + 1) = logJ L k ++ L[k].take 40 := by
  unfold logJ
  rw [List.take_add_one]
  simp [h5, hk]
theorem logJ_len (L : List Bytes) : ∀ k, (logJ L k).length ≤ 40 * k := by
  intro k
  induction k with
  | zero => simp [logJ]
  | succ k ih =>
    by_cases h : k < 12 ∧ k < L.length
    · rw [logJ_succ h.1 h.2]; simp; omega
    · have hle : ((L.take 12).map (fun t => t.take 40)).length ≤ k := by simp; omega
      have : logJ L (k + 1) = logJ L k := by
        unfold logJ
        rw [List.take_of_length_le (Nat.le_succ_of_le hle), List.take_of_length_le hle]
      rw [this]; omega
theorem QRep_of {R : Nat → Prop} {w : World} {v : Value} {q : List Int} (h : Sl R w v q.length (iv q)) : QRep R w v q := by
  obtain ⟨a, cap, rfl, hc, h⟩ := h
  exact ⟨a, cap, rfl, hc, fun hq => h (by simpa [iv] using hq)⟩
structure LogInv (d : Nat) (w1 w wr : World) (J : Bytes) (fl : Nat) (l : Int) : Prop where
  g : G (fun j => j < w1.heap.size) wr d (LogM.M J fl l)
  fr : Fr (fun _ => False) w wr
  le : fl ≤ J.length
set_option maxHeartbeats 1000000 in
theorem DiskLog_walk (L : List Bytes) (hL : ∀ s ∈ L, s.length ≤ maxLen) (hLl : L.length ≤ maxLen) (a0 : Int) (q : List Int) (hql : q.length ≤ maxLen) (w : World) (v vq : Value) (hv : Sl (fun k => k < w.heap.size) w v L.length (sv L)) (hq : Sl (fun k => k < w.heap.size) w vq q.length (iv q)) :
    Calls Try.prog 5 #[v, .int .i64 a0, vq] w fun e w' => e = .returned (.bool true) ∧ Fr (fun _ => False) w w' := by
  unfold maxLen at hL hLl hql
  obtain ⟨a, cap, rfl, hcap, hc⟩ := hv
  have HC := hid hc
  have HL := hid hL
  have HLl := hid hLl
  have HQ := hid (QRep_of hq)
  have HQL := hid hql
  clear hc hL hLl hq hql
  obtain ⟨fl0, hf0, hfl0⟩ : ∃ x : Nat, a0 % 12 = x ∧ x < 12 := ⟨(a0 % 12).toNat, by omega, by omega⟩
  have HF0 := hid hf0
  clear hf0
  go_enter Try.func5, Try.ntmps5
  go_wp2_with (fail)
  refine (sanity_go _).mono ?_
  rintro e w1 ⟨rfl, f1⟩
  go_wp2_with (fail)
  refine (New_G _ _).mono ?_
  rintro e w2 ⟨rfl, g2, f2⟩
  have F2 := f1.trans f2 (fun _ h _ => h)
  have hX : ∀ j, j < w.heap.size → j < w1.heap.size := fun j hj => Nat.lt_of_lt_of_le hj f1.size
  clear f2 f1
  generalize hd : w1.heap.size + 1 = d at *
  clear hd
  have HX := hid hX
  clear hX
  have h0 : LogInv d w1 w w2 [] 0 0 := ⟨g2, F2, Nat.le_refl _⟩
  have h00 : bs (logJ L 0) = ⟨#[]⟩ := by simp [logJ]; rfl
  clear g2 F2
  go_wp2
  go_loopw [9, 10, 11] (fun va vs i wr => ∃ (k fl : Nat) (l : Int), k ≤ 12 ∧ k ≤ L.length ∧ i = .int .i64 k ∧ va = .string (bs (logJ L k)) ∧ vs = .int .i64 fl ∧ LogInv d w1 w wr (logJ L k) fl l) (fun _ _ i _ => 12 - (intOf i).toNat)
  case atStart => exact ⟨0, 0, 0, by omega, by omega, rfl, by rw [h00], rfl, h0⟩
  case round =>
    obtain ⟨k, fl, l, hk5, hkl, rfl, rfl, rfl, inv⟩ := hrel
    clear h0 h00
    have hJl := logJ_len L k
    by_cases hc : k < L.length ∧ k < 12
    · obtain ⟨hk, h5⟩ := hc
      obtain ⟨g0, o0, rfl, hlt, hr⟩ := HC.out (by intro h; rw [← List.length_eq_zero_iff] at h; simp [sv] at h; subst h; simp at hk)
      have hcell : wr.cell? ⟨g0, o0 + k, none⟩ = some (.string (bs L[k])) := cell_fr (hr k _ (by simp [sv, hk])) inv.fr (fun h => h)
      have ht := HL.out _ (List.getElem_mem hk)
      have HS := hid (logJ_succ h5 hk)
      have HLl2 := HLl.out
      generalize L[k] = t at *
      generalize logJ L k = J at *
      generalize hJ1e : logJ L (k + 1) = J1 at *
      have HJ1 := hid hJ1e
      clear hJ1e
      clear hr HC HL
      obtain ⟨q1, hq1⟩ : ∃ q : Nat, q = min 40 t.length := ⟨_, rfl⟩
      have hm : (if (40 : Int) < (t.length : Int) then (40 : Int) else (t.length : Int)) = (q1 : Int) := by split <;> omega
      have e1 : (bs t).extract 0 q1 = bs (t.take 40) := by
        subst hq1
        apply ByteArray.ext
        simp [bs]
      have hq2 : (q1 : Int) ≤ t.length := by omega
      clear hq1
      have hs := bs_size t
      have htl : (t.take 40).length ≤ 40 := by simp; omega
      generalize bs t = b at *
      go_wp2
      refine wp_region_plan [true, true, true, true, true, true, true, true, true, true, true, false] (fun kz w => (kz ≤ 11 → w.cell? ⟨g0, o0 + k, none⟩ = some (.string b)) ∧ True) (by kernel_rfl) (by kernel_rfl) (by intro c a d v w h; cases d <;> exact h) (fun kz => ⟨fun _ => hcell, trivial⟩) ?_
      repeat
        first
        | (refine wpTake_yes 11 rfl (by decide +kernel) ?_; apply Exists.intro; refine ⟨?_, ?_⟩; intro w hw; (try (have qa := (hw rfl).1 (Nat.le_refl _); have qb := (hw rfl).2)); ((go_simp <;> rfl)); simp only [Act.put, List.setIfInBounds_toArray, List.set_cons_zero, List.set_cons_succ])
        | (refine wpTake_no rfl ?_; simp only [Act.put, List.setIfInBounds_toArray, List.set_cons_zero, List.set_cons_succ])
        | (refine wpTake_pass ?_)
      refine wpTake_nil ?_
      repeat (refine wpRest_pass ?_)
      repeat (refine wpRest_op ?_; go_wp2; (refine ⟨?_, ?_⟩; focus (intro kz hk hk2; rintro ⟨qa, qb⟩; first | (exfalso; simp at hk2; omega) | exact ⟨qa, qb⟩ | (refine ⟨fun h => absurd h (by omega), ?_⟩; first | exact qb | (trivial)) | (refine ⟨fun h => ?_, ?_⟩; (have qa := qa h); all_goals (first | exact qa | exact qb | (trivial))))))
      refine wpRest_nil ?_
      clear e1 hm hq2 hs hcell ht
      generalize t.take 40 = z at *
      have hA := Append_G (inv.g.fr (Fr.refl (fun _ => False) wr).drew (fun _ h => h.elim)) (LogM.ok (by omega) inv.le) z (by omega)
      rw [LogM.append (by omega), ← HS.out] at hA
      go_wp2_with (fail)
      refine hA.mono ?_
      rintro e w4 ⟨rfl, g4, f4⟩
      have F4 := (inv.fr.drew).trans f4 (fun j hj hlt => hj (HX.out j hlt))
      have hle := inv.le
      have e5 := run_add_bs (P := Try.prog) w4 J z (by omega)
      rw [← HS.out] at e5
      have hJ1 : J1.length ≤ 40 * (k + 1) := by rw [HS.out]; simp; omega
      have hle1 : fl ≤ J1.length := by rw [HS.out]; simp; omega
      clear hA inv f4 hle
      by_cases hkf : k = fl0
      · have hb : ((k : Int) == (fl0 : Int)) = true := by rw [hkf]; exact beq_self_eq_true _
        have hFl := Flush_G g4
        rw [LogM.flush] at hFl
        have hj1 := bs_size J1
        clear hkf
        go_wp2_with (first
          | (go_at_call 18; refine (rest_any _ _ _ (by omega) (by omega)).mono ?_; rintro e w' ⟨rfl, rfl⟩; rw [HF0.out])
          | (go_at_call 24; refine hFl.mono ?_; rintro e w5 ⟨rfl, g5, f5⟩))
        have F5 := F4.trans f5 (fun j hj hlt => hj (HX.out j hlt))
        have inv' : LogInv d w1 w w5 J1 J1.length (wrap64 (wrap64 (l - 1) - 1)) := ⟨g5, F5, Nat.le_refl _⟩
        go_roundw
        case rel => exact ⟨k + 1, J1.length, _, by omega, by omega, by go_num, by rw [HJ1.out], rfl, by rw [HJ1.out]; exact inv'⟩
        case measure => simp [intOf]; omega
      · have hb : ((k : Int) == (fl0 : Int)) = false := by rw [beq_eq_false_iff_ne]; omega
        have inv' : LogInv d w1 w w4 J1 fl (wrap64 (l - 1)) := ⟨g4, F4, hle1⟩
        clear g4 F4
        go_wp2_with (first
          | (go_at_call 18; refine (rest_any _ _ _ (by omega) (by omega)).mono ?_; rintro e w' ⟨rfl, rfl⟩; rw [HF0.out]))
        go_roundw
        case rel => exact ⟨k + 1, fl, _, by omega, by omega, by go_num, by rw [HJ1.out], rfl, by rw [HJ1.out]; exact inv'⟩
        case measure => simp [intOf]; omega
    · clear HC HL
      generalize logJ L k = J at *
      obtain ⟨hg, hfr, hle⟩ := inv
      have hql : QRep (fun j => j < w1.heap.size) wr vq q := (HQ.out.mono (fun j hj => HX.out j hj)).fr hfr (fun _ _ h => h)
      obtain ⟨f, hcr, hf1, hf2⟩ := LogM.crash (log := J) (l := l) q hle
      have hC := Crash_G hg (LogM.ok (by omega) hle) (by omega) hql HQL.out
      rw [hcr] at hC
      have h1 : Calls Try.prog 22 #[.pointer (some ⟨d, 0, none⟩)] wr fun e w' => e = .returned (.string (bs J)) ∧ wr = w' := Log_G hg
      have h2 : Calls Try.prog 25 #[.pointer (some ⟨d, 0, none⟩)] wr fun e w' => e = .returned (.int .i64 fl) ∧ wr = w' := Flushed_G hg
      have e1 : (bs J).extract 0 f = bs (J.take f) := by apply ByteArray.ext; simp [bs]
      have s1 := bs_size J
      have s2 : (bs (J.take f)).size = f := by rw [bs_size]; simp; omega
      have HLl2 := HLl.out
      have H1 := hid h1
      have H2 := hid h2
      clear h1 h2 hg hcr hql HQ HQL HF0
      generalize hbJ : bs J = bJ at *
      by_cases hk : k < L.length
      all_goals
        go_wp2_with (first
          | (go_at_call 22; refine H1.out.mono ?_; rintro e w' ⟨rfl, rfl⟩)
          | (go_at_call 25; refine H2.out.mono ?_; rintro e w' ⟨rfl, rfl⟩)
          | fail)
        refine hC.mono ?_
        rintro e w4 ⟨rfl, g4, f4⟩
        have F4 := hfr.trans f4 (fun j hj hlt => hj (HX.out j hlt))
        have h3 : Calls Try.prog 22 #[.pointer (some ⟨d, 0, none⟩)] w4 fun e w' => e = .returned (.string (bs (J.take f))) ∧ w4 = w' := Log_G g4
        have h4 : Calls Try.prog 25 #[.pointer (some ⟨d, 0, none⟩)] w4 fun e w' => e = .returned (.int .i64 f) ∧ w4 = w' := Flushed_G g4
        have h5 : Calls Try.prog 23 #[.pointer (some ⟨d, 0, none⟩)] w4 fun e w' => e = .returned (.bool true) ∧ w4 = w' := On_G g4
        have H3 := hid h3
        have H4 := hid h4
        have H5 := hid h5
        clear h3 h4 h5 g4 hC H1 H2 f4 hfr
        generalize bs (J.take f) = bf at *
        have b1 : decide ((fl : Int) ≤ (f : Int)) = true := by simpa using hf1
        have b2 : decide ((f : Int) ≤ (J.length : Int)) = true := by simpa using hf2
        have b3 : (f : Int) ≤ (J.length : Int) := by omega
        go_wp2_with (first
          | (go_at_call 22; refine H3.out.mono ?_; rintro e w' ⟨rfl, rfl⟩)
          | (go_at_call 25; refine H4.out.mono ?_; rintro e w' ⟨rfl, rfl⟩)
          | (go_at_call 23; refine H5.out.mono ?_; rintro e w' ⟨rfl, rfl⟩))
        go_ret
        exact ⟨rfl, F4⟩
theorem iv_flat (L : List Int) : L.flatMap (fun x => [Value.int .i64 x]) = iv L := by
  induction L with
  | nil => rfl
  | cons a L ih => rw [List.flatMap_cons, ih]; rfl
end Go.Proofs.Ytfalehgngioheaa
namespace Go.Proofs.Ytfalehgngioheaa.diskLog
open Go.ChangeShapes Go.WideShapes Go.ChangeAt Go.RowKit Go.VB
set_option maxRecDepth 100000 in
theorem lifted (os : Os) (started : os.Started) (H : Type) (enc : TypeId × Value → H) :
    ReturnsInHanded {} Try.checked os 5 .any (Rows.diskLogSpec.pre6 enc Try.prog Try.f5 Rows.diskLogRow.domain false) (Rows.diskLogSpec.post enc Try.prog Try.f5 false true false false) := by
  refine returnsInHanded_of_change (C := Try.checked) own started (by kernel_rfl) Try.func5
    (ChangeSpec.witness6 (enc := enc) (C := Try.checked) false ⟨#[], #[.slice none 0 0, .int .i64 0, .slice none 0 0], []⟩ 8 (by kernel_rfl) (by kernel_rfl) (by kernel_rfl) (by kernel_rfl)) ?_
  intro W base args ds gs before hval0 hW hcnd _
  have hval : ∀ (j : Nat) t v, Try.f5.params[j]? = some t → args[j]? = some v → Value.okWide Try.prog W .any base t v := hval0
  have hW' := hW
  obtain ⟨p, q, hA0, hV, rfl, hfz, hnd⟩ := hW
  have hA : DataW.TrodAll enc Try.prog W 0 (fun _ => true) true Try.f5.params.toList args.toList ds p := hA0
  rw [Try.params5] at hA hval
  obtain ⟨v0, vs0, d0, ds0, p0, q0, hargs, rfl, rfl, h0, r0⟩ := trodAll_cons hA
  obtain ⟨v1, vs1, d1, ds1, p1, q1, rfl, rfl, rfl, h1, r1⟩ := trodAll_cons r0
  obtain ⟨v2, vs2, d2, ds2, p2, q2, rfl, rfl, rfl, h2, r2⟩ := trodAll_cons r1
  obtain ⟨rfl, rfl, rfl⟩ := trodAll_nil r2
  obtain rfl : args = #[v0, v1, v2] := by cases args; simp_all
  obtain ⟨rfl, rfl⟩ := trodVars_none hV
  clear hA0 hval0
  refine Calls.mono (R := fun e w' => e = .returned (.bool true) ∧ Fr (fun _ => False) W w') ?_ fun e W' ⟨he, hf⟩ => ⟨_, he, post_law sound (by decide +kernel) rfl rfl (ht := Try.underlying4) (by rfl) hW' hf⟩
  obtain ⟨a1, rfl, -, -, -⟩ := open_int Try.underlying3 (hval 1 3 v1 rfl rfl) h1
  obtain ⟨L, hs, hg, hl⟩ := open_sl Try.underlying22 (k := 1) (by kernel_rfl) (by omega) (hval 0 22 v0 rfl rfl) h0 (fun s => [Value.string (bs s)]) (fun s => s.length ≤ maxLen) (fun _ => rfl) (fun fuel cs r _ h => elem_string Try.underlying9 fuel cs r h)
  obtain ⟨q, hq, -, hql⟩ := open_sl Try.underlying32 (k := 1) (by kernel_rfl) (by omega) (hval 2 32 v2 rfl rfl) h2 (fun x => [Value.int .i64 x]) (fun x => True) (fun _ => rfl) (fun fuel cs r _ h => by obtain ⟨x, h1, _⟩ := elem_int Try.underlying3 fuel cs r h; exact ⟨x, h1, trivial⟩)
  rw [sv_flat] at hs
  rw [iv_flat] at hq
  exact DiskLog_walk L hg hl a1 q hql W v0 v2 hs hq
theorem proved : Rows.DiskLogSaid :=
  OpenClaim.holds_of_wide 5 Try.f5 rfl rfl rfl rfl rfl rfl rfl ⟨rfl, rfl, rfl, rfl, rfl⟩ rfl rfl rfl rfl rfl (by kernel_rfl) Try.func5 (by kernel_rfl)
    (of_decide_eq_true (by kernel_rfl)) (by unfold Func.isWrapper; first | (rw [if_pos (by decide +kernel)]; kernel_rfl) | (rw [if_neg (by decide +kernel)]; exact ⟨rfl, rfl⟩))
    (fun os started H enc _ => lifted os started H enc)
end Go.Proofs.Ytfalehgngioheaa.diskLog
