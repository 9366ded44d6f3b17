/- Proved: for every slice of strings, every integer and every slice of integers the law DiskHalves of chapter 05 returns true, and its arguments read afterwards as before. Conditions: none beyond the given statement. -/
import Derived.Test.YtfalehgngioheaaDiskHalvesM
import Derived.Test.YtfalehgngioheaaScript
import Derived.Test.YtfalehgngioheaaFin
set_option linter.unusedVariables false
namespace Go.Proofs.Ytfalehgngioheaa
open Go.RowKit Go.VB Go.VB.Disk
theorem Try.info_string : (Try.prog.info? 9).map (fun i => (i.zero, i.size, i.bytes)) = some (some (.string ⟨#[]⟩), 1, 16) := by kernel_rfl
theorem QRep_of {R : Nat → Prop} {w : World} {v : Value} {q : List Int} (h : Sl R w v q.length (iv q)) : QRep R w v q := by
  obtain ⟨a, cap, rfl, hc, h⟩ := h
  exact ⟨a, cap, rfl, hc, fun hq => h (by simpa [iv] using hq)⟩
theorem iv_flat (L : List Int) : L.flatMap (fun x => [Value.int .i64 x]) = iv L := by
  induction L with
  | nil => rfl
  | cons a L ih => rw [List.flatMap_cons, ih]; rfl
structure HalfInv (d : Nat) (w wr : World) (k : Nat) (v : Value) (X : Nat → Prop) (safe : Bytes) (ws : List Bytes) (l : Int) : Prop where
  g : G X wr d (HalfM.M safe ws l)
  x : ∀ j, j < w.heap.size → X j
  own : wr.ownsRow 0 9 1 v (ws.length + 1) (sv (safe :: ws))
  reg : ∀ j, v.ownBlock = some j → X j ∧ w.heap.size ≤ j
  fr : Fr (fun _ => False) w wr
  len : ∀ s ∈ safe :: ws, s.length = 512
  few : ws.length ≤ k
/-- does one of the first k agree with Z on what f shows? -/
def halfAny (f : Bytes → Bytes) (ms : List Bytes) (Z : Bytes) (k : Nat) : Bool := (ms.take k).any fun m => decide (f m = f Z)
theorem halfAny_succ {f : Bytes → Bytes} {ms : List Bytes} {Z : Bytes} {k : Nat} {m : Bytes} (h : ms[k]? = some m) : halfAny f ms Z (k + 1) = (halfAny f ms Z k || decide (f m = f Z)) := by
  unfold halfAny
  rw [List.take_add_one, h]
  simp
theorem halfAny_all {f : Bytes → Bytes} {ms : List Bytes} {Z : Bytes} {i : Nat} (hi : i < ms.length) (h : f (ms.getD i []) = f Z) : halfAny f ms Z ms.length = true := by
  unfold halfAny
  rw [List.take_length, List.any_eq_true]
  exact ⟨_, getD_mem hi, by simpa using h⟩
theorem beq_dec (a b : Bytes) : ((bs a).toList == (bs b).toList) = decide (a = b) := by
  rw [Lib.toList_data, Lib.toList_data]
  by_cases h : a = b
  · simp [h]
  · simp [h, bs]
set_option maxHeartbeats 2000000 in
theorem DiskHalves_walk (L : List Bytes) (hL : ∀ s ∈ L, s.length ≤ maxLen) (hLl : L.length ≤ maxLen) (a0 : Int) (q : List Int) (hql : q.length ≤ maxLen) (w : World) (v vq : Value) (hv : Sl (fun k => k < w.heap.size) w v L.length (sv L)) (hq : Sl (fun k => k < w.heap.size) w vq q.length (iv q)) :
    Calls Try.prog 7 #[v, .int .i64 a0, vq] w fun e w' => e = .returned (.bool true) ∧ Fr (fun _ => False) w w' := by
  unfold maxLen at hL hLl hql
  obtain ⟨a, cap, rfl, hcap, hc⟩ := hv
  have HC := hid hc
  have HL := hid hL
  have HLl := hid hLl
  have HQ := hid (QRep_of hq)
  have HQL := hid hql
  clear hc hL hLl hq hql
  obtain ⟨sy, hsy, hsy8⟩ : ∃ x : Nat, a0 % 8 = x ∧ x < 8 := ⟨(a0 % 8).toNat, by omega, by omega⟩
  have HSY := hid hsy
  clear hsy
  go_enter Try.func7, Try.ntmps7
  go_wp2_with (fail)
  refine (sanity_go _).mono ?_
  rintro e w1 ⟨rfl, f1⟩
  go_wp2_with (fail)
  refine (New_G _ _).mono ?_
  rintro e w2 ⟨rfl, g2, f2⟩
  have F2 := f1.trans f2 (fun _ h _ => h)
  clear f2
  generalize hd : w1.heap.size + 1 = d at *
  clear hd
  go_wp2_with (fail)
  refine (Blank_go _).mono ?_
  rintro e w3 ⟨rfl, f3⟩
  go_wp2
  have F3 := F2.trans f3 (fun _ h _ => h)
  have F4 := F3.alloc (.cells [Value.string (bs Disk.blank)].toArray 9)
  have h0 : ∃ X, HalfInv d w (w3.alloc (.cells [Value.string (bs Disk.blank)].toArray 9)) 0 (.slice (some ⟨w3.heap.size, 0, none⟩) 1 1) X Disk.blank [] 0 := by
    have g3 : G (fun k => k < w1.heap.size) w3 d (HalfM.M Disk.blank [] 0) := g2.fr f3 (fun _ h => h.elim)
    have f4 := (Fr.refl (fun k => k < w1.heap.size) w3).alloc (.cells [Value.string (bs Disk.blank)].toArray 9)
    refine ⟨_, g3.own f4, fun j hj => .inl (Nat.lt_of_lt_of_le hj f1.size), own_new (by rfl) (by decide), fun j hj => ?_, F4, by simp [Torn.blank_len], Nat.le_refl _⟩
    obtain rfl : w3.heap.size = j := by simpa [Value.ownBlock] using hj
    exact ⟨.inr ⟨Nat.le_refl _, by simp⟩, F3.size⟩
  go_loopw [9, 10] (fun v i wr => ∃ (k : Nat) (X : Nat → Prop) (safe : Bytes) (ws : List Bytes) (l : Int), k ≤ 6 ∧ k ≤ L.length ∧ i = .int .i64 k ∧ HalfInv d w wr k v X safe ws l) (fun _ i _ => 6 - (intOf i).toNat)
  case atStart =>
    obtain ⟨X, h0⟩ := h0
    exact ⟨0, X, _, _, _, by omega, by omega, rfl, h0⟩
  case round =>
    obtain ⟨k, X, safe, ws, l, hk5, hkl, rfl, inv⟩ := hrel
    clear h0 f3 F3 F4 F2 g2
    by_cases hc : k < L.length ∧ k < 6
    · obtain ⟨hk, h5⟩ := hc
      obtain ⟨g0, o0, rfl, hlt, hr⟩ := HC.out (by intro h; rw [← List.length_eq_zero_iff] at h; simp [sv] at h; subst h; simp at hk)
      have hcell : wr.cell? ⟨g0, o0 + k, none⟩ = some (.string (bs L[k])) := cell_fr (hr k _ (by simp [sv, hk])) inv.fr (fun h => h)
      have ht := HL.out _ (List.getElem_mem hk)
      have HLl2 := HLl.out
      generalize L[k] = t at *
      obtain ⟨q1, hm, e1, hq2⟩ := cut_str t 40
      have hm := hm 40 rfl
      have hs := bs_size t
      generalize hb : bs t = b at *
      clear hb hr HC HL
      go_wp2
      refine wp_region_script [(true, 0), (true, 1), (true, 2), (true, 3), (true, 4), (true, 5), (true, 6), (true, 7), (true, 8), (true, 9), (true, 10), (false, 11), (true, 12)] (fun kz w => (kz ≤ 12 → w.cell? ⟨g0, o0 + k, none⟩ = some (.string b)) ∧ True) (by kernel_rfl) (by kernel_rfl) (by intro c a d v w h; cases d <;> exact h) ?_
      repeat
        first
        | (refine wpS_pure rfl rfl rfl ?_; apply Exists.intro; refine ⟨?_, ?_⟩; intro w; ((go_simp <;> rfl)); simp only [Act.put, List.setIfInBounds_toArray, List.set_cons_zero, List.set_cons_succ])
        | (refine wpS_take 12 rfl rfl (by decide +kernel) ⟨fun _ => hcell, trivial⟩ ?_; apply Exists.intro; refine ⟨?_, ?_⟩; intro w hw; (have qa := (hw rfl).1 (Nat.le_refl _); have qb := (hw rfl).2); ((go_simp <;> rfl)); simp only [Act.put, List.setIfInBounds_toArray, List.set_cons_zero, List.set_cons_succ])
        | (refine wpS_skip rfl rfl ?_; simp only [Act.put, List.setIfInBounds_toArray, List.set_cons_zero, List.set_cons_succ])
      refine wpS_op rfl ?_
      go_wp2_with ((go_at_call 16; refine (Fill_go _ _ (by simp; omega)).mono ?_; rintro e wf ⟨rfl, ff⟩))
      (refine ⟨?_, ?_⟩; focus (intro kz hk hk2; rintro ⟨qa, qb⟩; first | (exfalso; simp at hk2; omega) | exact ⟨qa, qb⟩ | (refine ⟨fun h => absurd h (by omega), ?_⟩; first | exact qb | (exact cell_fr qa ff (fun h => h))) | (refine ⟨fun h => ?_, ?_⟩; (have qa := qa h); all_goals (first | exact qa | exact qb | (exact cell_fr qa ff (fun h => h))))))
      repeat
        first
        | (refine wpS_pure rfl rfl rfl ?_; apply Exists.intro; refine ⟨?_, ?_⟩; intro w; ((go_simp <;> rfl)); simp only [Act.put, List.setIfInBounds_toArray, List.set_cons_zero, List.set_cons_succ])
        | (refine wpS_take 12 rfl rfl (by decide +kernel) ⟨fun _ => hcell, trivial⟩ ?_; apply Exists.intro; refine ⟨?_, ?_⟩; intro w hw; (have qa := (hw rfl).1 (Nat.le_refl _); have qb := (hw rfl).2); ((go_simp <;> rfl)); simp only [Act.put, List.setIfInBounds_toArray, List.set_cons_zero, List.set_cons_succ])
        | (refine wpS_skip rfl rfl ?_; simp only [Act.put, List.setIfInBounds_toArray, List.set_cons_zero, List.set_cons_succ])
      refine wpS_nil ?_
      have ff : Fr (fun _ => False) wr wf := (Fr.refl _ wr).drew.trans ff (fun _ h _ => h)
      clear e1 hm hq2 hs hcell
      generalize fill (t.take 40) = z at *
      have gg := inv.g.fr ff (fun _ h => h.elim)
      have okk : (HalfM.M safe ws l).Ok 6 := HalfM.ok inv.len (by have := inv.few; omega)
      have hW := Write_G gg okk (by omega) 1 z
      by_cases hz : z.length = 512
      · rw [HalfM.write hz] at hW
        go_wp2_with (fail)
        refine hW.mono ?_
        rintro e w4 ⟨rfl, g4, f4⟩
        have F4 : Fr (fun j => ¬ X j) wr w4 := (ff.mono (fun _ h _ => h.elim)).trans f4 (fun j hj _ => hj)
        have own4 := own_fr inv.own F4 (fun j hj hn => hn (inv.reg j hj).1)
        have fo := (Fr.refl (fun _ => False) w4).alloc (.cells [Value.string (bs z)].toArray 9)
        have ho := own_fr own4 fo (fun _ _ h => h)
        have hsrc : Src Try.prog (w4.alloc (.cells [Value.string (bs z)].toArray 9)) 1 (.slice (some ⟨w4.heap.size, 0, none⟩) 1 1) 1 [Value.string (bs z)] := Src.slice (by simp) (by simp [Value.oneCell']) (Blk.new w4 [Value.string (bs z)] 9).all
        have hF := inv.fr.trans F4 (fun j hj hlt => hj (inv.x j hlt))
        obtain ⟨-, hx, -, hreg, hfr0, hlen, hfew⟩ := inv
        have szw : w.heap.size ≤ w4.heap.size := hF.size
        clear hW f4 F4 own4 gg okk hfr0 ff
        generalize hwo : w4.alloc (.cells [Value.string (bs z)].toArray 9) = wo at *
        have HX := hid hx
        have HR := hid hreg
        have HLN := hid hlen
        clear hx hreg hlen
        go_wp2_with (first
          | (refine wpList_append rfl (s := .tmp 51) (x := .tmp 53) (t := 22) (tx := 22) rfl Try.underlying22 Try.underlying22 (.inr ⟨_, rfl⟩) Try.info_string rfl rfl rfl ho hsrc (by omega) (by omega) ?_; intro ab ac wg hown hg hat)
          | fail)
        have hg : wo.grownBy wg u9.ownBlock := hg
        have hat : ∀ j, (Value.slice ab (ws.length + 1 + 1) ac).ownBlock = some j → u9.ownBlock = some j ∨ j = wo.heap.size := hat
        have fg : Fr X w4 wg := (fo.mono (fun _ h _ => h.elim)).grown hg (fun j hj _ => (HR.out j hj).1)
        have fw : Fr (fun _ => False) w wg := (hF.trans fo (fun _ h _ => h)).grown hg (fun j hj hlt => by have := (HR.out j hj).2; omega)
        have hsz : w4.heap.size ≤ wo.heap.size ∧ wo.heap.size ≤ wg.heap.size := ⟨fo.size, hg.size⟩
        have inv' : HalfInv d w wg (k + 1) (.slice ab (ws.length + 1 + 1) ac) (fun j => X j ∨ (w4.heap.size ≤ j ∧ j < wg.heap.size)) safe (ws ++ [z]) (wrap64 (l - 1)) := by
          refine ⟨g4.own fg, fun j hj => .inl (HX.out j hj), ?_, fun j hj => ?_, fw, ?_, by simp; omega⟩
          · have : sv (safe :: (ws ++ [z])) = sv (safe :: ws) ++ [Value.string (bs z)] := by simp [sv]
            rw [this, List.length_append]
            exact hown
          · rcases hat j hj with h | h
            · exact ⟨.inl (HR.out j h).1, (HR.out j h).2⟩
            · exact ⟨.inr ⟨by omega, own_lt hown hj⟩, by omega⟩
          · intro s hs
            rcases List.mem_cons.1 hs with rfl | hs
            · exact HLN.out _ (by simp)
            · rcases List.mem_append.1 hs with hs | hs
              · exact HLN.out _ (by simp [hs])
              · rw [List.mem_singleton.1 hs]; exact hz
        clear hg hat fg fw hsz hown g4 hF fo ho hsrc HX HR HLN
        by_cases hks : k = sy
        · have hb : ((k : Int) == (sy : Int)) = true := by rw [hks]; exact beq_self_eq_true _
          have hS := Sync_G inv'.g (HalfM.ok inv'.len (Nat.le_trans inv'.few (show k + 1 ≤ 1000000 by omega))) (Nat.le_refl _)
          rw [HalfM.sync] at hS
          have INV := hid inv'
          clear inv' hks hwo
          go_wp2_with (first
            | (go_at_call 18; refine (rest_any _ _ _ (by omega) (by omega)).mono ?_; rintro e w' ⟨rfl, rfl⟩; rw [HSY.out])
            | (go_at_call 26; refine hS.mono ?_; rintro e w6 ⟨rfl, g6, f6⟩))
          have f7 := (Fr.refl (fun j => X j ∨ (w4.heap.size ≤ j ∧ j < wg.heap.size)) w6).alloc (.cells [Value.string (bs z)].toArray 9)
          have F6 := INV.out.fr.trans f6 (fun j hj hlt => hj (INV.out.x j hlt))
          have inv2 : HalfInv d w (w6.alloc (.cells [Value.string (bs z)].toArray 9)) (k + 1) (.slice (some ⟨w6.heap.size, 0, none⟩) 1 1) (fun j => (X j ∨ (w4.heap.size ≤ j ∧ j < wg.heap.size)) ∨ (w6.heap.size ≤ j ∧ j < (w6.alloc (.cells [Value.string (bs z)].toArray 9)).heap.size)) z [] (wrap64 (wrap64 (l - 1) - 1)) := by
            refine ⟨g6.own f7, fun j hj => .inl (INV.out.x j hj), own_new (by rfl) (by decide), fun j hj => ?_, F6.alloc _, ?_, Nat.zero_le _⟩
            · obtain rfl : w6.heap.size = j := by simpa [Value.ownBlock] using hj
              exact ⟨.inr ⟨Nat.le_refl _, by simp⟩, F6.size⟩
            · intro s hs
              rw [List.mem_singleton.1 hs]; exact hz
          have INV2 := hid inv2
          clear inv2 f7 F6 f6 g6 INV hS
          go_roundw
          case rel => exact ⟨k + 1, _, _, _, _, by omega, by omega, by go_num, INV2.out⟩
          case measure => simp [intOf]; omega
        · have hb : ((k : Int) == (sy : Int)) = false := by rw [beq_eq_false_iff_ne]; omega
          have INV := hid inv'
          clear inv' hks hwo
          go_wp2_with (first
            | (go_at_call 18; refine (rest_any _ _ _ (by omega) (by omega)).mono ?_; rintro e w' ⟨rfl, rfl⟩; rw [HSY.out]))
          go_roundw
          case rel => exact ⟨k + 1, _, _, _, _, by omega, by omega, by go_num, INV.out⟩
          case measure => simp [intOf]; omega
      · rw [HalfM.write_wrong hz] at hW
        go_wp2_with (fail)
        refine hW.mono ?_
        rintro e w4 ⟨rfl, g4, f4⟩
        have F4 : Fr (fun j => ¬ X j) wr w4 := (ff.mono (fun _ h _ => h.elim)).trans f4 (fun j hj _ => hj)
        have own4 := own_fr inv.own F4 (fun j hj hn => hn (inv.reg j hj).1)
        have inv' : HalfInv d w w4 (k + 1) u9 X safe ws l := ⟨g4, inv.x, own4, inv.reg, inv.fr.trans F4 (fun j hj hlt => hj (inv.x j hlt)), inv.len, by have := inv.few; omega⟩
        clear hW g4 f4 F4 own4 inv okk gg ff
        go_wp2
        go_roundw
        case rel => exact ⟨k + 1, X, safe, ws, l, by omega, by omega, by go_num, inv'⟩
        case measure => simp [intOf]; omega
    · obtain ⟨i1, j1, hi1, hj1, Z, hZ, r1, r2⟩ := HalfM.crash (l := l) inv.len q
      obtain ⟨hg, hx, hown, hreg, hfr, hlen, hfew⟩ := inv
      have okM : (HalfM.M safe ws l).Ok 6 := HalfM.ok hlen (by omega)
      have okC : ((HalfM.M safe ws l).crash q).Ok 6 := Ok_crash okM q
      have hqr : QRep X wr vq q := (HQ.out.mono (fun j hj => hx j hj)).fr hfr (fun _ _ h => h)
      have hC := Crash_G hg okM (by omega) hqr HQL.out
      have hA : ((safe :: ws).getD i1 []).length = 512 := hlen _ (getD_mem (by simpa using hi1))
      have hB : ((safe :: ws).getD j1 []).length = 512 := hlen _ (getD_mem (by simpa using hj1))
      have hZl : Z.length = 512 := by rw [hZ]; simp only [List.length_append, List.length_take, List.length_drop, hA, hB]; omega
      have hZ1 : halfAny (List.take 256) (safe :: ws) Z (ws.length + 1) = true := halfAny_all (ms := safe :: ws) (i := i1) (by simpa using hi1) (by rw [hZ, List.take_left' (by rw [List.length_take, hA]; rfl)])
      have hZ2 : halfAny (List.drop 256) (safe :: ws) Z (ws.length + 1) = true := halfAny_all (ms := safe :: ws) (i := j1) (by simpa using hj1) (by rw [hZ, List.drop_left' (by rw [List.length_take, hA]; rfl)])
      have R1 := hid r1
      have R2 := hid r2
      have HX := hid hx
      have HR := hid hreg
      have HLN := hid hlen
      have HLl2 := HLl.out
      clear r1 r2 hx hreg hlen hg okM hqr hZ hA hB hi1 hj1 HC HL
      obtain ⟨ab, ac, rfl, hac⟩ := own_slice hown
      have hzs : (bs Z).size = 512 := by rw [bs_size, hZl]
      have HZ1 := hid hZ1
      have HZ2 := hid hZ2
      clear hZ1 hZ2
      have h00 : halfAny (List.take 256) (safe :: ws) Z 0 = false ∧ halfAny (List.drop 256) (safe :: ws) Z 0 = false := ⟨rfl, rfl⟩
      by_cases hk : k < L.length
      all_goals
        go_wp2_with (fail)
        refine hC.mono ?_
        rintro e w4 ⟨rfl, g4, f4⟩
        have F4 := hfr.trans f4 (fun j hj hlt => hj (HX.out j hlt))
        have own4 := own_fr hown f4 (fun j hj hn => hn (HR.out j hj).1)
        clear hC f4 hfr hown
        go_wp2_with (fail)
        refine (Read_G g4 okC (by omega) 1).mono ?_
        rintro e w5 ⟨rfl, g5, f5⟩
        rw [R1.out]
        have F5 := F4.trans f5 (fun j hj _ => hj)
        have own5 := own_fr own4 f5 (fun _ _ h => h)
        clear F4 own4 g4 f5
        go_wp2_with (fail)
        refine (Safe_G g5 okC 1).mono ?_
        rintro e w6 ⟨rfl, g6, f6⟩
        rw [R2.out]
        have F6 := F5.trans f6 (fun j hj _ => hj)
        have own6 := own_fr own5 f6 (fun _ _ h => h)
        clear F5 own5 g5 f6 g6
        go_wp2
        go_loopw [17, 18, 19] (fun o t i wz => ∃ k2 : Nat, k2 ≤ ws.length + 1 ∧ i = .int .i64 k2 ∧ o = .bool (halfAny (List.take 256) (safe :: ws) Z k2) ∧ t = .bool (halfAny (List.drop 256) (safe :: ws) Z k2) ∧ Fr (fun _ => False) w6 wz) (fun _ _ i _ => ws.length + 1 - (intOf i).toNat)
        case atStart => exact ⟨0, by omega, rfl, by rw [h00.1], by rw [h00.2], Fr.refl _ _⟩
        case round =>
          obtain ⟨k2, hk2, rfl, rfl, rfl, fz⟩ := hrel
          by_cases hlt : k2 < ws.length + 1
          · obtain ⟨ao, cp, hv, hcp, hrow⟩ := own_sl (R := fun _ => True) own6 (fun _ _ => trivial)
            obtain ⟨rfl, rfl⟩ : ab = ao ∧ ac = cp := by simpa using hv
            obtain ⟨g1, o1, rfl, -, hrow⟩ := hrow (by simp [sv])
            have hmk : (safe :: ws)[k2]? = some ((safe :: ws).getD k2 []) := getD_at (by simpa using hlt)
            have cell : wr.cell? ⟨g1, o1 + k2, none⟩ = some (.string (bs ((safe :: ws).getD k2 []))) := cell_fr (hrow k2 _ (sv_at hmk)) fz (fun h => h)
            have hml : ((safe :: ws).getD k2 []).length = 512 := HLN.out _ (getD_mem (by simpa using hlt))
            have S1 := hid (halfAny_succ (f := List.take 256) (Z := Z) hmk)
            have S2 := hid (halfAny_succ (f := List.drop 256) (Z := Z) hmk)
            generalize (safe :: ws).getD k2 [] = m at *
            have em1 : (bs m).extract 0 256 = bs (m.take 256) := by apply ByteArray.ext; simp [bs]
            have em2 : (bs m).extract 256 512 = bs (m.drop 256) := by apply ByteArray.ext; simp [bs]; rw [List.take_of_length_le (by simp; omega)]
            have ez1 : (bs Z).extract 0 256 = bs (Z.take 256) := by apply ByteArray.ext; simp [bs]
            have ez2 : (bs Z).extract 256 512 = bs (Z.drop 256) := by apply ByteArray.ext; simp [bs]; rw [List.take_of_length_le (by simp; omega)]
            have hms : (bs m).size = 512 := by rw [bs_size, hml]
            clear hmk hml hrow hv
            cases hb1 : halfAny (List.take 256) (safe :: ws) Z k2
            all_goals
              cases hb2 : halfAny (List.drop 256) (safe :: ws) Z k2
            all_goals
              have HB1 := hid hb1
              have HB2 := hid hb2
              clear hb1 hb2
              go_wp2_with (fail)
              refine wp_region_script [(true, 0), (true, 1), (true, 2), (true, 3), (true, 4), (true, 5), (true, 6), (true, 7), (true, 8), (true, 9), (true, 10), (true, 11)] (fun kz w => (kz ≤ 11 → w.cell? ⟨g1, o1 + k2, none⟩ = some (.string (bs m))) ∧ True) (by kernel_rfl) (by kernel_rfl) (by intro c a d v w h; cases d <;> exact h) ?_
              repeat
                first
                | (refine wpS_pure rfl rfl rfl ?_; apply Exists.intro; refine ⟨?_, ?_⟩; intro w; ((go_simp <;> rfl)); simp only [Act.put, List.setIfInBounds_toArray, List.set_cons_zero, List.set_cons_succ])
                | (refine wpS_take 11 rfl rfl (by decide +kernel) ⟨fun _ => cell, trivial⟩ ?_; apply Exists.intro; refine ⟨?_, ?_⟩; intro w hw; (have qa := (hw rfl).1 (Nat.le_refl _); have qb := (hw rfl).2); ((go_simp <;> rfl)); simp only [Act.put, List.setIfInBounds_toArray, List.set_cons_zero, List.set_cons_succ])
                | (refine wpS_skip rfl rfl ?_; simp only [Act.put, List.setIfInBounds_toArray, List.set_cons_zero, List.set_cons_succ])
              refine wpS_nil ?_
              go_wp2_with (fail)
              refine wp_region_script [(true, 0), (true, 1), (true, 2), (true, 3), (true, 4), (true, 5), (true, 6), (true, 7), (true, 8), (true, 9), (true, 10), (true, 11)] (fun kz w => (kz ≤ 11 → w.cell? ⟨g1, o1 + k2, none⟩ = some (.string (bs m))) ∧ True) (by kernel_rfl) (by kernel_rfl) (by intro c a d v w h; cases d <;> exact h) ?_
              repeat
                first
                | (refine wpS_pure rfl rfl rfl ?_; apply Exists.intro; refine ⟨?_, ?_⟩; intro w; ((go_simp <;> rfl)); simp only [Act.put, List.setIfInBounds_toArray, List.set_cons_zero, List.set_cons_succ])
                | (refine wpS_take 11 rfl rfl (by decide +kernel) ⟨fun _ => cell, trivial⟩ ?_; apply Exists.intro; refine ⟨?_, ?_⟩; intro w hw; (have qa := (hw rfl).1 (Nat.le_refl _); have qb := (hw rfl).2); ((go_simp <;> rfl)); simp only [Act.put, List.setIfInBounds_toArray, List.set_cons_zero, List.set_cons_succ])
                | (refine wpS_skip rfl rfl ?_; simp only [Act.put, List.setIfInBounds_toArray, List.set_cons_zero, List.set_cons_succ])
              refine wpS_nil ?_
              have e1 := S1.out
              have e2 := S2.out
              rw [HB1.out, ← beq_dec] at e1
              rw [HB2.out, ← beq_dec] at e2
              have E1 := hid e1
              have E2 := hid e2
              clear e1 e2 em1 em2 ez1 ez2 cell hms
              go_wp2
              go_roundw
              case rel => exact ⟨k2 + 1, by omega, by go_num, by rw [E1.out]; rfl, by rw [E2.out]; rfl, fz.drew.drew⟩
              case measure => simp [intOf]; omega
          · obtain rfl : k2 = ws.length + 1 := by omega
            rw [HZ1.out, HZ2.out]
            have FF := F6.trans fz (fun _ h _ => h)
            go_wp2
            go_ret
            exact ⟨rfl, FF⟩
end Go.Proofs.Ytfalehgngioheaa
namespace Go.Proofs.Ytfalehgngioheaa.diskHalves
open Go.ChangeShapes Go.WideShapes Go.ChangeAt Go.RowKit Go.VB
set_option maxHeartbeats 400000 in
set_option maxRecDepth 100000 in
theorem lifted (os : Os) (started : os.Started) (H : Type) (enc : TypeId × Value → H) :
    ReturnsInHanded {} Try.checked os 7 .any (Rows.diskHalvesSpec.pre6 enc Try.prog Try.f7 Rows.diskHalvesRow.domain false) (Rows.diskHalvesSpec.post enc Try.prog Try.f7 false true false false) := by
  refine returnsInHanded_of_change (C := Try.checked) own started (by kernel_rfl) Try.func7
    (ChangeSpec.witness6 (enc := enc) (C := Try.checked) false ⟨#[], #[.slice none 0 0, .int .i64 0, .slice none 0 0], []⟩ 8 (by kernel_rfl) (by kernel_rfl) (by kernel_rfl) (by kernel_rfl)) ?_
  intro W base args ds gs before hval0 hW hcnd _
  have hval : ∀ (j : Nat) t v, Try.f7.params[j]? = some t → args[j]? = some v → Value.okWide Try.prog W .any base t v := hval0
  have hW' := hW
  obtain ⟨p, q, hA0, hV, rfl, hfz, hnd⟩ := hW
  have hA : DataW.TrodAll enc Try.prog W 0 (fun _ => true) true Try.f7.params.toList args.toList ds p := hA0
  rw [Try.params7] at hA hval
  obtain ⟨v0, vs0, d0, ds0, p0, q0, hargs, rfl, rfl, h0, r0⟩ := trodAll_cons hA
  obtain ⟨v1, vs1, d1, ds1, p1, q1, rfl, rfl, rfl, h1, r1⟩ := trodAll_cons r0
  obtain ⟨v2, vs2, d2, ds2, p2, q2, rfl, rfl, rfl, h2, r2⟩ := trodAll_cons r1
  obtain ⟨rfl, rfl, rfl⟩ := trodAll_nil r2
  obtain rfl : args = #[v0, v1, v2] := by cases args; simp_all
  obtain ⟨rfl, rfl⟩ := trodVars_none hV
  clear hA0 hval0
  refine Calls.mono (R := fun e w' => e = .returned (.bool true) ∧ Fr (fun _ => False) W w') ?_ fun e W' ⟨he, hf⟩ => ⟨_, he, post_law sound (by decide +kernel) rfl rfl (ht := Try.underlying4) (by rfl) hW' hf⟩
  obtain ⟨a1, rfl, -, -, -⟩ := open_int Try.underlying3 (hval 1 3 v1 rfl rfl) h1
  obtain ⟨L, hs, hg, hl⟩ := open_sl Try.underlying22 (k := 1) (by kernel_rfl) (by omega) (hval 0 22 v0 rfl rfl) h0 (fun s => [Value.string (bs s)]) (fun s => s.length ≤ maxLen) (fun _ => rfl) (fun fuel cs r _ h => elem_string Try.underlying9 fuel cs r h)
  obtain ⟨q, hq, -, hql⟩ := open_sl Try.underlying32 (k := 1) (by kernel_rfl) (by omega) (hval 2 32 v2 rfl rfl) h2 (fun x => [Value.int .i64 x]) (fun x => True) (fun _ => rfl) (fun fuel cs r _ h => by obtain ⟨x, h1, _⟩ := elem_int Try.underlying3 fuel cs r h; exact ⟨x, h1, trivial⟩)
  rw [sv_flat] at hs
  rw [iv_flat] at hq
  exact DiskHalves_walk L hg hl a1 q hql W v0 v2 hs hq
theorem proved : Rows.DiskHalvesSaid :=
  OpenClaim.holds_of_wide 7 Try.f7 rfl rfl rfl rfl rfl rfl rfl ⟨rfl, rfl, rfl, rfl, rfl⟩ rfl rfl rfl rfl rfl (by kernel_rfl) Try.func7 (by kernel_rfl)
    (of_decide_eq_true (by kernel_rfl)) (by unfold Func.isWrapper; first | (rw [if_pos (by decide +kernel)]; kernel_rfl) | (rw [if_neg (by decide +kernel)]; exact ⟨rfl, rfl⟩))
    (fun os started H enc _ => lifted os started H enc)
end Go.Proofs.Ytfalehgngioheaa.diskHalves
