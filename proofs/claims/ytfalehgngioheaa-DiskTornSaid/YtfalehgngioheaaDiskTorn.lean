/- Proved: for every slice of strings and every two integers the law DiskTorn of chapter 05 returns true, and its arguments read afterwards as before. Conditions: none beyond the given statement. -/
import Derived.Test.YtfalehgngioheaaDiskTornM
import Derived.Test.YtfalehgngioheaaFin
set_option linter.unusedVariables false
namespace Go.Proofs.Ytfalehgngioheaa
open Go.RowKit Go.VB Go.VB.Disk
theorem Try.info_string : (Try.prog.info? 9).map (fun i => (i.zero, i.size, i.bytes)) = some (some (.string ⟨#[]⟩), 1, 16) := by kernel_rfl
def tornS (L : List Bytes) : List Bytes := (L.take 5).map fun t => fill (t.take 20 ++ [46])
structure TornInv (L : List Bytes) (d : Nat) (w wr : World) (k : Nat) (v : Value) (X : Nat → Prop) (l : Int) : Prop where
  g : G X wr d (Torn.M ((tornS L).take k) l)
  x : ∀ j, j < w.heap.size → X j
  own : wr.ownsRow 0 9 1 v (k + 1) (sv (Disk.blank :: (tornS L).take k))
  reg : ∀ j, v.ownBlock = some j → X j ∧ w.heap.size ≤ j
  fr : Fr (fun _ => False) w wr
theorem tornS_at {L : List Bytes} {k : Nat} (h5 : k < 5) (hk : k < L.length) : (tornS L)[k]? = some (fill (L[k].take 20 ++ [46])) := by
  simp [tornS, h5, hk]
theorem tornS_take {L : List Bytes} {k : Nat} (h5 : k < 5) (hk : k < L.length) : (tornS L).take (k + 1) = (tornS L).take k ++ [fill (L[k].take 20 ++ [46])] := by
  rw [List.take_add_one, tornS_at h5 hk]; rfl
theorem tornS_len (L : List Bytes) : (tornS L).length = min 5 L.length := by simp [tornS]
theorem tornS_512 {L : List Bytes} {s : Bytes} (h : s ∈ tornS L) : s.length = 512 := by
  simp only [tornS, List.mem_map] at h
  obtain ⟨t, -, rfl⟩ := h
  exact fill_length _ (by simp)
set_option maxHeartbeats 1000000 in
theorem DiskTorn_walk (L : List Bytes) (hL : ∀ s ∈ L, s.length ≤ maxLen) (hLl : L.length ≤ maxLen) (a0 a1 : Int) (w : World) (v : Value) (hv : Sl (fun k => k < w.heap.size) w v L.length (sv L)) :
    Calls Try.prog 3 #[v, .int .i64 a0, .int .i64 a1] w fun e w' => e = .returned (.bool true) ∧ Fr (fun _ => False) w w' := by
  unfold maxLen at hL hLl
  obtain ⟨a, cap, rfl, hcap, hc⟩ := hv
  have HC := hid hc
  have HL := hid hL
  have HLl := hid hLl
  clear hc hL hLl
  go_enter Try.func3, Try.ntmps3
  go_wp2_with (fail)
  refine (sanity_go _).mono ?_
  rintro e w1 ⟨rfl, f1⟩
  go_wp2_with (fail)
  refine (New_G _ _).mono ?_
  rintro e w2 ⟨rfl, g2, f2⟩
  have F2 := f1.trans f2 (fun _ h _ => h)
  clear f2
  generalize hd : w1.heap.size + 1 = d at *
  clear hd
  go_wp2_with (fail)
  refine (Blank_go _).mono ?_
  rintro e w3 ⟨rfl, f3⟩
  go_wp2
  have F3 := F2.trans f3 (fun _ h _ => h)
  have F4 := F3.alloc (.cells [Value.string (bs Disk.blank)].toArray 9)
  have h0 : ∃ X l, TornInv L d w (w3.alloc (.cells [Value.string (bs Disk.blank)].toArray 9)) 0 (.slice (some ⟨w3.heap.size, 0, none⟩) 1 1) X l := by
    have g3 : G (fun k => k < w1.heap.size) w3 d (Torn.M [] 0) := g2.fr f3 (fun _ h => h.elim)
    have f4 := (Fr.refl (fun k => k < w1.heap.size) w3).alloc (.cells [Value.string (bs Disk.blank)].toArray 9)
    refine ⟨_, 0, g3.own f4, fun j hj => .inl (Nat.lt_of_lt_of_le hj f1.size), own_new (by rfl) (by decide), fun j hj => ?_, F4⟩
    obtain rfl : w3.heap.size = j := by simpa [Value.ownBlock] using hj
    exact ⟨.inr ⟨Nat.le_refl _, by simp⟩, F3.size⟩
  go_loopw [9, 10] (fun v i wr => ∃ (k : Nat) (X : Nat → Prop) (l : Int), k ≤ 5 ∧ k ≤ L.length ∧ i = .int .i64 k ∧ TornInv L d w wr k v X l) (fun _ i _ => 5 - (intOf i).toNat)
  case atStart =>
    obtain ⟨X, l, h0⟩ := h0
    exact ⟨0, X, l, by omega, by omega, rfl, h0⟩
  case round =>
    obtain ⟨k, X, l, hk5, hkl, rfl, inv⟩ := hrel
    clear h0 f3 F3 F4 F2 g2
    by_cases hc : k < L.length ∧ k < 5
    · obtain ⟨hk, h5⟩ := hc
      obtain ⟨g0, o0, rfl, hlt, hr⟩ := HC.out (by intro h; rw [← List.length_eq_zero_iff] at h; simp [sv] at h; subst h; simp at hk)
      have hcell : wr.cell? ⟨g0, o0 + k, none⟩ = some (.string (bs L[k])) := cell_fr (hr k _ (by simp [sv, hk])) inv.fr (fun h => h)
      have ht := HL.out _ (List.getElem_mem hk)
      have HS := hid (tornS_take h5 hk)
      have HLl2 := HLl.out
      generalize L[k] = t at *
      obtain ⟨q, hq⟩ : ∃ q : Nat, q = min 20 t.length := ⟨_, rfl⟩
      have hm : (if (20 : Int) < (t.length : Int) then (20 : Int) else (t.length : Int)) = (q : Int) := by split <;> omega
      have e1 : (bs t).extract 0 q = bs (t.take 20) := by
        subst hq
        apply ByteArray.ext
        simp [bs]
      have hq2 : (q : Int) ≤ t.length := by omega
      clear hq
      have e2 := fun w => run_add_bs (P := Try.prog) w (t.take 20) [46] (by simp; omega)
      have hs := bs_size t
      have h46 : bs [46] = ⟨#[46]⟩ := rfl
      rw [h46] at e2
      generalize hb : bs t = b at *
      clear hb
      go_wp2
      refine wp_region_plan [true, true, true, true, true, true, true, true, true, true, true, true, false, false] (fun kz w => (kz ≤ 13 → w.cell? ⟨g0, o0 + k, none⟩ = some (.string b)) ∧ True) (by kernel_rfl) (by kernel_rfl) (by intro c a d v w h; cases d <;> exact h) (fun kz => ⟨fun _ => hcell, trivial⟩) ?_
      repeat
        first
        | (refine wpTake_yes 13 rfl (by decide +kernel) ?_; apply Exists.intro; refine ⟨?_, ?_⟩; intro w hw; (try (have qa := (hw rfl).1 (Nat.le_refl _); have qb := (hw rfl).2)); ((go_simp <;> rfl)); simp only [Act.put, List.setIfInBounds_toArray, List.set_cons_zero, List.set_cons_succ])
        | (refine wpTake_no rfl ?_; simp only [Act.put, List.setIfInBounds_toArray, List.set_cons_zero, List.set_cons_succ])
        | (refine wpTake_pass ?_)
      refine wpTake_nil ?_
      repeat (refine wpRest_pass ?_)
      refine wpRest_op ?_
      go_wp2_with ((go_at_call 16; refine (Fill_go _ _ (by simp; omega)).mono ?_; rintro e wf ⟨rfl, ff⟩))
      (refine ⟨?_, ?_⟩; focus (intro kz hk hk2; rintro ⟨qa, qb⟩; first | (exfalso; simp at hk2; omega) | exact ⟨qa, qb⟩ | (refine ⟨fun h => absurd h (by omega), ?_⟩; first | exact qb | (exact cell_fr qa ff (fun h => h))) | (refine ⟨fun h => ?_, ?_⟩; (have qa := qa h); all_goals (first | exact qa | exact qb | (exact cell_fr qa ff (fun h => h))))))
      repeat (refine wpRest_op ?_; go_wp2; (refine ⟨?_, ?_⟩; focus (intro kz hk hk2; rintro ⟨qa, qb⟩; first | (exfalso; simp at hk2; omega) | exact ⟨qa, qb⟩ | (refine ⟨fun h => absurd h (by omega), ?_⟩; first | exact qb | (trivial)) | (refine ⟨fun h => ?_, ?_⟩; (have qa := qa h); all_goals (first | exact qa | exact qb | (trivial))))))
      refine wpRest_nil ?_
      have ff : Fr (fun _ => False) wr wf := (Fr.refl _ wr).drew.trans ff (fun _ h _ => h)
      clear e1 e2 hm hq2 hs hcell h46
      generalize hz : fill (t.take 20 ++ [46]) = z at *
      have HZ := hid hz
      clear hz
      have fo := (Fr.refl (fun _ => False) wf).alloc (.cells [Value.string (bs z)].toArray 9)
      have fa := ff.trans fo (fun _ h _ => h)
      have ho := own_fr inv.own fa (fun _ _ h => h)
      have hsrc : Src Try.prog (wf.alloc (.cells [Value.string (bs z)].toArray 9)) 1 (.slice (some ⟨wf.heap.size, 0, none⟩) 1 1) 1 [Value.string (bs z)] := Src.slice (by simp) (by simp [Value.oneCell']) (Blk.new wf [Value.string (bs z)] 9).all
      have fX : Fr X wr (wf.alloc (.cells [Value.string (bs z)].toArray 9)) := fa.mono (fun _ h _ => h.elim)
      clear fa fo
      generalize hwo : wf.alloc (.cells [Value.string (bs z)].toArray 9) = wo at *
      go_wp2_with (refine wpList_append rfl (s := .tmp 45) (x := .tmp 47) (t := 22) (tx := 22) rfl Try.underlying22 Try.underlying22 (.inr ⟨_, rfl⟩) Try.info_string rfl rfl rfl ho hsrc (by omega) (by omega) ?_; intro ab ac wg hown hg hat)
      have hg : wo.grownBy wg u9.ownBlock := hg
      have hat : ∀ j, (Value.slice ab (k + 1 + 1) ac).ownBlock = some j → u9.ownBlock = some j ∨ j = wo.heap.size := hat
      have fg : Fr X wr wg := fX.grown hg (fun j hj _ => (inv.reg j hj).1)
      have fw : Fr (fun _ => False) w wg := (inv.fr.trans (hwo ▸ ff.alloc (.cells [Value.string (bs z)].toArray 9)) (fun _ h _ => h)).grown hg (fun j hj hlt => by have := (inv.reg j hj).2; omega)
      have hsz : wr.heap.size ≤ wo.heap.size ∧ wo.heap.size < wg.heap.size ∨ wr.heap.size ≤ wo.heap.size ∧ wo.heap.size = wg.heap.size := by have h1 := fX.size; have h2 := hg.size; omega
      have gg := inv.g.own fg
      have okk : (Torn.M ((tornS L).take k) l).Ok 5 := Torn.ok (fun s hs => tornS_512 (List.mem_of_mem_take hs)) (by simp; omega)
      have hz512 : z.length = 512 := by have := HS.out; exact tornS_512 (List.mem_of_mem_take (i := k + 1) (by rw [this]; simp))
      have hW := Write_G gg okk (by omega) 0 z
      rw [Torn.write hz512, ← HS.out] at hW
      refine hW.mono ?_
      rintro e w' ⟨rfl, g', f'⟩
      have hown' : w'.ownsRow 0 9 1 (.slice ab (k + 1 + 1) ac) (k + 1 + 1) (sv (Disk.blank :: (tornS L).take (k + 1))) := by
        have : sv (Disk.blank :: (tornS L).take (k + 1)) = sv (Disk.blank :: (tornS L).take k) ++ [Value.string (bs z)] := by rw [HS.out]; simp [sv]
        rw [this]
        refine own_fr hown f' fun j hj hn => hn ?_
        rcases hat j hj with h | h
        · exact .inl (inv.reg j h).1
        · exact .inr ⟨by omega, own_lt hown hj⟩
      have inv' : TornInv L d w w' (k + 1) (.slice ab (k + 1 + 1) ac) (fun j => X j ∨ (wr.heap.size ≤ j ∧ j < wg.heap.size)) (wrap64 (l - 1)) := by
        refine ⟨g', fun j hj => .inl (inv.x j hj), hown', fun j hj => ?_, fw.trans f' (fun j hj hlt => hj (.inl (inv.x j hlt)))⟩
        rcases hat j hj with h | h
        · exact ⟨.inl (inv.reg j h).1, (inv.reg j h).2⟩
        · exact ⟨.inr ⟨by omega, own_lt hown hj⟩, by have := inv.fr.size; omega⟩
      clear hg hat fg fw hsz gg okk hW g' f' hown' inv hown ff fX
      have INV := hid inv'
      clear inv'
      go_wp2
      go_roundw
      case rel => exact ⟨k + 1, _, _, by omega, by omega, by go_num, INV.out⟩
      case measure => simp [intOf]; omega
    · have hkS : (tornS L).take k = tornS L := List.take_of_length_le (by rw [tornS_len]; omega)
      have hkl2 : (tornS L).length = k := by rw [tornS_len]; omega
      obtain ⟨hg, hx, hown, hreg, hfr⟩ := inv
      rw [hkS] at hg hown
      clear hkS HC HL
      have HK := hid hkl2
      have hS : ∀ s ∈ Disk.blank :: tornS L, s.length = 512 := by
        intro s hs
        rcases List.mem_cons.1 hs with rfl | hs
        · exact Torn.blank_len
        · exact tornS_512 hs
      have HS := hid hS
      clear hkl2 hS
      generalize tornS L = S at *
      have HX := hid hx
      have HR := hid hreg
      have HLl2 := HLl.out
      clear hx hreg
      obtain ⟨ab, ac, rfl, hac⟩ := own_slice hown
      obtain ⟨x, hx, hxl⟩ : ∃ x : Nat, a0 % ((k : Int) + 1) = x ∧ x < k + 1 := ⟨(a0 % ((k : Int) + 1)).toNat, by have := Int.emod_nonneg a0 (show (k : Int) + 1 ≠ 0 by omega); omega, by have := Int.emod_lt_of_pos a0 (show 0 < (k : Int) + 1 by omega); have := Int.emod_nonneg a0 (show (k : Int) + 1 ≠ 0 by omega); omega⟩
      obtain ⟨y, hy, hyl⟩ : ∃ y : Nat, a1 % ((k : Int) + 1) = y ∧ y < k + 1 := ⟨(a1 % ((k : Int) + 1)).toNat, by have := Int.emod_nonneg a1 (show (k : Int) + 1 ≠ 0 by omega); omega, by have := Int.emod_lt_of_pos a1 (show 0 < (k : Int) + 1 by omega); have := Int.emod_nonneg a1 (show (k : Int) + 1 ≠ 0 by omega); omega⟩
      have EX := hid hx
      have EY := hid hy
      clear hx hy
      obtain ⟨r0, r1⟩ := Torn.crash (S := S) (l := l) (x := x) (y := y) (by rw [HK.out]; exact hxl) (by rw [HK.out]; exact hyl)
      have okM : (Torn.M S l).Ok 5 := Torn.ok (fun s hs => HS.out s (List.mem_cons_of_mem _ hs)) (by rw [HK.out]; exact hk5)
      have okC : ((Torn.M S l).crash [(x : Int), (y : Int), 0]).Ok 5 := Ok_crash okM _
      have R0 := hid r0
      have R1 := hid r1
      clear r0 r1
      by_cases hk : k < L.length
      all_goals
        go_wp2_with (go_at_call 18; refine (rest_any _ _ _ (by omega) (by omega)).mono ?_; rintro e w' ⟨rfl, rfl⟩)
        rw [EX.out, EY.out]
        refine (Crash_lit hg okM (by omega) [(x : Int), (y : Int), 0] (by simp) (by simp)).mono ?_
        rintro e w4 ⟨rfl, g4, f4⟩
        have F4 := hfr.trans f4 (fun j hj hlt => hj (HX.out j hlt))
        have own4 := own_fr hown f4 (fun j hj hn => hn (HR.out j hj).1)
        clear hg hfr hown f4
        go_wp2_with (fail)
        refine (Read_G g4 okC (by omega) 0).mono ?_
        rintro e w5 ⟨rfl, g5, f5⟩
        rw [R0.out]
        have F5 := F4.trans f5 (fun j hj _ => hj)
        have own5 := own_fr own4 f5 (fun _ _ h => h)
        clear F4 own4 g4 f5
        generalize hZ : bs (Torn.Z S x y) = bZ at *
        have HZ := hid hZ
        clear hZ
        go_wp2_with (fail)
        refine (Read_G g5 okC (by omega) 1).mono ?_
        rintro e w6 ⟨rfl, g6, f6⟩
        rw [R1.out]
        have F6 := F5.trans f6 (fun j hj _ => hj)
        have own6 := own_fr own5 f6 (fun _ _ h => h)
        clear F5 own5 g5 f6 g6 okM okC R0 R1
        go_wp2_with (fail)
        obtain ⟨ao, cp, hv, hcp, hrow⟩ := own_sl (R := fun _ => True) own6 (fun _ _ => trivial)
        obtain ⟨rfl, rfl⟩ : ab = ao ∧ ac = cp := by simpa using hv
        obtain ⟨g1, o1, rfl, -, hrow⟩ := hrow (by simp [sv])
        have hlS : (Disk.blank :: S).length = k + 1 := by rw [List.length_cons, HK.out]
        have cx : w6.cell? ⟨g1, o1 + x, none⟩ = some (.string (bs ((Disk.blank :: S).getD x []))) := hrow x _ (sv_at (getD_at (by omega)))
        have cy : w6.cell? ⟨g1, o1 + y, none⟩ = some (.string (bs ((Disk.blank :: S).getD y []))) := hrow y _ (sv_at (getD_at (by omega)))
        have hA : ((Disk.blank :: S).getD x []).length = 512 := HS.out _ (getD_mem (by omega))
        have hB : ((Disk.blank :: S).getD y []).length = 512 := HS.out _ (getD_mem (by omega))
        have hZ := HZ.out
        unfold Torn.Z at hZ
        generalize (Disk.blank :: S).getD x [] = A at *
        generalize (Disk.blank :: S).getD y [] = B at *
        have eA : (bs A).extract 0 256 = bs (A.take 256) := by apply ByteArray.ext; simp [bs]
        have eB : (bs B).extract 256 512 = bs (B.drop 256) := by apply ByteArray.ext; simp [bs]; rw [List.take_of_length_le (by simp; omega)]
        have sA : (bs A).size = 512 := by rw [bs_size, hA]
        have sB : (bs B).size = 512 := by rw [bs_size, hB]
        have e4 := fun w => run_add_bs (P := Try.prog) w (A.take 256) (B.drop 256) (by simp; omega)
        rw [hZ] at e4
        have HB := hid (Blank_go)
        clear hZ HZ hA hB HS HX HR EX EY own6 hrow hv hlS HK
        generalize bs (A.take 256) = z1 at *
        generalize bs (B.drop 256) = z2 at *
        generalize bs A = z3 at *
        generalize bs B = z4 at *
        generalize bs Disk.blank = z5 at *
        have x1 : (x : Int) < (k : Int) + 1 := by omega
        have y1 : (y : Int) < (k : Int) + 1 := by omega
        have x2 : (x : Int) ≤ (k : Int) := by omega
        have y2 : (y : Int) ≤ (k : Int) := by omega
        have x3 : x ≤ k := by omega
        have y3 : y ≤ k := by omega
        refine wp_region_plan [true, true, true, true, true, true, true, true, true, true, true, true, true, true, true, true, true, true, false, false, false, false] (fun kz w => (kz ≤ 21 → w.cell? ⟨g1, o1 + x, none⟩ = some (.string z3) ∧ w.cell? ⟨g1, o1 + y, none⟩ = some (.string z4)) ∧ True) (by kernel_rfl) (by kernel_rfl) (by intro c a d v w h; cases d <;> exact h) (fun kz => ⟨fun _ => ⟨cx, cy⟩, trivial⟩) ?_
        repeat
          first
          | (refine wpTake_yes 21 rfl (by decide +kernel) ?_; apply Exists.intro; refine ⟨?_, ?_⟩; intro w hw; (try (have qa := (hw rfl).1 (Nat.le_refl _); have qb := (hw rfl).2)); ((go_simp <;> rfl)); simp only [Act.put, List.setIfInBounds_toArray, List.set_cons_zero, List.set_cons_succ])
          | (refine wpTake_no rfl ?_; simp only [Act.put, List.setIfInBounds_toArray, List.set_cons_zero, List.set_cons_succ])
          | (refine wpTake_pass ?_)
        refine wpTake_nil ?_
        repeat (refine wpRest_pass ?_)
        refine wpRest_op ?_
        go_wp2_with ((go_at_call 15; refine (HB.out _).mono ?_; rintro e w7 ⟨rfl, f7⟩))
        (refine ⟨?_, ?_⟩; focus (intro kz hk hk2; rintro ⟨qa, qb⟩; first | (exfalso; simp at hk2; omega) | exact ⟨qa, qb⟩ | (refine ⟨fun h => absurd h (by omega), ?_⟩; first | exact qb | (exact ⟨cell_fr qa.1 f7 (fun h => h), cell_fr qa.2 f7 (fun h => h)⟩)) | (refine ⟨fun h => ?_, ?_⟩; (have qa := qa h); all_goals (first | exact qa | exact qb | (exact ⟨cell_fr qa.1 f7 (fun h => h), cell_fr qa.2 f7 (fun h => h)⟩)))))
        have F7 := F6.trans ((Fr.refl (fun _ => False) w6).drew.trans f7 (fun _ h _ => h)) (fun _ h _ => h)
        repeat (refine wpRest_op ?_; go_wp2; (refine ⟨?_, ?_⟩; focus (intro kz hk hk2; rintro ⟨qa, qb⟩; first | (exfalso; simp at hk2; omega) | exact ⟨qa, qb⟩ | (refine ⟨fun h => absurd h (by omega), ?_⟩; first | exact qb | (trivial)) | (refine ⟨fun h => ?_, ?_⟩; (have qa := qa h); all_goals (first | exact qa | exact qb | (trivial))))))
        refine wpRest_nil ?_
        go_wp2
        go_ret
        exact ⟨rfl, F7⟩
end Go.Proofs.Ytfalehgngioheaa
namespace Go.Proofs.Ytfalehgngioheaa.diskTorn
open Go.ChangeShapes Go.WideShapes Go.ChangeAt Go.RowKit Go.VB
set_option maxRecDepth 100000 in
theorem lifted (os : Os) (started : os.Started) (H : Type) (enc : TypeId × Value → H) :
    ReturnsInHanded {} Try.checked os 3 .any (Rows.diskTornSpec.pre6 enc Try.prog Try.f3 Rows.diskTornRow.domain false) (Rows.diskTornSpec.post enc Try.prog Try.f3 false true false false) := by
  refine returnsInHanded_of_change (C := Try.checked) own started (by kernel_rfl) Try.func3
    (ChangeSpec.witness6 (enc := enc) (C := Try.checked) false ⟨#[], #[.slice none 0 0, .int .i64 0, .int .i64 0], []⟩ 8 (by kernel_rfl) (by kernel_rfl) (by kernel_rfl) (by kernel_rfl)) ?_
  intro W base args ds gs before hval0 hW hcnd _
  have hval : ∀ (j : Nat) t v, Try.f3.params[j]? = some t → args[j]? = some v → Value.okWide Try.prog W .any base t v := hval0
  have hW' := hW
  obtain ⟨p, q, hA0, hV, rfl, hfz, hnd⟩ := hW
  have hA : DataW.TrodAll enc Try.prog W 0 (fun _ => true) true Try.f3.params.toList args.toList ds p := hA0
  rw [Try.params3] at hA hval
  obtain ⟨v0, vs0, d0, ds0, p0, q0, hargs, rfl, rfl, h0, r0⟩ := trodAll_cons hA
  obtain ⟨v1, vs1, d1, ds1, p1, q1, rfl, rfl, rfl, h1, r1⟩ := trodAll_cons r0
  obtain ⟨v2, vs2, d2, ds2, p2, q2, rfl, rfl, rfl, h2, r2⟩ := trodAll_cons r1
  obtain ⟨rfl, rfl, rfl⟩ := trodAll_nil r2
  obtain rfl : args = #[v0, v1, v2] := by cases args; simp_all
  obtain ⟨rfl, rfl⟩ := trodVars_none hV
  clear hA0 hval0
  refine Calls.mono (R := fun e w' => e = .returned (.bool true) ∧ Fr (fun _ => False) W w') ?_ fun e W' ⟨he, hf⟩ => ⟨_, he, post_law sound (by decide +kernel) rfl rfl (ht := Try.underlying4) (by rfl) hW' hf⟩
  obtain ⟨a1, rfl, -, -, -⟩ := open_int Try.underlying3 (hval 1 3 v1 rfl rfl) h1
  obtain ⟨a2, rfl, -, -, -⟩ := open_int Try.underlying3 (hval 2 3 v2 rfl rfl) h2
  obtain ⟨L, hs, hg, hl⟩ := open_sl Try.underlying22 (k := 1) (by kernel_rfl) (by omega) (hval 0 22 v0 rfl rfl) h0 (fun s => [Value.string (bs s)]) (fun s => s.length ≤ maxLen) (fun _ => rfl) (fun fuel cs r _ h => elem_string Try.underlying9 fuel cs r h)
  rw [sv_flat] at hs
  exact DiskTorn_walk L hg hl a1 a2 W v0 hs
theorem proved : Rows.DiskTornSaid :=
  OpenClaim.holds_of_wide 3 Try.f3 rfl rfl rfl rfl rfl rfl rfl ⟨rfl, rfl, rfl, rfl, rfl⟩ rfl rfl rfl rfl rfl (by kernel_rfl) Try.func3 (by kernel_rfl)
    (of_decide_eq_true (by kernel_rfl)) (by unfold Func.isWrapper; first | (rw [if_pos (by decide +kernel)]; kernel_rfl) | (rw [if_neg (by decide +kernel)]; exact ⟨rfl, rfl⟩))
    (fun os started H enc _ => lifted os started H enc)
end Go.Proofs.Ytfalehgngioheaa.diskTorn
