import Derived.Test.YtfalehgngioheaaDiskF
set_option linter.unusedVariables false
namespace Go.Proofs.Ytfalehgngioheaa
open Go.RowKit Go.VB Go.VB.Disk
theorem Try.info_u8 : (Try.prog.info? 5).map (fun i => (i.zero, i.size, i.bytes)) = some (some (.int .u8 0), 1, 1) := by kernel_rfl
theorem Try.info_halves : (Try.prog.info? 76).map (fun i => (i.zero, i.size, i.bytes)) = some (some (.agg (zcells 512).toArray), 512, 512) := by kernel_rfl
theorem Append1_go (w : World) (bd bs_ d : Nat) (a : Option Addr) (len cap : Nat) (l : Bytes) (h1 : w.cell? ⟨bd, 0, none⟩ = some (.pointer (some ⟨d, 0, none⟩))) (h2 : w.cell? ⟨bs_, 0, none⟩ = some (.string (bs l)))
   (c1 : w.cell? ⟨d, 1, none⟩ = some (.slice a len cap)) (hlen : len ≤ 1048576) (hl : l.length ≤ 140737488355328) :
   Calls Try.prog 44 #[.pointer (some ⟨bd, 0, none⟩), .pointer (some ⟨bs_, 0, none⟩)] w fun e w' => e = .returned (.int .i64 (if 1048576 < len + l.length then 31 else 0)) ∧ ∃ n, w' = w.drewN n := by
  have hsz : (bs l).size = l.length := bs_size l
  by_cases hc : 1048576 < len + l.length
  · rw [if_pos hc]
    have hc' : (1048576 : Int) < (len : Int) + l.length := by omega
    go_enter Try.func44, Try.ntmps44
    go_wp2
    go_quiet (fail)
    go_wp2
    go_ret
    exact ⟨rfl, _, rfl⟩
  · rw [if_neg hc]
    have hc' : ¬ (1048576 : Int) < (len : Int) + l.length := by omega
    go_enter Try.func44, Try.ntmps44
    go_wp2
    go_quiet (fail)
    go_wp2
    go_ret
    exact ⟨rfl, _, rfl⟩
theorem Cut1_go (w : World) (bd bn d : Nat) (n : Int) (a : Option Addr) (len cap : Nat) (h1 : w.cell? ⟨bd, 0, none⟩ = some (.pointer (some ⟨d, 0, none⟩))) (h2 : w.cell? ⟨bn, 0, none⟩ = some (.int .i64 n))
   (c1 : w.cell? ⟨d, 1, none⟩ = some (.slice a len cap)) :
   Calls Try.prog 49 #[.pointer (some ⟨bn, 0, none⟩), .pointer (some ⟨bd, 0, none⟩)] w fun e w' => e = .returned (.int .i64 (if n < 0 ∨ (len : Int) < n then 1 else 0)) ∧ ∃ m, w' = w.drewN m := by
  by_cases h0 : n < 0
  · rw [if_pos (.inl h0)]
    go_enter Try.func49, Try.ntmps49
    go_wp2
    go_quiet (fail)
    go_wp2
    go_ret
    exact ⟨rfl, _, rfl⟩
  · have hd : decide (n < 0) = false := by simpa using h0
    by_cases hc : (len : Int) < n
    · rw [if_pos (.inr hc)]
      go_enter Try.func49, Try.ntmps49
      go_wp2
      go_quiet (fail)
      go_wp2
      go_ret
      exact ⟨rfl, _, rfl⟩
    · rw [if_neg (by omega)]
      go_enter Try.func49, Try.ntmps49
      go_wp2
      go_quiet (fail)
      go_wp2
      go_ret
      exact ⟨rfl, _, rfl⟩
theorem Write1_go (w : World) (bd bn bs_ d : Nat) (n : Int) (a : Option Addr) (len cap : Nat) (l : Bytes) (h1 : w.cell? ⟨bd, 0, none⟩ = some (.pointer (some ⟨d, 0, none⟩))) (h2 : w.cell? ⟨bn, 0, none⟩ = some (.int .i64 n))
   (h3 : w.cell? ⟨bs_, 0, none⟩ = some (.string (bs l))) (c0 : w.cell? ⟨d, 0, none⟩ = some (.slice a len cap)) :
   Calls Try.prog 37 #[.pointer (some ⟨bd, 0, none⟩), .pointer (some ⟨bn, 0, none⟩), .pointer (some ⟨bs_, 0, none⟩)] w fun e w' => e = .returned (.int .i64 (if decide (0 ≤ n) && decide (n < len) then (if l.length = 512 then 0 else 1) else 22)) ∧ ∃ m, w' = w.drewN m := by
  have hsz : (bs l).size = l.length := bs_size l
  by_cases hb : (decide (0 ≤ n) && decide (n < (len : Int))) = true
  · rw [if_pos hb]
    by_cases hc : l.length = 512
    · rw [if_pos hc]
      have hc' : (((l.length : Nat) : Int) != 512) = false := by simp [hc]
      clear hc
      go_enter Try.func37, Try.ntmps37
      go_wp2_with (first
        | (go_at_call 38; refine (is_some _ _ _ _ _ _ c0).mono ?_; rintro e w' ⟨rfl, rfl⟩; rw [hb]))
      go_ret
      exact ⟨rfl, 0, rfl⟩
    · rw [if_neg hc]
      have hc' : (((l.length : Nat) : Int) != 512) = true := by rw [bne_iff_ne]; omega
      clear hc
      go_enter Try.func37, Try.ntmps37
      go_wp2_with (first
        | (go_at_call 38; refine (is_some _ _ _ _ _ _ c0).mono ?_; rintro e w' ⟨rfl, rfl⟩; rw [hb]))
      go_ret
      exact ⟨rfl, 0, rfl⟩
  · rw [if_neg hb]
    have hb' : (decide (0 ≤ n) && decide (n < (len : Int))) = false := by simpa using hb
    clear hb
    go_enter Try.func37, Try.ntmps37
    go_wp2_with (first
      | (go_at_call 38; refine (is_some _ _ _ _ _ _ c0).mono ?_; rintro e w' ⟨rfl, rfl⟩; rw [hb']))
    go_ret
    exact ⟨rfl, 0, rfl⟩
set_option maxHeartbeats 400000 in
theorem Append2_go (w : World) (bd bs_ d : Nat) (l m : Bytes) (pv lv fl off armed left : Value) (h1 : Blk w bd [.pointer (some ⟨d, 0, none⟩)] 24) (h2 : Blk w bs_ [.string (bs l)] 9)
   (hd : Blk w d [pv, lv, fl, off, armed, left] 69) (ho : w.ownsRow 0 5 1 lv m.length (bv m)) (hl : m.length + l.length ≤ 1048576) :
   Calls Try.prog 45 #[.pointer (some ⟨bd, 0, none⟩), .pointer (some ⟨bs_, 0, none⟩)] w fun e w' => e = .returned (.tuple #[]) ∧ ∃ lv', w'.ownsRow 0 5 1 lv' (m ++ l).length (bv (m ++ l)) ∧
     Blk w' d [pv, lv', fl, off, armed, left] 69 ∧ Fr (fun k => k = d ∨ lv.ownBlock = some k) w w' ∧ ∀ k, lv'.ownBlock = some k → lv.ownBlock = some k ∨ w.heap.size ≤ k := by
  have own : ∀ {b : Nat} {c : List Value} {t : TypeId}, Blk w b c t → t ≠ 5 → some b ≠ lv.ownBlock := by
    intro b c t hb ht e
    exact own_ne (S := fun _ => True) hb ht ⟨ho, fun _ _ => trivial⟩ b e.symm rfl
  have o1 := hid (own h1 (by decide))
  have o2 := hid (own h2 (by decide))
  have o3 := hid (own hd (by decide))
  have n1 := h1.ne_of_type hd (by decide)
  have c1 : w.cell? ⟨d, 1, none⟩ = some lv := hd.cell 1
  have k1 : w.cell? ⟨bd, 0, none⟩ = some (.pointer (some ⟨d, 0, none⟩)) := h1.cell 0
  have k2 : w.cell? ⟨bs_, 0, none⟩ = some (.string (bs l)) := h2.cell 0
  have H1 := hid h1
  have H2 := hid h2
  have HD := hid hd
  have HO := hid ho
  have hlb : l.length = (bv l).length := (bv_length l).symm
  have HLB := hid hlb
  clear h1 h2 hd ho own hlb
  go_enter Try.func45, Try.ntmps45
  go_wp2
  refine wp_region_plan [true, true, true, true, true, true, false, false, false, false] (fun kz w => (kz ≤ 6 → w.cell? ⟨d, 1, none⟩ = some lv) ∧ w.cell? ⟨bd, 0, none⟩ = some (.pointer (some ⟨d, 0, none⟩)) ∧ w.cell? ⟨bs_, 0, none⟩ = some (.string (bs l))) (by kernel_rfl) (by kernel_rfl) (by intro c a d v w h; cases d <;> exact h) (fun kz => ⟨fun _ => c1, k1, k2⟩) ?_
  repeat
    first
    | (refine wpTake_yes 6 rfl (by decide +kernel) ?_; apply Exists.intro; refine ⟨?_, ?_⟩; intro w hw; (try (have qa := (hw rfl).1 (Nat.le_refl _); have qb := (hw rfl).2)); ((go_simp <;> rfl)); simp only [Act.put, List.setIfInBounds_toArray, List.set_cons_zero, List.set_cons_succ])
    | (refine wpTake_yes 7 rfl (by decide +kernel) ?_; apply Exists.intro; refine ⟨?_, ?_⟩; intro w hw; (have qb := (hw rfl).2); ((go_simp <;> rfl)); simp only [Act.put, List.setIfInBounds_toArray, List.set_cons_zero, List.set_cons_succ])
    | (refine wpTake_no rfl ?_; simp only [Act.put, List.setIfInBounds_toArray, List.set_cons_zero, List.set_cons_succ])
    | (refine wpTake_pass ?_)
  refine wpTake_nil ?_
  repeat (refine wpRest_pass ?_)
  refine wpRest_op ?_
  refine wpList_append rfl rfl Try.underlying37 Try.underlying9 (.inl rfl) Try.info_u8 rfl rfl rfl (World.ownsRow.drew HO.out) (Src.string l) (by omega) (by omega) ?_
  intro b c w1 hown hg hat
  have g1 := H1.out.drew.grown hg o1.out
  have g2 := H2.out.drew.grown hg o2.out
  have g3 := HD.out.drew.grown hg o3.out
  have F1 := ((Fr.refl (fun k => k = d ∨ lv.ownBlock = some k) w).drew).grown hg (fun k hk _ => .inr hk)
  have z3 := g3.frozen
  have d1 : w1.cell? ⟨d, 1, none⟩ = some lv := g3.cell 1
  have b1 : w1.cell? ⟨bd, 0, none⟩ = some (.pointer (some ⟨d, 0, none⟩)) := g1.cell 0
  have b2 : w1.cell? ⟨bs_, 0, none⟩ = some (.string (bs l)) := g2.cell 0
  have HW := hid hown
  have HAT := hid hat
  have G3 := hid g3
  clear hg hown hat g1 g2 g3
  go_wp2
  refine ⟨fun k hk hk2 hS => ⟨fun h => (by omega), b1, b2⟩, ?_⟩
  repeat (refine wpRest_op ?_; go_wp2; (refine ⟨?_, ?_⟩; focus (intro kz hk hk2; rintro ⟨qa, qb⟩; first | (exfalso; simp at hk2; omega) | exact ⟨qa, qb⟩ | (refine ⟨fun h => absurd h (by omega), ?_⟩; first | exact qb | (go_simp)) | (refine ⟨fun h => ?_, ?_⟩; (have qa := qa h); all_goals (first | exact qa | exact qb | (go_simp))))))
  refine wpRest_nil ?_
  go_end0
  refine ⟨rfl, .slice b (m.length + l.length) c, ?_, ?_, ?_, ?_⟩
  · have := HW.out
    rw [bv_append, List.length_append]
    exact ⟨this.1, by
      rcases this.2 with h | ⟨g, cap, cur, hv, hb, hg, rest⟩
      · exact .inl h
      · refine .inr ⟨g, cap, cur, hv, hb, ?_, rest⟩
        have hne : g ≠ d := by
          rintro rfl
          have := G3.out.uniq (show Blk w1 g cur.toList 5 by unfold Blk; simpa using hg)
          exact absurd this.2 (by decide)
        rw [heap_setCell_other _ _ _ _ hne]; exact hg⟩
  · exact G3.out.set 1 _
  · exact F1.setCell ⟨d, 1, none⟩ _ (fun _ => .inl rfl)
  · intro k hk
    rcases HAT.out k hk with h | h
    · exact .inl h
    · right; rw [h]; exact Nat.le_refl _
set_option maxHeartbeats 400000 in
set_option maxRecDepth 100000 in
theorem Write2_go (w : World) (bd bn bs_ d pb n : Nat) (l : Bytes) (L : List (Bytes × Value)) (safe : Bytes) (v lv fl off armed left : Value) (ws : List Bytes) (h1 : Blk w bd [.pointer (some ⟨d, 0, none⟩)] 24) (h2 : Blk w bn [.int .i64 n] 3) (h3 : Blk w bs_ [.string (bs l)] 9)
   (hd : Blk w d [.slice (some ⟨pb, 0, none⟩) L.length L.length, lv, fl, off, armed, left] 69) (hp : Blk w pb (pcells L) 78) (hL : ∀ p ∈ L, p.1.length = 512) (hn : L.length ≤ 400) (hi : L[n]? = some (safe, v))
   (ho : w.ownsRow 0 76 512 v ws.length (ws.flatMap bv)) (hws : ws.length ≤ 1000000) (hl : l.length = 512) :
   Calls Try.prog 39 #[.pointer (some ⟨bd, 0, none⟩), .pointer (some ⟨bn, 0, none⟩), .pointer (some ⟨bs_, 0, none⟩)] w fun e w' => e = .returned (.tuple #[]) ∧ ∃ v', w'.ownsRow 0 76 512 v' (ws ++ [l]).length ((ws ++ [l]).flatMap bv) ∧
     Blk w' pb (pcells (L.set n (safe, v'))) 78 ∧ Fr (fun k => k = pb ∨ v.ownBlock = some k) w w' ∧ ∀ k, v'.ownBlock = some k → v.ownBlock = some k ∨ w.heap.size ≤ k := by
  have own : ∀ {b : Nat} {c : List Value} {t : TypeId}, Blk w b c t → t ≠ 76 → some b ≠ v.ownBlock := by
    intro b c t hb ht e
    exact own_ne (S := fun _ => True) hb ht ⟨ho, fun _ _ => trivial⟩ b e.symm rfl
  have o1 := hid (own h1 (by decide))
  have o2 := hid (own h2 (by decide))
  have o3 := hid (own h3 (by decide))
  have o4 := hid (own hd (by decide))
  have o5 := hid (own hp (by decide))
  have hlt := (List.getElem?_eq_some_iff.1 hi).1
  have hlt' : (n : Int) < L.length := by omega
  have hn0 : (0 : Int) ≤ n := by omega
  have hs := hL _ (List.mem_of_getElem? hi)
  have k5 := rangeAt_one (rangeAt_right (pcells_range hp hL n _ hi) (n * 513 + 512) (by rw [bv_length, hs]))
  have c0 : w.cell? ⟨d, 0, none⟩ = some (.slice (some ⟨pb, 0, none⟩) L.length L.length) := hd.cell 0
  have k1 : w.cell? ⟨bd, 0, none⟩ = some (.pointer (some ⟨d, 0, none⟩)) := h1.cell 0
  have k2 : w.cell? ⟨bn, 0, none⟩ = some (.int .i64 n) := h2.cell 0
  have k3 : w.cell? ⟨bs_, 0, none⟩ = some (.string (bs l)) := h3.cell 0
  have H1 := hid h1
  have H2 := hid h2
  have H3 := hid h3
  have HD := hid hd
  have HP := hid hp
  have HO := hid ho
  have HL := hid hL
  have HI := hid hi
  have HLL := hid hl
  have HS := hid hs
  dsimp only at k5
  clear h1 h2 h3 hd hp ho hL hi hl own hs
  go_enter Try.func39, Try.ntmps39
  go_wp2
  refine wp_region_plan [true, true, true, true, true, true, true, true, true, true, true, true, true, true, false, false, false, false, false, false] (fun kz w => (kz ≤ 17 → w.cell? ⟨d, 0, none⟩ = some (.slice (some ⟨pb, 0, none⟩) L.length L.length)) ∧ w.cell? ⟨bd, 0, none⟩ = some (.pointer (some ⟨d, 0, none⟩)) ∧ w.cell? ⟨bn, 0, none⟩ = some (.int .i64 n) ∧ w.cell? ⟨bs_, 0, none⟩ = some (.string (bs l)) ∧ w.cell? ⟨pb, n * 513 + 512, none⟩ = some v) (by kernel_rfl) (by kernel_rfl) (by intro c a d v w h; cases d <;> exact h) (fun kz => ⟨fun _ => c0, k1, k2, k3, k5⟩) ?_
  repeat
    first
    | (refine wpTake_yes 17 rfl (by decide +kernel) ?_; apply Exists.intro; refine ⟨?_, ?_⟩; intro w hw; (try (have qa := (hw rfl).1 (Nat.le_refl _); have qb := (hw rfl).2)); ((go_simp <;> rfl)); simp only [Act.put, List.setIfInBounds_toArray, List.set_cons_zero, List.set_cons_succ])
    | (refine wpTake_no rfl ?_; simp only [Act.put, List.setIfInBounds_toArray, List.set_cons_zero, List.set_cons_succ])
    | (refine wpTake_pass ?_)
  refine wpTake_nil ?_
  repeat (refine wpRest_pass ?_)
  refine wpRest_op ?_
  go_wp2_with (first | (go_at_call 40; refine (cut_any _ _ HLL.out).mono ?_; rintro e w1 ⟨rfl, hf⟩))
  have g1 := H1.out.drew.fr hf (by simp)
  have g2 := H2.out.drew.fr hf (by simp)
  have g3 := H3.out.drew.fr hf (by simp)
  have g4 := HD.out.drew.fr hf (by simp)
  have g5 := HP.out.drew.fr hf (by simp)
  refine ⟨fun k hk hk2 hS => ⟨fun h => g4.cell 0, g1.cell 0, g2.cell 0, g3.cell 0, rangeAt_one (rangeAt_right (pcells_range g5 HL.out n _ HI.out) (n * 513 + 512) (by rw [bv_length, HS.out]))⟩, ?_⟩
  refine wpRest_op ?_
  refine wpList_buildSlice_one (x := .agg (bv l).toArray) (cells := (bv l).toArray) rfl rfl Try.underlying72 (info_two Try.info_halves) (by simp [Value.cells, zcells_length]) (by omega) (by omega) rfl rfl (by simp [bv_length, HLL.out]) ?_
  have B := Blk.new w1 (bv l) 76
  generalize hW2 : w1.alloc (Obj.cells (bv l).toArray 76) = w2 at *
  have f1 := g1.alloc (Obj.cells (bv l).toArray 76)
  have f2 := g2.alloc (Obj.cells (bv l).toArray 76)
  have f3 := g3.alloc (Obj.cells (bv l).toArray 76)
  have f4 := g4.alloc (Obj.cells (bv l).toArray 76)
  have f5 := g5.alloc (Obj.cells (bv l).toArray 76)
  have F2 := (Fr.refl (fun _ => False) w1).alloc (Obj.cells (bv l).toArray 76)
  rw [hW2] at f1 f2 f3 f4 f5 F2
  clear g1 g2 g3 g4 g5
  have F3 := hf.trans F2 (by simp)
  clear hf F2 hW2
  go_wp2
  refine ⟨fun k hk hk2 hS => ⟨fun h => f4.cell 0, f1.cell 0, f2.cell 0, f3.cell 0, rangeAt_one (rangeAt_right (pcells_range f5 HL.out n _ HI.out) (n * 513 + 512) (by rw [bv_length, HS.out]))⟩, ?_⟩
  have ho : w2.ownsRow 0 76 512 v ws.length (ws.flatMap bv) := (OwnB.fr (S := fun _ => True) ⟨HO.out.drew, fun _ _ => trivial⟩ F3 (by simp)).1
  refine wpRest_op ?_
  refine wpList_append rfl rfl Try.underlying72 Try.underlying72 (.inr ⟨_, rfl⟩) Try.info_halves (by simp [Value.cells, zcells_length]) rfl rfl ho (Src.slice (news := bv l) (by rw [bv_length, HLL.out]) (bv_one l) B.all) (by omega) (by omega) ?_
  intro b c w3 hown hg hat
  have g1 := f1.grown hg o1.out
  have g2 := f2.grown hg o2.out
  have g3 := f3.grown hg o3.out
  have g4 := f4.grown hg o4.out
  have g5 := f5.grown hg o5.out
  have F4 := (F3.mono (T := fun k => k = pb ∨ v.ownBlock = some k) (by simp)).grown hg (fun k hk _ => .inr hk)
  have HAT := hid hat
  have HOW := hid hown
  have hz := Nat.le_trans F3.size (Nat.le_refl _)
  clear hg hat hown f1 f2 f3 f4 f5 F3 ho B
  go_wp2
  refine ⟨fun k hk hk2 hS => ⟨fun h => g4.cell 0, g1.cell 0, g2.cell 0, g3.cell 0, rangeAt_one (rangeAt_right (pcells_range g5 HL.out n _ HI.out) (n * 513 + 512) (by rw [bv_length, HS.out]))⟩, ?_⟩
  have k5 := rangeAt_one (rangeAt_right (pcells_range g5 HL.out n _ HI.out) (n * 513 + 512) (by rw [bv_length, HS.out]))
  dsimp only at k5
  have z5 := g5.frozen
  have G5 := hid g5
  clear g1 g2 g3 g4 g5
  repeat (refine wpRest_op ?_; go_wp2; (refine ⟨?_, ?_⟩; focus (intro kz hk hk2; rintro ⟨qa, qb⟩; first | (exfalso; simp at hk2; omega) | exact ⟨qa, qb⟩ | (refine ⟨fun h => absurd h (by omega), ?_⟩; first | exact qb | (skip)) | (refine ⟨fun h => ?_, ?_⟩; (have qa := qa h); all_goals (first | exact qa | exact qb | (skip))))))
  refine wpRest_nil ?_
  go_end0
  have hnb := ownsRow_ne G5.out (by decide) HOW.out
  refine ⟨rfl, .slice b (ws.length + 1) c, ?_, ?_, ?_, ?_⟩
  · have := ownsRow_heap (w' := w3.setCell ⟨pb, n * 513 + 512, none⟩ (.slice b (ws.length + 1) c)) HOW.out (fun k hk => heap_setCell_other _ _ _ _ (hnb k hk))
    simpa using this
  · rw [← pcells_set L n safe v _ HI.out HL.out]
    exact G5.out.set _ _
  · exact (⟨F4.os, F4.tape, F4.output, F4.size, F4.blk⟩ : Fr (fun k => k = pb ∨ v.ownBlock = some k) w w3).setCell ⟨pb, n * 513 + 512, none⟩ _ (fun _ => .inl rfl)
  · intro k hk
    rcases HAT.out k hk with h | h
    · exact .inl h
    · right; rw [h]; exact hz
