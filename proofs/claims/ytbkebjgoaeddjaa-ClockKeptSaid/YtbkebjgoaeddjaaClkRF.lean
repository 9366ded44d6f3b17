import Derived.Test.YtbkebjgoaeddjaaClkRE
/- The reference's clock: Bytes, Do. -/
set_option linter.unusedVariables false
namespace Go.Proofs.Ytbkebjgoaeddjaa
open Go.RowKit Go.VB Go.VB.Clk
variable {w : World} {c : Nat} {m : CM}
theorem two_bytes {a b : Int} (ha : 0 ≤ a ∧ a ≤ 255) (hb : 0 ≤ b ∧ b ≤ 255) : bv [UInt8.ofNat a.toNat, UInt8.ofNat b.toNat] = [.int .u8 a, .int .u8 b] := by
  simp only [bv, List.map_cons, List.map_nil]
  rw [u8_cell (by omega), u8_cell (by omega), show ((a.toNat : Nat) : Int) = a by omega, show ((b.toNat : Nat) : Int) = b by omega]
set_option maxRecDepth 20000 in
set_option maxHeartbeats 4000000 in
theorem rBytes_go (h : RRep w c m) (ok : m.Ok) : Calls Try.prog 42 #[.pointer (some ⟨c, 0, none⟩)] w fun e w' => e = .returned (.string (bs m.bytes)) ∧ Fr (fun _ => False) w w' := by
  have hcl := Blk.lt h
  have l0 := h.low
  have l1 := h.next
  have hl := ok.lo
  have hn := ok.nx
  have hf := ok.far
  have n1 : (0 : Int) ≤ m.next := by omega
  have n2 : (m.next : Int) < 256 := by omega
  have n3 : (0 : Int) ≤ m.low := by omega
  have n4 : (m.low : Int) < 256 := by omega
  have hkl := m.known_length
  have FA := hid ((Fr.refl (fun _ => False) w.drew).alloc (.cells [Value.int .u8 m.next, .int .u8 m.low].toArray 5))
  have RA : Hid (Row 5 1 w.heap.size (w.drew.alloc (.cells [Value.int .u8 m.next, .int .u8 m.low].toArray 5)) (.slice (some ⟨w.heap.size, 0, none⟩) 2 2) 2 [Value.int .u8 m.next, .int .u8 m.low]) := hid (Row.built (e := 5) (size := 1) (n := 2) (B := w.heap.size) w.drew (l := [Value.int .u8 m.next, .int .u8 m.low]) rfl (by unfold maxLen; omega) (Nat.le_refl _))
  have HKN := hid (fun w' (f : Fr (fun _ => False) w w') => rKnown_go (CRep'.of h f) ok)
  have HKW := hid (fun w' (f : Fr (fun _ => False) w w') (a : Nat) b (hb : m.knows a = b) => rknows_is (CRep'.of h f) ok a hb)
  have BZ := hid m.bytesN_zero
  have BS := hid (fun i h => m.bytesN_succ i h)
  have BA := hid m.bytesN_all
  have BL := hid (fun i h => m.bytesN_length i h)
  have HST := hid ok.st
  have HAB := hid ok.ab
  have HH := hid h
  clear h
  go_enter Try.func42, Try.ntmps42
  go_wp2_with (fail)
  refine wp_region_scr (.take 0 (.take 1 (.take 2 (.take 3 (.take 4 (.take 5 (.take 6 (.take 7 (.take 8 (.take 9 (.op 10 (.take 11 .done)))))))))))) (fun kz w => (kz ≤ 12 → w.cell? ⟨c, 0, none⟩ = some (.int .i64 m.low) ∧ w.cell? ⟨c, 1, none⟩ = some (.int .i64 m.next)) ∧ True) (by kernel_rfl) (by kernel_rfl) (by intro c a d v w h; cases d <;> exact h) ?_
  repeat
    first
    | (refine wpT_pure rfl rfl rfl ?_; apply Exists.intro; refine ⟨?_, ?_⟩; intro w; ((go_simp <;> rfl)); simp only [Act.put, List.setIfInBounds_toArray, List.set_cons_zero, List.set_cons_succ])
    | (refine wpT_take 12 rfl rfl (by decide +kernel) ⟨fun _ => ⟨l0, l1⟩, trivial⟩ ?_; apply Exists.intro; refine ⟨?_, ?_⟩; intro w hw; (have qa := hw.1 (Nat.le_refl _); have qb := hw.2); ((go_simp <;> rfl)); simp only [Act.put, List.setIfInBounds_toArray, List.set_cons_zero, List.set_cons_succ])
    | (refine wpT_skip rfl rfl ?_; simp only [Act.put, List.setIfInBounds_toArray, List.set_cons_zero, List.set_cons_succ])
  refine wpT_op rfl ?_
  go_wp2_with (fail)
  (refine ⟨?_, ?_⟩; focus (intro kz hk hk2; rintro ⟨qa, qb⟩; first | (exfalso; simp at hk2; omega) | exact ⟨qa, qb⟩ | (refine ⟨fun h => absurd h (by omega), ?_⟩; first | exact qb | (exact ⟨cell_fr qa.1 ((Fr.refl (fun _ => False) _).alloc _) (fun h => h), cell_fr qa.2 ((Fr.refl (fun _ => False) _).alloc _) (fun h => h)⟩)) | (refine ⟨fun h => ?_, ?_⟩; (have qa := qa h); all_goals (first | exact qa | exact qb | (exact ⟨cell_fr qa.1 ((Fr.refl (fun _ => False) _).alloc _) (fun h => h), cell_fr qa.2 ((Fr.refl (fun _ => False) _).alloc _) (fun h => h)⟩)))))
  repeat
    first
    | (refine wpT_pure rfl rfl rfl ?_; apply Exists.intro; refine ⟨?_, ?_⟩; intro w; ((go_simp <;> rfl)); simp only [Act.put, List.setIfInBounds_toArray, List.set_cons_zero, List.set_cons_succ])
    | (refine wpT_take 12 rfl rfl (by decide +kernel) ⟨fun _ => ⟨cell_fr l0 FA.out (fun h => h), cell_fr l1 FA.out (fun h => h)⟩, trivial⟩ ?_; apply Exists.intro; refine ⟨?_, ?_⟩; intro w hw; (have qa := hw.1 (Nat.le_refl _); have qb := hw.2); ((go_simp <;> rfl)); simp only [Act.put, List.setIfInBounds_toArray, List.set_cons_zero, List.set_cons_succ])
    | (refine wpT_skip rfl rfl ?_; simp only [Act.put, List.setIfInBounds_toArray, List.set_cons_zero, List.set_cons_succ])
  refine wpT_nil ?_
  go_wp2_with (fail)
  refine (HKN.out _ ((Fr.refl (fun _ => False) w).drew.trans FA.out (fun _ h _ => h))).mono ?_
  rintro e w2 ⟨v, rfl, row, f2⟩
  obtain ⟨la, lc, rfl, hlc⟩ := row.slice
  have F2 := hid (((Fr.refl (fun _ => False) w).drew.trans FA.out (fun _ h _ => h)).trans f2 (fun _ h _ => h))
  have RB := hid (RA.out.fre f2)
  have HL := hid (fun i (hi : i < m.n) => show ∃ g, la = some ⟨g, 0, none⟩ ∧ g < w2.heap.size ∧ w.heap.size < g ∧ w2.cell? ⟨g, i, none⟩ = some (.int .i64 (xat m.low i : Nat)) by
    obtain ⟨g, rfl, hg, hr⟩ := row_cells row (by intro e; have := nv_length m.known; rw [e, hkl] at this; simp at this; omega)
    have := hr i (.int .i64 (xat m.low i : Nat)) (by simp only [nv, List.getElem?_map]; rw [List.getElem?_eq_getElem (by omega), m.known_get i (by omega)]; rfl)
    exact ⟨g, rfl, lt_of_cell this, (by simp at hg; omega), this⟩)
  have hs2 : w.heap.size < w2.heap.size := RB.out.lt rfl
  clear row f2 HKN RA FA hkl l0 l1
  go_wp2_with (fail)
  generalize hbb : w.heap.size = b0 at *
  have HBB := hid hbb
  clear hbb
  go_loopw [3, 5] (fun v i wr => ∃ j : Nat, j ≤ m.n ∧ i = .int .i64 j ∧ Row 5 1 b0 wr v (2 + j * 2) (bv (m.bytesN j)) ∧ Fr (fun k => k = b0) w2 wr ∧ (∀ k, v.ownBlock = some k → k = b0 ∨ w2.heap.size ≤ k)) (fun _ i _ => m.n - (intOf i).toNat)
  case atStart => exact ⟨0, by omega, rfl, RB.out.cast rfl (by rw [BZ.out]; exact (two_bytes (a := m.next) (b := m.low) (by omega) (by omega)).symm), Fr.refl _ _, fun k hk => .inl (by simp [Value.ownBlock] at hk; exact hk.symm)⟩
  case round =>
    obtain ⟨j, hj, rfl, row, fr, hoff⟩ := hrel
    obtain ⟨va, vc, rfl, hvc⟩ := row.slice
    have hsz := fr.size
    by_cases hjn : j < m.n
    · obtain ⟨g, rfl, hg, hgb, q⟩ := HL.out j hjn
      have hon := xat_on m.low j
      have bs' := BS.out j hjn
      have bl := BL.out j (by omega)
      have fw : Fr (fun _ => False) w wr := F2.out.trans fr (fun k hk hl => by have := HBB.out; omega)
      have R3 := CRep'.of HH.out fw
      have q0 := cell_fr q fr (by omega)
      have s0 := R3.st (x := xat m.low j) (by omega)
      have a0 := R3.ab (x := xat m.low j) (by omega)
      have hst := HST.out (xat m.low j)
      have hab := HAB.out (xat m.low j)
      have i1 : (0 : Int) ≤ j := by omega
      have i2 : (j : Int) < m.n := by omega
      unfold CM.above at bs'
      have ROW := hid row
      have FR := hid fr
      have FW := hid fw
      have HOFF := hid hoff
      generalize m.st (xat m.low j) = sv at *
      generalize m.ab (xat m.low j) = av at *
      generalize xat m.low j = y at *
      obtain ⟨sn, rfl⟩ : ∃ sn : Nat, sv = sn := ⟨sv.toNat, by omega⟩
      have y1 : (0 : Int) ≤ (y : Int) := by omega
      have y2 : (y : Int) < 128 := by omega
      clear row fr fw hoff R3 q
      go_wp2_with (fail)
      refine wp_region_scr (.take 0 (.take 1 (.take 2 (.take 3 (.take 4 (.take 5 (.take 6 (.take 7 (.take 8 (.take 9 .done)))))))))) (fun kz w => (kz ≤ 10 → w.cell? ⟨g, j, none⟩ = some (.int .i64 y) ∧ w.cell? ⟨c, 130 + y, none⟩ = some (.int .i64 av)) ∧ True) (by kernel_rfl) (by kernel_rfl) (by intro c a d v w h; cases d <;> exact h) ?_
      repeat
        first
        | (refine wpT_pure rfl rfl rfl ?_; apply Exists.intro; refine ⟨?_, ?_⟩; intro w; ((go_simp <;> rfl)); simp only [Act.put, List.setIfInBounds_toArray, List.set_cons_zero, List.set_cons_succ])
        | (refine wpT_take 10 rfl rfl (by decide +kernel) ⟨fun _ => ⟨q0, a0⟩, trivial⟩ ?_; apply Exists.intro; refine ⟨?_, ?_⟩; intro w hw; (have qa := hw.1 (Nat.le_refl _); have qb := hw.2); ((go_simp <;> rfl)); simp only [Act.put, List.setIfInBounds_toArray, List.set_cons_zero, List.set_cons_succ])
        | (refine wpT_skip rfl rfl ?_; simp only [Act.put, List.setIfInBounds_toArray, List.set_cons_zero, List.set_cons_succ])
      refine wpT_nil ?_
      have HKV := hid (fun b hb => HKW.out wr.drew FW.out.drew av b hb)
      have ex : ∃ r : Nat, r < 128 ∧ (if m.knows av then av else 0) = r ∧ (m.knows av = true ∧ r = av ∨ m.knows av = false ∧ r = 0) := by
        cases h : m.knows av
        · exact ⟨0, by omega, rfl, .inr ⟨rfl, rfl⟩⟩
        · exact ⟨av, hab, rfl, .inl ⟨rfl, rfl⟩⟩
      obtain ⟨r, r1, r2, r3⟩ := ex
      rw [r2] at bs'
      have HBS := hid bs'
      clear r2 bs'
      rcases r3 with ⟨hk, rfl⟩ | ⟨hk, rfl⟩
      · have HKV := hid (HKV.out _ hk)
        clear hk
        go_wp2_with (fail)
        refine HKV.out.mono ?_
        rintro e w5 ⟨rfl, f5⟩
        have f6 := (Fr.refl (fun _ => False) wr).drew.trans f5 (fun _ h _ => h)
        have q5 := cell_fr q0 f6 (fun h => h)
        have s5 := cell_fr s0 f6 (fun h => h)
        have e1 : (0 : Int) ≤ (r : Int) := by omega
        have e2 : (r : Int) < 256 := by omega
        have e3 : (0 : Int) ≤ (sn : Int) := by omega
        have e4 : (sn : Int) < 256 := by omega
        have F6 := hid f6
        have hs5 : b0 ≤ w5.heap.size := by have := f6.size; omega
        clear f5 f6 HKV q0 s0 a0
        go_wp2_with (fail)
        have FB := hid ((Fr.refl (fun _ => False) w5.drew).alloc (.cells [Value.int .u8 sn, .int .u8 r].toArray 5))
        have RW := hid ((ROW.out.fre (F6.out.drew)).fre FB.out)
        have hsrc : Src Try.prog (w5.drew.alloc (.cells [Value.int .u8 sn, .int .u8 r].toArray 5)) 1 (.slice (some ⟨w5.heap.size, 0, none⟩) 2 2) 2 [Value.int .u8 sn, .int .u8 r] := Src.slice (by simp) (by simp [Value.oneCell']) (Blk.new w5.drew [Value.int .u8 sn, .int .u8 r] 5).all
        have hs6 : b0 ≤ (w5.drew.alloc (.cells [Value.int .u8 sn, .int .u8 r].toArray 5)).heap.size := by have := FB.out.size; simp at this ⊢; omega
        refine wp_region_scr (.take 0 (.take 1 (.take 2 (.take 3 (.take 4 (.take 5 (.take 6 (.take 7 (.take 8 (.take 9 (.take 10 (.take 11 (.take 12 (.op 13 (.op 14 (.take 15 .done)))))))))))))))) (fun kz w => (kz ≤ 16 → w.cell? ⟨g, j, none⟩ = some (.int .i64 y) ∧ w.cell? ⟨c, 2 + y, none⟩ = some (.int .i64 sn)) ∧ True) (by kernel_rfl) (by kernel_rfl) (by intro c a d v w h; cases d <;> exact h) ?_
        repeat
          first
          | (refine wpT_pure rfl rfl rfl ?_; apply Exists.intro; refine ⟨?_, ?_⟩; intro w; ((go_simp <;> rfl)); simp only [Act.put, List.setIfInBounds_toArray, List.set_cons_zero, List.set_cons_succ])
          | (refine wpT_take 16 rfl rfl (by decide +kernel) ⟨fun _ => ⟨q5, s5⟩, trivial⟩ ?_; apply Exists.intro; refine ⟨?_, ?_⟩; intro w hw; (have qa := hw.1 (Nat.le_refl _); have qb := hw.2); ((go_simp <;> rfl)); simp only [Act.put, List.setIfInBounds_toArray, List.set_cons_zero, List.set_cons_succ])
          | (refine wpT_skip rfl rfl ?_; simp only [Act.put, List.setIfInBounds_toArray, List.set_cons_zero, List.set_cons_succ])
        refine wpT_op rfl ?_
        go_wp2_with (fail)
        (refine ⟨?_, ?_⟩; focus (intro kz hk hk2; rintro ⟨qa, qb⟩; first | (exfalso; simp at hk2; omega) | exact ⟨qa, qb⟩ | (refine ⟨fun h => absurd h (by omega), ?_⟩; first | exact qb | (exact ⟨cell_fr qa.1 ((Fr.refl (fun _ => False) _).alloc _) (fun h => h), cell_fr qa.2 ((Fr.refl (fun _ => False) _).alloc _) (fun h => h)⟩)) | (refine ⟨fun h => ?_, ?_⟩; (have qa := qa h); all_goals (first | exact qa | exact qb | (exact ⟨cell_fr qa.1 ((Fr.refl (fun _ => False) _).alloc _) (fun h => h), cell_fr qa.2 ((Fr.refl (fun _ => False) _).alloc _) (fun h => h)⟩)))))
        refine wpT_op rfl ?_
        refine wpList_appS rfl (s := .tmp 41) (x := .tmp 54) (t := 64) (tx := 64) rfl Try.underlying64 Try.underlying64 (.inr ⟨_, rfl⟩) Try.info_u8 rfl rfl rfl RW.out hs6 hsrc (by omega) (by omega) ?_
        intro ab ac wg APP
        have hne : ∀ k, (Value.slice va (2 + j * 2) vc).ownBlock = some k → k ≠ g ∧ k ≠ c := fun k hk => by
          have h1 := HOFF.out k hk; have h2 := HBB.out; have h3 := RW.out.new k hk; omega
        have f9 : Fr (fun k => (Value.slice va (2 + j * 2) vc).ownBlock = some k) w5 wg := ((Fr.refl _ w5).drew.trans (FB.out.mono (fun _ h _ => h.elim)) (fun _ h _ => h)).trans APP.fr (fun _ h _ => h)
        have q9 : wg.cell? ⟨g, j, none⟩ = some (.int .i64 y) := cell_fr q5 f9 (fun h => (hne _ h).1 rfl)
        have s9 : wg.cell? ⟨c, 2 + y, none⟩ = some (.int .i64 sn) := cell_fr s5 f9 (fun h => (hne _ h).2 rfl)
        have HR9 := hid (APP.row.cast (m := 2 + (j + 1) * 2) (ys := bv (m.bytesN (j + 1))) (by omega) (by rw [HBS.out, bv_append]; congr 1; exact (two_bytes (a := sn) (b := (r : Int)) (by omega) (by omega)).symm))
        have HF9 := hid (FR.out.trans ((F6.out.mono (fun _ h _ => h.elim)).trans f9 (fun _ h _ => h)) (fun k hk hl => by rcases HOFF.out k hk with h | h; exact h; omega))
        have HO9 := hid (fun k (hk : (Value.slice ab (2 + j * 2 + 2) ac).ownBlock = some k) => show k = b0 ∨ w2.heap.size ≤ k by
          rcases APP.at_ k hk with h | h
          · exact HOFF.out k h
          · have := F6.out.size
            have := FB.out.size
            simp at h
            omega)
        clear APP f9 hne hsrc RW FB F6 ROW FR HOFF
        go_wp2_with (fail)
        refine ⟨fun kz hk hk2 hh => ⟨fun h => ⟨q9, s9⟩, trivial⟩, ?_⟩
        repeat
          first
          | (refine wpT_pure rfl rfl rfl ?_; apply Exists.intro; refine ⟨?_, ?_⟩; intro w; ((go_simp <;> rfl)); simp only [Act.put, List.setIfInBounds_toArray, List.set_cons_zero, List.set_cons_succ])
          | (refine wpT_take 16 rfl rfl (by decide +kernel) ⟨fun _ => ⟨q9, s9⟩, trivial⟩ ?_; apply Exists.intro; refine ⟨?_, ?_⟩; intro w hw; (have qa := hw.1 (Nat.le_refl _); have qb := hw.2); ((go_simp <;> rfl)); simp only [Act.put, List.setIfInBounds_toArray, List.set_cons_zero, List.set_cons_succ])
          | (refine wpT_skip rfl rfl ?_; simp only [Act.put, List.setIfInBounds_toArray, List.set_cons_zero, List.set_cons_succ])
        refine wpT_nil ?_
        go_wp2_with (fail)
        go_roundw
        case rel => exact ⟨j + 1, by omega, by go_num, HR9.out, HF9.out, HO9.out⟩
        case measure => simp [intOf]; omega
      
      · have HKV := hid (HKV.out _ hk)
        clear hk
        go_wp2_with (fail)
        refine HKV.out.mono ?_
        rintro e w5 ⟨rfl, f5⟩
        have f6 := (Fr.refl (fun _ => False) wr).drew.trans f5 (fun _ h _ => h)
        have q5 := cell_fr q0 f6 (fun h => h)
        have s5 := cell_fr s0 f6 (fun h => h)
        have e1 : (0 : Int) ≤ (0 : Int) := by omega
        have e2 : (0 : Int) < 256 := by omega
        have e3 : (0 : Int) ≤ (sn : Int) := by omega
        have e4 : (sn : Int) < 256 := by omega
        have F6 := hid f6
        have hs5 : b0 ≤ w5.heap.size := by have := f6.size; omega
        clear f5 f6 HKV q0 s0 a0
        go_wp2_with (fail)
        have FB := hid ((Fr.refl (fun _ => False) w5.drew).alloc (.cells [Value.int .u8 sn, .int .u8 0].toArray 5))
        have RW := hid ((ROW.out.fre (F6.out.drew)).fre FB.out)
        have hsrc : Src Try.prog (w5.drew.alloc (.cells [Value.int .u8 sn, .int .u8 0].toArray 5)) 1 (.slice (some ⟨w5.heap.size, 0, none⟩) 2 2) 2 [Value.int .u8 sn, .int .u8 0] := Src.slice (by simp) (by simp [Value.oneCell']) (Blk.new w5.drew [Value.int .u8 sn, .int .u8 0] 5).all
        have hs6 : b0 ≤ (w5.drew.alloc (.cells [Value.int .u8 sn, .int .u8 0].toArray 5)).heap.size := by have := FB.out.size; simp at this ⊢; omega
        refine wp_region_scr (.take 0 (.take 1 (.take 2 (.take 3 (.take 4 (.take 5 (.take 6 (.take 7 (.take 8 (.take 9 (.take 10 (.take 11 (.take 12 (.op 13 (.op 14 (.take 15 .done)))))))))))))))) (fun kz w => (kz ≤ 16 → w.cell? ⟨g, j, none⟩ = some (.int .i64 y) ∧ w.cell? ⟨c, 2 + y, none⟩ = some (.int .i64 sn)) ∧ True) (by kernel_rfl) (by kernel_rfl) (by intro c a d v w h; cases d <;> exact h) ?_
        repeat
          first
          | (refine wpT_pure rfl rfl rfl ?_; apply Exists.intro; refine ⟨?_, ?_⟩; intro w; ((go_simp <;> rfl)); simp only [Act.put, List.setIfInBounds_toArray, List.set_cons_zero, List.set_cons_succ])
          | (refine wpT_take 16 rfl rfl (by decide +kernel) ⟨fun _ => ⟨q5, s5⟩, trivial⟩ ?_; apply Exists.intro; refine ⟨?_, ?_⟩; intro w hw; (have qa := hw.1 (Nat.le_refl _); have qb := hw.2); ((go_simp <;> rfl)); simp only [Act.put, List.setIfInBounds_toArray, List.set_cons_zero, List.set_cons_succ])
          | (refine wpT_skip rfl rfl ?_; simp only [Act.put, List.setIfInBounds_toArray, List.set_cons_zero, List.set_cons_succ])
        refine wpT_op rfl ?_
        go_wp2_with (fail)
        (refine ⟨?_, ?_⟩; focus (intro kz hk hk2; rintro ⟨qa, qb⟩; first | (exfalso; simp at hk2; omega) | exact ⟨qa, qb⟩ | (refine ⟨fun h => absurd h (by omega), ?_⟩; first | exact qb | (exact ⟨cell_fr qa.1 ((Fr.refl (fun _ => False) _).alloc _) (fun h => h), cell_fr qa.2 ((Fr.refl (fun _ => False) _).alloc _) (fun h => h)⟩)) | (refine ⟨fun h => ?_, ?_⟩; (have qa := qa h); all_goals (first | exact qa | exact qb | (exact ⟨cell_fr qa.1 ((Fr.refl (fun _ => False) _).alloc _) (fun h => h), cell_fr qa.2 ((Fr.refl (fun _ => False) _).alloc _) (fun h => h)⟩)))))
        refine wpT_op rfl ?_
        refine wpList_appS rfl (s := .tmp 41) (x := .tmp 54) (t := 64) (tx := 64) rfl Try.underlying64 Try.underlying64 (.inr ⟨_, rfl⟩) Try.info_u8 rfl rfl rfl RW.out hs6 hsrc (by omega) (by omega) ?_
        intro ab ac wg APP
        have hne : ∀ k, (Value.slice va (2 + j * 2) vc).ownBlock = some k → k ≠ g ∧ k ≠ c := fun k hk => by
          have h1 := HOFF.out k hk; have h2 := HBB.out; have h3 := RW.out.new k hk; omega
        have f9 : Fr (fun k => (Value.slice va (2 + j * 2) vc).ownBlock = some k) w5 wg := ((Fr.refl _ w5).drew.trans (FB.out.mono (fun _ h _ => h.elim)) (fun _ h _ => h)).trans APP.fr (fun _ h _ => h)
        have q9 : wg.cell? ⟨g, j, none⟩ = some (.int .i64 y) := cell_fr q5 f9 (fun h => (hne _ h).1 rfl)
        have s9 : wg.cell? ⟨c, 2 + y, none⟩ = some (.int .i64 sn) := cell_fr s5 f9 (fun h => (hne _ h).2 rfl)
        have HR9 := hid (APP.row.cast (m := 2 + (j + 1) * 2) (ys := bv (m.bytesN (j + 1))) (by omega) (by rw [HBS.out, bv_append]; congr 1; exact (two_bytes (a := sn) (b := 0) (by omega) (by omega)).symm))
        have HF9 := hid (FR.out.trans ((F6.out.mono (fun _ h _ => h.elim)).trans f9 (fun _ h _ => h)) (fun k hk hl => by rcases HOFF.out k hk with h | h; exact h; omega))
        have HO9 := hid (fun k (hk : (Value.slice ab (2 + j * 2 + 2) ac).ownBlock = some k) => show k = b0 ∨ w2.heap.size ≤ k by
          rcases APP.at_ k hk with h | h
          · exact HOFF.out k h
          · have := F6.out.size
            have := FB.out.size
            simp at h
            omega)
        clear APP f9 hne hsrc RW FB F6 ROW FR HOFF
        go_wp2_with (fail)
        refine ⟨fun kz hk hk2 hh => ⟨fun h => ⟨q9, s9⟩, trivial⟩, ?_⟩
        repeat
          first
          | (refine wpT_pure rfl rfl rfl ?_; apply Exists.intro; refine ⟨?_, ?_⟩; intro w; ((go_simp <;> rfl)); simp only [Act.put, List.setIfInBounds_toArray, List.set_cons_zero, List.set_cons_succ])
          | (refine wpT_take 16 rfl rfl (by decide +kernel) ⟨fun _ => ⟨q9, s9⟩, trivial⟩ ?_; apply Exists.intro; refine ⟨?_, ?_⟩; intro w hw; (have qa := hw.1 (Nat.le_refl _); have qb := hw.2); ((go_simp <;> rfl)); simp only [Act.put, List.setIfInBounds_toArray, List.set_cons_zero, List.set_cons_succ])
          | (refine wpT_skip rfl rfl ?_; simp only [Act.put, List.setIfInBounds_toArray, List.set_cons_zero, List.set_cons_succ])
        refine wpT_nil ?_
        go_wp2_with (fail)
        go_roundw
        case rel => exact ⟨j + 1, by omega, by go_num, HR9.out, HF9.out, HO9.out⟩
        case measure => simp [intOf]; omega
      
    · obtain rfl : j = m.n := by omega
      rw [BA.out] at row
      obtain ⟨g, rfl, hg, hr⟩ := row_range row (by intro e; have := congrArg List.length e; rw [bv_length, ← BA.out, BL.out _ (Nat.le_refl _)] at this; simp at this)
      have hcv := run_bytes_string (P := Try.prog) (w := wr) (l := m.bytes) hr (src := 64) (dst := 9) Try.underlying64 Try.underlying5 Try.underlying9 (2 + m.n * 2) vc (by rw [← BA.out, BL.out _ (Nat.le_refl _)])
      have FF := hid (F2.out.trans fr (fun k hk hl => by have := HBB.out; omega))
      clear row hr fr hoff
      go_wp2_with (fail)
      go_ret
      exact ⟨rfl, FF.out⟩
theorem do_tmod (kind : Int) : (kind.tmod 8 + 8).tmod 8 = kind % 8 ∧ -8 < kind.tmod 8 ∧ kind.tmod 8 < 8 := ⟨tmod_fix kind 8 (by omega), Int.lt_tmod_of_pos kind (by omega), Int.tmod_lt_of_pos kind (by omega)⟩
set_option maxRecDepth 20000 in
set_option maxHeartbeats 4000000 in
theorem rDo_go (h : RRep w c m) (ok : m.Ok) (kind x s : Int) : Calls Try.prog 38 #[.pointer (some ⟨c, 0, none⟩), .agg #[.int .i64 kind, .int .i64 x, .int .i64 s]] w fun e w' =>
    e = .returned (.agg #[.int .i64 (m.dok kind x s).2.1, .int .i64 (m.dok kind x s).2.2]) ∧ RRep w' c (m.dok kind x s).1 ∧ Fr (fun k => k = c) w w' := by
  have hcl := Blk.lt h
  have F0 := ((Fr.refl (fun _ => False) w).alloc (.cells #[Value.int .i64 kind, .int .i64 x, .int .i64 s] 48)).alloc (.cells #[Value.int .i64 0, .int .i64 0] 58)
  have B0 := (Blk.new w [Value.int .i64 kind, .int .i64 x, .int .i64 s] 48).alloc (.cells #[Value.int .i64 0, .int .i64 0] 58)
  have B1 := Blk.new (w.alloc (.cells #[Value.int .i64 kind, .int .i64 x, .int .i64 s] 48)) [Value.int .i64 0, .int .i64 0] 58
  rw [World.size_alloc] at B1
  have R0 := RRep.fr h F0 (fun h => h)
  obtain ⟨W, hW⟩ : ∃ W, W = (w.alloc (.cells #[Value.int .i64 kind, .int .i64 x, .int .i64 s] 48)).alloc (.cells #[Value.int .i64 0, .int .i64 0] 58) := ⟨_, rfl⟩
  have B0 : Blk W w.heap.size [Value.int .i64 kind, .int .i64 x, .int .i64 s] 48 := by rw [hW]; exact B0
  have B1 : Blk W (w.heap.size + 1) [Value.int .i64 0, .int .i64 0] 58 := by rw [hW]; exact B1
  rw [← hW] at F0 R0
  have HW := hid hW
  have k0 : W.cell? ⟨w.heap.size, 0, none⟩ = some (.int .i64 kind) := B0.cell 0
  have k1 : W.cell? ⟨w.heap.size, 1, none⟩ = some (.int .i64 x) := B0.cell 1
  have k2 : W.cell? ⟨w.heap.size, 2, none⟩ = some (.int .i64 s) := B0.cell 2
  obtain ⟨h3, h1, h2⟩ := do_tmod kind
  have HB1 := hid B1
  have HF0 := hid F0
  have hc : kind % 8 = 0 ∨ kind % 8 = 1 ∨ kind % 8 = 2 ∨ kind % 8 = 3 ∨ kind % 8 = 4 ∨ kind % 8 = 5 ∨ kind % 8 = 6 ∨ kind % 8 = 7 := by omega
  have C0 := hid (rBegin_go R0 ok x)
  have C1 := hid (rEnd_go R0 ok x s)
  have C2 := hid (rFreeze_go R0 ok x)
  have C3 := hid (rReach_go R0 ok x)
  have C4 := hid (rBegin_go R0 ok 0)
  unfold CM.dok
  clear F0 B0 B1 h hW R0
  rcases hc with hc | hc | hc | hc | hc | hc | hc | hc
  · rw [if_pos hc]
    rw [hc] at h3
    have CX := C0
    clear hc C0 C1 C2 C3 C4
    go_enter Try.func38, Try.ntmps38
    go_wp2_with (fail)
    rw [← HW.out]
    clear HW
    generalize hbb : w.heap.size = bz at *
    have HBB := hid hbb
    clear hbb
    go_wp2_with (fail)
    refine CX.out.mono ?_
    rintro e w5 ⟨rfl, h5, f5⟩
    have B5 := HB1.out.fr f5 (by omega)
    have hT := B5.there 0 2 (by simp)
    have KEEP := hid (fun (x e : Int) => show Blk (w5.setCells (bz + 1) 0 [.int .i64 x, .int .i64 e]) (bz + 1) [.int .i64 x, .int .i64 e] 58 ∧ RRep (w5.setCells (bz + 1) 0 [.int .i64 x, .int .i64 e]) c _ ∧ Fr (fun k => k = c ∨ k = bz + 1) W (w5.setCells (bz + 1) 0 [.int .i64 x, .int .i64 e]) from ⟨B5.put 0 [.int .i64 x, .int .i64 e] (by simp), Blk.put_ne h5 _ _ _ (by omega), (f5.mono (fun _ h _ => .inl h)).put _ _ _ (fun _ => .inr rfl)⟩)
    clear CX h5 f5 B5
    go_wp2_with (first | (refine wpList_store_mid rfl 58 _ _ rfl (bz + 1) 0 _ rfl rfl hT Try.size_got (by simp [Value.oneCell']) ?_; rw [List.toList_toArray]))
    obtain ⟨r1, r2, r3⟩ := KEEP.out _ _
    exact bodyPost_ret (got_ret rfl rfl r1) rfl ⟨rfl, r2, (HF0.out.mono (T := fun k => k = c) (fun _ h _ => h.elim)).trans r3 (fun k hk hl => by have := HBB.out; omega)⟩
  
  · rw [if_neg (by omega), if_pos (by omega)]
    rw [hc] at h3
    have CX := C1
    clear hc C0 C1 C2 C3 C4
    go_enter Try.func38, Try.ntmps38
    go_wp2_with (fail)
    rw [← HW.out]
    clear HW
    generalize hbb : w.heap.size = bz at *
    have HBB := hid hbb
    clear hbb
    go_wp2_with (fail)
    refine CX.out.mono ?_
    rintro e w5 ⟨rfl, h5, f5⟩
    have B5 := HB1.out.fr f5 (by omega)
    have hT := B5.there 0 2 (by simp)
    have KEEP := hid (fun (x e : Int) => show Blk (w5.setCells (bz + 1) 0 [.int .i64 x, .int .i64 e]) (bz + 1) [.int .i64 x, .int .i64 e] 58 ∧ RRep (w5.setCells (bz + 1) 0 [.int .i64 x, .int .i64 e]) c _ ∧ Fr (fun k => k = c ∨ k = bz + 1) W (w5.setCells (bz + 1) 0 [.int .i64 x, .int .i64 e]) from ⟨B5.put 0 [.int .i64 x, .int .i64 e] (by simp), Blk.put_ne h5 _ _ _ (by omega), (f5.mono (fun _ h _ => .inl h)).put _ _ _ (fun _ => .inr rfl)⟩)
    clear CX h5 f5 B5
    go_wp2_with (first | (refine wpList_store_mid rfl 58 _ _ rfl (bz + 1) 0 _ rfl rfl hT Try.size_got (by simp [Value.oneCell']) ?_; rw [List.toList_toArray]))
    obtain ⟨r1, r2, r3⟩ := KEEP.out _ _
    exact bodyPost_ret (got_ret rfl rfl r1) rfl ⟨rfl, r2, (HF0.out.mono (T := fun k => k = c) (fun _ h _ => h.elim)).trans r3 (fun k hk hl => by have := HBB.out; omega)⟩
  
  · rw [if_neg (by omega), if_pos (by omega)]
    rw [hc] at h3
    have CX := C1
    clear hc C0 C1 C2 C3 C4
    go_enter Try.func38, Try.ntmps38
    go_wp2_with (fail)
    rw [← HW.out]
    clear HW
    generalize hbb : w.heap.size = bz at *
    have HBB := hid hbb
    clear hbb
    go_wp2_with (fail)
    refine CX.out.mono ?_
    rintro e w5 ⟨rfl, h5, f5⟩
    have B5 := HB1.out.fr f5 (by omega)
    have hT := B5.there 0 2 (by simp)
    have KEEP := hid (fun (x e : Int) => show Blk (w5.setCells (bz + 1) 0 [.int .i64 x, .int .i64 e]) (bz + 1) [.int .i64 x, .int .i64 e] 58 ∧ RRep (w5.setCells (bz + 1) 0 [.int .i64 x, .int .i64 e]) c _ ∧ Fr (fun k => k = c ∨ k = bz + 1) W (w5.setCells (bz + 1) 0 [.int .i64 x, .int .i64 e]) from ⟨B5.put 0 [.int .i64 x, .int .i64 e] (by simp), Blk.put_ne h5 _ _ _ (by omega), (f5.mono (fun _ h _ => .inl h)).put _ _ _ (fun _ => .inr rfl)⟩)
    clear CX h5 f5 B5
    go_wp2_with (first | (refine wpList_store_mid rfl 58 _ _ rfl (bz + 1) 0 _ rfl rfl hT Try.size_got (by simp [Value.oneCell']) ?_; rw [List.toList_toArray]))
    obtain ⟨r1, r2, r3⟩ := KEEP.out _ _
    exact bodyPost_ret (got_ret rfl rfl r1) rfl ⟨rfl, r2, (HF0.out.mono (T := fun k => k = c) (fun _ h _ => h.elim)).trans r3 (fun k hk hl => by have := HBB.out; omega)⟩
  
  · rw [if_neg (by omega), if_pos (by omega)]
    rw [hc] at h3
    have CX := C1
    clear hc C0 C1 C2 C3 C4
    go_enter Try.func38, Try.ntmps38
    go_wp2_with (fail)
    rw [← HW.out]
    clear HW
    generalize hbb : w.heap.size = bz at *
    have HBB := hid hbb
    clear hbb
    go_wp2_with (fail)
    refine CX.out.mono ?_
    rintro e w5 ⟨rfl, h5, f5⟩
    have B5 := HB1.out.fr f5 (by omega)
    have hT := B5.there 0 2 (by simp)
    have KEEP := hid (fun (x e : Int) => show Blk (w5.setCells (bz + 1) 0 [.int .i64 x, .int .i64 e]) (bz + 1) [.int .i64 x, .int .i64 e] 58 ∧ RRep (w5.setCells (bz + 1) 0 [.int .i64 x, .int .i64 e]) c _ ∧ Fr (fun k => k = c ∨ k = bz + 1) W (w5.setCells (bz + 1) 0 [.int .i64 x, .int .i64 e]) from ⟨B5.put 0 [.int .i64 x, .int .i64 e] (by simp), Blk.put_ne h5 _ _ _ (by omega), (f5.mono (fun _ h _ => .inl h)).put _ _ _ (fun _ => .inr rfl)⟩)
    clear CX h5 f5 B5
    go_wp2_with (first | (refine wpList_store_mid rfl 58 _ _ rfl (bz + 1) 0 _ rfl rfl hT Try.size_got (by simp [Value.oneCell']) ?_; rw [List.toList_toArray]))
    obtain ⟨r1, r2, r3⟩ := KEEP.out _ _
    exact bodyPost_ret (got_ret rfl rfl r1) rfl ⟨rfl, r2, (HF0.out.mono (T := fun k => k = c) (fun _ h _ => h.elim)).trans r3 (fun k hk hl => by have := HBB.out; omega)⟩
  
  · rw [if_neg (by omega), if_neg (by omega), if_pos hc]
    rw [hc] at h3
    have CX := C2
    clear hc C0 C1 C2 C3 C4
    go_enter Try.func38, Try.ntmps38
    go_wp2_with (fail)
    rw [← HW.out]
    clear HW
    generalize hbb : w.heap.size = bz at *
    have HBB := hid hbb
    clear hbb
    go_wp2_with (fail)
    refine CX.out.mono ?_
    rintro e w5 ⟨rfl, h5, f5⟩
    have B5 := HB1.out.fr f5 (by omega)
    have hT := B5.there 0 2 (by simp)
    have KEEP := hid (fun (x e : Int) => show Blk (w5.setCells (bz + 1) 0 [.int .i64 x, .int .i64 e]) (bz + 1) [.int .i64 x, .int .i64 e] 58 ∧ RRep (w5.setCells (bz + 1) 0 [.int .i64 x, .int .i64 e]) c _ ∧ Fr (fun k => k = c ∨ k = bz + 1) W (w5.setCells (bz + 1) 0 [.int .i64 x, .int .i64 e]) from ⟨B5.put 0 [.int .i64 x, .int .i64 e] (by simp), Blk.put_ne h5 _ _ _ (by omega), (f5.mono (fun _ h _ => .inl h)).put _ _ _ (fun _ => .inr rfl)⟩)
    clear CX h5 f5 B5
    go_wp2_with (first | (refine wpList_store_mid rfl 58 _ _ rfl (bz + 1) 0 _ rfl rfl hT Try.size_got (by simp [Value.oneCell']) ?_; rw [List.toList_toArray]))
    obtain ⟨r1, r2, r3⟩ := KEEP.out _ _
    exact bodyPost_ret (got_ret rfl rfl r1) rfl ⟨rfl, r2, (HF0.out.mono (T := fun k => k = c) (fun _ h _ => h.elim)).trans r3 (fun k hk hl => by have := HBB.out; omega)⟩
  
  · rw [if_neg (by omega), if_neg (by omega), if_neg (by omega), if_pos hc]
    rw [hc] at h3
    have CX := C3
    clear hc C0 C1 C2 C3 C4
    go_enter Try.func38, Try.ntmps38
    go_wp2_with (fail)
    rw [← HW.out]
    clear HW
    generalize hbb : w.heap.size = bz at *
    have HBB := hid hbb
    clear hbb
    go_wp2_with (fail)
    refine CX.out.mono ?_
    rintro e w5 ⟨rfl, h5, f5⟩
    have B5 := HB1.out.fr f5 (by omega)
    have hT := B5.there 0 2 (by simp)
    have KEEP := hid (fun (x e : Int) => show Blk (w5.setCells (bz + 1) 0 [.int .i64 x, .int .i64 e]) (bz + 1) [.int .i64 x, .int .i64 e] 58 ∧ RRep (w5.setCells (bz + 1) 0 [.int .i64 x, .int .i64 e]) c _ ∧ Fr (fun k => k = c ∨ k = bz + 1) W (w5.setCells (bz + 1) 0 [.int .i64 x, .int .i64 e]) from ⟨B5.put 0 [.int .i64 x, .int .i64 e] (by simp), Blk.put_ne h5 _ _ _ (by omega), (f5.mono (fun _ h _ => .inl h)).put _ _ _ (fun _ => .inr rfl)⟩)
    clear CX h5 f5 B5
    go_wp2_with (first | (refine wpList_store_mid rfl 58 _ _ rfl (bz + 1) 0 _ rfl rfl hT Try.size_got (by simp [Value.oneCell']) ?_; rw [List.toList_toArray]))
    obtain ⟨r1, r2, r3⟩ := KEEP.out _ _
    exact bodyPost_ret (got_ret rfl rfl r1) rfl ⟨rfl, r2, (HF0.out.mono (T := fun k => k = c) (fun _ h _ => h.elim)).trans r3 (fun k hk hl => by have := HBB.out; omega)⟩
  
  · rw [if_neg (by omega), if_neg (by omega), if_neg (by omega), if_neg (by omega)]
    rw [hc] at h3
    have CX := C4
    clear hc C0 C1 C2 C3 C4
    go_enter Try.func38, Try.ntmps38
    go_wp2_with (fail)
    rw [← HW.out]
    clear HW
    generalize hbb : w.heap.size = bz at *
    have HBB := hid hbb
    clear hbb
    go_wp2_with (fail)
    refine CX.out.mono ?_
    rintro e w5 ⟨rfl, h5, f5⟩
    have B5 := HB1.out.fr f5 (by omega)
    have hT := B5.there 0 2 (by simp)
    have KEEP := hid (fun (x e : Int) => show Blk (w5.setCells (bz + 1) 0 [.int .i64 x, .int .i64 e]) (bz + 1) [.int .i64 x, .int .i64 e] 58 ∧ RRep (w5.setCells (bz + 1) 0 [.int .i64 x, .int .i64 e]) c _ ∧ Fr (fun k => k = c ∨ k = bz + 1) W (w5.setCells (bz + 1) 0 [.int .i64 x, .int .i64 e]) from ⟨B5.put 0 [.int .i64 x, .int .i64 e] (by simp), Blk.put_ne h5 _ _ _ (by omega), (f5.mono (fun _ h _ => .inl h)).put _ _ _ (fun _ => .inr rfl)⟩)
    clear CX h5 f5 B5
    go_wp2_with (first | (refine wpList_store_mid rfl 58 _ _ rfl (bz + 1) 0 _ rfl rfl hT Try.size_got (by simp [Value.oneCell']) ?_; rw [List.toList_toArray]))
    obtain ⟨r1, r2, r3⟩ := KEEP.out _ _
    exact bodyPost_ret (got_ret rfl rfl r1) rfl ⟨rfl, r2, (HF0.out.mono (T := fun k => k = c) (fun _ h _ => h.elim)).trans r3 (fun k hk hl => by have := HBB.out; omega)⟩
  
  · rw [if_neg (by omega), if_neg (by omega), if_neg (by omega), if_neg (by omega)]
    rw [hc] at h3
    have CX := C4
    clear hc C0 C1 C2 C3 C4
    go_enter Try.func38, Try.ntmps38
    go_wp2_with (fail)
    rw [← HW.out]
    clear HW
    generalize hbb : w.heap.size = bz at *
    have HBB := hid hbb
    clear hbb
    go_wp2_with (fail)
    refine CX.out.mono ?_
    rintro e w5 ⟨rfl, h5, f5⟩
    have B5 := HB1.out.fr f5 (by omega)
    have hT := B5.there 0 2 (by simp)
    have KEEP := hid (fun (x e : Int) => show Blk (w5.setCells (bz + 1) 0 [.int .i64 x, .int .i64 e]) (bz + 1) [.int .i64 x, .int .i64 e] 58 ∧ RRep (w5.setCells (bz + 1) 0 [.int .i64 x, .int .i64 e]) c _ ∧ Fr (fun k => k = c ∨ k = bz + 1) W (w5.setCells (bz + 1) 0 [.int .i64 x, .int .i64 e]) from ⟨B5.put 0 [.int .i64 x, .int .i64 e] (by simp), Blk.put_ne h5 _ _ _ (by omega), (f5.mono (fun _ h _ => .inl h)).put _ _ _ (fun _ => .inr rfl)⟩)
    clear CX h5 f5 B5
    go_wp2_with (first | (refine wpList_store_mid rfl 58 _ _ rfl (bz + 1) 0 _ rfl rfl hT Try.size_got (by simp [Value.oneCell']) ?_; rw [List.toList_toArray]))
    obtain ⟨r1, r2, r3⟩ := KEEP.out _ _
    exact bodyPost_ret (got_ret rfl rfl r1) rfl ⟨rfl, r2, (HF0.out.mono (T := fun k => k = c) (fun _ h _ => h.elim)).trans r3 (fun k hk hl => by have := HBB.out; omega)⟩
  
end Go.Proofs.Ytbkebjgoaeddjaa
