import Derived.Test.YtiimomgbklgicaaGreatPkRsO
set_option linter.unusedVariables false
namespace Go.Proofs.YtiimomgbklgicaaGreat
open Go.RowKit Go.VB Go.VB.Oct Go.VB.Cat Go.VB.Rec
theorem kind_nat {c : Col} (h : c.kind = 1 ∨ c.kind = 2) : ∃ k : Nat, c.kind = (k : Int) ∧ k ≤ 2 := by
  rcases h with h | h
  · exact ⟨1, h, by omega⟩
  · exact ⟨2, h, by omega⟩
set_option maxRecDepth 20000 in
set_option maxHeartbeats 4000000 in
theorem rBytes_go {S : Nat → Prop} {w : World} {c : Nat} {m : List Tab} (h : CR 83 S w c m) (ok : Ok m) :
    Calls Tryz.prog 41 #[.pointer (some ⟨c, 0, none⟩)] w fun e w' => e = .returned (.string (bs (Cat.bytes m))) ∧ Fr (fun _ => False) w w' := by
  obtain ⟨v, ts, h, rfl⟩ := h
  have HC := hid h
  have HOK := hid ok
  have hlen : ts.length ≤ 8 := by have := ok.len; simpa using this
  obtain ⟨av, cv, rfl, _⟩ := h.r.slice
  have k0 : w.cell? ⟨c, 0, none⟩ = some (.slice av ts.length cv) := h.b.cell 0
  clear h ok
  have HON := hid (fun (n : Nat) (hn : n ≤ 9223372036854775807) (W : World) => r14one_go n hn W)
  have HON0 := hid (HON.out ts.length (by omega))
  go_enter Tryz.func41, Tryz.ntmps41
  go_upto_region 2 with (go_at_call 96; refine (HON0.out _).mono ?_; rintro e w1 ⟨rfl, f⟩; have F1 := hid f; clear f)
  clear k0 HON0
  go_wp2_with (fail)
  go_loopw [3, 4] (fun s3 s4 wr => ∃ j : Nat, j ≤ ts.length ∧ s4 = .int .i64 j ∧ s3 = .string (bs (be 1 ts.length ++ (ts.take j).flatMap (fun t => t.t.bytes))) ∧ Fr (fun _ => False) w wr) (fun _ s4 _ => ts.length - (intOf s4).toNat)
  case atStart => exact ⟨0, by omega, rfl, by simp, F1.out⟩
  case round =>
    obtain ⟨j, hj, rfl, rfl, hf⟩ := hrel
    have FR := hid hf
    clear hf F1
    have HCW := hid (HC.out.fre FR.out)
    have k0 : wr.cell? ⟨c, 0, none⟩ = some (.slice av ts.length cv) := HCW.out.b.cell 0
    have j1 : (0 : Int) ≤ (j : Int) := by omega
    have j5 : IntKind.i64.wrap ((j : Int) + 1) = (j : Int) + 1 := IntWalk.i64_in _ (by omega)
    by_cases hjl : j < ts.length
    · have j2 : (j : Int) < (ts.length : Int) := by omega
      have HTK := hid (show TabOk ts[j].t from HOK.out.tab _ (List.mem_map_of_mem (List.getElem_mem hjl)))
      have HXT := hid (HC.out.t _ (List.getElem_mem hjl))
      have HSUC := hid (show (ts.take (j + 1)).flatMap (fun t => t.t.bytes) = (ts.take j).flatMap (fun t => t.t.bytes) ++ ts[j].t.bytes from by rw [List.take_succ_eq_append_getElem hjl, List.flatMap_append]; simp)
      have HLA := hid (show (be 1 ts.length ++ (ts.take j).flatMap (fun t => t.t.bytes)).length ≤ 1600 from by
        have := takeLe (f := fun t : TabV => t.t.bytes) 198 8 (l := ts) (fun t ht => tab_le (HOK.out.tab _ (List.mem_map_of_mem ht))) hlen j
        rw [List.length_append, be_length _ _ (by omega)]
        omega)
      obtain ⟨g, rfl, -, hr⟩ := tab_at HCW.out.r hjl
      obtain ⟨acc, hacc⟩ : ∃ acc, be 1 ts.length ++ (ts.take j).flatMap (fun t => t.t.bytes) = acc := ⟨_, rfl⟩
      obtain ⟨x, hx⟩ : ∃ x, x = ts[j] := ⟨_, rfl⟩
      rw [← hx] at hr HTK HXT HSUC
      rw [hacc] at HLA ⊢
      have HAC := hid hacc
      clear hx hacc
      obtain ⟨ac, ccap, hvc, _⟩ := HXT.out.c.slice
      obtain ⟨ai, ci, hvi, _⟩ := HXT.out.i.slice
      obtain ⟨⟨id, nm0, cols, ixs⟩, vc, vi, ix⟩ := x
      dsimp only at hvc hvi HTK HSUC
      subst hvc hvi
      have q0 : wr.cell? ⟨g, j * 4, none⟩ = some (.int .i64 id) := hr 0 _ rfl
      have q1 : wr.cell? ⟨g, j * 4 + 1, none⟩ = some (.string (bs nm0)) := hr 1 _ rfl
      have q2 : wr.cell? ⟨g, j * 4 + 2, none⟩ = some (.slice ac cols.length ccap) := hr 2 _ rfl
      have q3 : wr.cell? ⟨g, j * 4 + 3, none⟩ = some (.slice ai ix.length ci) := hr 3 _ rfl
      clear hr
      go_upto_region 6 with fail
      have fa := (Fr.refl (fun _ => False) wr).alloc (.cells #[.int .i64 id, .string (bs nm0), .slice ac cols.length ccap, .slice ai ix.length ci] 175)
      have HB := hid (Blk.new wr [.int .i64 id, .string (bs nm0), .slice ac cols.length ccap, .slice ai ix.length ci] 175)
      have F2 := hid ((FR.out.trans fa (fun _ h _ => h)).drew)
      clear fa q0 q1 q2 q3 k0 HCW
      generalize wr.heap.size = dt at *
      have HNL := hid (show nm0.length ≤ 12 ∧ cols.length ≤ 6 from ⟨(named_le HTK.out.name).2, HTK.out.le⟩)
      have HTX := hid (fun W => r14text_go nm0 (by have := HNL.out.1; omega) W)
      have HO1 := hid (HON.out cols.length (by have := HNL.out.2; omega))
      have hadd1 := fun w => run_add_bs (P := Tryz.prog) w acc (text nm0) (by rw [textLen]; have := HLA.out; have := HNL.out; omega)
      have hadd2 := fun w => run_add_bs (P := Tryz.prog) w (acc ++ text nm0) (be 1 cols.length) (by rw [List.length_append, textLen, be_length _ _ (by omega)]; have := HLA.out; have := HNL.out; omega)
      have HBD := hid HB.out.drew
      generalize wr.alloc _ = W2 at *
      refine wp_region_scr (.take 0 (.take 1 (.take 2 (.take 5 (.take 6 (.take 7 (.op 3 (.take 4 (.op 8 (.take 9 (.take 10 .done))))))))))) (fun kz w => (kz ≤ 11 → (w.cell? ⟨dt, 1, none⟩ = some (.string (bs nm0)) ∧ w.cell? ⟨dt, 2, none⟩ = some (.slice ac cols.length ccap))) ∧ Hid True) (by kernel_rfl) (by kernel_rfl) (by intro c a d v w h; cases d <;> exact h) ?_
      generalize W2.drew = W3 at *
      have HB3 := hid (show Blk W3 dt [.int .i64 id, .string (bs nm0), .slice ac cols.length ccap, .slice ai ix.length ci] 175 from HBD.out)
      repeat
        first
        | (refine wpT_pure rfl rfl rfl ?_; apply Exists.intro; refine ⟨?_, ?_⟩; intro w; (first | ((obtain ⟨q1, q2⟩ := qa; go_simp <;> rfl)) | (go_simp <;> rfl)); simp only [Act.put, List.setIfInBounds_toArray, List.set_cons_zero, List.set_cons_succ])
        | (refine wpT_take 11 rfl rfl (by decide +kernel) ⟨fun _ => ⟨HB3.out.cell 1, HB3.out.cell 2⟩, hid trivial⟩ ?_; apply Exists.intro; refine ⟨?_, ?_⟩; intro w hw; (have qa := hw.1 (Nat.le_refl _); have qb := hw.2); (first | ((obtain ⟨q1, q2⟩ := qa; go_simp <;> rfl)) | (go_simp <;> rfl)); simp only [Act.put, List.setIfInBounds_toArray, List.set_cons_zero, List.set_cons_succ])
        | (refine wpT_skip rfl rfl ?_; simp only [Act.put, List.setIfInBounds_toArray, List.set_cons_zero, List.set_cons_succ])
      refine wpT_op rfl ?_
      go_wp2_with ((go_at_call 97; refine (HTX.out _).mono ?_; rintro e w4 ⟨rfl, f⟩; have F4 := hid (F2.out.trans f (fun _ h _ => h)); have HB4 := hid (Blk.fr HB3.out f (fun h => h)); clear f))
      (refine ⟨?_, ?_⟩; focus (intro kz hk hk2 hh; first | (exfalso; simp at hk2; omega) | exact hh | exact (fun h => absurd h (by omega)) | obtain ⟨qa, qb⟩ := hh; first | exact ⟨qa, qb⟩ | (refine ⟨fun h => absurd h (by omega), ?_⟩; first | exact qb | (exact ⟨HB4.out.cell 1, HB4.out.cell 2⟩)) | (refine ⟨fun h => ?_, ?_⟩; (have qa := qa h); all_goals (first | exact qa | exact qb | (exact ⟨HB4.out.cell 1, HB4.out.cell 2⟩)))))
      repeat
        first
        | (refine wpT_pure rfl rfl rfl ?_; apply Exists.intro; refine ⟨?_, ?_⟩; intro w; (first | ((obtain ⟨q1, q2⟩ := qa; go_simp <;> rfl)) | (go_simp <;> rfl)); simp only [Act.put, List.setIfInBounds_toArray, List.set_cons_zero, List.set_cons_succ])
        | (refine wpT_take 11 rfl rfl (by decide +kernel) ⟨fun _ => ⟨HB4.out.cell 1, HB4.out.cell 2⟩, hid trivial⟩ ?_; apply Exists.intro; refine ⟨?_, ?_⟩; intro w hw; (have qa := hw.1 (Nat.le_refl _); have qb := hw.2); (first | ((obtain ⟨q1, q2⟩ := qa; go_simp <;> rfl)) | (go_simp <;> rfl)); simp only [Act.put, List.setIfInBounds_toArray, List.set_cons_zero, List.set_cons_succ])
        | (refine wpT_skip rfl rfl ?_; simp only [Act.put, List.setIfInBounds_toArray, List.set_cons_zero, List.set_cons_succ])
      refine wpT_op rfl ?_
      go_wp2_with ((go_at_call 96; refine (HO1.out _).mono ?_; rintro e w5 ⟨rfl, f⟩; have F5 := hid (F4.out.trans f (fun _ h _ => h)); have HB5 := hid (Blk.fr HB4.out f (fun h => h)); clear f))
      (refine ⟨?_, ?_⟩; focus (intro kz hk hk2 hh; first | (exfalso; simp at hk2; omega) | exact hh | exact (fun h => absurd h (by omega)) | obtain ⟨qa, qb⟩ := hh; first | exact ⟨qa, qb⟩ | (refine ⟨fun h => absurd h (by omega), ?_⟩; first | exact qb | (exact ⟨HB5.out.cell 1, HB5.out.cell 2⟩)) | (refine ⟨fun h => ?_, ?_⟩; (have qa := qa h); all_goals (first | exact qa | exact qb | (exact ⟨HB5.out.cell 1, HB5.out.cell 2⟩)))))
      repeat
        first
        | (refine wpT_pure rfl rfl rfl ?_; apply Exists.intro; refine ⟨?_, ?_⟩; intro w; (first | ((obtain ⟨q1, q2⟩ := qa; go_simp <;> rfl)) | (go_simp <;> rfl)); simp only [Act.put, List.setIfInBounds_toArray, List.set_cons_zero, List.set_cons_succ])
        | (refine wpT_take 11 rfl rfl (by decide +kernel) ⟨fun _ => ⟨HB5.out.cell 1, HB5.out.cell 2⟩, hid trivial⟩ ?_; apply Exists.intro; refine ⟨?_, ?_⟩; intro w hw; (have qa := hw.1 (Nat.le_refl _); have qb := hw.2); (first | ((obtain ⟨q1, q2⟩ := qa; go_simp <;> rfl)) | (go_simp <;> rfl)); simp only [Act.put, List.setIfInBounds_toArray, List.set_cons_zero, List.set_cons_succ])
        | (refine wpT_skip rfl rfl ?_; simp only [Act.put, List.setIfInBounds_toArray, List.set_cons_zero, List.set_cons_succ])
      refine wpT_nil ?_
      have HAC1 := hid (show (acc ++ (text nm0 ++ be 1 cols.length)).length ≤ 1620 from by rw [List.length_append, List.length_append, textLen, be_length _ _ (by omega)]; have := HLA.out; have := HNL.out; omega)
      have HBY := hid (show (⟨id, nm0, cols, ixs⟩ : Tab).bytes = text nm0 ++ be 1 cols.length ++ cols.flatMap Col.bytes ++ be 1 ixs.length ++ ixs.flatMap Ix.bytes from rfl)
      obtain ⟨acc1, hacc1⟩ : ∃ acc1, acc ++ (text nm0 ++ be 1 cols.length) = acc1 := ⟨_, rfl⟩
      rw [hacc1] at HAC1 ⊢
      have HA1 := hid hacc1
      clear hadd1 hadd2 hacc1 HTX HO1 HB3 HB4 F2 F4 HB HBD
      go_wp2_with (fail)
      go_loopw [3, 6] (fun s3 s6 wr => ∃ k : Nat, k ≤ cols.length ∧ s6 = .int .i64 k ∧ s3 = .string (bs (acc1 ++ (cols.take k).flatMap Col.bytes)) ∧ Fr (fun _ => False) w5 wr) (fun _ s6 _ => cols.length - (intOf s6).toNat)
      case atStart => exact ⟨0, by omega, rfl, by simp, Fr.refl _ _⟩
      case round =>
        obtain ⟨k, hk, rfl, rfl, hf⟩ := hrel
        have FQ := hid hf
        clear hf
        have HBQ := hid (Blk.fr HB5.out FQ.out (fun h => h))
        have b2 : wr.cell? ⟨dt, 2, none⟩ = some (.slice ac cols.length ccap) := HBQ.out.cell 2
        have k1 : (0 : Int) ≤ (k : Int) := by omega
        have k5 : IntKind.i64.wrap ((k : Int) + 1) = (k : Int) + 1 := IntWalk.i64_in _ (by have := HNL.out; omega)
        by_cases hkc : k < cols.length
        · have k2 : (k : Int) < (cols.length : Int) := by omega
          obtain ⟨gc, o, rfl, -, qc⟩ := slK (k := 2) (f := Col.cells) (by decide) col_len ((HXT.out.fr (F5.out.trans FQ.out (fun _ h _ => h)) (fun _ _ h => h)).c.sl' (R := fun _ => True) (fun _ _ => trivial)) hkc
          obtain ⟨kd, hkd, hkd2⟩ := kind_nat (HTK.out.col _ (List.getElem_mem hkc)).2
          have hnl := (named_le (HTK.out.col _ (List.getElem_mem hkc)).1).2
          have HP := hid (show wr.cell? ⟨gc, o + k * 2, none⟩ = some (.string (bs cols[k].name)) ∧ wr.cell? ⟨gc, o + k * 2 + 1, none⟩ = some (.int .i64 (kd : Int)) from ⟨qc 0 (by decide), by rw [← hkd]; exact qc 1 (by decide)⟩)
          have HSC := hid (show (cols.take (k + 1)).flatMap Col.bytes = (cols.take k).flatMap Col.bytes ++ (text cols[k].name ++ be 1 kd) from by
            rw [List.take_succ_eq_append_getElem hkc, List.flatMap_append]
            simp [Col.bytes, hkd])
          have HLC := hid (show (acc1 ++ (cols.take k).flatMap Col.bytes).length ≤ 1800 from by
            have := takeLe (f := Col.bytes) 15 6 (l := cols) (fun x hx => col_le (HTK.out.col x hx).1) HNL.out.2 k
            rw [List.length_append]
            have := HAC1.out
            omega)
          clear qc hkd
          generalize cols[k].name = cn at *
          obtain ⟨ak, hak⟩ : ∃ ak, acc1 ++ (cols.take k).flatMap Col.bytes = ak := ⟨_, rfl⟩
          rw [hak] at HLC ⊢
          have HAK := hid hak
          clear hak
          have HTX := hid (fun W => r14text_go cn (by omega) W)
          have HO1 := hid (HON.out kd (by omega))
          have hadd1 := fun w => run_add_bs (P := Tryz.prog) w ak (text cn) (by rw [textLen]; have := HLC.out; omega)
          have hadd2 := fun w => run_add_bs (P := Tryz.prog) w (ak ++ text cn) (be 1 kd) (by rw [List.length_append, textLen, be_length _ _ (by omega)]; have := HLC.out; omega)
          go_upto_region 10 with fail
          clear b2
          have fd := (Fr.refl (fun _ => False) wr).drew
          have FQ1 := hid (FQ.out.trans fd (fun _ h _ => h))
          have HS := hid (fun (W : World) (f : Fr (fun _ => False) wr W) => (⟨(Blk.fr HBQ.out f (fun h => h)).cell 2, cell_fr HP.out.1 f (fun h => h), cell_fr HP.out.2 f (fun h => h)⟩ : W.cell? ⟨dt, 2, none⟩ = some (.slice (some ⟨gc, o, none⟩) cols.length ccap) ∧ W.cell? ⟨gc, o + k * 2, none⟩ = some (.string (bs cn)) ∧ W.cell? ⟨gc, o + k * 2 + 1, none⟩ = some (.int .i64 (kd : Int))))
          have HS1 := hid (HS.out _ fd)
          have FD1 := hid fd
          clear fd
          refine wp_region_scr (.take 0 (.take 1 (.take 2 (.take 3 (.take 4 (.take 5 (.take 6 (.take 9 (.take 10 (.take 11 (.take 12 (.take 13 (.take 14 (.op 7 (.take 8 (.op 15 (.take 16 (.take 17 .done)))))))))))))))))) (fun kz w => (kz ≤ 18 → (w.cell? ⟨dt, 2, none⟩ = some (.slice (some ⟨gc, o, none⟩) cols.length ccap) ∧ w.cell? ⟨gc, o + k * 2, none⟩ = some (.string (bs cn)) ∧ w.cell? ⟨gc, o + k * 2 + 1, none⟩ = some (.int .i64 (kd : Int)))) ∧ Hid True) (by kernel_rfl) (by kernel_rfl) (by intro c a d v w h; cases d <;> exact h) ?_
          repeat
            first
            | (refine wpT_pure rfl rfl rfl ?_; apply Exists.intro; refine ⟨?_, ?_⟩; intro w; (first | ((obtain ⟨q1, q2, q3⟩ := qa; go_simp <;> rfl)) | (go_simp <;> rfl)); simp only [Act.put, List.setIfInBounds_toArray, List.set_cons_zero, List.set_cons_succ])
            | (refine wpT_take 18 rfl rfl (by decide +kernel) ⟨fun _ => HS1.out, hid trivial⟩ ?_; apply Exists.intro; refine ⟨?_, ?_⟩; intro w hw; (have qa := hw.1 (Nat.le_refl _); have qb := hw.2); (first | ((obtain ⟨q1, q2, q3⟩ := qa; go_simp <;> rfl)) | (go_simp <;> rfl)); simp only [Act.put, List.setIfInBounds_toArray, List.set_cons_zero, List.set_cons_succ])
            | (refine wpT_skip rfl rfl ?_; simp only [Act.put, List.setIfInBounds_toArray, List.set_cons_zero, List.set_cons_succ])
          refine wpT_op rfl ?_
          go_wp2_with ((go_at_call 97; refine (HTX.out _).mono ?_; rintro e w6 ⟨rfl, f⟩; have FD2 := hid (FD1.out.trans f (fun _ h _ => h)); clear f))
          (refine ⟨?_, ?_⟩; focus (intro kz hk hk2 hh; first | (exfalso; simp at hk2; omega) | exact hh | exact (fun h => absurd h (by omega)) | obtain ⟨qa, qb⟩ := hh; first | exact ⟨qa, qb⟩ | (refine ⟨fun h => absurd h (by omega), ?_⟩; first | exact qb | (exact HS.out _ FD2.out)) | (refine ⟨fun h => ?_, ?_⟩; (have qa := qa h); all_goals (first | exact qa | exact qb | (exact HS.out _ FD2.out)))))
          repeat
            first
            | (refine wpT_pure rfl rfl rfl ?_; apply Exists.intro; refine ⟨?_, ?_⟩; intro w; (first | ((obtain ⟨q1, q2, q3⟩ := qa; go_simp <;> rfl)) | (go_simp <;> rfl)); simp only [Act.put, List.setIfInBounds_toArray, List.set_cons_zero, List.set_cons_succ])
            | (refine wpT_take 18 rfl rfl (by decide +kernel) ⟨fun _ => HS.out _ FD2.out, hid trivial⟩ ?_; apply Exists.intro; refine ⟨?_, ?_⟩; intro w hw; (have qa := hw.1 (Nat.le_refl _); have qb := hw.2); (first | ((obtain ⟨q1, q2, q3⟩ := qa; go_simp <;> rfl)) | (go_simp <;> rfl)); simp only [Act.put, List.setIfInBounds_toArray, List.set_cons_zero, List.set_cons_succ])
            | (refine wpT_skip rfl rfl ?_; simp only [Act.put, List.setIfInBounds_toArray, List.set_cons_zero, List.set_cons_succ])
          refine wpT_op rfl ?_
          go_wp2_with ((go_at_call 96; refine (HO1.out _).mono ?_; rintro e w7 ⟨rfl, f⟩; have FD3 := hid (FD2.out.trans f (fun _ h _ => h)); clear f))
          (refine ⟨?_, ?_⟩; focus (intro kz hk hk2 hh; first | (exfalso; simp at hk2; omega) | exact hh | exact (fun h => absurd h (by omega)) | obtain ⟨qa, qb⟩ := hh; first | exact ⟨qa, qb⟩ | (refine ⟨fun h => absurd h (by omega), ?_⟩; first | exact qb | (exact HS.out _ FD3.out)) | (refine ⟨fun h => ?_, ?_⟩; (have qa := qa h); all_goals (first | exact qa | exact qb | (exact HS.out _ FD3.out)))))
          repeat
            first
            | (refine wpT_pure rfl rfl rfl ?_; apply Exists.intro; refine ⟨?_, ?_⟩; intro w; (first | ((obtain ⟨q1, q2, q3⟩ := qa; go_simp <;> rfl)) | (go_simp <;> rfl)); simp only [Act.put, List.setIfInBounds_toArray, List.set_cons_zero, List.set_cons_succ])
            | (refine wpT_take 18 rfl rfl (by decide +kernel) ⟨fun _ => HS.out _ FD3.out, hid trivial⟩ ?_; apply Exists.intro; refine ⟨?_, ?_⟩; intro w hw; (have qa := hw.1 (Nat.le_refl _); have qb := hw.2); (first | ((obtain ⟨q1, q2, q3⟩ := qa; go_simp <;> rfl)) | (go_simp <;> rfl)); simp only [Act.put, List.setIfInBounds_toArray, List.set_cons_zero, List.set_cons_succ])
            | (refine wpT_skip rfl rfl ?_; simp only [Act.put, List.setIfInBounds_toArray, List.set_cons_zero, List.set_cons_succ])
          refine wpT_nil ?_
          have FQ2 := hid (FQ.out.trans FD3.out (fun _ h _ => h))
          clear hadd1 hadd2
          go_wp2_with (fail)
          go_roundw
          case rel => exact ⟨k + 1, by omega, by go_num, by rw [HSC.out, ← HAK.out, List.append_assoc], FQ2.out⟩
          case measure => simp [intOf]; omega
        · obtain rfl : k = cols.length := by omega
          have k2 : ¬ (cols.length : Int) < (cols.length : Int) := by omega
          rw [List.take_length]
          have HIXL := hid (show ixs.length = ix.length ∧ ix.length ≤ 4 from by
            have e := HXT.out.e
            have h := HTK.out.ixs
            dsimp only at e h
            rw [e, List.length_map] at h
            exact ⟨by rw [e, List.length_map], h⟩)
          have HL2 := hid (show (acc1 ++ cols.flatMap Col.bytes).length ≤ 1720 from by
            have := flatLe (f := Col.bytes) 15 cols (fun x hx => col_le (HTK.out.col x hx).1)
            rw [List.length_append]
            have := HAC1.out
            have := HNL.out.2
            omega)
          have HO2 := hid (HON.out ix.length (by have := HIXL.out.2; omega))
          have hadd3 := fun w => run_add_bs (P := Tryz.prog) w (acc1 ++ cols.flatMap Col.bytes) (be 1 ix.length) (by rw [be_length _ _ (by omega)]; have := HL2.out; omega)
          have FW5 := hid (F5.out.trans FQ.out (fun _ h _ => h))
          go_upto_region 11 with fail
          clear b2
          have b3 : wr.cell? ⟨dt, 3, none⟩ = some (.slice ai ix.length ci) := HBQ.out.cell 3
          obtain ⟨acc2, hacc2⟩ : ∃ acc2, acc1 ++ cols.flatMap Col.bytes = acc2 := ⟨_, rfl⟩
          rw [hacc2] at hadd3 HL2 ⊢
          have HA2 := hid hacc2
          clear hacc2
          go_upto_region 12 with (go_at_call 96; refine (HO2.out _).mono ?_; rintro e w8 ⟨rfl, f⟩; have F8 := hid (FW5.out.trans f (fun _ h _ => h)); have HB8 := hid (Blk.fr HBQ.out f (fun h => h)); clear f)
          clear b3 hadd3 HBQ FQ FW5 HO2 HB5 F5
          have HL3 := hid (show (acc2 ++ be 1 ix.length).length ≤ 1730 from by rw [List.length_append, be_length _ _ (by omega)]; have := HL2.out; omega)
          obtain ⟨acc3, hacc3⟩ : ∃ acc3, acc2 ++ be 1 ix.length = acc3 := ⟨_, rfl⟩
          rw [hacc3] at HL3 ⊢
          have HA3 := hid hacc3
          clear hacc3
          go_wp2_with (fail)
          go_loopw [3, 7] (fun s3 s7 wr => ∃ k : Nat, k ≤ ix.length ∧ s7 = .int .i64 k ∧ s3 = .string (bs (acc3 ++ (ix.take k).flatMap (fun x => x.x.bytes))) ∧ Fr (fun _ => False) w8 wr) (fun _ s7 _ => ix.length - (intOf s7).toNat)
          case atStart => exact ⟨0, by omega, rfl, by simp, Fr.refl _ _⟩
          case round =>
            obtain ⟨k, hk, rfl, rfl, hf⟩ := hrel
            have FQ := hid hf
            clear hf
            have HBQ := hid (Blk.fr HB8.out FQ.out (fun h => h))
            have b3 : wr.cell? ⟨dt, 3, none⟩ = some (.slice ai ix.length ci) := HBQ.out.cell 3
            have k1 : (0 : Int) ≤ (k : Int) := by omega
            have k5 : IntKind.i64.wrap ((k : Int) + 1) = (k : Int) + 1 := IntWalk.i64_in _ (by have := HIXL.out; omega)
            by_cases hkc : k < ix.length
            · have k2 : (k : Int) < (ix.length : Int) := by omega
              obtain ⟨gi, oi, rfl, -, qc⟩ := slK (k := 3) (f := IxV.cells) (by decide) ix_len ((HXT.out.fr (F8.out.trans FQ.out (fun _ h _ => h)) (fun _ _ h => h)).i.sl' (R := fun _ => True) (fun _ _ => trivial)) hkc
              have HXI := hid (show IxOk cols.length ix[k].x from HTK.out.ix _ (by have e := HXT.out.e; dsimp only at e ⊢; rw [e]; exact List.mem_map_of_mem (List.getElem_mem hkc)))
              have HXR := hid (HXT.out.x _ (List.getElem_mem hkc)).1
              have HSC := hid (show (ix.take (k + 1)).flatMap (fun x => x.x.bytes) = (ix.take k).flatMap (fun x => x.x.bytes) ++ ix[k].x.bytes from by
                rw [List.take_succ_eq_append_getElem hkc, List.flatMap_append]
                simp)
              have q0 : wr.cell? ⟨gi, oi + k * 3, none⟩ = some (.string (bs ix[k].x.name)) := qc 0 (by decide)
              have q1 := qc 1 (by decide)
              have q2 : wr.cell? ⟨gi, oi + k * 3 + 2, none⟩ = some (.int .i64 ix[k].x.root) := qc 2 (by decide)
              obtain ⟨ax, cx, hax, _⟩ := HXR.out.slice
              simp only [IxV.cells, List.getElem?_cons_zero, List.getElem?_cons_succ] at q1
              rw [hax] at q1 HXR
              have HLK := hid (show (acc3 ++ (ix.take k).flatMap (fun x => x.x.bytes)).length ≤ 1830 from by
                have := takeLe (f := fun x : IxV => x.x.bytes) 23 4 (l := ix) (fun x hx => ix_le (HTK.out.ix x.x (by have e := HXT.out.e; dsimp only at e ⊢; rw [e]; exact List.mem_map_of_mem hx))) HIXL.out.2 k
                rw [List.length_append]
                have := HL3.out
                omega)
              clear qc hax
              obtain ⟨xx, hxx⟩ : ∃ xx, xx = ix[k].x := ⟨_, rfl⟩
              rw [← hxx] at q0 q1 q2 HXI HXR HSC
              clear hxx
              obtain ⟨xn, xc, xr⟩ := xx
              dsimp only at q0 q1 q2 HXI HXR
              obtain ⟨ak, hak⟩ : ∃ ak, acc3 ++ (ix.take k).flatMap (fun x => x.x.bytes) = ak := ⟨_, rfl⟩
              rw [hak] at HLK ⊢
              have HAK := hid hak
              clear hak
              have hr0 := HXI.out.root
              dsimp only at hr0
              obtain ⟨rt, hrt⟩ : ∃ rt : Nat, xr = (rt : Int) := ⟨xr.toNat, by omega⟩
              have HXB := hid (show (⟨xn, xc, xr⟩ : Ix).bytes = text xn ++ be 1 xc.length ++ (xc.flatMap fun n => be 1 n.toNat) ++ be 2 xr.toNat from rfl)
              subst hrt
              have HN6 := hid (show xn.length ≤ 12 ∧ xc.length ≤ 6 from ⟨(named_le HXI.out.name).2, HXI.out.le⟩)
              go_upto_region 16 with fail
              have fa := (Fr.refl (fun _ => False) wr).alloc (.cells #[.string (bs xn), .slice ax xc.length cx, .int .i64 (rt : Int)] 177)
              have HX0 := hid (Blk.new wr [.string (bs xn), .slice ax xc.length cx, .int .i64 (rt : Int)] 177)
              have FQ1 := hid (FQ.out.trans fa (fun _ h _ => h))
              clear fa q0 q1 q2 b3
              generalize wr.heap.size = dx at *
              generalize wr.alloc _ = W9 at *
              have HTX := hid (fun W => r14text_go xn (by have := HN6.out; omega) W)
              have HO1 := hid (HON.out xc.length (by have := HN6.out; omega))
              have hadd1 := fun w => run_add_bs (P := Tryz.prog) w ak (text xn) (by rw [textLen]; have := HLK.out; have := HN6.out; omega)
              have hadd2 := fun w => run_add_bs (P := Tryz.prog) w (ak ++ text xn) (be 1 xc.length) (by rw [List.length_append, textLen, be_length _ _ (by omega)]; have := HLK.out; have := HN6.out; omega)
              have fd := (Fr.refl (fun _ => False) W9).drew
              have HS := hid (fun (W : World) (f : Fr (fun _ => False) W9 W) => (⟨(Blk.fr HX0.out f (fun h => h)).cell 0, (Blk.fr HX0.out f (fun h => h)).cell 1⟩ : W.cell? ⟨dx, 0, none⟩ = some (.string (bs xn)) ∧ W.cell? ⟨dx, 1, none⟩ = some (.slice ax xc.length cx)))
              have HS1 := hid (HS.out _ fd)
              have FD1 := hid fd
              clear fd
              refine wp_region_scr (.take 0 (.take 1 (.take 2 (.take 5 (.take 6 (.take 7 (.op 3 (.take 4 (.op 8 (.take 9 (.take 10 .done))))))))))) (fun kz w => (kz ≤ 11 → (w.cell? ⟨dx, 0, none⟩ = some (.string (bs xn)) ∧ w.cell? ⟨dx, 1, none⟩ = some (.slice ax xc.length cx))) ∧ Hid True) (by kernel_rfl) (by kernel_rfl) (by intro c a d v w h; cases d <;> exact h) ?_
              repeat
                first
                | (refine wpT_pure rfl rfl rfl ?_; apply Exists.intro; refine ⟨?_, ?_⟩; intro w; (first | ((obtain ⟨q1, q2⟩ := qa; go_simp <;> rfl)) | (go_simp <;> rfl)); simp only [Act.put, List.setIfInBounds_toArray, List.set_cons_zero, List.set_cons_succ])
                | (refine wpT_take 11 rfl rfl (by decide +kernel) ⟨fun _ => HS1.out, hid trivial⟩ ?_; apply Exists.intro; refine ⟨?_, ?_⟩; intro w hw; (have qa := hw.1 (Nat.le_refl _); have qb := hw.2); (first | ((obtain ⟨q1, q2⟩ := qa; go_simp <;> rfl)) | (go_simp <;> rfl)); simp only [Act.put, List.setIfInBounds_toArray, List.set_cons_zero, List.set_cons_succ])
                | (refine wpT_skip rfl rfl ?_; simp only [Act.put, List.setIfInBounds_toArray, List.set_cons_zero, List.set_cons_succ])
              refine wpT_op rfl ?_
              go_wp2_with ((go_at_call 97; refine (HTX.out _).mono ?_; rintro e wA ⟨rfl, f⟩; have FD2 := hid (FD1.out.trans f (fun _ h _ => h)); clear f))
              (refine ⟨?_, ?_⟩; focus (intro kz hk hk2 hh; first | (exfalso; simp at hk2; omega) | exact hh | exact (fun h => absurd h (by omega)) | obtain ⟨qa, qb⟩ := hh; first | exact ⟨qa, qb⟩ | (refine ⟨fun h => absurd h (by omega), ?_⟩; first | exact qb | (exact HS.out _ FD2.out)) | (refine ⟨fun h => ?_, ?_⟩; (have qa := qa h); all_goals (first | exact qa | exact qb | (exact HS.out _ FD2.out)))))
              repeat
                first
                | (refine wpT_pure rfl rfl rfl ?_; apply Exists.intro; refine ⟨?_, ?_⟩; intro w; (first | ((obtain ⟨q1, q2⟩ := qa; go_simp <;> rfl)) | (go_simp <;> rfl)); simp only [Act.put, List.setIfInBounds_toArray, List.set_cons_zero, List.set_cons_succ])
                | (refine wpT_take 11 rfl rfl (by decide +kernel) ⟨fun _ => HS.out _ FD2.out, hid trivial⟩ ?_; apply Exists.intro; refine ⟨?_, ?_⟩; intro w hw; (have qa := hw.1 (Nat.le_refl _); have qb := hw.2); (first | ((obtain ⟨q1, q2⟩ := qa; go_simp <;> rfl)) | (go_simp <;> rfl)); simp only [Act.put, List.setIfInBounds_toArray, List.set_cons_zero, List.set_cons_succ])
                | (refine wpT_skip rfl rfl ?_; simp only [Act.put, List.setIfInBounds_toArray, List.set_cons_zero, List.set_cons_succ])
              refine wpT_op rfl ?_
              go_wp2_with ((go_at_call 96; refine (HO1.out _).mono ?_; rintro e wB ⟨rfl, f⟩; have FD3 := hid (FD2.out.trans f (fun _ h _ => h)); clear f))
              (refine ⟨?_, ?_⟩; focus (intro kz hk hk2 hh; first | (exfalso; simp at hk2; omega) | exact hh | exact (fun h => absurd h (by omega)) | obtain ⟨qa, qb⟩ := hh; first | exact ⟨qa, qb⟩ | (refine ⟨fun h => absurd h (by omega), ?_⟩; first | exact qb | (exact HS.out _ FD3.out)) | (refine ⟨fun h => ?_, ?_⟩; (have qa := qa h); all_goals (first | exact qa | exact qb | (exact HS.out _ FD3.out)))))
              repeat
                first
                | (refine wpT_pure rfl rfl rfl ?_; apply Exists.intro; refine ⟨?_, ?_⟩; intro w; (first | ((obtain ⟨q1, q2⟩ := qa; go_simp <;> rfl)) | (go_simp <;> rfl)); simp only [Act.put, List.setIfInBounds_toArray, List.set_cons_zero, List.set_cons_succ])
                | (refine wpT_take 11 rfl rfl (by decide +kernel) ⟨fun _ => HS.out _ FD3.out, hid trivial⟩ ?_; apply Exists.intro; refine ⟨?_, ?_⟩; intro w hw; (have qa := hw.1 (Nat.le_refl _); have qb := hw.2); (first | ((obtain ⟨q1, q2⟩ := qa; go_simp <;> rfl)) | (go_simp <;> rfl)); simp only [Act.put, List.setIfInBounds_toArray, List.set_cons_zero, List.set_cons_succ])
                | (refine wpT_skip rfl rfl ?_; simp only [Act.put, List.setIfInBounds_toArray, List.set_cons_zero, List.set_cons_succ])
              refine wpT_nil ?_
              have HLB := hid (show (ak ++ (text xn ++ be 1 xc.length)).length ≤ 1850 from by rw [List.length_append, List.length_append, textLen, be_length _ _ (by omega)]; have := HLK.out; have := HN6.out; omega)
              obtain ⟨bk, hbk⟩ : ∃ bk, ak ++ (text xn ++ be 1 xc.length) = bk := ⟨_, rfl⟩
              rw [hbk] at HLB ⊢
              have HBK := hid hbk
              have FQ3 := hid (FQ1.out.trans FD3.out (fun _ h _ => h))
              have HXB3 := hid (Blk.fr HX0.out FD3.out (fun h => h))
              clear hadd1 hadd2 hbk HTX HO1 HS HS1 FD1 FD2 FD3 FQ1 HX0 FQ HBQ
              go_wp2_with (fail)
              go_loopw [3, 9] (fun s3 s9 wr => ∃ q : Nat, q ≤ xc.length ∧ s9 = .int .i64 q ∧ s3 = .string (bs (bk ++ (xc.take q).flatMap (fun n => be 1 n.toNat))) ∧ Fr (fun _ => False) wB wr) (fun _ s9 _ => xc.length - (intOf s9).toNat)
              case atStart => exact ⟨0, by omega, rfl, by simp, Fr.refl _ _⟩
              case round =>
                obtain ⟨q, hq, rfl, rfl, hf⟩ := hrel
                have FP := hid hf
                clear hf
                have HXP := hid (Blk.fr HXB3.out FP.out (fun h => h))
                have b1 : wr.cell? ⟨dx, 1, none⟩ = some (.slice ax xc.length cx) := HXP.out.cell 1
                have q1 : (0 : Int) ≤ (q : Int) := by omega
                have q5 : IntKind.i64.wrap ((q : Int) + 1) = (q : Int) + 1 := IntWalk.i64_in _ (by have := HN6.out; omega)
                have HLQ := hid (show (bk ++ (xc.take q).flatMap (fun n => be 1 n.toNat)).length ≤ 1900 from by
                  have := takeLe (f := fun n : Int => be 1 n.toNat) 1 6 (l := xc) (fun x _ => Nat.le_of_eq (be_length _ _ (by omega))) HN6.out.2 q
                  rw [List.length_append]
                  have := HLB.out
                  omega)
                by_cases hqc : q < xc.length
                · have q2 : (q : Int) < (xc.length : Int) := by omega
                  obtain ⟨gx, ox, rfl, -, hcell⟩ := sl_cell1 (f := icell) (fun _ => rfl) ((HXR.out.fre ((F8.out.trans FQ3.out (fun _ h _ => h)).trans FP.out (fun _ h _ => h))).sl' (R := fun _ => True) (fun _ _ => trivial)) (by intro e; rw [e] at hqc; simp at hqc)
                  have hn0 := HXI.out.col _ (List.getElem_mem hqc)
                  have HSQ := hid (show (xc.take (q + 1)).flatMap (fun n => be 1 n.toNat) = (xc.take q).flatMap (fun n => be 1 n.toNat) ++ be 1 xc[q].toNat from by
                    rw [List.take_succ_eq_append_getElem hqc, List.flatMap_append]
                    simp)
                  have c0 : wr.cell? ⟨gx, ox + q, none⟩ = some (.int .i64 xc[q]) := hcell q hqc
                  clear hcell
                  generalize xc[q] = nv at *
                  obtain ⟨nn, rfl⟩ : ∃ nn : Nat, nv = (nn : Int) := ⟨nv.toNat, by omega⟩
                  rw [Int.toNat_natCast] at HSQ
                  have HO1 := hid (HON.out nn (by have := HNL.out.2; omega))
                  obtain ⟨cq, hcq⟩ : ∃ cq, bk ++ (xc.take q).flatMap (fun n => be 1 n.toNat) = cq := ⟨_, rfl⟩
                  rw [hcq] at HLQ ⊢
                  have HCQ := hid hcq
                  have hadd1 := fun w => run_add_bs (P := Tryz.prog) w cq (be 1 nn) (by rw [be_length _ _ (by omega)]; have := HLQ.out; omega)
                  clear hcq hn0
                  go_wp2_with (go_at_call 96; refine (HO1.out _).mono ?_; rintro e wC ⟨rfl, f⟩; have FP2 := hid (FP.out.trans f (fun _ h _ => h)); clear f)
                  go_roundw
                  case rel => exact ⟨q + 1, by omega, by go_num, by rw [HSQ.out, ← HCQ.out, List.append_assoc], FP2.out⟩
                  case measure => simp [intOf]; omega
                · obtain rfl : q = xc.length := by omega
                  have q2 : ¬ (xc.length : Int) < (xc.length : Int) := by omega
                  rw [List.take_length] at HLQ ⊢
                  have b2 : wr.cell? ⟨dx, 2, none⟩ = some (.int .i64 (rt : Int)) := HXP.out.cell 2
                  have HNU := hid (fun W => rNum_go rt 2 (by omega) (by omega) W)
                  have HFINAL := hid (show (bk ++ xc.flatMap (fun n => be 1 n.toNat)) ++ be 2 rt = acc3 ++ (ix.take (k + 1)).flatMap (fun x => x.x.bytes) from by
                    rw [HSC.out, HXB.out, ← HBK.out, ← HAK.out, Int.toNat_natCast]
                    simp only [List.append_assoc])
                  obtain ⟨cq, hcq⟩ : ∃ cq, bk ++ xc.flatMap (fun n => be 1 n.toNat) = cq := ⟨_, rfl⟩
                  rw [hcq] at HLQ HFINAL ⊢
                  have hadd1 := fun w => run_add_bs (P := Tryz.prog) w cq (be 2 rt) (by rw [be_length _ _ (by omega)]; have := HLQ.out; omega)
                  clear hcq
                  go_wp2_with (go_at_call 98; refine (HNU.out _).mono ?_; rintro e wC ⟨rfl, f⟩; have FP2 := hid ((FQ3.out.trans FP.out (fun _ h _ => h)).trans f (fun _ h _ => h)); clear f)
                  go_roundw
                  case rel => exact ⟨k + 1, by omega, by go_num, by rw [HFINAL.out], FP2.out⟩
                  case measure => simp [intOf]; omega
            · obtain rfl : k = ix.length := by omega
              have k2 : ¬ (ix.length : Int) < (ix.length : Int) := by omega
              rw [List.take_length]
              have HALL := hid (show acc3 ++ ix.flatMap (fun x => x.x.bytes) = be 1 ts.length ++ (ts.take (j + 1)).flatMap (fun t => t.t.bytes) from by
                have e := HXT.out.e
                dsimp only at e
                rw [HSUC.out, HBY.out, ← HA3.out, ← HA2.out, ← HA1.out, ← HAC.out, HIXL.out.1, show ixs.flatMap Ix.bytes = ix.flatMap (fun x => x.x.bytes) from by rw [e, List.flatMap_map]]
                simp only [List.append_assoc])
              rw [HALL.out]
              go_wp2_with (fail)
              go_roundw
              case rel => exact ⟨j + 1, by omega, by go_num, rfl, F8.out.trans FQ.out (fun _ h _ => h)⟩
              case measure => simp [intOf]; omega
    · obtain rfl : j = ts.length := by omega
      have j2 : ¬ (ts.length : Int) < (ts.length : Int) := by omega
      rw [List.take_length]
      have HBE := hid (show be 1 ts.length ++ ts.flatMap (fun t => t.t.bytes) = Cat.bytes (ts.map TabV.t) from by unfold Cat.bytes; rw [List.length_map, List.flatMap_map])
      rw [HBE.out]
      go_wp2_with (fail)
      go_ret
      exact ⟨rfl, FR.out⟩
end Go.Proofs.YtiimomgbklgicaaGreat
