import Derived.Test.YtfalehgngioheaaRefE
/- The reference's disk: New. -/
set_option linter.unusedVariables false
namespace Go.Proofs.Ytfalehgngioheaa
open Go.RowKit Go.VB Go.VB.Disk
theorem Try.info_page : (Try.prog.info? 89).map (fun i => (i.zero, i.size, i.bytes)) = some (some (.agg #[.string ⟨#[]⟩, .slice none 0 0]), 2, 40) := by kernel_rfl
theorem rcells_snoc (n : Nat) : rcells (List.replicate (n + 1) ⟨Disk.blank, []⟩) (List.replicate (n + 1) (.slice none 0 0)) = rcells (List.replicate n ⟨Disk.blank, []⟩) (List.replicate n (.slice none 0 0)) ++ [.string (bs Disk.blank), .slice none 0 0] := by
  unfold rcells
  rw [List.zip_replicate', List.zip_replicate', List.replicate_succ', List.flatMap_append]
  rfl
structure NewInv (w wr : World) (j : Nat) (pv : Value) : Prop where
  b : Blk wr w.heap.size [pv, .string ⟨#[]⟩, .int .i64 0, .bool true, .bool false, .int .i64 0] 87
  own : wr.ownsRow 0 89 2 pv j (rcells (List.replicate j ⟨Disk.blank, []⟩) (List.replicate j (.slice none 0 0)))
  reg : ∀ k, pv.ownBlock = some k → w.heap.size ≤ k
  fr : Fr (fun _ => False) w wr
  lt : w.heap.size < wr.heap.size
set_option maxHeartbeats 2000000 in
set_option maxRecDepth 100000 in
theorem New_ref (w : World) (n : Int) (k : Nat) (hk : k = (min n 400).toNat) :
    Calls Try.prog 32 #[.int .i64 n] w fun e w' => e = .returned (.pointer (some ⟨w.heap.size, 0, none⟩)) ∧ RR (fun j => w.heap.size ≤ j ∧ j < w'.heap.size) w' w.heap.size (DM.new k) ∧ Fr (fun _ => False) w w' := by
  have B0 := Blk.new w [.slice none 0 0, .string ⟨#[]⟩, .int .i64 0, .bool true, .bool false, .int .i64 0] 87
  have F0 := (Fr.refl (fun _ => False) w).alloc (.cells [Value.slice none 0 0, .string ⟨#[]⟩, .int .i64 0, .bool true, .bool false, .int .i64 0].toArray 87)
  have inv0 : NewInv w (w.alloc (.cells [Value.slice none 0 0, .string ⟨#[]⟩, .int .i64 0, .bool true, .bool false, .int .i64 0].toArray 87)) 0 (.slice none 0 0) := ⟨B0, own_nil, fun k hk => by simp [Value.ownBlock] at hk, F0, by simp⟩
  have INV0 := hid inv0
  have HK := hid hk
  clear B0 F0 inv0 hk
  go_enter Try.func32, Try.ntmps32
  go_wp2
  go_loopw [4] (fun i wr => ∃ (j : Nat) (pv : Value), j ≤ 400 ∧ (j : Int) ≤ max n 0 ∧ i = .int .i64 j ∧ NewInv w wr j pv) (fun i _ => 400 - (intOf i).toNat)
  case atStart => exact ⟨0, _, by omega, by omega, rfl, INV0.out⟩
  case round =>
    obtain ⟨j, pv, hj, hjn, rfl, inv⟩ := hrel
    clear INV0
    by_cases hc : (j : Int) < n ∧ j < 400
    · obtain ⟨hjn2, hj4⟩ := hc
      have c0 : wr.cell? ⟨w.heap.size, 0, none⟩ = some pv := inv.b.cell 0
      generalize hd : w.heap.size = d at *
      have HD := hid hd
      clear hd
      have HB := hid (fun w => Blank_go w)
      go_wp2_with (fail)
      refine wp_region_script [(true, 0), (true, 1), (true, 2), (true, 3), (true, 4), (false, 5), (false, 6), (false, 7), (false, 8), (true, 9), (true, 10), (false, 11)] (fun kz w => (kz ≤ 11 → w.cell? ⟨d, 0, none⟩ = some pv) ∧ True) (by kernel_rfl) (by kernel_rfl) (by intro c a d v w h; cases d <;> exact h) ?_
      repeat
        first
        | (refine wpS_pure rfl rfl rfl ?_; apply Exists.intro; refine ⟨?_, ?_⟩; intro w; ((go_simp <;> rfl)); simp only [Act.put, List.setIfInBounds_toArray, List.set_cons_zero, List.set_cons_succ])
        | (refine wpS_take 11 rfl rfl (by decide +kernel) ⟨fun _ => c0, trivial⟩ ?_; apply Exists.intro; refine ⟨?_, ?_⟩; intro w hw; (have qa := (hw rfl).1 (Nat.le_refl _); have qb := (hw rfl).2); ((go_simp <;> rfl)); simp only [Act.put, List.setIfInBounds_toArray, List.set_cons_zero, List.set_cons_succ])
        | (refine wpS_skip rfl rfl ?_; simp only [Act.put, List.setIfInBounds_toArray, List.set_cons_zero, List.set_cons_succ])
      refine wpS_op rfl ?_
      go_wp2_with ((go_at_call 15; refine (HB.out _).mono ?_; rintro e w1 ⟨rfl, f1⟩))
      (refine ⟨?_, ?_⟩; focus (intro kz hk hk2; rintro ⟨qa, qb⟩; first | (exfalso; simp at hk2; omega) | exact ⟨qa, qb⟩ | (refine ⟨fun h => absurd h (by omega), ?_⟩; first | exact qb | (exact cell_fr qa f1 (fun h => h))) | (refine ⟨fun h => ?_, ?_⟩; (have qa := qa h); all_goals (first | exact qa | exact qb | (exact cell_fr qa f1 (fun h => h))))))
      have F1 : Fr (fun _ => False) wr w1 := (Fr.refl (fun _ => False) wr).drew.trans f1 (fun _ h _ => h)
      generalize hbk : bs Disk.blank = bk at *
      have HBK := hid hbk
      clear hbk
      refine wpS_op rfl ?_
      go_wp2_with (fail)
      (refine ⟨?_, ?_⟩; focus (intro kz hk hk2; rintro ⟨qa, qb⟩; first | (exfalso; simp at hk2; omega) | exact ⟨qa, qb⟩ | (refine ⟨fun h => absurd h (by omega), ?_⟩; first | exact qb | (exact qa)) | (refine ⟨fun h => ?_, ?_⟩; (have qa := qa h); all_goals (first | exact qa | exact qb | (exact qa)))))
      have c1 := cell_fr c0 F1 (fun h => h)
      have F2 := F1.alloc (.cells [Value.string bk, .slice none 0 0].toArray 89)
      have ho := own_fr inv.own F2 (fun _ _ h => h)
      have hsrc : Src Try.prog (w1.alloc (.cells [Value.string bk, .slice none 0 0].toArray 89)) 2 (.slice (some ⟨w1.heap.size, 0, none⟩) 1 1) 1 [Value.string bk, .slice none 0 0] := Src.slice (by simp) (by simp [Value.oneCell']) (Blk.new w1 [Value.string bk, .slice none 0 0] 89).all
      have c2 := cell_fr c0 F2 (fun h => h)
      refine wpS_op rfl ?_
      go_wp2_with (refine wpList_buildSlice_one (x := .agg #[.string bk, .slice none 0 0]) (cells := #[.string bk, .slice none 0 0]) rfl rfl Try.underlying85 (info_two Try.info_page) rfl (by omega) (by omega) rfl rfl rfl ?_)
      refine ⟨fun kz _ _ _ => ⟨fun _ => c2, trivial⟩, ?_⟩
      have pd : ∀ i, pv.ownBlock = some i → i ≠ d := fun i hi e => ownsRow_ne inv.b (by decide) inv.own i hi (e.trans HD.out.symm)
      generalize hwo : w1.alloc (.cells [Value.string bk, .slice none 0 0].toArray 89) = wo at *
      refine wpS_op rfl ?_
      refine wpList_append rfl (s := .tmp 20) (x := .tmp 23) (t := 85) (tx := 85) rfl Try.underlying85 Try.underlying85 (.inr ⟨_, rfl⟩) Try.info_page rfl rfl rfl ho hsrc (by omega) (by omega) ?_
      intro ab ac wg hown hg hat
      have hg : wo.grownBy wg pv.ownBlock := hg
      have hat : ∀ i, (Value.slice ab (j + 1) ac).ownBlock = some i → pv.ownBlock = some i ∨ i = wo.heap.size := hat
      have FG : Fr (fun i => pv.ownBlock = some i) wr wg := (F2.mono (fun _ h _ => h.elim)).grown hg (fun i hi _ => hi)
      have Bd := inv.b.fr FG (fun h => pd _ h HD.out)
      rw [HD.out] at Bd
      have y0 := cell_fr c0 FG (fun h => pd _ h rfl)
      have hz := Bd.frozen 0
      go_wp2
      refine ⟨fun kz _ _ _ => ⟨fun _ => y0, trivial⟩, ?_⟩
      repeat
        first
        | (refine wpS_pure rfl rfl rfl ?_; apply Exists.intro; refine ⟨?_, ?_⟩; intro w; ((go_simp <;> rfl)); simp only [Act.put, List.setIfInBounds_toArray, List.set_cons_zero, List.set_cons_succ])
        | (refine wpS_take 11 rfl rfl (by decide +kernel) ⟨fun _ => y0, trivial⟩ ?_; apply Exists.intro; refine ⟨?_, ?_⟩; intro w hw; (have qa := (hw rfl).1 (Nat.le_refl _); have qb := (hw rfl).2); ((go_simp <;> rfl)); simp only [Act.put, List.setIfInBounds_toArray, List.set_cons_zero, List.set_cons_succ])
        | (refine wpS_skip rfl rfl ?_; simp only [Act.put, List.setIfInBounds_toArray, List.set_cons_zero, List.set_cons_succ])
      refine wpS_op rfl ?_
      go_wp2_with (fail)
      refine ⟨fun kz h1 h2 _ => by exfalso; simp at h2; omega, ?_⟩
      refine wpS_nil ?_
      have FS := (Fr.refl (fun i => i = d) wg).setCell ⟨d, 0, none⟩ (.slice ab (j + 1) ac) (fun _ => rfl)
      have hwl : wo.heap.size ≤ wg.heap.size := hg.size
      have hdw := HD.out
      have s2 := F2.size
      have ltd := inv.lt
      have nb : ∀ i, (Value.slice ab (j + 1) ac).ownBlock = some i → i ≠ d := fun i hi e => by
        rcases hat i hi with h | h
        · exact pd i h e
        · omega
      have inv' : NewInv w (wg.setCell ⟨d, 0, none⟩ (.slice ab (j + 1) ac)) (j + 1) (.slice ab (j + 1) ac) := by
        refine ⟨?_, ?_, fun i hi => ?_, ?_, ?_⟩
        · rw [hdw]; exact Bd.set 0 _
        · rw [rcells_snoc, HBK.out]
          exact own_fr hown FS nb
        · rcases hat i hi with h | h
          · exact inv.reg i h
          · have := inv.fr.size
            omega
        · exact (inv.fr.trans FG (fun i hi hlt => by have := inv.reg i hi; omega)).trans FS (fun i hi hlt => by omega)
        · have := FG.size
          have := FS.size
          omega
      have INV := hid inv'
      clear inv' FS hat hg hown FG Bd y0 hz inv ho hsrc
      generalize wg.setCell ⟨d, 0, none⟩ (.slice ab (j + 1) ac) = wn at *
      go_wp2
      go_roundw
      case rel => exact ⟨j + 1, _, by omega, by omega, by go_num, INV.out⟩
      case measure => simp [intOf]; omega
    · have hjk : j = k := by have := HK.out; omega
      obtain ⟨h1, h2, h3, h4, h5⟩ := inv
      have hE : RRep (fun i => w.heap.size ≤ i ∧ i < wr.heap.size) wr w.heap.size (DM.new k) pv (List.replicate k (.slice none 0 0)) := by
        subst hjk
        refine ⟨⟨Nat.le_refl _, h5⟩, fun i hi => hi.2, h1, ?_, fun i hi => ⟨h3 i hi, own_lt h2 hi⟩, by simp [DM.new], fun i p v hp hv => ?_, fun i i2 v v' b _ hv _ hb _ => ?_⟩
        · have : (DM.new j).pages.length = j := by simp [DM.new]
          rw [this]; exact h2
        · have e1 := List.mem_of_getElem? hp
          have e2 := List.mem_of_getElem? hv
          simp only [DM.new, List.mem_replicate] at e1 e2
          obtain ⟨-, rfl⟩ := e1
          obtain ⟨-, rfl⟩ := e2
          exact ⟨own_nil, fun i hi => by simp [Value.ownBlock] at hi⟩
        · have e2 := List.mem_of_getElem? hv
          simp only [List.mem_replicate] at e2
          obtain ⟨-, rfl⟩ := e2
          simp [Value.ownBlock] at hb
      have HE := hid hE
      clear hE h1 h2 h3 h5 hjk
      by_cases hn1 : (j : Int) < n
      all_goals
        go_wp2
        go_ret
        exact ⟨rfl, ⟨_, _, HE.out⟩, h4⟩
