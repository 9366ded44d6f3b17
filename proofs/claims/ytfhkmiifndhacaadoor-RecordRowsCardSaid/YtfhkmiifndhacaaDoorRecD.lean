import Derived.Test.YtfhkmiifndhacaaDoorRecC
/- record: Bytes. -/
set_option linter.unusedVariables false
namespace Go.Proofs.YtfhkmiifndhacaaDoor
open Go.RowKit Go.VB Go.VB.Oct Go.VB.Rec
theorem all_of {g n : Nat} {xs : List (List UInt8)} {w : World} (h : Blk w g (xs.map fun x => .string (bs x)) 9) (hn : xs.length = n) (hn2 : n ≤ 1000) (hl : xs.flatten.length ≤ 1099511627776) :
    Calls Tryd.prog 25 #[.slice (some ⟨g, 0, none⟩) n n] w fun e w' => e = .returned (.string (bs xs.flatten)) ∧ Fr (fun _ => False) w w' := by
  subst hn
  exact all_go g xs w h hn2 hl
/-- the first cells of a record -/
structure Six (w : World) (d : Nat) (a b c e f g : Value) : Prop where
  c0 : w.cell? ⟨d, 0, none⟩ = some a
  c1 : w.cell? ⟨d, 1, none⟩ = some b
  c2 : w.cell? ⟨d, 2, none⟩ = some c
  c3 : w.cell? ⟨d, 3, none⟩ = some e
  c4 : w.cell? ⟨d, 4, none⟩ = some f
  c5 : w.cell? ⟨d, 5, none⟩ = some g
theorem Six.fre {w w' : World} {d : Nat} {a b c e f g : Value} (h : Six w d a b c e f g) (k : Fr (fun _ => False) w w') : Six w' d a b c e f g :=
  ⟨cell_fr h.c0 k (fun h => h), cell_fr h.c1 k (fun h => h), cell_fr h.c2 k (fun h => h), cell_fr h.c3 k (fun h => h), cell_fr h.c4 k (fun h => h), cell_fr h.c5 k (fun h => h)⟩
structure Three (w : World) (d : Nat) (a b c : Value) : Prop where
  c0 : w.cell? ⟨d, 0, none⟩ = some a
  c1 : w.cell? ⟨d, 1, none⟩ = some b
  c2 : w.cell? ⟨d, 2, none⟩ = some c
theorem Three.fre {w w' : World} {d : Nat} {a b c : Value} (h : Three w d a b c) (k : Fr (fun _ => False) w w') : Three w' d a b c :=
  ⟨cell_fr h.c0 k (fun h => h), cell_fr h.c1 k (fun h => h), cell_fr h.c2 k (fun h => h)⟩
def R.head (r : R) : List UInt8 := be 1 r.kind.toNat ++ be 1 r.xid.toNat ++ be 2 r.table.toNat ++ text (rowBytes r.old) ++ text (rowBytes r.new) ++ be 1 r.edits.length
theorem rowBytes_le (r : List V) : (rowBytes r).length ≤ 253 := by
  unfold rowBytes
  split
  · rename_i h
    unfold row at h
    simp only [Bool.and_eq_true, decide_eq_true_eq, List.all_eq_true] at h
    rw [List.length_cons]
    have := vsum_le r h.2 h.1
    omega
  · simp
theorem text_len (s : List UInt8) : (text s).length = s.length + 2 := by
  unfold text
  rw [List.length_append, be_length _ _ (by omega)]
  omega
theorem head_le (r : R) : (R.head r).length ≤ 600 := by
  unfold R.head
  simp only [List.length_append, text_len, be_length _ _ (show 1 ≤ 8 by omega), be_length _ _ (show 2 ≤ 8 by omega)]
  have := rowBytes_le r.old
  have := rowBytes_le r.new
  omega
theorem ebytes_le (e : E) (h : e.right = true) : e.bytes.length ≤ 405 := by
  unfold E.bytes
  simp only [List.length_append, text_len, be_length _ _ (show 1 ≤ 8 by omega), be_length _ _ (show 2 ≤ 8 by omega)]
  have : e.item.length ≤ 400 := by
    unfold E.right at h
    split at h
    · simp only [Bool.and_eq_true, Bool.or_eq_true, decide_eq_true_eq] at h
      rcases h.2 with (h | h) | h <;> rw [h] <;> simp
    · simp only [Bool.and_eq_true, decide_eq_true_eq] at h
      omega
  omega
theorem flat_le {α : Type} (f : α → List UInt8) (k : Nat) : ∀ (l : List α), (∀ x ∈ l, (f x).length ≤ k) → (l.flatMap f).length ≤ k * l.length
  | [], _ => by simp
  | x :: l, h => by
    rw [List.flatMap_cons, List.length_append, List.length_cons]
    have h1 := h x (by simp)
    have h2 := flat_le f k l (fun v hv => h v (by simp [hv]))
    rw [Nat.mul_succ]
    omega
theorem right_parts {r : R} (h : r.right = true) : ∃ k x t : Nat, r.kind = k ∧ r.xid = x ∧ r.table = t ∧ k ≤ 10 ∧ x ≤ 127 ∧ t ≤ 65535 ∧ r.edits.length ≤ 64 ∧ (∀ e ∈ r.edits, e.right = true) ∧ r.xids.length ≤ 32 ∧ (∀ x ∈ r.xids, 3 ≤ x ∧ x ≤ 127) ∧ r.note.length ≤ 60000 := by
  unfold R.right at h
  simp only [Bool.and_eq_true, decide_eq_true_eq, List.all_eq_true] at h
  obtain ⟨⟨⟨⟨⟨⟨⟨⟨⟨⟨h1, h2⟩, h3⟩, h4⟩, h5⟩, h6⟩, h7, h8⟩, h9, h10⟩, h11⟩, h12⟩, h13⟩ := h
  exact ⟨r.kind.toNat, r.xid.toNat, r.table.toNat, by omega, by omega, by omega, by omega, by omega, by omega, h7, h8, h9, h10, h13⟩
theorem head_flat (k x t : Nat) (old new : List V) (edits : List E) (xids : List Int) (note : List UInt8) : [be 1 k, be 1 x, be 2 t, text (rowBytes old), text (rowBytes new), be 1 edits.length].flatten = R.head ⟨k, x, t, old, new, edits, xids, note⟩ := by
  simp [R.head, List.append_assoc]
theorem edit_parts {e : E} (h : e.right = true) : ∃ p s : Nat, e.page = p ∧ e.slot = (s : Int) - 1 ∧ p ≤ 399 ∧ s ≤ 24 ∧ e.item.length ≤ 400 := by
  have h1 := ebytes_le e h
  unfold E.right at h
  simp only [Bool.and_eq_true, decide_eq_true_eq] at h
  refine ⟨e.page.toNat, (e.slot + 1).toNat, by omega, ?_, by omega, ?_, ?_⟩
  · have := h.2
    split at this
    · omega
    · simp only [Bool.and_eq_true, decide_eq_true_eq] at this; omega
  · have := h.2
    split at this
    · omega
    · simp only [Bool.and_eq_true, decide_eq_true_eq] at this; omega
  · unfold E.bytes at h1
    simp only [List.length_append, text_len, be_length _ _ (show 1 ≤ 8 by omega), be_length _ _ (show 2 ≤ 8 by omega)] at h1
    omega
set_option maxRecDepth 20000 in
set_option maxHeartbeats 4000000 in
theorem RBytes_go {P : Nat → Prop} {w : World} {r : R} {vo vn ve vx : Value} (h : RV P w r vo vn ve vx) : Calls Tryd.prog 8 #[.agg (rv r vo vn ve vx).toArray] w fun e w' => e = .returned (.string (bs r.bytes)) ∧ Fr (fun _ => False) w w' := by
  obtain ⟨a1, c1, a2, c2, a3, c3, a4, c4, rfl, rfl, rfl, rfl⟩ := h.slices
  have HV := hid h
  have HRR := hid (fun w' (f : Fr (fun _ => False) w w') => RRight_go (h.fre f))
  clear h
  have B0 := hid (Blk.new w (rv r (.slice a1 r.old.length c1) (.slice a2 r.new.length c2) (.slice a3 r.edits.length c3) (.slice a4 r.xids.length c4)) 28)
  have F0 := hid ((Fr.refl (fun _ => False) w).alloc (.cells (rv r (.slice a1 r.old.length c1) (.slice a2 r.new.length c2) (.slice a3 r.edits.length c3) (.slice a4 r.xids.length c4)).toArray 28))
  have HQ := hid (Blk.all _ B0.out)
  have F1 := hid (Fr.refl (fun _ => False) (w.alloc (.cells (rv r (.slice a1 r.old.length c1) (.slice a2 r.new.length c2) (.slice a3 r.edits.length c3) (.slice a4 r.xids.length c4)).toArray 28)))
  have HRR0 := hid (HRR.out _ F0.out)
  unfold R.bytes
  cases hr : r.right with
  | false =>
    rw [hr] at HRR0
    clear hr
    unfold rv at *
    go_enter Tryd.func8, Tryd.ntmps8
    go_wp2_with (go_at_call 17; refine HRR0.out.mono ?_; rintro e w1 ⟨rfl, f1⟩; have F2 := hid (F0.out.trans f1 (fun _ h _ => h)))
    go_ret
    exact ⟨rfl, F2.out⟩
  | true =>
    rw [hr] at HRR0
    have HR := hid hr
    clear hr
    rw [if_pos rfl]
    go_enter Tryd.func8, Tryd.ntmps8
    unfold rv
    go_wp2_with (go_at_call 17; refine HRR0.out.mono ?_; rintro e w1 ⟨rfl, f1⟩; have F2 := hid (F0.out.trans f1 (fun _ h _ => h)); have B2 := hid (B0.out.fr f1 (fun h => h)); clear f1)
    obtain ⟨kn, xn, tn, hk, hx, ht, hk1, hx1, ht1, hle, hall, hxl, hxa, hnl⟩ := right_parts HR.out
    have HF := hid (fun k x t => head_flat k x t r.old r.new r.edits r.xids r.note)
    have HHL := hid (head_le r)
    clear HRR HRR0 HQ F1 F0 B0 HR
    obtain ⟨kind, xid, table, old, new, edits, xids, note⟩ := r
    dsimp only at hk hx ht hle hall hxl hxa hnl
    subst hk hx ht
    have HALL := hid hall
    have HXA := hid hxa
    replace HF := hid (HF.out kn xn tn)
    dsimp only at HF
    have HS6 : Hid (Six w1 w.heap.size (.int .i64 kn) (.int .i64 xn) (.int .i64 tn) (.slice a1 old.length c1) (.slice a2 new.length c2) (.slice a3 edits.length c3)) := hid ⟨B2.out.cell 0, B2.out.cell 1, B2.out.cell 2, B2.out.cell 3, B2.out.cell 4, B2.out.cell 5⟩
    have HSZ := hid F2.out.size
    have HDL := hid (Blk.lt B2.out)
    clear hall hxa
    generalize hd : w.heap.size = d at *
    have HD := hid hd
    clear hd
    have HVO := hid (fun w' (f : Fr (fun _ => False) w w') => VBytes_go (HV.out.fre f).o (HV.out.fre f).lt HV.out.lo)
    have HVN := hid (fun w' (f : Fr (fun _ => False) w w') => VBytes_go (HV.out.fre f).n (HV.out.fre f).lt HV.out.ln)
    have HRO := hid (rowBytes_le old)
    have HRN := hid (rowBytes_le new)
    dsimp only at HVO HVN
    generalize rowBytes old = lo at *
    generalize rowBytes new = ln at *
    have HA := hid (fun w9 : World => HF.out ▸ all_of (w := w9.alloc (.cells #[.string (bs (be 1 kn)), .string (bs (be 1 xn)), .string (bs (be 2 tn)), .string (bs (text lo)), .string (bs (text ln)), .string (bs (be 1 edits.length))] 9)) (n := 6) (xs := [be 1 kn, be 1 xn, be 2 tn, text lo, text ln, be 1 edits.length]) (Blk.new w9 _ 9) rfl (by omega) (by rw [HF.out]; have := HHL.out; omega))
    refine wp_region_scr (.take 0 (.take 1 (.take 3 (.take 4 (.take 6 (.take 7 (.take 9 (.take 10 (.take 13 (.take 14 (.take 17 (.take 18 (.take 19 (.op 2 (.op 5 (.op 8 (.op 11 (.op 12 (.op 15 (.op 16 (.op 20 (.op 21 (.op 22 (.take 23 .done)))))))))))))))))))))))) (fun kz w => (kz ≤ 23 → Six w d (.int .i64 kn) (.int .i64 xn) (.int .i64 tn) (.slice a1 old.length c1) (.slice a2 new.length c2) (.slice a3 edits.length c3)) ∧ True) (by kernel_rfl) (by kernel_rfl) (by intro c a d v w h; cases d <;> exact h) ?_
    repeat
      first
      | (refine wpT_pure rfl rfl rfl ?_; apply Exists.intro; refine ⟨?_, ?_⟩; intro w; (first | (obtain ⟨z0, z1, z2, z3, z4, z5⟩ := qa; go_simp <;> rfl) | (go_simp <;> rfl)); simp only [Act.put, List.setIfInBounds_toArray, List.set_cons_zero, List.set_cons_succ])
      | (refine wpT_take 23 rfl rfl (by decide +kernel) ⟨fun _ => HS6.out.fre (Fr.refl _ _).drew, trivial⟩ ?_; apply Exists.intro; refine ⟨?_, ?_⟩; intro w hw; (have qa := hw.1 (Nat.le_refl _); have qb := hw.2); (first | (obtain ⟨z0, z1, z2, z3, z4, z5⟩ := qa; go_simp <;> rfl) | (go_simp <;> rfl)); simp only [Act.put, List.setIfInBounds_toArray, List.set_cons_zero, List.set_cons_succ])
      | (refine wpT_skip rfl rfl ?_; simp only [Act.put, List.setIfInBounds_toArray, List.set_cons_zero, List.set_cons_succ])
    refine wpT_op rfl ?_
    go_wp2_with ((go_at_call 26; refine (one_go kn (by omega) _).mono ?_; rintro e w2 ⟨rfl, f2⟩; have G2 := hid (F2.out.drew.trans f2 (fun _ h _ => h))))
    (refine ⟨?_, ?_⟩; focus (intro kz hk hk2 hh; first | (exfalso; simp at hk2; omega) | exact hh | exact (fun h => absurd h (by omega)) | obtain ⟨qa, qb⟩ := hh; first | exact ⟨qa, qb⟩ | (refine ⟨fun h => absurd h (by omega), ?_⟩; first | exact qb | (exact Six.fre qa f2)) | (refine ⟨fun h => ?_, ?_⟩; (have qa := qa h); all_goals (first | exact qa | exact qb | (exact Six.fre qa f2)))))
    refine wpT_op rfl ?_
    go_wp2_with ((go_at_call 26; refine (one_go xn (by omega) _).mono ?_; rintro e w3 ⟨rfl, f3⟩; have G3 := hid (G2.out.trans f3 (fun _ h _ => h))))
    (refine ⟨?_, ?_⟩; focus (intro kz hk hk2 hh; first | (exfalso; simp at hk2; omega) | exact hh | exact (fun h => absurd h (by omega)) | obtain ⟨qa, qb⟩ := hh; first | exact ⟨qa, qb⟩ | (refine ⟨fun h => absurd h (by omega), ?_⟩; first | exact qb | (exact Six.fre qa f3)) | (refine ⟨fun h => ?_, ?_⟩; (have qa := qa h); all_goals (first | exact qa | exact qb | (exact Six.fre qa f3)))))
    refine wpT_op rfl ?_
    go_wp2_with ((go_at_call 27; refine (two_go tn (by omega) _).mono ?_; rintro e w4 ⟨rfl, f4⟩; have G4 := hid (G3.out.trans f4 (fun _ h _ => h))))
    (refine ⟨?_, ?_⟩; focus (intro kz hk hk2 hh; first | (exfalso; simp at hk2; omega) | exact hh | exact (fun h => absurd h (by omega)) | obtain ⟨qa, qb⟩ := hh; first | exact ⟨qa, qb⟩ | (refine ⟨fun h => absurd h (by omega), ?_⟩; first | exact qb | (exact Six.fre qa f4)) | (refine ⟨fun h => ?_, ?_⟩; (have qa := qa h); all_goals (first | exact qa | exact qb | (exact Six.fre qa f4)))))
    refine wpT_op rfl ?_
    go_wp2_with ((go_at_call 10; refine (HVO.out _ G4.out).mono ?_; rintro e w5 ⟨rfl, f5⟩; have G5 := hid (G4.out.trans f5 (fun _ h _ => h))))
    (refine ⟨?_, ?_⟩; focus (intro kz hk hk2 hh; first | (exfalso; simp at hk2; omega) | exact hh | exact (fun h => absurd h (by omega)) | obtain ⟨qa, qb⟩ := hh; first | exact ⟨qa, qb⟩ | (refine ⟨fun h => absurd h (by omega), ?_⟩; first | exact qb | (exact Six.fre qa f5)) | (refine ⟨fun h => ?_, ?_⟩; (have qa := qa h); all_goals (first | exact qa | exact qb | (exact Six.fre qa f5)))))
    refine wpT_op rfl ?_
    go_wp2_with ((go_at_call 28; refine (Text_go lo (by have := HRO.out; omega) _).mono ?_; rintro e w6 ⟨rfl, f6⟩; have G6 := hid (G5.out.trans f6 (fun _ h _ => h))))
    (refine ⟨?_, ?_⟩; focus (intro kz hk hk2 hh; first | (exfalso; simp at hk2; omega) | exact hh | exact (fun h => absurd h (by omega)) | obtain ⟨qa, qb⟩ := hh; first | exact ⟨qa, qb⟩ | (refine ⟨fun h => absurd h (by omega), ?_⟩; first | exact qb | (exact Six.fre qa f6)) | (refine ⟨fun h => ?_, ?_⟩; (have qa := qa h); all_goals (first | exact qa | exact qb | (exact Six.fre qa f6)))))
    refine wpT_op rfl ?_
    go_wp2_with ((go_at_call 10; refine (HVN.out _ G6.out).mono ?_; rintro e w7 ⟨rfl, f7⟩; have G7 := hid (G6.out.trans f7 (fun _ h _ => h))))
    (refine ⟨?_, ?_⟩; focus (intro kz hk hk2 hh; first | (exfalso; simp at hk2; omega) | exact hh | exact (fun h => absurd h (by omega)) | obtain ⟨qa, qb⟩ := hh; first | exact ⟨qa, qb⟩ | (refine ⟨fun h => absurd h (by omega), ?_⟩; first | exact qb | (exact Six.fre qa f7)) | (refine ⟨fun h => ?_, ?_⟩; (have qa := qa h); all_goals (first | exact qa | exact qb | (exact Six.fre qa f7)))))
    refine wpT_op rfl ?_
    go_wp2_with ((go_at_call 28; refine (Text_go ln (by have := HRN.out; omega) _).mono ?_; rintro e w8 ⟨rfl, f8⟩; have G8 := hid (G7.out.trans f8 (fun _ h _ => h))))
    (refine ⟨?_, ?_⟩; focus (intro kz hk hk2 hh; first | (exfalso; simp at hk2; omega) | exact hh | exact (fun h => absurd h (by omega)) | obtain ⟨qa, qb⟩ := hh; first | exact ⟨qa, qb⟩ | (refine ⟨fun h => absurd h (by omega), ?_⟩; first | exact qb | (exact Six.fre qa f8)) | (refine ⟨fun h => ?_, ?_⟩; (have qa := qa h); all_goals (first | exact qa | exact qb | (exact Six.fre qa f8)))))
    refine wpT_op rfl ?_
    go_wp2_with ((go_at_call 26; refine (one_go edits.length (by omega) _).mono ?_; rintro e w9 ⟨rfl, f9⟩; have G9 := hid (G8.out.trans f9 (fun _ h _ => h))))
    (refine ⟨?_, ?_⟩; focus (intro kz hk hk2 hh; first | (exfalso; simp at hk2; omega) | exact hh | exact (fun h => absurd h (by omega)) | obtain ⟨qa, qb⟩ := hh; first | exact ⟨qa, qb⟩ | (refine ⟨fun h => absurd h (by omega), ?_⟩; first | exact qb | (exact Six.fre qa f9)) | (refine ⟨fun h => ?_, ?_⟩; (have qa := qa h); all_goals (first | exact qa | exact qb | (exact Six.fre qa f9)))))
    refine wpT_op rfl ?_
    go_wp2_with (fail)
    (refine ⟨?_, ?_⟩; focus (intro kz hk hk2 hh; first | (exfalso; simp at hk2; omega) | exact hh | exact (fun h => absurd h (by omega)) | obtain ⟨qa, qb⟩ := hh; first | exact ⟨qa, qb⟩ | (refine ⟨fun h => absurd h (by omega), ?_⟩; first | exact qb | (exact Six.fre qa ((Fr.refl _ _).alloc _))) | (refine ⟨fun h => ?_, ?_⟩; (have qa := qa h); all_goals (first | exact qa | exact qb | (exact Six.fre qa ((Fr.refl _ _).alloc _))))))
    refine wpT_op rfl ?_
    go_wp2_with ((go_at_call 25; refine (HA.out _).mono ?_; rintro e w10 ⟨rfl, f10⟩; have G10 := hid ((G9.out.alloc _).trans f10 (fun _ h _ => h))))
    (refine ⟨?_, ?_⟩; focus (intro kz hk hk2 hh; first | (exfalso; simp at hk2; omega) | exact hh | exact (fun h => absurd h (by omega)) | obtain ⟨qa, qb⟩ := hh; first | exact ⟨qa, qb⟩ | (refine ⟨fun h => absurd h (by omega), ?_⟩; first | exact qb | (exact Six.fre qa f10)) | (refine ⟨fun h => ?_, ?_⟩; (have qa := qa h); all_goals (first | exact qa | exact qb | (exact Six.fre qa f10)))))
    repeat
      first
      | (refine wpT_pure rfl rfl rfl ?_; apply Exists.intro; refine ⟨?_, ?_⟩; intro w; (first | (obtain ⟨z0, z1, z2, z3, z4, z5⟩ := qa; go_simp <;> rfl) | (go_simp <;> rfl)); simp only [Act.put, List.setIfInBounds_toArray, List.set_cons_zero, List.set_cons_succ])
      | (refine wpT_take 23 rfl rfl (by decide +kernel) ⟨fun _ => HS6.out.fre (Fr.refl _ _).drew, trivial⟩ ?_; apply Exists.intro; refine ⟨?_, ?_⟩; intro w hw; (have qa := hw.1 (Nat.le_refl _); have qb := hw.2); (first | (obtain ⟨z0, z1, z2, z3, z4, z5⟩ := qa; go_simp <;> rfl) | (go_simp <;> rfl)); simp only [Act.put, List.setIfInBounds_toArray, List.set_cons_zero, List.set_cons_succ])
      | (refine wpT_skip rfl rfl ?_; simp only [Act.put, List.setIfInBounds_toArray, List.set_cons_zero, List.set_cons_succ])
    refine wpT_nil ?_
    have HB10 := hid (B2.out.drew.fr (((((((((f2.trans f3 (fun _ h _ => h)).trans f4 (fun _ h _ => h)).trans f5 (fun _ h _ => h)).trans f6 (fun _ h _ => h)).trans f7 (fun _ h _ => h)).trans f8 (fun _ h _ => h)).trans f9 (fun _ h _ => h)).alloc (.cells #[.string (bs (be 1 kn)), .string (bs (be 1 xn)), .string (bs (be 2 tn)), .string (bs (text lo)), .string (bs (text ln)), .string (bs (be 1 edits.length))] 9)).trans f10 (fun _ h _ => h)) (fun h => h))
    have HRAW := hid (show R.raw ⟨kn, xn, tn, old, new, edits, xids, note⟩ = R.head ⟨kn, xn, tn, old, new, edits, xids, note⟩ ++ edits.flatMap E.bytes ++ be 1 xids.length ++ (xids.flatMap fun x => be 1 x.toNat) ++ text note from rfl)
    generalize R.head ⟨kn, xn, tn, old, new, edits, xids, note⟩ = lh at *
    clear f2 f3 f4 f5 f6 f7 f8 f9 f10 G2 G3 G4 G5 G6 G7 G8 G9 HA HF HVO HVN HRO HRN HS6 F2 B2 HDL HSZ
    unfold rv at HB10
    dsimp only at HB10
    have q5 := HB10.out.cell 5
    go_wp2_with (fail)
    go_loopw [3, 37] (fun s i wr => ∃ j : Nat, j ≤ edits.length ∧ s = .string (bs (lh ++ (edits.take j).flatMap E.bytes)) ∧ i = .int .i64 j ∧ Fr (fun _ => False) w10 wr) (fun _ i _ => edits.length - (intOf i).toNat)
    case atStart => exact ⟨0, by omega, by simp, rfl, Fr.refl _ _⟩
    case round =>
      obtain ⟨j, hj, rfl, rfl, fr⟩ := hrel
      have FR := hid fr
      clear fr q5
      have HLA := hid (show ((edits.take j).flatMap E.bytes).length ≤ 405 * edits.length from Nat.le_trans (flat_le E.bytes 405 _ (fun x hx => ebytes_le x (HALL.out x (List.mem_of_mem_take hx)))) (Nat.mul_le_mul_left _ (by rw [List.length_take]; omega)))
      by_cases hjl : j < edits.length
      · obtain ⟨g, o, rfl, hg, q0, q1, q2⟩ := sl_three (f := E.cells) ecells_len (HV.out.fre (G10.out.trans FR.out (fun _ h _ => h))).e hjl
        have HT := hid (take_flat edits E.bytes j hjl)
        have hright := HALL.out edits[j] (List.getElem_mem hjl)
        obtain ⟨pn, sn, hp, hs, hp1, hs1, hil⟩ := edit_parts hright
        obtain ⟨x, hx⟩ : ∃ x, x = edits[j] := ⟨_, rfl⟩
        rw [← hx] at hp hs hil q0 q1 q2 HT
        clear hx hright
        obtain ⟨page, slot, item⟩ := x
        dsimp only at hp hs hil
        subst hp hs
        simp only [E.cells, List.getElem?_cons_zero, List.getElem?_cons_succ] at q0 q1 q2
        have i1 : (0 : Int) ≤ (j : Int) := by omega
        have i2 : (j : Int) < edits.length := by omega
        have e1 := bs_size item
        have s1 : (0 : Int) ≤ sn := by omega
        have s2 : (sn : Int) ≤ 24 := by omega
        go_wp2_with (fail)
        have BE := hid (Blk.new wr [.int .i64 pn, .int .i64 ((sn : Int) - 1), .string (bs item)] 48)
        have H3 := hid (show Three (wr.alloc (.cells #[.int .i64 pn, .int .i64 ((sn : Int) - 1), .string (bs item)] 48)).drew wr.heap.size (.int .i64 pn) (.int .i64 ((sn : Int) - 1)) (.string (bs item)) from ⟨BE.out.drew.cell 0, BE.out.drew.cell 1, BE.out.drew.cell 2⟩)
        have FD := hid ((Fr.refl (fun _ => False) wr).alloc (.cells #[.int .i64 pn, .int .i64 ((sn : Int) - 1), .string (bs item)] 48)).drew
        generalize hwd : (wr.alloc (.cells #[.int .i64 pn, .int .i64 ((sn : Int) - 1), .string (bs item)] 48)).drew = wd at *
        generalize wr.heap.size = e at *
        refine wp_region_scr (.take 0 (.take 1 (.take 2 (.take 4 (.take 5 (.take 6 (.take 8 (.take 9 (.op 3 (.op 7 (.op 10 (.op 11 (.op 12 (.take 13 .done)))))))))))))) (fun kz w => (kz ≤ 13 → Three w e (.int .i64 pn) (.int .i64 ((sn : Int) - 1)) (.string (bs item))) ∧ True) (by kernel_rfl) (by kernel_rfl) (by intro c a d v w h; cases d <;> exact h) ?_
        rw [hwd]
        repeat
          first
          | (refine wpT_pure rfl rfl rfl ?_; apply Exists.intro; refine ⟨?_, ?_⟩; intro w; (first | (obtain ⟨z0, z1, z2⟩ := qa; go_simp <;> rfl) | (go_simp <;> rfl)); simp only [Act.put, List.setIfInBounds_toArray, List.set_cons_zero, List.set_cons_succ])
          | (refine wpT_take 13 rfl rfl (by decide +kernel) ⟨fun _ => H3.out, trivial⟩ ?_; apply Exists.intro; refine ⟨?_, ?_⟩; intro w hw; (have qa := hw.1 (Nat.le_refl _); have qb := hw.2); (first | (obtain ⟨z0, z1, z2⟩ := qa; go_simp <;> rfl) | (go_simp <;> rfl)); simp only [Act.put, List.setIfInBounds_toArray, List.set_cons_zero, List.set_cons_succ])
          | (refine wpT_skip rfl rfl ?_; simp only [Act.put, List.setIfInBounds_toArray, List.set_cons_zero, List.set_cons_succ])
        have HA := hid (fun w4 : World => all_of (w := w4.alloc (.cells #[.string (bs (lh ++ (edits.take j).flatMap E.bytes)), .string (bs (be 2 pn)), .string (bs (be 1 sn)), .string (bs (text item))] 9)) (n := 4) (xs := [lh ++ (edits.take j).flatMap E.bytes, be 2 pn, be 1 sn, text item]) (Blk.new w4 _ 9) rfl (by omega) (by
          have h1 := HHL.out
          have h2 := HLA.out
          simp only [List.flatten_cons, List.flatten_nil, List.length_append, List.length_nil, text_len, be_length _ _ (show 1 ≤ 8 by omega), be_length _ _ (show 2 ≤ 8 by omega)]
          omega))
        have HFL := hid (show [lh ++ (edits.take j).flatMap E.bytes, be 2 pn, be 1 sn, text item].flatten = lh ++ ((edits.take j).flatMap E.bytes ++ E.bytes ⟨pn, (sn : Int) - 1, item⟩) by simp [E.bytes, List.append_assoc])
        rw [HFL.out] at HA
        generalize E.bytes ⟨pn, (sn : Int) - 1, item⟩ = eb at *
        generalize (edits.take j).flatMap E.bytes = lj at *
        refine wpT_op rfl ?_
        go_wp2_with ((go_at_call 27; refine (two_go pn (by omega) _).mono ?_; rintro e w2 ⟨rfl, f2⟩))
        (refine ⟨?_, ?_⟩; focus (intro kz hk hk2 hh; first | (exfalso; simp at hk2; omega) | exact hh | exact (fun h => absurd h (by omega)) | obtain ⟨qa, qb⟩ := hh; first | exact ⟨qa, qb⟩ | (refine ⟨fun h => absurd h (by omega), ?_⟩; first | exact qb | (exact Three.fre qa f2)) | (refine ⟨fun h => ?_, ?_⟩; (have qa := qa h); all_goals (first | exact qa | exact qb | (exact Three.fre qa f2)))))
        refine wpT_op rfl ?_
        go_wp2_with ((go_at_call 26; refine (one_go sn (by omega) _).mono ?_; rintro e w3 ⟨rfl, f3⟩))
        (refine ⟨?_, ?_⟩; focus (intro kz hk hk2 hh; first | (exfalso; simp at hk2; omega) | exact hh | exact (fun h => absurd h (by omega)) | obtain ⟨qa, qb⟩ := hh; first | exact ⟨qa, qb⟩ | (refine ⟨fun h => absurd h (by omega), ?_⟩; first | exact qb | (exact Three.fre qa f3)) | (refine ⟨fun h => ?_, ?_⟩; (have qa := qa h); all_goals (first | exact qa | exact qb | (exact Three.fre qa f3)))))
        refine wpT_op rfl ?_
        go_wp2_with ((go_at_call 28; refine (Text_go item (by omega) _).mono ?_; rintro e w4 ⟨rfl, f4⟩))
        (refine ⟨?_, ?_⟩; focus (intro kz hk hk2 hh; first | (exfalso; simp at hk2; omega) | exact hh | exact (fun h => absurd h (by omega)) | obtain ⟨qa, qb⟩ := hh; first | exact ⟨qa, qb⟩ | (refine ⟨fun h => absurd h (by omega), ?_⟩; first | exact qb | (exact Three.fre qa f4)) | (refine ⟨fun h => ?_, ?_⟩; (have qa := qa h); all_goals (first | exact qa | exact qb | (exact Three.fre qa f4)))))
        refine wpT_op rfl ?_
        go_wp2_with (fail)
        (refine ⟨?_, ?_⟩; focus (intro kz hk hk2 hh; first | (exfalso; simp at hk2; omega) | exact hh | exact (fun h => absurd h (by omega)) | obtain ⟨qa, qb⟩ := hh; first | exact ⟨qa, qb⟩ | (refine ⟨fun h => absurd h (by omega), ?_⟩; first | exact qb | (exact Three.fre qa ((Fr.refl _ _).alloc _))) | (refine ⟨fun h => ?_, ?_⟩; (have qa := qa h); all_goals (first | exact qa | exact qb | (exact Three.fre qa ((Fr.refl _ _).alloc _))))))
        refine wpT_op rfl ?_
        go_wp2_with ((go_at_call 25; refine (HA.out _).mono ?_; rintro e w5 ⟨rfl, f5⟩))
        (refine ⟨?_, ?_⟩; focus (intro kz hk hk2 hh; first | (exfalso; simp at hk2; omega) | exact hh | exact (fun h => absurd h (by omega)) | obtain ⟨qa, qb⟩ := hh; first | exact ⟨qa, qb⟩ | (refine ⟨fun h => absurd h (by omega), ?_⟩; first | exact qb | (exact Three.fre qa f5)) | (refine ⟨fun h => ?_, ?_⟩; (have qa := qa h); all_goals (first | exact qa | exact qb | (exact Three.fre qa f5)))))
        repeat
          first
          | (refine wpT_pure rfl rfl rfl ?_; apply Exists.intro; refine ⟨?_, ?_⟩; intro w; (first | (obtain ⟨z0, z1, z2⟩ := qa; go_simp <;> rfl) | (go_simp <;> rfl)); simp only [Act.put, List.setIfInBounds_toArray, List.set_cons_zero, List.set_cons_succ])
          | (refine wpT_take 13 rfl rfl (by decide +kernel) ⟨fun _ => H3.out, trivial⟩ ?_; apply Exists.intro; refine ⟨?_, ?_⟩; intro w hw; (have qa := hw.1 (Nat.le_refl _); have qb := hw.2); (first | (obtain ⟨z0, z1, z2⟩ := qa; go_simp <;> rfl) | (go_simp <;> rfl)); simp only [Act.put, List.setIfInBounds_toArray, List.set_cons_zero, List.set_cons_succ])
          | (refine wpT_skip rfl rfl ?_; simp only [Act.put, List.setIfInBounds_toArray, List.set_cons_zero, List.set_cons_succ])
        refine wpT_nil ?_
        have FX := hid (FR.out.trans (((((FD.out.trans f2 (fun _ h _ => h)).trans f3 (fun _ h _ => h)).trans f4 (fun _ h _ => h)).alloc (.cells #[.string (bs (lh ++ lj)), .string (bs (be 2 pn)), .string (bs (be 1 sn)), .string (bs (text item))] 9)).trans f5 (fun _ h _ => h)) (fun _ h _ => h))
        clear f2 f3 f4 f5
        go_wp2_with (fail)
        go_roundw
        case rel => exact ⟨j + 1, by omega, by rw [HT.out], by go_num, FX.out⟩
        case measure => simp [intOf]; omega
      · obtain rfl : j = edits.length := by omega
        have HLE := hid (show (lh ++ edits.flatMap E.bytes).length ≤ 26520 by have := HHL.out; have := HLA.out; rw [List.take_length] at this; rw [List.length_append]; omega)
        rw [List.take_length]
        have HBR := hid (HB10.out.fr FR.out (fun h => h))
        have GR := hid (G10.out.trans FR.out (fun _ h _ => h))
        generalize edits.flatMap E.bytes = le at *
        generalize lh ++ le = l1 at *
        have HA2 := hid (fun w : World => all_of (w := w.alloc (.cells #[.string (bs l1), .string (bs (be 1 xids.length))] 9)) (n := 2) (xs := [l1, be 1 xids.length]) (Blk.new w _ 9) rfl (by omega) (by
          have h1 := HLE.out
          simp only [List.flatten_cons, List.flatten_nil, List.length_append, List.length_nil, be_length _ _ (show 1 ≤ 8 by omega)]
          omega))
        rw [show [l1, be 1 xids.length].flatten = l1 ++ be 1 xids.length by simp] at HA2
        have q6 := HBR.out.cell 6
        clear HB10 HALL HLA HHL
        go_wp2_with (first
          | (go_at_call 26; refine (one_go xids.length (by omega) _).mono ?_; rintro e w2 ⟨rfl, f2⟩)
          | (go_at_call 25; refine (HA2.out _).mono ?_; rintro e w3 ⟨rfl, f3⟩; have FX := hid ((f2.alloc (.cells #[.string (bs l1), .string (bs (be 1 xids.length))] 9)).trans f3 (fun _ h _ => h)); clear f2 f3; have B3 := hid (HBR.out.fr FX.out (fun h => h)); have G3 := hid (GR.out.trans FX.out (fun _ h _ => h)); have q6 := B3.out.cell 6))
        have HL2 := hid (show (l1 ++ be 1 xids.length).length ≤ 26521 by have := HLE.out; rw [List.length_append, be_length _ _ (by omega)]; omega)
        generalize l1 ++ be 1 xids.length = l2 at *
        clear HA2 HLE
        go_loopw [3, 65] (fun s i wr => ∃ j : Nat, j ≤ xids.length ∧ s = .string (bs (l2 ++ (xids.take j).flatMap fun x => be 1 x.toNat)) ∧ i = .int .i64 j ∧ Fr (fun _ => False) w3 wr) (fun _ i _ => xids.length - (intOf i).toNat)
        case atStart => exact ⟨0, by omega, by simp, rfl, Fr.refl _ _⟩
        case round =>
          obtain ⟨j, hj, rfl, rfl, fr⟩ := hrel
          have FR4 := hid fr
          clear fr q6 FR
          have HLA := hid (show ((xids.take j).flatMap fun x => be 1 x.toNat).length ≤ 1 * xids.length from Nat.le_trans (flat_le (fun x : Int => be 1 x.toNat) 1 _ (fun x _ => Nat.le_of_eq (be_length _ _ (by omega)))) (Nat.mul_le_mul_left _ (by rw [List.length_take]; omega)))
          by_cases hjl : j < xids.length
          · obtain ⟨g, o, rfl, hg, hcell⟩ := sl_cell1 (f := icell) icell_len (HV.out.fre (G3.out.trans FR4.out (fun _ h _ => h))).x (fun h => by subst h; cases hjl)
            have q0 := hcell j hjl
            have HT := hid (take_flat xids (fun x => be 1 x.toNat) j hjl)
            obtain ⟨hx1, hx2⟩ := HXA.out xids[j] (List.getElem_mem hjl)
            obtain ⟨xn, hxn⟩ : ∃ xn : Nat, xids[j] = xn := ⟨xids[j].toNat, by omega⟩
            rw [hxn] at q0 HT hx1 hx2
            simp only [icell, List.getElem?_cons_zero] at q0
            have i1 : (0 : Int) ≤ (j : Int) := by omega
            have i2 : (j : Int) < xids.length := by omega
            rw [Int.toNat_natCast] at HT
            clear hcell hxn
            have HA := hid (fun w : World => all_of (w := w.alloc (.cells #[.string (bs (l2 ++ (xids.take j).flatMap fun x => be 1 x.toNat)), .string (bs (be 1 xn))] 9)) (n := 2) (xs := [l2 ++ (xids.take j).flatMap fun x => be 1 x.toNat, be 1 xn]) (Blk.new w _ 9) rfl (by omega) (by
              have h1 := HL2.out
              have h2 := HLA.out
              simp only [List.flatten_cons, List.flatten_nil, List.length_append, List.length_nil, be_length _ _ (show 1 ≤ 8 by omega)]
              omega))
            rw [show [l2 ++ (xids.take j).flatMap fun x => be 1 x.toNat, be 1 xn].flatten = l2 ++ (((xids.take j).flatMap fun x => be 1 x.toNat) ++ be 1 xn) by simp [List.append_assoc]] at HA
            generalize ((xids.take j).flatMap fun x => be 1 x.toNat) = lj at *
            go_wp2_with (first
              | (go_at_call 26; refine (one_go xn (by omega) _).mono ?_; rintro e w5 ⟨rfl, f5⟩)
              | (go_at_call 25; refine (HA.out _).mono ?_; rintro e w6 ⟨rfl, f6⟩; have FX6 := hid ((f5.alloc (.cells #[.string (bs (l2 ++ lj)), .string (bs (be 1 xn))] 9)).trans f6 (fun _ h _ => h)); clear f5 f6))
            go_roundw
            case rel => exact ⟨j + 1, by omega, by rw [HT.out], by go_num, FR4.out.trans FX6.out (fun _ h _ => h)⟩
            case measure => simp [intOf]; omega
          · obtain rfl : j = xids.length := by omega
            have HL3 := hid (show (l2 ++ xids.flatMap fun x => be 1 x.toNat).length ≤ 26600 by have := HL2.out; have := HLA.out; rw [List.take_length] at this; rw [List.length_append]; omega)
            rw [List.take_length]
            generalize (l2 ++ xids.flatMap fun x => be 1 x.toNat) = l3 at *
            have B4 := hid (B3.out.fr FR4.out (fun h => h))
            have G4 := hid (G3.out.trans FR4.out (fun _ h _ => h))
            have q7 := B4.out.cell 7
            have HA := hid (fun w : World => all_of (w := w.alloc (.cells #[.string (bs l3), .string (bs (text note))] 9)) (n := 2) (xs := [l3, text note]) (Blk.new w _ 9) rfl (by omega) (by
              have h1 := HL3.out
              simp only [List.flatten_cons, List.flatten_nil, List.length_append, List.length_nil, text_len]
              omega))
            rw [show [l3, text note].flatten = l3 ++ text note by simp] at HA
            go_wp2_with (first
              | (go_at_call 28; refine (Text_go note (by omega) _).mono ?_; rintro e w5 ⟨rfl, f5⟩)
              | (go_at_call 25; refine (HA.out _).mono ?_; rintro e w6 ⟨rfl, f6⟩; have FX6 := hid ((f5.alloc (.cells #[.string (bs l3), .string (bs (text note))] 9)).trans f6 (fun _ h _ => h)); clear f5 f6))
            go_ret
            exact ⟨by rw [HRAW.out]; rfl, G4.out.trans FX6.out (fun _ h _ => h)⟩
end Go.Proofs.YtfhkmiifndhacaaDoor
