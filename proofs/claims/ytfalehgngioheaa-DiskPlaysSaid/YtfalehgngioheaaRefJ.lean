import Derived.Test.YtfalehgngioheaaRefI
/- The reference's disk: a call on it (R.Do): Write. -/
set_option linter.unusedVariables false
namespace Go.Proofs.Ytfalehgngioheaa
open Go.RowKit Go.VB Go.VB.Disk
variable {S : Nat → Prop} {w : World} {d : Nat} {m : DM} {pv : Value} {wv : List Value}
set_option maxHeartbeats 2000000 in
theorem rdo_write {kk : Nat} (h : RRep S w d m pv wv) (hlen : m.pages.length ≤ 400) (ok : m.Ok kk) (hkk : kk ≤ 1000000) (kind n : Int) (s : Bytes) (hs : s.length ≤ 1000000) (vq : Value) (hk : kind % 9 = 0) :
    Calls Try.prog 33 #[.pointer (some ⟨d, 0, none⟩), .agg #[.int .i64 kind, .int .i64 n, .string (bs s), vq]] w fun e w' =>
      e = .returned (.agg #[.string (bs []), .int .i64 (m.write n (fill s)).2]) ∧ ROut S w w' d (m.write n (fill s)).1 := by
  have e1 := tmod9 kind
  have e2 := Int.tmod_lt_of_pos kind (show (0:Int) < 9 by omega)
  have e3 : -9 < kind.tmod 9 := Int.lt_tmod_of_pos kind (by omega)
  rw [hk] at e1
  clear hk
  have F0 := (Fr.refl (fun _ => False) w).alloc (.cells [Value.int .i64 kind, .int .i64 n, .string (bs s), vq].toArray 52) |>.alloc (.cells [Value.string ⟨#[]⟩, .int .i64 0].toArray 62)
  have B0 := (Blk.new w [Value.int .i64 kind, .int .i64 n, .string (bs s), vq] 52).fr ((Fr.refl (fun _ => False) _).alloc (.cells [Value.string ⟨#[]⟩, .int .i64 0].toArray 62)) (fun h => h)
  have B1 := Blk.new (w.alloc (.cells [Value.int .i64 kind, .int .i64 n, .string (bs s), vq].toArray 52)) [Value.string ⟨#[]⟩, .int .i64 0] 62
  have hb : w.heap.size + 1 < ((w.alloc (.cells [Value.int .i64 kind, .int .i64 n, .string (bs s), vq].toArray 52)).alloc (.cells [Value.string ⟨#[]⟩, .int .i64 0].toArray 62)).heap.size := by simp
  have hbe : (w.alloc (.cells [Value.int .i64 kind, .int .i64 n, .string (bs s), vq].toArray 52)).heap.size = w.heap.size + 1 := by simp
  rw [hbe] at B1
  clear hbe
  have H0 := hid (h.fr F0 (fun _ _ h => h))
  have HB := hid B1
  have HB0 := hid B0
  have HF := hid F0
  have HN := hid hb
  have HL := hid h.lt
  have HOK := hid ok
  clear B1 B0 F0 hb h ok
  have hz : bs [] = ⟨#[]⟩ := rfl
  rw [hz]
  clear hz
  go_enter Try.func33, Try.ntmps33
  go_wp2_with (fail)
  generalize (w.alloc (.cells #[Value.int .i64 kind, .int .i64 n, .string (bs s), vq] 52)).alloc (.cells #[Value.string ⟨#[]⟩, .int .i64 0] 62) = w0 at *
  have k1 : w0.cell? ⟨w.heap.size, 1, none⟩ = some (.int .i64 n) := HB0.out.cell 1
  have k2 : w0.cell? ⟨w.heap.size, 2, none⟩ = some (.string (bs s)) := HB0.out.cell 2
  have hnS : ¬ S w.heap.size := fun h => by have := HL.out _ h; omega
  have HNS := hid hnS
  clear hnS
  generalize hb0 : w.heap.size = b0 at *
  have HE := hid hb0
  clear hb0
  refine wp_region_script [(true, 0), (true, 1), (true, 2), (true, 3), (true, 4), (false, 5), (false, 6), (false, 7), (false, 8)] (fun kz w => (kz ≤ 8 → w.cell? ⟨b0, 1, none⟩ = some (.int .i64 n) ∧ w.cell? ⟨b0, 2, none⟩ = some (.string (bs s))) ∧ True) (by kernel_rfl) (by kernel_rfl) (by intro c a d v w h; cases d <;> exact h) ?_
  repeat
    first
    | (refine wpS_pure rfl rfl rfl ?_; apply Exists.intro; refine ⟨?_, ?_⟩; intro w; ((go_simp <;> rfl)); simp only [Act.put, List.setIfInBounds_toArray, List.set_cons_zero, List.set_cons_succ])
    | (refine wpS_take 8 rfl rfl (by decide +kernel) ⟨fun _ => ⟨k1, k2⟩, trivial⟩ ?_; apply Exists.intro; refine ⟨?_, ?_⟩; intro w hw; (have qa := (hw rfl).1 (Nat.le_refl _); have qb := (hw rfl).2); ((go_simp <;> rfl)); simp only [Act.put, List.setIfInBounds_toArray, List.set_cons_zero, List.set_cons_succ])
    | (refine wpS_skip rfl rfl ?_; simp only [Act.put, List.setIfInBounds_toArray, List.set_cons_zero, List.set_cons_succ])
  refine wpS_op rfl ?_
  go_wp2_with ((go_at_call 16; refine (Fill_go _ _ (by omega)).mono ?_; rintro e w5 ⟨rfl, f5⟩))
  (refine ⟨?_, ?_⟩; focus (intro kz hk hk2; rintro ⟨qa, qb⟩; first | (exfalso; simp at hk2; omega) | exact ⟨qa, qb⟩ | (refine ⟨fun h => absurd h (by omega), ?_⟩; first | exact qb | (exact ⟨cell_fr qa.1 f5 (fun h => h), cell_fr qa.2 f5 (fun h => h)⟩)) | (refine ⟨fun h => ?_, ?_⟩; (have qa := qa h); all_goals (first | exact qa | exact qb | (exact ⟨cell_fr qa.1 f5 (fun h => h), cell_fr qa.2 f5 (fun h => h)⟩)))))
  have F5 := (Fr.refl (fun _ => False) w0).drew.trans f5 (fun _ h _ => h)
  have hWr := Write_ref (H0.out.fr F5 (fun _ _ h => h)) n (fill s) hlen HOK.out hkk
  refine wpS_op rfl ?_
  go_wp2_with ((go_at_call 51; refine hWr.mono ?_; rintro e w6 ⟨rfl, ro⟩))
  (refine ⟨?_, ?_⟩; focus (intro kz hk hk2; rintro ⟨qa, qb⟩; first | (exfalso; simp at hk2; omega) | exact ⟨qa, qb⟩ | (refine ⟨fun h => absurd h (by omega), ?_⟩; first | exact qb | (exact ⟨cell_fr qa.1 ro.fr HNS.out, cell_fr qa.2 ro.fr HNS.out⟩)) | (refine ⟨fun h => ?_, ?_⟩; (have qa := qa h); all_goals (first | exact qa | exact qb | (exact ⟨cell_fr qa.1 ro.fr HNS.out, cell_fr qa.2 ro.fr HNS.out⟩)))))
  have k3 := cell_fr (cell_fr k1 F5 (fun h => h)) ro.fr HNS.out
  have k4 := cell_fr (cell_fr k2 F5 (fun h => h)) ro.fr HNS.out
  have B2 : Blk w6 (b0 + 1) [Value.string ⟨#[]⟩, .int .i64 0] 62 := (HB.out.fr F5 (fun h => h)).fr ro.fr (fun h => by have := HL.out _ h; omega)
  have hTh := B2.drew.there 0 2 (by simp)
  have RO := hid ro
  have HB2 := hid B2
  have HF5 := hid F5
  clear ro B2 F5 f5 hWr k1 k2
  repeat
    first
    | (refine wpS_pure rfl rfl rfl ?_; apply Exists.intro; refine ⟨?_, ?_⟩; intro w; ((go_simp <;> rfl)); simp only [Act.put, List.setIfInBounds_toArray, List.set_cons_zero, List.set_cons_succ])
    | (refine wpS_take 8 rfl rfl (by decide +kernel) ⟨fun _ => ⟨k3, k4⟩, trivial⟩ ?_; apply Exists.intro; refine ⟨?_, ?_⟩; intro w hw; (have qa := (hw rfl).1 (Nat.le_refl _); have qb := (hw rfl).2); ((go_simp <;> rfl)); simp only [Act.put, List.setIfInBounds_toArray, List.set_cons_zero, List.set_cons_succ])
    | (refine wpS_skip rfl rfl ?_; simp only [Act.put, List.setIfInBounds_toArray, List.set_cons_zero, List.set_cons_succ])
  refine wpS_op rfl ?_
  go_wp2_with (fail)
  (refine ⟨?_, ?_⟩; focus (intro kz hk hk2; rintro ⟨qa, qb⟩; first | (exfalso; simp at hk2; omega) | exact ⟨qa, qb⟩ | (refine ⟨fun h => absurd h (by omega), ?_⟩; first | exact qb | (exact qa)) | (refine ⟨fun h => ?_, ?_⟩; (have qa := qa h); all_goals (first | exact qa | exact qb | (exact qa)))))
  repeat
    first
    | (refine wpS_pure rfl rfl rfl ?_; apply Exists.intro; refine ⟨?_, ?_⟩; intro w; ((go_simp <;> rfl)); simp only [Act.put, List.setIfInBounds_toArray, List.set_cons_zero, List.set_cons_succ])
    | (refine wpS_take 8 rfl rfl (by decide +kernel) ⟨fun _ => ⟨k3, k4⟩, trivial⟩ ?_; apply Exists.intro; refine ⟨?_, ?_⟩; intro w hw; (have qa := (hw rfl).1 (Nat.le_refl _); have qb := (hw rfl).2); ((go_simp <;> rfl)); simp only [Act.put, List.setIfInBounds_toArray, List.set_cons_zero, List.set_cons_succ])
    | (refine wpS_skip rfl rfl ?_; simp only [Act.put, List.setIfInBounds_toArray, List.set_cons_zero, List.set_cons_succ])
  refine wpS_op rfl ?_
  refine wpList_store_mid rfl 62 _ _ rfl (b0 + 1) 0 _ rfl rfl hTh Try.size_got (by simp [Value.oneCell']) ?_
  rw [List.toList_toArray]
  go_wp2
  refine ⟨fun kz h1 h2 _ => by exfalso; simp at h2; omega, ?_⟩
  refine wpS_nil ?_
  have B3 : Blk (w6.setCells (b0 + 1) 0 [.string ⟨#[]⟩, .int .i64 (m.write n (fill s)).2]) (b0 + 1) [.string ⟨#[]⟩, .int .i64 (m.write n (fill s)).2] 62 := HB2.out.put 0 [.string ⟨#[]⟩, .int .i64 (m.write n (fill s)).2] (by simp)
  have f3 : Fr (fun k => k = b0 + 1) w6 (w6.setCells (b0 + 1) 0 [.string ⟨#[]⟩, .int .i64 (m.write n (fill s)).2]) := (Fr.refl _ w6).put _ _ _ (fun _ => rfl)
  generalize w6.setCells (b0 + 1) 0 [.string ⟨#[]⟩, .int .i64 (m.write n (fill s)).2] = w2 at *
  have c0 : w2.cell? ⟨b0 + 1, 0, none⟩ = some (.string ⟨#[]⟩) := B3.cell 0
  have c1 : w2.cell? ⟨b0 + 1, 1, none⟩ = some (.int .i64 (m.write n (fill s)).2) := B3.cell 1
  have s5 := HF5.out.size
  have hn := HN.out
  have hE := HE.out
  have cl : ROut S w w2 d (m.write n (fill s)).1 := by
    subst hE
    exact RO.out.close HL.out (HF.out.trans HF5.out (fun _ h _ => h)) (by omega) f3
  have CL := hid cl
  clear cl hE s5 hn k3 k4 hTh
  go_wp2
  exact bodyPost_ret (v := .agg #[.string ⟨#[]⟩, .int .i64 (m.write n (fill s)).2]) (by simp [results, Try.results33, go_sem, c0, c1]) rfl ⟨rfl, CL.out⟩
theorem Do_ref {kk : Nat} (h : RRep S w d m pv wv) (hlen : m.pages.length ≤ 400) (ok : m.Ok kk) (hkk : kk ≤ 1000000) (kind n : Int) (s : Bytes) (hs : s.length ≤ 1000000) {R : Nat → Prop} {vq : Value} {q : List Int} (hq : QRep R w vq q) (hR : ∀ k, R k → ¬ S k) (hql : q.length ≤ 9223372036854775807) :
    Calls Try.prog 33 #[.pointer (some ⟨d, 0, none⟩), .agg #[.int .i64 kind, .int .i64 n, .string (bs s), vq]] w fun e w' =>
      e = .returned (.agg #[.string (bs (m.dok fill kind n s q).2.1), .int .i64 (m.dok fill kind n s q).2.2]) ∧ ROut S w w' d (m.dok fill kind n s q).1 := by
  have ne : ∀ r : DM × (Bytes × Int), m.dok fill kind n s q = r → (Calls Try.prog 33 #[.pointer (some ⟨d, 0, none⟩), .agg #[.int .i64 kind, .int .i64 n, .string (bs s), vq]] w fun e w' =>
      e = .returned (.agg #[.string (bs r.2.1), .int .i64 r.2.2]) ∧ ROut S w w' d r.1) →
      Calls Try.prog 33 #[.pointer (some ⟨d, 0, none⟩), .agg #[.int .i64 kind, .int .i64 n, .string (bs s), vq]] w fun e w' =>
      e = .returned (.agg #[.string (bs (m.dok fill kind n s q).2.1), .int .i64 (m.dok fill kind n s q).2.2]) ∧ ROut S w w' d (m.dok fill kind n s q).1 := fun r hr h => by rw [hr]; exact h
  have hc : kind % 9 = 0 ∨ kind % 9 = 1 ∨ kind % 9 = 2 ∨ kind % 9 = 3 ∨ kind % 9 = 4 ∨ kind % 9 = 5 ∨ kind % 9 = 6 ∨ kind % 9 = 7 ∨ kind % 9 = 8 := by omega
  rcases hc with hc | hc | hc | hc | hc | hc | hc | hc | hc
  · exact ne ((m.write n (fill s)).1, ([], (m.write n (fill s)).2)) (by simp [DM.dok, hc]) (rdo_write h hlen ok hkk kind n s hs vq hc)
  · exact ne (m.sync.1, ([], m.sync.2)) (by simp [DM.dok, hc]) (rdo_sync h hlen ok hkk kind n s hs hq hR hql hc)
  · exact ne ((m.append s).1, ([], (m.append s).2)) (by simp [DM.dok, hc]) (rdo_append h hlen ok hkk kind n s hs hq hR hql hc)
  · exact ne (m.flush.1, ([], m.flush.2)) (by simp [DM.dok, hc]) (rdo_flush h hlen ok hkk kind n s hs hq hR hql hc)
  · exact ne (m, m.read n) (by simp [DM.dok, hc]) (rdo_read h hlen ok hkk kind n s hs hq hR hql hc)
  · exact ne (m, m.safeOf n) (by simp [DM.dok, hc]) (rdo_safe h hlen ok hkk kind n s hs hq hR hql hc)
  · exact ne (m.arm n, ([], 0)) (by simp [DM.dok, hc]) (rdo_arm h hlen ok hkk kind n s hs hq hR hql hc)
  · exact ne (m.crash q, ([], 0)) (by simp [DM.dok, hc]) (rdo_crash h hlen ok hkk kind n s hs hq hR hql hc)
  · exact ne ((m.cut n).1, ([], (m.cut n).2)) (by simp [DM.dok, hc]) (rdo_cut h hlen ok hkk kind n s hs hq hR hql hc)
end Go.Proofs.Ytfalehgngioheaa
