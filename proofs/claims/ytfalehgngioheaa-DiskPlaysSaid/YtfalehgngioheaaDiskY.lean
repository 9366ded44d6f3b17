import Derived.Test.YtfalehgngioheaaDiskX
set_option linter.unusedVariables false
namespace Go.Proofs.Ytfalehgngioheaa
open Go.RowKit Go.VB Go.VB.Disk
theorem QRep_new (w : World) (q : List Int) (hq : q ≠ []) : QRep (fun k => k = w.heap.size) (w.alloc (.cells (iv q).toArray 3)) (.slice (some ⟨w.heap.size, 0, none⟩) q.length q.length) q :=
  ⟨_, _, rfl, Nat.le_refl _, fun _ => ⟨_, _, rfl, rfl, (Blk.new w (iv q) 3).all⟩⟩
theorem QRep.mono {R R' : Nat → Prop} {w : World} {v : Value} {q : List Int} (h : QRep R w v q) (hR : ∀ k, R k → R' k) : QRep R' w v q := by
  obtain ⟨a, cap, rfl, hc, h⟩ := h
  exact ⟨a, cap, rfl, hc, fun hq => by obtain ⟨g, o, h1, h2, h3⟩ := h hq; exact ⟨g, o, h1, hR _ h2, h3⟩⟩
theorem G.shrink {X X' : Nat → Prop} {w : World} {d : Nat} {m : DM} (g : G X' w d m) (h : ∀ k, X k → X' k) : G X w d m := by
  obtain ⟨S, h1, h2, h3⟩ := g
  exact ⟨S, fun k hk hx => h1 k hk (h k hx), fun k hx => h2 k (h k hx), h3⟩
theorem Crash_lit {X : Nat → Prop} {w : World} {d : Nat} {m : DM} {kk : Nat} (g : G X w d m) (ok : m.Ok kk) (hkk : kk ≤ 1000000) (q : List Int) (hq : q ≠ []) (hql : q.length ≤ 9223372036854775807) :
    Calls Try.prog 19 #[.pointer (some ⟨d, 0, none⟩), .slice (some ⟨w.heap.size, 0, none⟩) q.length q.length] (w.alloc (.cells (iv q).toArray 3)) fun e w' => e = .returned (.tuple #[]) ∧ G X w' d (m.crash q) ∧ Fr (fun k => ¬ X k) w w' := by
  have F0 := (Fr.refl X w).alloc (.cells (iv q).toArray 3)
  have F1 := (Fr.refl (fun k => ¬ X k) w).alloc (.cells (iv q).toArray 3)
  refine (Crash_G (g.own F0) ok hkk ((QRep_new w q hq).mono fun k hk => .inr (by subst hk; simp)) hql).mono ?_
  rintro e w' ⟨rfl, g', f'⟩
  exact ⟨rfl, g'.shrink fun k hk => .inl hk, F1.trans f' fun k hk _ hx => hk (.inl hx)⟩
set_option maxHeartbeats 1000000 in
theorem sanity_go (w : World) : Calls Try.prog 13 #[] w fun e w' => e = .returned (.bool true) ∧ Fr (fun _ => False) w w' := by
  have hX : bs [120] = ⟨#[120]⟩ := rfl
  have HF := hid (fun w => Fill_go w [120] (by simp))
  rw [hX] at HF
  generalize hx : bs (fill [120]) = bx at *
  have Hx := hid hx
  clear hx
  go_enter Try.func13, Try.ntmps13
  go_wp2_with (first
    | (go_at_call 14; refine (New_G _ _).mono ?_; rintro e w1 ⟨rfl, g1, f1⟩)
    | (go_at_call 16; refine (HF.out _).mono ?_; rintro e w2 ⟨rfl, f2⟩))
  rw [← Hx.out]
  have g2 : G (fun k => k < w.heap.size) w2 (w.heap.size + 1) (DM.new 2) := g1.fr f2 (by simp)
  have F2 : Fr (fun k => ¬ k < w.heap.size) w w2 := (f1.trans f2 (by simp)).mono (by simp)
  clear g1 f1 f2
  generalize w.heap.size + 1 = d at *
  refine (Write_G g2 San.k0 (by omega) 1 San.x).mono ?_
  rintro e w3 ⟨rfl, g3, f3⟩
  rw [San.a0, Hx.out]
  have g3 : G (fun k => k < w.heap.size) w3 d San.m1 := g3
  have F3 := F2.trans f3 (fun k hk _ => hk)
  clear F2 f3 g2
  go_wp2_with (fail)
  refine (Crash_lit g3 San.k1 (by omega) [1, 0] (by simp) (by simp)).mono ?_
  rintro e w4 ⟨rfl, g4, f4⟩
  have g4 : G (fun k => k < w.heap.size) w4 d San.m2 := g4
  have F4 := F3.trans f4 (fun k hk _ => hk)
  clear F3 f4 g3
  go_wp2_with (fail)
  refine (Read_G g4 San.k2 (by omega) 1).mono ?_
  rintro e w5 ⟨rfl, g5, f5⟩
  rw [San.r0]
  have F5 := F4.trans f5 (by simp)
  clear F4 f5 g4
  generalize hy : bs (List.take 256 San.x ++ List.drop 256 Disk.blank) = y at *
  have Hy := hid hy
  clear hy
  go_wp2_with (fail)
  refine (Append_G g5 San.k2 [97, 98, 99] (by simp)).mono ?_
  rintro e w6 ⟨rfl, g6, f6⟩
  have g6 : G (fun k => k < w.heap.size) w6 d San.m3 := g6
  have F6 := F5.trans f6 (fun k hk _ => hk)
  clear F5 f6 g5
  go_wp2_with (fail)
  refine (Flush_G g6).mono ?_
  rintro e w7 ⟨rfl, g7, f7⟩
  have g7 : G (fun k => k < w.heap.size) w7 d San.m4 := g7
  have F7 := F6.trans f7 (fun k hk _ => hk)
  clear F6 f7 g6
  go_wp2_with (fail)
  refine (Append_G g7 San.k4 [100, 101] (by simp)).mono ?_
  rintro e w8 ⟨rfl, g8, f8⟩
  have g8 : G (fun k => k < w.heap.size) w8 d San.m5 := g8
  have F8 := F7.trans f8 (fun k hk _ => hk)
  clear F7 f8 g7
  go_wp2_with (fail)
  refine (Crash_lit g8 San.k5 (by omega) [1] (by simp) (by simp)).mono ?_
  rintro e w9 ⟨rfl, g9, f9⟩
  have g9 : G (fun k => k < w.heap.size) w9 d San.m6 := g9
  have F9 := F8.trans f9 (fun k hk _ => hk)
  clear F8 f9 g8
  go_wp2_with (fail)
  refine (Log_G g9).mono ?_
  rintro e w10 ⟨rfl, rfl⟩
  rw [San.l0]
  go_wp2_with (fail)
  refine (Arm_G g9 1).mono ?_
  rintro e w11 ⟨rfl, g11, f11⟩
  have g11 : G (fun k => k < w.heap.size) w11 d San.m7 := g11
  have F11 := F9.trans f11 (fun k hk _ => hk)
  clear F9 f11 g9
  go_wp2_with (fail)
  refine (Append_G g11 San.k7 [97] (by simp)).mono ?_
  rintro e w12 ⟨rfl, g12, f12⟩
  rw [San.e0]
  have g12 : G (fun k => k < w.heap.size) w12 d San.m8 := g12
  have F12 := F11.trans f12 (fun k hk _ => hk)
  clear F11 f12 g11
  go_wp2_with (fail)
  refine (Append_G g12 San.k8 [98] (by simp)).mono ?_
  rintro e w13 ⟨rfl, g13, f13⟩
  rw [San.f0]
  have g13 : G (fun k => k < w.heap.size) w13 d San.m9 := g13
  have F13 := F12.trans f13 (fun k hk _ => hk)
  clear F12 f13 g12
  go_wp2_with (fail)
  have hbx : bx.size = 512 := by rw [← Hx.out, bs_size]; exact San.xl
  have e1 : bx.extract 0 256 = bs (San.x.take 256) := by rw [← Hx.out]; apply ByteArray.ext; simp [bs]; rfl
  have e2 : (bs Disk.blank).extract 256 512 = bs (Disk.blank.drop 256) := by
    have hl : Disk.blank.length = 512 := by unfold Disk.blank; rw [List.length_replicate]
    generalize Disk.blank = z at *
    apply ByteArray.ext; simp [bs]; rw [List.take_of_length_le (by simp; omega)]
  have e3 : (bs Disk.blank).size = 512 := by rw [bs_size]; unfold Disk.blank; rw [List.length_replicate]
  have hB := hid (fun w => Blank_go w)
  refine wp_region_plan [true, true, true, true, true, true, true, true, true, true, false, false, false, false, false, false, false, false, false, false, false, false, false, false, false, false, false, false, false, false, false, false, false] (fun kz w => (kz ≤ 0 → True) ∧ True) (by kernel_rfl) (by kernel_rfl) (by intro c a d v w h; cases d <;> exact h) (fun kz => ⟨fun _ => trivial, trivial⟩) ?_
  repeat
    first
    | (refine wpTake_yes 0 rfl (by decide +kernel) ?_; apply Exists.intro; refine ⟨?_, ?_⟩; intro w hw; (try (have qa := (hw rfl).1 (Nat.le_refl _); have qb := (hw rfl).2)); ((go_simp <;> rfl)); simp only [Act.put, List.setIfInBounds_toArray, List.set_cons_zero, List.set_cons_succ])
    | (refine wpTake_no rfl ?_; simp only [Act.put, List.setIfInBounds_toArray, List.set_cons_zero, List.set_cons_succ])
    | (refine wpTake_pass ?_)
  refine wpTake_nil ?_
  repeat (refine wpRest_pass ?_)
  refine wpRest_op ?_
  go_wp2_with ((go_at_call 15; refine (hB.out _).mono ?_; rintro e w14 ⟨rfl, f14⟩))
  (refine ⟨?_, ?_⟩; focus (intro kz hk hk2; rintro ⟨qa, qb⟩; first | (exfalso; simp at hk2; omega) | exact ⟨qa, qb⟩ | (refine ⟨fun h => absurd h (by omega), ?_⟩; first | exact qb | (trivial)) | (refine ⟨fun h => ?_, ?_⟩; (have qa := qa h); all_goals (first | exact qa | exact qb | (trivial)))))
  have f14 := (Fr.refl (fun _ => False) w13).drew.trans f14 (fun _ h _ => h)
  have g14 := g13.fr f14 (fun _ h => h.elim)
  have F14 := F13.trans f14 (fun _ h _ => h.elim)
  have e4 := run_add_bs (P := Try.prog) w14 (San.x.take 256) (Disk.blank.drop 256) (by have h1 := San.xl; have h2 : Disk.blank.length = 512 := (by unfold Disk.blank; rw [List.length_replicate]); rw [List.length_take, List.length_drop, h1, h2]; decide)
  rw [Hy.out] at e4
  clear g13 F13 f14
  clear hB f14 HF
  generalize bs (List.take 256 San.x) = z1 at *
  generalize bs (List.drop 256 Disk.blank) = z2 at *
  generalize bs Disk.blank = z3 at *
  have e5 : (bs [97, 98, 99, 100]).toList = [97, 98, 99, 100] := by rw [Lib.toList_data]; rfl
  have ho := On_G g14
  rw [San.o0] at ho
  have HO := hid ho
  clear ho
  repeat (refine wpRest_op ?_; go_wp2_with ((first | (go_at_call 23; refine HO.out.mono ?_; rintro e w15 ⟨rfl, rfl⟩))); (refine ⟨?_, ?_⟩; focus (intro kz hk hk2; rintro ⟨qa, qb⟩; first | (exfalso; simp at hk2; omega) | exact ⟨qa, qb⟩ | (refine ⟨fun h => absurd h (by omega), ?_⟩; first | exact qb | (trivial)) | (refine ⟨fun h => ?_, ?_⟩; (have qa := qa h); all_goals (first | exact qa | exact qb | (trivial))))))
  refine wpRest_nil ?_
  go_wp2
  go_ret
  exact ⟨rfl, ⟨F14.os, F14.tape, F14.output, F14.size, fun k hk _ => F14.blk k hk (fun h => h hk)⟩⟩
