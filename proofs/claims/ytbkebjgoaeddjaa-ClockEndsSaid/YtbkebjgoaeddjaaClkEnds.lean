/- Proved: for every slice of calls and every integer the law ClockEnds of chapter 07 returns true, and its arguments read afterwards as before. Conditions: none beyond the given statement. -/
import Derived.Test.YtbkebjgoaeddjaaClkArgs
import Derived.Test.YtbkebjgoaeddjaaClkEnd
import Derived.Test.YtbkebjgoaeddjaaClkEndsM
import Derived.Test.YtbkebjgoaeddjaaClkRun
import Derived.Test.YtbkebjgoaeddjaaFin
set_option linter.unusedVariables false
namespace Go.Proofs.Ytbkebjgoaeddjaa
open Go.RowKit Go.VB Go.VB.Clk
def tabB (f : Nat → Bool) : List Value := (List.range 128).map fun x => Value.bool (f x)
theorem tabB_length (f : Nat → Bool) : (tabB f).length = 128 := by simp [tabB]
theorem tabB_get (f : Nat → Bool) {x : Nat} (h : x < 128) : (tabB f)[x]? = some (.bool (f x)) := by simp [tabB, h]
def putB (f : Nat → Bool) (x : Nat) (v : Bool) : Nat → Bool := fun y => if y = x then v else f y
theorem tabB_set (f : Nat → Bool) (x : Nat) (hx : x < 128) (v : Bool) : (tabB f).set x (.bool v) = tabB (putB f x v) := by
  apply List.ext_getElem?
  intro j
  rw [List.getElem?_set, tabB_length]
  by_cases h : x = j
  · subst h
    rw [if_pos rfl, if_pos hx, tabB_get _ hx]
    simp [putB]
  · rw [if_neg h]
    by_cases hj : j < 128
    · rw [tabB_get _ hj, tabB_get _ hj]
      simp [putB, Ne.symm h]
    · rw [List.getElem?_eq_none (by rw [tabB_length]; omega), List.getElem?_eq_none (by rw [tabB_length]; omega)]
theorem zb : Try.zeroCells71 = (tabB fun _ => false).toArray := by
  apply Array.toList_inj.1
  rw [List.toList_toArray]
  kernel_rfl
structure EndW (w wr : World) (c bs bh : Nat) (m : CM) (hi : Int) (v : Value) (f : Nat → Bool) : Prop where
  rc : CRep wr c m
  ok : m.Ok
  snap : Blk wr bs [.int .i64 hi, v] 37
  had : Blk wr bh (tabB f) 71
  fr : Fr (fun _ => False) w wr
theorem EndW.fre {w wr wz : World} {c bs bh : Nat} {m : CM} {hi : Int} {v : Value} {f : Nat → Bool} (h : EndW w wr c bs bh m hi v f) (g : Fr (fun _ => False) wr wz) : EndW w wz c bs bh m hi v f :=
  ⟨CRep.fr h.rc g (fun h => h), h.ok, h.snap.fr g (fun h => h), h.had.fr g (fun h => h), h.fr.trans g (fun _ h _ => h)⟩
structure Taken (wr : World) (c bs bh : Nat) (m0 : CM) (hi : Int) (v : Value) : Prop where
  ok : m0.Ok
  hi : hi = m0.next
  row : wr.ownsRow 0 3 1 v m0.lives.length (nv m0.lives)
  off : ∀ k, v.ownBlock = some k → k ≠ c ∧ k ≠ bs ∧ k ≠ bh
theorem lives_len {m : CM} (ok : m.Ok) : m.lives.length ≤ 60 := by
  have h1 := List.length_filter_le m.live m.known
  have h2 := m.known_length
  have h3 := ok.far
  unfold CM.lives
  omega
theorem Taken.sl {wr : World} {c bs bh : Nat} {m0 : CM} {hi : Int} {v : Value} (h : Taken wr c bs bh m0 hi v) : Sl (fun _ => True) wr v (m0.lives.map fun n : Nat => (n : Int)).length (iv (m0.lives.map fun n : Nat => (n : Int))) := by
  have h := own_sl (R := fun _ => True) h.row (fun _ _ => trivial)
  rw [nv_iv] at h
  rwa [List.length_map]
theorem Taken.ended {wr : World} {c bs bh : Nat} {m0 m : CM} {hi : Int} {v : Value} (h : Taken wr c bs bh m0 hi v) (hc : CRep wr c m) (ok : m.Ok) (x : Int) :
    Calls Try.prog 27 #[.agg #[.int .i64 hi, v], .int .i64 x, .iface 27 (.pointer (some ⟨c, 0, none⟩))] wr fun e w' => e = .returned (.bool (saw m0 m x)) ∧ Fr (fun _ => False) wr w' := by
  have h1 := Ended_clk h.sl (by rw [List.length_map]; have := lives_len h.ok; omega) hi x hc (m.state x) (fun w' h' => State_go h' ok x)
  rw [h.hi] at h1 ⊢
  exact h1
theorem EndW.mark {w wr : World} {c bs bh : Nat} {m : CM} {hi : Int} {v : Value} {f : Nat → Bool} (h : EndW w wr c bs bh m hi v f) (hcb : c ≠ bs ∧ c ≠ bh ∧ bs ≠ bh ∧ w.heap.size ≤ c ∧ w.heap.size ≤ bs ∧ w.heap.size ≤ bh) {t : Nat} (ht : t < 128) (b : Bool) : EndW w (wr.setCell ⟨bh, t, none⟩ (.bool b)) c bs bh m hi v (putB f t b) := by
  have F := (Fr.refl (fun k => k = bh) wr).setCell ⟨bh, t, none⟩ (.bool b) (fun _ => rfl)
  exact ⟨CRep.fr h.rc F (by omega), h.ok, h.snap.fr F (by omega), tabB_set f t ht b ▸ h.had.set t (.bool b), h.fr.trans F (fun k hk hl => by omega)⟩
theorem Taken.fr {wr wz : World} {R : Nat → Prop} {c bs bh : Nat} {m0 : CM} {hi : Int} {v : Value} (h : Taken wr c bs bh m0 hi v) (g : Fr R wr wz) (hR : ∀ k, R k → k = c ∨ k = bs ∨ k = bh) : Taken wz c bs bh m0 hi v :=
  ⟨h.ok, h.hi, own_fr h.row g (fun k hk hr => by have := h.off k hk; have := hR k hr; omega), h.off⟩
def Tk (tk : Value) (wr : World) (c bs bh : Nat) (m : CM) (hi : Int) (v : Value) (f : Nat → Bool) : Prop := tk = .bool false ∨ (tk = .bool true ∧ ∃ mt, Taken wr c bs bh mt hi v ∧ Later mt m ∧ Hid (∀ x : Nat, x < 128 → f x = saw mt mt x))
theorem Tk.fr {tk : Value} {wr wz : World} {R : Nat → Prop} {c bs bh : Nat} {m : CM} {hi : Int} {v : Value} {f : Nat → Bool} (h : Tk tk wr c bs bh m hi v f) (g : Fr R wr wz) (hR : ∀ k, R k → k = c ∨ k = bs ∨ k = bh) : Tk tk wz c bs bh m hi v f := by
  rcases h with h | ⟨h, mt, h1, h2, h3⟩
  · exact .inl h
  · exact .inr ⟨h, mt, h1.fr g hR, h2, h3⟩
theorem Tk.dok {tk : Value} {wr : World} {c bs bh : Nat} {m : CM} {hi : Int} {v : Value} {f : Nat → Bool} (h : Tk tk wr c bs bh m hi v f) (kind x s : Int) (h4 : kind % 8 ≠ 4) : Tk tk wr c bs bh (m.dok kind x s).1 hi v f := by
  rcases h with h | ⟨h, mt, h1, h2, h3⟩
  · exact .inl h
  · exact .inr ⟨h, mt, h1, h2.dok kind x s h4, h3⟩
set_option maxRecDepth 20000 in
set_option maxHeartbeats 16000000 in
theorem ClockEnds_walk (L : List Cl) (when_ : Int) (w : World) (va : Value) (hA : Sl (fun k => k < w.heap.size) w va L.length (L.flatMap ccl)) (hLl : L.length ≤ maxLen) :
    Calls Try.prog 11 #[va, .int .i64 when_] w fun e w' => e = .returned (.bool true) ∧ Fr (fun _ => False) w w' := by
  have e63 : maxLen = 9223372036854775807 := rfl
  rw [e63] at hLl
  obtain ⟨aa, ac, rfl, hac, ha⟩ := hA
  have HA := hid (fun j (hj : j < L.length) => ccl_at ha hj)
  obtain ⟨r, hr⟩ : ∃ r : Nat, when_ % 60 = r := ⟨(when_ % 60).toNat, by omega⟩
  have RB := hid (fun w => rest_any w when_ 60 (by omega) (by omega))
  rw [hr] at RB
  have hzb := zb
  clear e63 ha hr
  go_enter Try.func11, Try.ntmps11
  go_wp2_with (fail)
  refine (sanity_go w).mono ?_
  rintro e w1 ⟨rfl, f1⟩
  go_wp2_with (fail)
  refine (New_go 90 w1).mono ?_
  rintro e w2 ⟨rfl, h2, f2⟩
  have s1 := f1.size
  have hcl := Blk.lt h2
  generalize hc : w1.heap.size = c at *
  have F2 := hid (f1.trans f2 (fun _ h _ => h))
  have H2 := hid h2
  have OK0 := hid (Ok_new 90)
  clear f1 f2 h2 hc
  generalize CM.new 90 = m0 at *
  go_wp2_with (fail)
  refine (RB.out _).mono ?_
  rintro e w3 ⟨rfl, rfl⟩
  go_wp2_with (fail)
  have hcl2 : c < w2.heap.size := Blk.lt H2.out
  have F3 := ((Fr.refl (fun _ => False) w2).alloc (.cells #[Value.int .i64 0, .slice none 0 0] 37))
  have F4 := F3.alloc (.cells (tabB fun _ => false).toArray 71)
  have B8 := (Blk.new w2 [Value.int .i64 0, .slice none 0 0] 37).alloc (.cells (tabB fun _ => false).toArray 71)
  have B9 := Blk.new (w2.alloc (.cells #[Value.int .i64 0, .slice none 0 0] 37)) (tabB fun _ => false) 71
  rw [World.size_alloc] at B9
  obtain ⟨W0, hW0⟩ : ∃ W0, W0 = (w2.alloc (.cells #[Value.int .i64 0, .slice none 0 0] 37)).alloc (.cells (tabB fun _ => false).toArray 71) := ⟨_, rfl⟩
  have inv0 : EndW w W0 c w2.heap.size (w2.heap.size + 1) m0 0 (.slice none 0 0) (fun _ => false) := by
    rw [hW0]
    exact ⟨CRep.fr H2.out F4 (fun h => h), OK0.out, B8, B9, F2.out.trans F4 (fun _ h _ => h)⟩
  rw [← hW0]
  obtain ⟨bh, hbh⟩ : ∃ bh, bh = w2.heap.size + 1 := ⟨_, rfl⟩
  rw [← hbh] at inv0 ⊢
  generalize hbs : w2.heap.size = bs at *
  have hcb : c ≠ bs ∧ c ≠ bh ∧ bs ≠ bh ∧ w.heap.size ≤ c ∧ w.heap.size ≤ bs ∧ w.heap.size ≤ bh := by omega
  clear hW0 hbh hbs F3 F4 B8 B9 F2 H2 OK0 hzb hcl hcl2 s1
  have INV := hid inv0
  clear inv0
  go_loopw [10, 11] (fun tk i wr => ∃ (j : Nat) (m : CM) (hi : Int) (v : Value) (f : Nat → Bool), j ≤ 60 ∧ j ≤ L.length ∧ i = .int .i64 j ∧ EndW w wr c bs bh m hi v f ∧ Tk tk wr c bs bh m hi v f) (fun _ i _ => 60 - (intOf i).toNat)
  case atStart => exact ⟨0, _, _, _, _, by omega, by omega, rfl, INV.out, .inl rfl⟩
  case round =>
    obtain ⟨j, m, hi, v, f, hj, hjl, rfl, inv, htk⟩ := hrel
    clear INV
    by_cases hg : j < L.length ∧ j < 60
    · obtain ⟨g1, g2⟩ := hg
      by_cases hjr : j = r
      · subst hjr
        have hsn := Snap_go inv.rc inv.ok
        have INV := hid inv
        clear inv htk
        go_wp2_with (fail)
        refine hsn.mono ?_
        rintro e w5 ⟨v5, rfl, row, f5⟩
        obtain ⟨a5, c5, rfl, hc5⟩ := own_slice row.own
        have inv5 := INV.out.fre f5
        have hTh := inv5.snap.there 0 2 (by simp)
        have hlv5 : ∀ k, (Value.slice a5 m.lives.length c5).ownBlock = some k → k ≠ c ∧ k ≠ bs ∧ k ≠ bh := fun k hk => by
          have h1 := row.new k hk
          have h2 := Blk.lt INV.out.rc
          have h3 := INV.out.snap.lt
          have h4 := INV.out.had.lt
          omega
        have F6 := (Fr.refl (fun k => k = bs) w5).put bs 0 [.int .i64 m.next, .slice a5 m.lives.length c5] (fun _ => rfl)
        have B6 := inv5.snap.put 0 [.int .i64 m.next, .slice a5 m.lives.length c5] (by simp)
        have tk6 : Taken (w5.setCells bs 0 [.int .i64 m.next, .slice a5 m.lives.length c5]) c bs bh m m.next (.slice a5 m.lives.length c5) := ⟨inv5.ok, rfl, own_fr row.own F6 (fun k hk h => (hlv5 k hk).2.1 h), hlv5⟩
        have inv6 : EndW w (w5.setCells bs 0 [.int .i64 m.next, .slice a5 m.lives.length c5]) c bs bh m m.next (.slice a5 m.lives.length c5) f := ⟨CRep.fr inv5.rc F6 (by omega), inv5.ok, B6, inv5.had.fr F6 (by omega), inv5.fr.trans F6 (fun k hk hl => by omega)⟩
        have INV6 := hid inv6
        have TK6 := hid tk6
        clear hsn row f5 F6 B6 tk6 inv6 inv5 INV hlv5
        go_wp2_with (first | (refine wpList_store_mid rfl 37 _ _ rfl bs 0 _ rfl rfl hTh Try.size_snap (by simp [Value.oneCell']) ?_; rw [List.toList_toArray]))
        clear hTh
        generalize (Value.slice a5 m.lives.length c5) = v5 at *
        obtain ⟨W6, hW6⟩ : ∃ W6, W6 = w5.setCells bs 0 [.int .i64 m.next, v5] := ⟨_, rfl⟩
        rw [← hW6] at INV6 TK6 ⊢
        clear hW6 hc5
        go_loopw [12] (fun x wz => ∃ (t : Nat) (f' : Nat → Bool), t ≤ 128 ∧ x = .int .i64 t ∧ EndW w wz c bs bh m m.next v5 f' ∧ Taken wz c bs bh m m.next v5 ∧ Hid (∀ y : Nat, y < t → f' y = saw m m y)) (fun x _ => 128 - (intOf x).toNat)
        case atStart => exact ⟨0, f, by omega, rfl, INV6.out, TK6.out, hid (fun y hy => absurd hy (by omega))⟩
        case round =>
          obtain ⟨t, f', ht, rfl, inv, tk, hf⟩ := hrel
          clear INV6 TK6
          by_cases ht8 : t < 128
          · have gs := inv.snap.all
            have hE := hid (tk.ended inv.rc inv.ok t)
            go_wp2_with (first | (refine wpList_load_mid rfl 37 _ rfl bs 0 rfl _ _ gs Try.underlying37 rfl Try.size_snap ?_))
            refine hE.out.mono ?_
            rintro e w7 ⟨rfl, f7⟩
            have inv7 := inv.fre f7
            have kt : w7.cell? ⟨bh, t, none⟩ = some (.bool (f' t)) := by rw [inv7.had.cell, tabB_get f' ht8]
            have zt := inv7.had.frozen t
            have INV8 := hid (inv7.mark hcb ht8 (saw m m t))
            have TK8 := hid ((tk.fr f7 (fun _ h => h.elim)).fr ((Fr.refl (fun k => k = bh) w7).setCell ⟨bh, t, none⟩ (.bool (saw m m t)) (fun _ => rfl)) (fun k h => .inr (.inr h)))
            have HF := hid (show ∀ y : Nat, y < t + 1 → putB f' t (saw m m t) y = saw m m y by
              intro y hy
              unfold putB
              by_cases e : y = t
              · rw [if_pos e, e]
              · rw [if_neg e]; exact hf.out y (by omega))
            generalize saw m m (t : Int) = sv at *
            clear inv inv7 tk hE gs f7
            go_wp2_with (fail)
            go_roundw
            case rel => exact ⟨t + 1, _, by omega, by go_num, INV8.out, TK8.out, HF⟩
            case measure => simp [intOf]; omega
          · obtain rfl : t = 128 := by omega
            have TKS := hid (show Tk (.bool true) wr c bs bh m m.next v5 f' from .inr ⟨rfl, m, tk, Later.refl inv.ok, hf⟩)
            clear tk hf
            go_wp2_with (fail)
            have ok := inv.ok
            obtain ⟨g, o, rfl, hcell⟩ := HA.out j g1
            have hcell : wr.rangeAt g (o + j * 3) [.int .i64 L[j].kind, .int .i64 L[j].x, .int .i64 L[j].s] := range_fr hcell inv.fr (fun h => h)
            have i1 : (0 : Int) ≤ j := by omega
            have i2 : (j : Int) < L.length := by omega
            have hnx := inv.ok.nx
            generalize L[j] = p at *
            have NOWG := hid (fun W (f : Fr (fun _ => False) wr W) => Now_go (CRep.fr inv.rc f (fun h => h)))
            have NEAR := hid (fun w => near_go p.kind p.x p.s m.next hnx w)
            have hX := xat_on m.next (p.x % 125).toNat
            generalize hXX : xat m.next (p.x % 125).toNat = X at *
            generalize 1 + p.s % 4 = sv at *
            have hlt := lt_of_range (by simp) hcell
            have INV := hid inv
            clear inv hXX ok
            refine wp_region_scr (.take 0 (.take 1 (.take 2 (.take 3 (.take 4 (.two 5 7 (.two 6 7 (.op 7 (.op 8 .done)) (.op 6 (.op 8 .done))) (.op 5 (.op 6 (.op 8 .done))))))))) (fun kz w => (kz ≤ 9 → w.rangeAt g (o + j * 3) [.int .i64 p.kind, .int .i64 p.x, .int .i64 p.s]) ∧ True) (by kernel_rfl) (by kernel_rfl) (by intro c a d v w h; cases d <;> exact h) ?_
            repeat
              first
              | (refine wpT_pure rfl rfl rfl ?_; apply Exists.intro; refine ⟨?_, ?_⟩; intro w; (first | (exact run_load_mid _ _ rfl g _ rfl _ _ qa Try.underlying48 rfl Try.size_call) | (go_simp <;> rfl)); simp only [Act.put, List.setIfInBounds_toArray, List.set_cons_zero, List.set_cons_succ])
              | (refine wpT_take 9 rfl rfl (by decide +kernel) ⟨fun _ => hcell, trivial⟩ ?_; apply Exists.intro; refine ⟨?_, ?_⟩; intro w hw; (have qa := hw.1 (Nat.le_refl _); have qb := hw.2); (first | (exact run_load_mid _ _ rfl g _ rfl _ _ qa Try.underlying48 rfl Try.size_call) | (go_simp <;> rfl)); simp only [Act.put, List.setIfInBounds_toArray, List.set_cons_zero, List.set_cons_succ])
              | (refine wpT_skip rfl rfl ?_; simp only [Act.put, List.setIfInBounds_toArray, List.set_cons_zero, List.set_cons_succ])
            have D0 := hid ((Fr.refl (fun _ => False) wr).drew)
            have DA := hid (((Fr.refl (fun _ => False) wr).alloc (.cells #[Value.int .i64 0, .int .i64 0, .int .i64 0] 48)).drew)
            have BA := hid ((Blk.new wr [Value.int .i64 0, .int .i64 0, .int .i64 0] 48).drew)
            refine wpT_two ?h1 (wpT_op rfl ?h3)
            case' h1 =>
              skip
              refine wpT_op rfl ?_
              go_wp2_with ((go_at_call 30; refine (NOWG.out _ D0.out).mono ?_; rintro e w5 ⟨rfl, rfl⟩))
              (refine ⟨?_, ?_⟩; focus (intro kz hk hk2; rintro ⟨qa, qb⟩; first | (exfalso; simp at hk2; omega) | exact ⟨qa, qb⟩ | (refine ⟨fun h => absurd h (by omega), ?_⟩; first | exact qb | (exact qa)) | (refine ⟨fun h => ?_, ?_⟩; (have qa := qa h); all_goals (first | exact qa | exact qb | (exact qa)))))
              refine wpT_two ?k1 ?k2
              case' k1 =>
                skip
                refine wpT_op rfl ?_
                go_wp2_with ((go_at_call 34; refine (NEAR.out _).mono ?_; rintro e w6 ⟨rfl, f6⟩))
                (refine ⟨?_, ?_⟩; focus (intro kz hk hk2; rintro ⟨qa, qb⟩; first | (exfalso; simp at hk2; omega) | exact ⟨qa, qb⟩ | (refine ⟨fun h => absurd h (by omega), ?_⟩; first | exact qb | (exact range_fr qa f6 (fun h => h))) | (refine ⟨fun h => ?_, ?_⟩; (have qa := qa h); all_goals (first | exact qa | exact qb | (exact range_fr qa f6 (fun h => h))))))
                refine wpT_op rfl ?_
                go_wp2_with (fail)
                (refine ⟨?_, ?_⟩; focus (intro kz hk hk2; rintro ⟨qa, qb⟩; first | (exfalso; simp at hk2; omega) | exact ⟨qa, qb⟩ | (refine ⟨fun h => absurd h (by omega), ?_⟩; first | exact qb | (exact range_fr qa ((Fr.refl (fun _ => False) _).alloc _) (fun h => h))) | (refine ⟨fun h => ?_, ?_⟩; (have qa := qa h); all_goals (first | exact qa | exact qb | (exact range_fr qa ((Fr.refl (fun _ => False) _).alloc _) (fun h => h))))))
                refine wpT_op rfl ?_
                go_wp2_with (fail)
                (refine ⟨?_, ?_⟩; focus (intro kz hk hk2; rintro ⟨qa, qb⟩; first | (exfalso; simp at hk2; omega) | exact ⟨qa, qb⟩ | (refine ⟨fun h => absurd h (by omega), ?_⟩; first | exact qb | (exact range_fr hcell ((D0.out.trans f6 (fun _ h _ => h)).alloc _) (fun h => h))) | (refine ⟨fun h => ?_, ?_⟩; (have qa := qa h); all_goals (first | exact qa | exact qb | (exact range_fr hcell ((D0.out.trans f6 (fun _ h _ => h)).alloc _) (fun h => h))))))
                refine wpT_nil ?_
                have hW : Blk (w6.alloc (.cells #[Value.int .i64 p.kind, .int .i64 X, .int .i64 sv] 48)) w6.heap.size [Value.int .i64 p.kind, .int .i64 X, .int .i64 sv] 48 ∧ Fr (fun _ => False) wr (w6.alloc (.cells #[Value.int .i64 p.kind, .int .i64 X, .int .i64 sv] 48)) ∧ wr.heap.size ≤ w6.heap.size := ⟨Blk.new _ [Value.int .i64 p.kind, .int .i64 X, .int .i64 sv] _, (D0.out.trans f6 (fun _ h _ => h)).alloc _, f6.size⟩
                generalize w6.alloc (.cells #[Value.int .i64 p.kind, .int .i64 X, .int .i64 sv] 48) = W at *
                generalize w6.heap.size = b10 at *
              case' k2 =>
                skip
                refine wpT_op rfl ?_
                go_wp2_with (fail)
                (refine ⟨?_, ?_⟩; focus (intro kz hk hk2; rintro ⟨qa, qb⟩; first | (exfalso; simp at hk2; omega) | exact ⟨qa, qb⟩ | (refine ⟨fun h => absurd h (by omega), ?_⟩; first | exact qb | (exact range_fr hcell DA.out (fun h => h))) | (refine ⟨fun h => ?_, ?_⟩; (have qa := qa h); all_goals (first | exact qa | exact qb | (exact range_fr hcell DA.out (fun h => h))))))
                refine wpT_op rfl ?_
                go_wp2_with ((go_at_call 34; refine (NEAR.out _).mono ?_; rintro e w6 ⟨rfl, f6⟩))
                (refine ⟨?_, ?_⟩; focus (intro kz hk hk2; rintro ⟨qa, qb⟩; first | (exfalso; simp at hk2; omega) | exact ⟨qa, qb⟩ | (refine ⟨fun h => absurd h (by omega), ?_⟩; first | exact qb | (exact range_fr qa f6 (fun h => h))) | (refine ⟨fun h => ?_, ?_⟩; (have qa := qa h); all_goals (first | exact qa | exact qb | (exact range_fr qa f6 (fun h => h))))))
                have b6 := BA.out.fr f6 (fun h => h)
                have hT := b6.there 0 3 (by simp)
                refine wpT_op rfl ?_
                refine wpList_store_mid rfl 48 _ _ rfl wr.heap.size 0 _ rfl rfl hT Try.size_call (by simp [Value.oneCell']) ?_
                rw [List.toList_toArray]
                go_wp2_with (fail)
                refine ⟨fun kz h1 h2 hh => ⟨fun h => range_fr (hh.1 h) ((Fr.refl (fun k => k = wr.heap.size) w6).put _ _ _ (fun _ => rfl)) (by omega), trivial⟩, ?_⟩
                refine wpT_nil ?_
                have hW : Blk (w6.setCells wr.heap.size 0 [Value.int .i64 p.kind, .int .i64 X, .int .i64 sv]) wr.heap.size [Value.int .i64 p.kind, .int .i64 X, .int .i64 sv] 48 ∧ Fr (fun _ => False) wr (w6.setCells wr.heap.size 0 [Value.int .i64 p.kind, .int .i64 X, .int .i64 sv]) ∧ wr.heap.size ≤ wr.heap.size := ⟨b6.put 0 [Value.int .i64 p.kind, .int .i64 X, .int .i64 sv] (by simp), (DA.out.trans f6 (fun _ h _ => h)).put _ _ _ (fun h => absurd h (by omega)), Nat.le_refl _⟩
                generalize w6.setCells wr.heap.size 0 [Value.int .i64 p.kind, .int .i64 X, .int .i64 sv] = W at *
                generalize hb10 : wr.heap.size = b10 at *
            case' h3 =>
              skip
              go_wp2_with (fail)
              refine ⟨fun kz h1 h2 hh => ⟨fun h => range_fr hcell DA.out (fun h => h), trivial⟩, ?_⟩
              refine wpT_op rfl ?_
              go_wp2_with ((go_at_call 30; refine (NOWG.out _ DA.out).mono ?_; rintro e w5 ⟨rfl, rfl⟩))
              (refine ⟨?_, ?_⟩; focus (intro kz hk hk2; rintro ⟨qa, qb⟩; first | (exfalso; simp at hk2; omega) | exact ⟨qa, qb⟩ | (refine ⟨fun h => absurd h (by omega), ?_⟩; first | exact qb | (exact qa)) | (refine ⟨fun h => ?_, ?_⟩; (have qa := qa h); all_goals (first | exact qa | exact qb | (exact qa)))))
              refine wpT_op rfl ?_
              go_wp2_with ((go_at_call 34; refine (NEAR.out _).mono ?_; rintro e w6 ⟨rfl, f6⟩))
              (refine ⟨?_, ?_⟩; focus (intro kz hk hk2; rintro ⟨qa, qb⟩; first | (exfalso; simp at hk2; omega) | exact ⟨qa, qb⟩ | (refine ⟨fun h => absurd h (by omega), ?_⟩; first | exact qb | (exact range_fr qa f6 (fun h => h))) | (refine ⟨fun h => ?_, ?_⟩; (have qa := qa h); all_goals (first | exact qa | exact qb | (exact range_fr qa f6 (fun h => h))))))
              have b6 := BA.out.fr f6 (fun h => h)
              have hT := b6.there 0 3 (by simp)
              refine wpT_op rfl ?_
              refine wpList_store_mid rfl 48 _ _ rfl wr.heap.size 0 _ rfl rfl hT Try.size_call (by simp [Value.oneCell']) ?_
              rw [List.toList_toArray]
              go_wp2_with (fail)
              refine ⟨fun kz h1 h2 hh => ⟨fun h => range_fr (hh.1 h) ((Fr.refl (fun k => k = wr.heap.size) w6).put _ _ _ (fun _ => rfl)) (by omega), trivial⟩, ?_⟩
              refine wpT_nil ?_
              have hW : Blk (w6.setCells wr.heap.size 0 [Value.int .i64 p.kind, .int .i64 X, .int .i64 sv]) wr.heap.size [Value.int .i64 p.kind, .int .i64 X, .int .i64 sv] 48 ∧ Fr (fun _ => False) wr (w6.setCells wr.heap.size 0 [Value.int .i64 p.kind, .int .i64 X, .int .i64 sv]) ∧ wr.heap.size ≤ wr.heap.size := ⟨b6.put 0 [Value.int .i64 p.kind, .int .i64 X, .int .i64 sv] (by simp), (DA.out.trans f6 (fun _ h _ => h)).put _ _ _ (fun h => absurd h (by omega)), Nat.le_refl _⟩
              generalize w6.setCells wr.heap.size 0 [Value.int .i64 p.kind, .int .i64 X, .int .i64 sv] = W at *
              generalize hb10 : wr.heap.size = b10 at *
            all_goals
              obtain ⟨q10, fW, hb10⟩ := hW
              have INVW := hid (INV.out.fre fW)
              have TKW := hid (TKS.out.fr fW (fun _ h => h.elim))
              have k0 : W.cell? ⟨b10, 0, none⟩ = some (.int .i64 p.kind) := q10.cell 0
              have g10 := q10.all
              have R8 := hid (fun w => rest_any w p.kind 8 (by omega) (by omega))
              clear NOWG NEAR INV TKS D0 DA BA HA fW q10
              by_cases h4 : p.kind % 8 = 4
              · rw [h4] at R8
                go_wp2_with (go_at_call 14; refine (R8.out _).mono ?_; rintro e w8 ⟨rfl, rfl⟩)
                go_roundw
                case rel => exact ⟨j + 1, m, _, _, _, by omega, by omega, by go_num, INVW.out, TKW.out⟩
                case measure => simp [intOf]; omega
              · obtain ⟨k8, hk8⟩ : ∃ k8, k8 = p.kind % 8 := ⟨_, rfl⟩
                have h48 : ¬ k8 = 4 := by omega
                rw [← hk8] at R8
                have hdo := hid (do_go INVW.out.rc INVW.out.ok p.kind X sv)
                go_wp2_with (first
                  | (refine wpList_load_mid rfl 48 _ rfl b10 0 rfl _ _ g10 Try.underlying48 rfl Try.size_call ?_)
                  | (go_at_call 14; refine (R8.out _).mono ?_; rintro e w8 ⟨rfl, rfl⟩))
                refine hdo.out.mono ?_
                rintro e w9 ⟨rfl, h9, f9⟩
                have HI := hid (show EndW w w9 c bs bh (m.dok p.kind X sv).1 _ _ _ from ⟨h9, Ok_dok INVW.out.ok _ _ _, INVW.out.snap.fr f9 (by omega), INVW.out.had.fr f9 (by omega), INVW.out.fr.trans f9 (fun k hk hl => by omega)⟩)
                have HT := hid ((TKW.out.fr f9 (fun k h => .inl h)).dok p.kind X sv h4)
                clear hdo f9 h9
                go_wp2_with (fail)
                go_roundw
                case rel => exact ⟨j + 1, _, _, _, _, by omega, by omega, by go_num, HI.out, HT.out⟩
                case measure => simp [intOf]; omega
      · have TKS := hid htk
        clear htk
        go_wp2_with (fail)
        have ok := inv.ok
        obtain ⟨g, o, rfl, hcell⟩ := HA.out j g1
        have hcell : wr.rangeAt g (o + j * 3) [.int .i64 L[j].kind, .int .i64 L[j].x, .int .i64 L[j].s] := range_fr hcell inv.fr (fun h => h)
        have i1 : (0 : Int) ≤ j := by omega
        have i2 : (j : Int) < L.length := by omega
        have hnx := inv.ok.nx
        generalize L[j] = p at *
        have NOWG := hid (fun W (f : Fr (fun _ => False) wr W) => Now_go (CRep.fr inv.rc f (fun h => h)))
        have NEAR := hid (fun w => near_go p.kind p.x p.s m.next hnx w)
        have hX := xat_on m.next (p.x % 125).toNat
        generalize hXX : xat m.next (p.x % 125).toNat = X at *
        generalize 1 + p.s % 4 = sv at *
        have hlt := lt_of_range (by simp) hcell
        have INV := hid inv
        clear inv hXX ok
        refine wp_region_scr (.take 0 (.take 1 (.take 2 (.take 3 (.take 4 (.two 5 7 (.two 6 7 (.op 7 (.op 8 .done)) (.op 6 (.op 8 .done))) (.op 5 (.op 6 (.op 8 .done))))))))) (fun kz w => (kz ≤ 9 → w.rangeAt g (o + j * 3) [.int .i64 p.kind, .int .i64 p.x, .int .i64 p.s]) ∧ True) (by kernel_rfl) (by kernel_rfl) (by intro c a d v w h; cases d <;> exact h) ?_
        repeat
          first
          | (refine wpT_pure rfl rfl rfl ?_; apply Exists.intro; refine ⟨?_, ?_⟩; intro w; (first | (exact run_load_mid _ _ rfl g _ rfl _ _ qa Try.underlying48 rfl Try.size_call) | (go_simp <;> rfl)); simp only [Act.put, List.setIfInBounds_toArray, List.set_cons_zero, List.set_cons_succ])
          | (refine wpT_take 9 rfl rfl (by decide +kernel) ⟨fun _ => hcell, trivial⟩ ?_; apply Exists.intro; refine ⟨?_, ?_⟩; intro w hw; (have qa := hw.1 (Nat.le_refl _); have qb := hw.2); (first | (exact run_load_mid _ _ rfl g _ rfl _ _ qa Try.underlying48 rfl Try.size_call) | (go_simp <;> rfl)); simp only [Act.put, List.setIfInBounds_toArray, List.set_cons_zero, List.set_cons_succ])
          | (refine wpT_skip rfl rfl ?_; simp only [Act.put, List.setIfInBounds_toArray, List.set_cons_zero, List.set_cons_succ])
        have D0 := hid ((Fr.refl (fun _ => False) wr).drew)
        have DA := hid (((Fr.refl (fun _ => False) wr).alloc (.cells #[Value.int .i64 0, .int .i64 0, .int .i64 0] 48)).drew)
        have BA := hid ((Blk.new wr [Value.int .i64 0, .int .i64 0, .int .i64 0] 48).drew)
        refine wpT_two ?m1 (wpT_op rfl ?m3)
        case' m1 =>
          skip
          refine wpT_op rfl ?_
          go_wp2_with ((go_at_call 30; refine (NOWG.out _ D0.out).mono ?_; rintro e w5 ⟨rfl, rfl⟩))
          (refine ⟨?_, ?_⟩; focus (intro kz hk hk2; rintro ⟨qa, qb⟩; first | (exfalso; simp at hk2; omega) | exact ⟨qa, qb⟩ | (refine ⟨fun h => absurd h (by omega), ?_⟩; first | exact qb | (exact qa)) | (refine ⟨fun h => ?_, ?_⟩; (have qa := qa h); all_goals (first | exact qa | exact qb | (exact qa)))))
          refine wpT_two ?n1 ?n2
          case' n1 =>
            skip
            refine wpT_op rfl ?_
            go_wp2_with ((go_at_call 34; refine (NEAR.out _).mono ?_; rintro e w6 ⟨rfl, f6⟩))
            (refine ⟨?_, ?_⟩; focus (intro kz hk hk2; rintro ⟨qa, qb⟩; first | (exfalso; simp at hk2; omega) | exact ⟨qa, qb⟩ | (refine ⟨fun h => absurd h (by omega), ?_⟩; first | exact qb | (exact range_fr qa f6 (fun h => h))) | (refine ⟨fun h => ?_, ?_⟩; (have qa := qa h); all_goals (first | exact qa | exact qb | (exact range_fr qa f6 (fun h => h))))))
            refine wpT_op rfl ?_
            go_wp2_with (fail)
            (refine ⟨?_, ?_⟩; focus (intro kz hk hk2; rintro ⟨qa, qb⟩; first | (exfalso; simp at hk2; omega) | exact ⟨qa, qb⟩ | (refine ⟨fun h => absurd h (by omega), ?_⟩; first | exact qb | (exact range_fr qa ((Fr.refl (fun _ => False) _).alloc _) (fun h => h))) | (refine ⟨fun h => ?_, ?_⟩; (have qa := qa h); all_goals (first | exact qa | exact qb | (exact range_fr qa ((Fr.refl (fun _ => False) _).alloc _) (fun h => h))))))
            refine wpT_op rfl ?_
            go_wp2_with (fail)
            (refine ⟨?_, ?_⟩; focus (intro kz hk hk2; rintro ⟨qa, qb⟩; first | (exfalso; simp at hk2; omega) | exact ⟨qa, qb⟩ | (refine ⟨fun h => absurd h (by omega), ?_⟩; first | exact qb | (exact range_fr hcell ((D0.out.trans f6 (fun _ h _ => h)).alloc _) (fun h => h))) | (refine ⟨fun h => ?_, ?_⟩; (have qa := qa h); all_goals (first | exact qa | exact qb | (exact range_fr hcell ((D0.out.trans f6 (fun _ h _ => h)).alloc _) (fun h => h))))))
            refine wpT_nil ?_
            have hW : Blk (w6.alloc (.cells #[Value.int .i64 p.kind, .int .i64 X, .int .i64 sv] 48)) w6.heap.size [Value.int .i64 p.kind, .int .i64 X, .int .i64 sv] 48 ∧ Fr (fun _ => False) wr (w6.alloc (.cells #[Value.int .i64 p.kind, .int .i64 X, .int .i64 sv] 48)) ∧ wr.heap.size ≤ w6.heap.size := ⟨Blk.new _ [Value.int .i64 p.kind, .int .i64 X, .int .i64 sv] _, (D0.out.trans f6 (fun _ h _ => h)).alloc _, f6.size⟩
            generalize w6.alloc (.cells #[Value.int .i64 p.kind, .int .i64 X, .int .i64 sv] 48) = W at *
            generalize w6.heap.size = b10 at *
          case' n2 =>
            skip
            refine wpT_op rfl ?_
            go_wp2_with (fail)
            (refine ⟨?_, ?_⟩; focus (intro kz hk hk2; rintro ⟨qa, qb⟩; first | (exfalso; simp at hk2; omega) | exact ⟨qa, qb⟩ | (refine ⟨fun h => absurd h (by omega), ?_⟩; first | exact qb | (exact range_fr hcell DA.out (fun h => h))) | (refine ⟨fun h => ?_, ?_⟩; (have qa := qa h); all_goals (first | exact qa | exact qb | (exact range_fr hcell DA.out (fun h => h))))))
            refine wpT_op rfl ?_
            go_wp2_with ((go_at_call 34; refine (NEAR.out _).mono ?_; rintro e w6 ⟨rfl, f6⟩))
            (refine ⟨?_, ?_⟩; focus (intro kz hk hk2; rintro ⟨qa, qb⟩; first | (exfalso; simp at hk2; omega) | exact ⟨qa, qb⟩ | (refine ⟨fun h => absurd h (by omega), ?_⟩; first | exact qb | (exact range_fr qa f6 (fun h => h))) | (refine ⟨fun h => ?_, ?_⟩; (have qa := qa h); all_goals (first | exact qa | exact qb | (exact range_fr qa f6 (fun h => h))))))
            have b6 := BA.out.fr f6 (fun h => h)
            have hT := b6.there 0 3 (by simp)
            refine wpT_op rfl ?_
            refine wpList_store_mid rfl 48 _ _ rfl wr.heap.size 0 _ rfl rfl hT Try.size_call (by simp [Value.oneCell']) ?_
            rw [List.toList_toArray]
            go_wp2_with (fail)
            refine ⟨fun kz h1 h2 hh => ⟨fun h => range_fr (hh.1 h) ((Fr.refl (fun k => k = wr.heap.size) w6).put _ _ _ (fun _ => rfl)) (by omega), trivial⟩, ?_⟩
            refine wpT_nil ?_
            have hW : Blk (w6.setCells wr.heap.size 0 [Value.int .i64 p.kind, .int .i64 X, .int .i64 sv]) wr.heap.size [Value.int .i64 p.kind, .int .i64 X, .int .i64 sv] 48 ∧ Fr (fun _ => False) wr (w6.setCells wr.heap.size 0 [Value.int .i64 p.kind, .int .i64 X, .int .i64 sv]) ∧ wr.heap.size ≤ wr.heap.size := ⟨b6.put 0 [Value.int .i64 p.kind, .int .i64 X, .int .i64 sv] (by simp), (DA.out.trans f6 (fun _ h _ => h)).put _ _ _ (fun h => absurd h (by omega)), Nat.le_refl _⟩
            generalize w6.setCells wr.heap.size 0 [Value.int .i64 p.kind, .int .i64 X, .int .i64 sv] = W at *
            generalize hb10 : wr.heap.size = b10 at *
        case' m3 =>
          skip
          go_wp2_with (fail)
          refine ⟨fun kz h1 h2 hh => ⟨fun h => range_fr hcell DA.out (fun h => h), trivial⟩, ?_⟩
          refine wpT_op rfl ?_
          go_wp2_with ((go_at_call 30; refine (NOWG.out _ DA.out).mono ?_; rintro e w5 ⟨rfl, rfl⟩))
          (refine ⟨?_, ?_⟩; focus (intro kz hk hk2; rintro ⟨qa, qb⟩; first | (exfalso; simp at hk2; omega) | exact ⟨qa, qb⟩ | (refine ⟨fun h => absurd h (by omega), ?_⟩; first | exact qb | (exact qa)) | (refine ⟨fun h => ?_, ?_⟩; (have qa := qa h); all_goals (first | exact qa | exact qb | (exact qa)))))
          refine wpT_op rfl ?_
          go_wp2_with ((go_at_call 34; refine (NEAR.out _).mono ?_; rintro e w6 ⟨rfl, f6⟩))
          (refine ⟨?_, ?_⟩; focus (intro kz hk hk2; rintro ⟨qa, qb⟩; first | (exfalso; simp at hk2; omega) | exact ⟨qa, qb⟩ | (refine ⟨fun h => absurd h (by omega), ?_⟩; first | exact qb | (exact range_fr qa f6 (fun h => h))) | (refine ⟨fun h => ?_, ?_⟩; (have qa := qa h); all_goals (first | exact qa | exact qb | (exact range_fr qa f6 (fun h => h))))))
          have b6 := BA.out.fr f6 (fun h => h)
          have hT := b6.there 0 3 (by simp)
          refine wpT_op rfl ?_
          refine wpList_store_mid rfl 48 _ _ rfl wr.heap.size 0 _ rfl rfl hT Try.size_call (by simp [Value.oneCell']) ?_
          rw [List.toList_toArray]
          go_wp2_with (fail)
          refine ⟨fun kz h1 h2 hh => ⟨fun h => range_fr (hh.1 h) ((Fr.refl (fun k => k = wr.heap.size) w6).put _ _ _ (fun _ => rfl)) (by omega), trivial⟩, ?_⟩
          refine wpT_nil ?_
          have hW : Blk (w6.setCells wr.heap.size 0 [Value.int .i64 p.kind, .int .i64 X, .int .i64 sv]) wr.heap.size [Value.int .i64 p.kind, .int .i64 X, .int .i64 sv] 48 ∧ Fr (fun _ => False) wr (w6.setCells wr.heap.size 0 [Value.int .i64 p.kind, .int .i64 X, .int .i64 sv]) ∧ wr.heap.size ≤ wr.heap.size := ⟨b6.put 0 [Value.int .i64 p.kind, .int .i64 X, .int .i64 sv] (by simp), (DA.out.trans f6 (fun _ h _ => h)).put _ _ _ (fun h => absurd h (by omega)), Nat.le_refl _⟩
          generalize w6.setCells wr.heap.size 0 [Value.int .i64 p.kind, .int .i64 X, .int .i64 sv] = W at *
          generalize hb10 : wr.heap.size = b10 at *
        all_goals
          obtain ⟨q10, fW, hb10⟩ := hW
          have INVW := hid (INV.out.fre fW)
          have TKW := hid (TKS.out.fr fW (fun _ h => h.elim))
          have k0 : W.cell? ⟨b10, 0, none⟩ = some (.int .i64 p.kind) := q10.cell 0
          have g10 := q10.all
          have R8 := hid (fun w => rest_any w p.kind 8 (by omega) (by omega))
          clear NOWG NEAR INV TKS D0 DA BA HA fW q10
          by_cases h4 : p.kind % 8 = 4
          · rw [h4] at R8
            go_wp2_with (go_at_call 14; refine (R8.out _).mono ?_; rintro e w8 ⟨rfl, rfl⟩)
            go_roundw
            case rel => exact ⟨j + 1, m, _, _, _, by omega, by omega, by go_num, INVW.out, TKW.out⟩
            case measure => simp [intOf]; omega
          · obtain ⟨k8, hk8⟩ : ∃ k8, k8 = p.kind % 8 := ⟨_, rfl⟩
            have h48 : ¬ k8 = 4 := by omega
            rw [← hk8] at R8
            have hdo := hid (do_go INVW.out.rc INVW.out.ok p.kind X sv)
            go_wp2_with (first
              | (refine wpList_load_mid rfl 48 _ rfl b10 0 rfl _ _ g10 Try.underlying48 rfl Try.size_call ?_)
              | (go_at_call 14; refine (R8.out _).mono ?_; rintro e w8 ⟨rfl, rfl⟩))
            refine hdo.out.mono ?_
            rintro e w9 ⟨rfl, h9, f9⟩
            have HI := hid (show EndW w w9 c bs bh (m.dok p.kind X sv).1 _ _ _ from ⟨h9, Ok_dok INVW.out.ok _ _ _, INVW.out.snap.fr f9 (by omega), INVW.out.had.fr f9 (by omega), INVW.out.fr.trans f9 (fun k hk hl => by omega)⟩)
            have HT := hid ((TKW.out.fr f9 (fun k h => .inl h)).dok p.kind X sv h4)
            clear hdo f9 h9
            go_wp2_with (fail)
            go_roundw
            case rel => exact ⟨j + 1, _, _, _, _, by omega, by omega, by go_num, HI.out, HT.out⟩
            case measure => simp [intOf]; omega
    · have h3 : ¬ j < L.length ∨ (j < L.length ∧ ¬ j < 60) := by omega
      rcases htk with rfl | ⟨rfl, mt, tk, later, hf⟩
      · rcases h3 with h3 | ⟨h3, h4⟩
        all_goals
          go_wp2_with (fail)
          go_ret
          exact ⟨rfl, inv.fr⟩
      · rcases h3 with h3 | ⟨h3, h4⟩
        all_goals
          go_wp2_with (fail)
          go_loopw [14] (fun x wz => ∃ t : Nat, t ≤ 128 ∧ x = .int .i64 t ∧ EndW w wz c bs bh m hi v f ∧ Taken wz c bs bh mt hi v) (fun x _ => 128 - (intOf x).toNat)
          case atStart => exact ⟨0, by omega, rfl, inv, tk⟩
          case round =>
            obtain ⟨t, ht, rfl, inv, tk⟩ := hrel
            by_cases ht8 : t < 128
            · have hsw := later.saw tk.ok (t : Int)
              have hE := hid (fun W (g : Fr (fun _ => False) wr W) => (tk.fr g (fun _ h => h.elim)).ended (CRep.fr inv.rc g (fun h => h)) inv.ok (t : Int))
              have hSt := hid (fun W (g : Fr (fun _ => False) wr W) => State_go (CRep.fr inv.rc g (fun h => h)) inv.ok (t : Int))
              have q0 := inv.snap.all
              have kt : wr.cell? ⟨bh, t, none⟩ = some (.bool (f t)) := by rw [inv.had.cell, tabB_get f ht8]
              rw [hf.out t ht8] at kt
              rw [hsw.1] at hE
              have hs2 := hsw.2
              have i1 : (0 : Int) ≤ t := by omega
              have i2 : (t : Int) < 128 := by omega
              have INV := hid inv
              have TK := hid tk
              clear inv tk hsw
              generalize saw mt mt (t : Int) = b at *
              cases b with
              | false =>
                clear hs2
                go_wp2_with (fail)
                refine wp_region_scr (.take 0 (.take 1 (.take 2 (.take 5 (.take 6 (.take 7 (.op 3 (.op 4 (.take 8 (.take 9 (.take 10 (.take 11 (.take 12 (.take 13 (.take 14 (.take 15 (.take 16 (.take 17 (.take 18 (.take 19 (.op 20 (.take 21 (.take 22 (.take 23 .done)))))))))))))))))))))))) (fun kz w => (kz ≤ 24 → w.rangeAt bs 0 [.int .i64 hi, v] ∧ w.cell? ⟨bh, t, none⟩ = some (.bool false)) ∧ True) (by kernel_rfl) (by kernel_rfl) (by intro c a d v w h; cases d <;> exact h) ?_
                repeat
                  first
                  | (refine wpT_pure rfl rfl rfl ?_; apply Exists.intro; refine ⟨?_, ?_⟩; intro w; (first | (exact run_load_mid _ _ rfl bs _ rfl _ _ qa.1 Try.underlying37 rfl Try.size_snap) | (go_simp <;> rfl)); simp only [Act.put, List.setIfInBounds_toArray, List.set_cons_zero, List.set_cons_succ])
                  | (refine wpT_take 24 rfl rfl (by decide +kernel) ⟨fun _ => ⟨q0, kt⟩, trivial⟩ ?_; apply Exists.intro; refine ⟨?_, ?_⟩; intro w hw; (have qa := hw.1 (Nat.le_refl _); have qb := hw.2); (first | (exact run_load_mid _ _ rfl bs _ rfl _ _ qa.1 Try.underlying37 rfl Try.size_snap) | (go_simp <;> rfl)); simp only [Act.put, List.setIfInBounds_toArray, List.set_cons_zero, List.set_cons_succ])
                  | (refine wpT_skip rfl rfl ?_; simp only [Act.put, List.setIfInBounds_toArray, List.set_cons_zero, List.set_cons_succ])
                refine wpT_op rfl ?_
                go_wp2_with (fail)
                (refine ⟨?_, ?_⟩; focus (intro kz hk hk2; rintro ⟨qa, qb⟩; first | (exfalso; simp at hk2; omega) | exact ⟨qa, qb⟩ | (refine ⟨fun h => absurd h (by omega), ?_⟩; first | exact qb | (exact qa)) | (refine ⟨fun h => ?_, ?_⟩; (have qa := qa h); all_goals (first | exact qa | exact qb | (exact qa)))))
                refine wpT_op rfl ?_
                go_wp2_with ((go_at_call 27; refine (hE.out _ (Fr.refl (fun _ => False) wr).drew).mono ?_; rintro e w7 ⟨rfl, f7⟩))
                (refine ⟨?_, ?_⟩; focus (intro kz hk hk2; rintro ⟨qa, qb⟩; first | (exfalso; simp at hk2; omega) | exact ⟨qa, qb⟩ | (refine ⟨fun h => absurd h (by omega), ?_⟩; first | exact qb | (exact ⟨range_fr qa.1 f7 (fun h => h), cell_fr qa.2 f7 (fun h => h)⟩)) | (refine ⟨fun h => ?_, ?_⟩; (have qa := qa h); all_goals (first | exact qa | exact qb | (exact ⟨range_fr qa.1 f7 (fun h => h), cell_fr qa.2 f7 (fun h => h)⟩)))))
                have F7 := (Fr.refl (fun _ => False) wr).drew.trans f7 (fun _ h _ => h)
                have q7 := range_fr q0 F7 (fun h => h)
                have kt7 := cell_fr kt F7 (fun h => h)
                repeat
                  first
                  | (refine wpT_pure rfl rfl rfl ?_; apply Exists.intro; refine ⟨?_, ?_⟩; intro w; ((go_simp <;> rfl)); simp only [Act.put, List.setIfInBounds_toArray, List.set_cons_zero, List.set_cons_succ])
                  | (refine wpT_take 24 rfl rfl (by decide +kernel) ⟨fun _ => ⟨q7, kt7⟩, trivial⟩ ?_; apply Exists.intro; refine ⟨?_, ?_⟩; intro w hw; (have qa := hw.1 (Nat.le_refl _); have qb := hw.2); ((go_simp <;> rfl)); simp only [Act.put, List.setIfInBounds_toArray, List.set_cons_zero, List.set_cons_succ])
                  | (refine wpT_skip rfl rfl ?_; simp only [Act.put, List.setIfInBounds_toArray, List.set_cons_zero, List.set_cons_succ])
                refine wpT_op rfl ?_
                go_wp2_with (fail)
                (refine ⟨?_, ?_⟩; focus (intro kz hk hk2; rintro ⟨qa, qb⟩; first | (exfalso; simp at hk2; omega) | exact ⟨qa, qb⟩ | (refine ⟨fun h => absurd h (by omega), ?_⟩; first | exact qb | (exact qa)) | (refine ⟨fun h => ?_, ?_⟩; (have qa := qa h); all_goals (first | exact qa | exact qb | (exact qa)))))
                repeat
                  first
                  | (refine wpT_pure rfl rfl rfl ?_; apply Exists.intro; refine ⟨?_, ?_⟩; intro w; ((go_simp <;> rfl)); simp only [Act.put, List.setIfInBounds_toArray, List.set_cons_zero, List.set_cons_succ])
                  | (refine wpT_take 24 rfl rfl (by decide +kernel) ⟨fun _ => ⟨q7, kt7⟩, trivial⟩ ?_; apply Exists.intro; refine ⟨?_, ?_⟩; intro w hw; (have qa := hw.1 (Nat.le_refl _); have qb := hw.2); ((go_simp <;> rfl)); simp only [Act.put, List.setIfInBounds_toArray, List.set_cons_zero, List.set_cons_succ])
                  | (refine wpT_skip rfl rfl ?_; simp only [Act.put, List.setIfInBounds_toArray, List.set_cons_zero, List.set_cons_succ])
                refine wpT_nil ?_
                have HI := hid (INV.out.fre F7)
                have HT := hid (TK.out.fr F7 (fun _ h => h.elim))
                clear hE q0 kt q7 kt7 f7 F7
                go_wp2_with (fail)
                go_roundw
                case rel => exact ⟨t + 1, by omega, by go_num, HI.out, HT.out⟩
                case measure => simp [intOf]; omega

              | true =>
                by_cases ht2 : t = 2
                · subst ht2
                  clear hs2
                  go_wp2_with (fail)
                  refine wp_region_scr (.take 0 (.take 1 (.take 2 (.take 5 (.take 6 (.take 7 (.op 3 (.op 4 (.take 8 (.take 9 (.take 10 (.take 11 (.take 12 (.take 13 (.take 14 (.take 15 (.take 16 (.take 17 (.take 18 (.take 19 (.op 20 (.take 21 (.take 22 (.take 23 .done)))))))))))))))))))))))) (fun kz w => (kz ≤ 24 → w.rangeAt bs 0 [.int .i64 hi, v] ∧ w.cell? ⟨bh, 2, none⟩ = some (.bool true)) ∧ True) (by kernel_rfl) (by kernel_rfl) (by intro c a d v w h; cases d <;> exact h) ?_
                  repeat
                    first
                    | (refine wpT_pure rfl rfl rfl ?_; apply Exists.intro; refine ⟨?_, ?_⟩; intro w; (first | (exact run_load_mid _ _ rfl bs _ rfl _ _ qa.1 Try.underlying37 rfl Try.size_snap) | (go_simp <;> rfl)); simp only [Act.put, List.setIfInBounds_toArray, List.set_cons_zero, List.set_cons_succ])
                    | (refine wpT_take 24 rfl rfl (by decide +kernel) ⟨fun _ => ⟨q0, kt⟩, trivial⟩ ?_; apply Exists.intro; refine ⟨?_, ?_⟩; intro w hw; (have qa := hw.1 (Nat.le_refl _); have qb := hw.2); (first | (exact run_load_mid _ _ rfl bs _ rfl _ _ qa.1 Try.underlying37 rfl Try.size_snap) | (go_simp <;> rfl)); simp only [Act.put, List.setIfInBounds_toArray, List.set_cons_zero, List.set_cons_succ])
                    | (refine wpT_skip rfl rfl ?_; simp only [Act.put, List.setIfInBounds_toArray, List.set_cons_zero, List.set_cons_succ])
                  refine wpT_op rfl ?_
                  go_wp2_with (fail)
                  (refine ⟨?_, ?_⟩; focus (intro kz hk hk2; rintro ⟨qa, qb⟩; first | (exfalso; simp at hk2; omega) | exact ⟨qa, qb⟩ | (refine ⟨fun h => absurd h (by omega), ?_⟩; first | exact qb | (exact qa)) | (refine ⟨fun h => ?_, ?_⟩; (have qa := qa h); all_goals (first | exact qa | exact qb | (exact qa)))))
                  refine wpT_op rfl ?_
                  go_wp2_with ((go_at_call 27; refine (hE.out _ (Fr.refl (fun _ => False) wr).drew).mono ?_; rintro e w7 ⟨rfl, f7⟩))
                  (refine ⟨?_, ?_⟩; focus (intro kz hk hk2; rintro ⟨qa, qb⟩; first | (exfalso; simp at hk2; omega) | exact ⟨qa, qb⟩ | (refine ⟨fun h => absurd h (by omega), ?_⟩; first | exact qb | (exact ⟨range_fr qa.1 f7 (fun h => h), cell_fr qa.2 f7 (fun h => h)⟩)) | (refine ⟨fun h => ?_, ?_⟩; (have qa := qa h); all_goals (first | exact qa | exact qb | (exact ⟨range_fr qa.1 f7 (fun h => h), cell_fr qa.2 f7 (fun h => h)⟩)))))
                  have F7 := (Fr.refl (fun _ => False) wr).drew.trans f7 (fun _ h _ => h)
                  have q7 := range_fr q0 F7 (fun h => h)
                  have kt7 := cell_fr kt F7 (fun h => h)
                  repeat
                    first
                    | (refine wpT_pure rfl rfl rfl ?_; apply Exists.intro; refine ⟨?_, ?_⟩; intro w; ((go_simp <;> rfl)); simp only [Act.put, List.setIfInBounds_toArray, List.set_cons_zero, List.set_cons_succ])
                    | (refine wpT_take 24 rfl rfl (by decide +kernel) ⟨fun _ => ⟨q7, kt7⟩, trivial⟩ ?_; apply Exists.intro; refine ⟨?_, ?_⟩; intro w hw; (have qa := hw.1 (Nat.le_refl _); have qb := hw.2); ((go_simp <;> rfl)); simp only [Act.put, List.setIfInBounds_toArray, List.set_cons_zero, List.set_cons_succ])
                    | (refine wpT_skip rfl rfl ?_; simp only [Act.put, List.setIfInBounds_toArray, List.set_cons_zero, List.set_cons_succ])
                  refine wpT_op rfl ?_
                  go_wp2_with (fail)
                  (refine ⟨?_, ?_⟩; focus (intro kz hk hk2; rintro ⟨qa, qb⟩; first | (exfalso; simp at hk2; omega) | exact ⟨qa, qb⟩ | (refine ⟨fun h => absurd h (by omega), ?_⟩; first | exact qb | (exact qa)) | (refine ⟨fun h => ?_, ?_⟩; (have qa := qa h); all_goals (first | exact qa | exact qb | (exact qa)))))
                  repeat
                    first
                    | (refine wpT_pure rfl rfl rfl ?_; apply Exists.intro; refine ⟨?_, ?_⟩; intro w; ((go_simp <;> rfl)); simp only [Act.put, List.setIfInBounds_toArray, List.set_cons_zero, List.set_cons_succ])
                    | (refine wpT_take 24 rfl rfl (by decide +kernel) ⟨fun _ => ⟨q7, kt7⟩, trivial⟩ ?_; apply Exists.intro; refine ⟨?_, ?_⟩; intro w hw; (have qa := hw.1 (Nat.le_refl _); have qb := hw.2); ((go_simp <;> rfl)); simp only [Act.put, List.setIfInBounds_toArray, List.set_cons_zero, List.set_cons_succ])
                    | (refine wpT_skip rfl rfl ?_; simp only [Act.put, List.setIfInBounds_toArray, List.set_cons_zero, List.set_cons_succ])
                  refine wpT_nil ?_
                  have HI := hid (INV.out.fre F7)
                  have HT := hid (TK.out.fr F7 (fun _ h => h.elim))
                  clear hE q0 kt q7 kt7 f7 F7
                  go_wp2_with (fail)
                  go_roundw
                  case rel => exact ⟨2 + 1, by omega, by go_num, HI.out, HT.out⟩
                  case measure => simp [intOf]

                · have ht2' : ¬ (t : Int) = 2 := by omega
                  have hb2 : ((t : Int) == 2) = false := by simpa using ht2'
                  rw [hs2 rfl ht2'] at hSt
                  clear hs2
                  go_wp2_with (fail)
                  refine wp_region_scr (.take 0 (.take 1 (.take 2 (.take 5 (.take 6 (.take 7 (.op 3 (.op 4 (.take 8 (.take 9 (.take 10 (.take 11 (.take 12 (.take 13 (.take 14 (.take 15 (.take 16 (.take 17 (.take 18 (.take 19 (.op 20 (.take 21 (.take 22 (.take 23 .done)))))))))))))))))))))))) (fun kz w => (kz ≤ 24 → w.rangeAt bs 0 [.int .i64 hi, v] ∧ w.cell? ⟨bh, t, none⟩ = some (.bool true)) ∧ True) (by kernel_rfl) (by kernel_rfl) (by intro c a d v w h; cases d <;> exact h) ?_
                  repeat
                    first
                    | (refine wpT_pure rfl rfl rfl ?_; apply Exists.intro; refine ⟨?_, ?_⟩; intro w; (first | (exact run_load_mid _ _ rfl bs _ rfl _ _ qa.1 Try.underlying37 rfl Try.size_snap) | (go_simp <;> rfl)); simp only [Act.put, List.setIfInBounds_toArray, List.set_cons_zero, List.set_cons_succ])
                    | (refine wpT_take 24 rfl rfl (by decide +kernel) ⟨fun _ => ⟨q0, kt⟩, trivial⟩ ?_; apply Exists.intro; refine ⟨?_, ?_⟩; intro w hw; (have qa := hw.1 (Nat.le_refl _); have qb := hw.2); (first | (exact run_load_mid _ _ rfl bs _ rfl _ _ qa.1 Try.underlying37 rfl Try.size_snap) | (go_simp <;> rfl)); simp only [Act.put, List.setIfInBounds_toArray, List.set_cons_zero, List.set_cons_succ])
                    | (refine wpT_skip rfl rfl ?_; simp only [Act.put, List.setIfInBounds_toArray, List.set_cons_zero, List.set_cons_succ])
                  refine wpT_op rfl ?_
                  go_wp2_with (fail)
                  (refine ⟨?_, ?_⟩; focus (intro kz hk hk2; rintro ⟨qa, qb⟩; first | (exfalso; simp at hk2; omega) | exact ⟨qa, qb⟩ | (refine ⟨fun h => absurd h (by omega), ?_⟩; first | exact qb | (exact qa)) | (refine ⟨fun h => ?_, ?_⟩; (have qa := qa h); all_goals (first | exact qa | exact qb | (exact qa)))))
                  refine wpT_op rfl ?_
                  go_wp2_with ((go_at_call 27; refine (hE.out _ (Fr.refl (fun _ => False) wr).drew).mono ?_; rintro e w7 ⟨rfl, f7⟩))
                  (refine ⟨?_, ?_⟩; focus (intro kz hk hk2; rintro ⟨qa, qb⟩; first | (exfalso; simp at hk2; omega) | exact ⟨qa, qb⟩ | (refine ⟨fun h => absurd h (by omega), ?_⟩; first | exact qb | (exact ⟨range_fr qa.1 f7 (fun h => h), cell_fr qa.2 f7 (fun h => h)⟩)) | (refine ⟨fun h => ?_, ?_⟩; (have qa := qa h); all_goals (first | exact qa | exact qb | (exact ⟨range_fr qa.1 f7 (fun h => h), cell_fr qa.2 f7 (fun h => h)⟩)))))
                  have F7 := (Fr.refl (fun _ => False) wr).drew.trans f7 (fun _ h _ => h)
                  have q7 := range_fr q0 F7 (fun h => h)
                  have kt7 := cell_fr kt F7 (fun h => h)
                  repeat
                    first
                    | (refine wpT_pure rfl rfl rfl ?_; apply Exists.intro; refine ⟨?_, ?_⟩; intro w; ((go_simp <;> rfl)); simp only [Act.put, List.setIfInBounds_toArray, List.set_cons_zero, List.set_cons_succ])
                    | (refine wpT_take 24 rfl rfl (by decide +kernel) ⟨fun _ => ⟨q7, kt7⟩, trivial⟩ ?_; apply Exists.intro; refine ⟨?_, ?_⟩; intro w hw; (have qa := hw.1 (Nat.le_refl _); have qb := hw.2); ((go_simp <;> rfl)); simp only [Act.put, List.setIfInBounds_toArray, List.set_cons_zero, List.set_cons_succ])
                    | (refine wpT_skip rfl rfl ?_; simp only [Act.put, List.setIfInBounds_toArray, List.set_cons_zero, List.set_cons_succ])
                  try simp only [hb2, bne, Bool.not_false]
                  repeat
                    first
                    | (refine wpT_pure rfl rfl rfl ?_; apply Exists.intro; refine ⟨?_, ?_⟩; intro w; ((go_simp <;> rfl)); simp only [Act.put, List.setIfInBounds_toArray, List.set_cons_zero, List.set_cons_succ])
                    | (refine wpT_take 24 rfl rfl (by decide +kernel) ⟨fun _ => ⟨q7, kt7⟩, trivial⟩ ?_; apply Exists.intro; refine ⟨?_, ?_⟩; intro w hw; (have qa := hw.1 (Nat.le_refl _); have qb := hw.2); ((go_simp <;> rfl)); simp only [Act.put, List.setIfInBounds_toArray, List.set_cons_zero, List.set_cons_succ])
                    | (refine wpT_skip rfl rfl ?_; simp only [Act.put, List.setIfInBounds_toArray, List.set_cons_zero, List.set_cons_succ])
                  refine wpT_op rfl ?_
                  go_wp2_with ((go_at_call 25; refine (hSt.out _ F7).mono ?_; rintro e w8 ⟨rfl, f8⟩))
                  (refine ⟨?_, ?_⟩; focus (intro kz hk hk2; rintro ⟨qa, qb⟩; first | (exfalso; simp at hk2; omega) | exact ⟨qa, qb⟩ | (refine ⟨fun h => absurd h (by omega), ?_⟩; first | exact qb | (exact ⟨range_fr qa.1 f8 (fun h => h), cell_fr qa.2 f8 (fun h => h)⟩)) | (refine ⟨fun h => ?_, ?_⟩; (have qa := qa h); all_goals (first | exact qa | exact qb | (exact ⟨range_fr qa.1 f8 (fun h => h), cell_fr qa.2 f8 (fun h => h)⟩)))))
                  have F8 := F7.trans f8 (fun _ h _ => h)
                  have q8 := range_fr q0 F8 (fun h => h)
                  have kt8 := cell_fr kt F8 (fun h => h)
                  repeat
                    first
                    | (refine wpT_pure rfl rfl rfl ?_; apply Exists.intro; refine ⟨?_, ?_⟩; intro w; ((go_simp <;> rfl)); simp only [Act.put, List.setIfInBounds_toArray, List.set_cons_zero, List.set_cons_succ])
                    | (refine wpT_take 24 rfl rfl (by decide +kernel) ⟨fun _ => ⟨q8, kt8⟩, trivial⟩ ?_; apply Exists.intro; refine ⟨?_, ?_⟩; intro w hw; (have qa := hw.1 (Nat.le_refl _); have qb := hw.2); ((go_simp <;> rfl)); simp only [Act.put, List.setIfInBounds_toArray, List.set_cons_zero, List.set_cons_succ])
                    | (refine wpT_skip rfl rfl ?_; simp only [Act.put, List.setIfInBounds_toArray, List.set_cons_zero, List.set_cons_succ])
                  refine wpT_nil ?_
                  have HI := hid (INV.out.fre F8)
                  have HT := hid (TK.out.fr F8 (fun _ h => h.elim))
                  clear hE q0 kt q7 kt7 f7 F7 hSt f8 F8 q8 kt8
                  go_wp2_with (fail)
                  go_roundw
                  case rel => exact ⟨t + 1, by omega, by go_num, HI.out, HT.out⟩
                  case measure => simp [intOf]; omega

            · obtain rfl : t = 128 := by omega
              go_wp2_with (fail)
              go_ret
              exact ⟨rfl, inv.fr⟩
end Go.Proofs.Ytbkebjgoaeddjaa
namespace Go.Proofs.Ytbkebjgoaeddjaa.clockEnds
open Go.ChangeShapes Go.WideShapes Go.ChangeAt Go.RowKit Go.VB Go.VB.Clk
set_option maxHeartbeats 400000 in
set_option maxRecDepth 100000 in
theorem lifted (os : Os) (started : os.Started) (H : Type) (enc : TypeId × Value → H) :
    ReturnsInHanded {} Try.checked os 11 .any (Rows.clockEndsSpec.pre6 enc Try.prog Try.f11 Rows.clockEndsRow.domain false) (Rows.clockEndsSpec.post enc Try.prog Try.f11 false true false false) := by
  refine returnsInHanded_of_change (C := Try.checked) own started (by kernel_rfl) Try.func11
    (ChangeSpec.witness6 (enc := enc) (C := Try.checked) false ⟨#[], #[.slice none 0 0, .int .i64 0], []⟩ 8 (by kernel_rfl) (by kernel_rfl) (by kernel_rfl) (by kernel_rfl)) ?_
  intro W base args ds gs before hval0 hW hcnd _
  have hval : ∀ (j : Nat) t v, Try.f11.params[j]? = some t → args[j]? = some v → Value.okWide Try.prog W .any base t v := hval0
  have hW' := hW
  obtain ⟨p, q, hA0, hV, rfl, hfz, hnd⟩ := hW
  have hA : DataW.TrodAll enc Try.prog W 0 (fun _ => true) true Try.f11.params.toList args.toList ds p := hA0
  rw [Try.params11] at hA hval
  obtain ⟨v0, vs0, d0, ds0, p0, q0, hargs, rfl, rfl, h0, r0⟩ := trodAll_cons hA
  obtain ⟨v1, vs1, d1, ds1, p1, q1, rfl, rfl, rfl, h1, r1⟩ := trodAll_cons r0
  obtain ⟨rfl, rfl, rfl⟩ := trodAll_nil r1
  obtain rfl : args = #[v0, v1] := by cases args; simp_all
  obtain ⟨rfl, rfl⟩ := trodVars_none hV
  clear hA0 hval0
  refine Calls.mono (R := fun e w' => e = .returned (.bool true) ∧ Fr (fun _ => False) W w') ?_ fun e W' ⟨he, hf⟩ => ⟨_, he, post_law sound (by decide +kernel) rfl rfl (ht := Try.underlying4) (by rfl) hW' hf⟩
  obtain ⟨L, sL, lL⟩ := open_calls (hval 0 46 v0 rfl rfl) h0
  obtain ⟨a1, rfl, -, -, w1⟩ := open_int Try.underlying3 (hval 1 3 v1 rfl rfl) h1
  exact ClockEnds_walk L a1 W v0 sL lL
theorem proved : Rows.ClockEndsSaid :=
  OpenClaim.holds_of_wide 11 Try.f11 rfl rfl rfl rfl rfl rfl rfl ⟨rfl, rfl, rfl, rfl, rfl⟩ rfl rfl rfl rfl rfl (by kernel_rfl) Try.func11 (by kernel_rfl)
    (of_decide_eq_true (by kernel_rfl)) (by unfold Func.isWrapper; first | (rw [if_pos (by decide +kernel)]; kernel_rfl) | (rw [if_neg (by decide +kernel)]; exact ⟨rfl, rfl⟩))
    (fun os started H enc _ => lifted os started H enc)
end Go.Proofs.Ytbkebjgoaeddjaa.clockEnds
