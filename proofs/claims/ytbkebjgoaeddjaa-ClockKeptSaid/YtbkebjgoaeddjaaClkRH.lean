import Derived.Test.YtbkebjgoaeddjaaClkRG
/- The clock under test: Read. -/
set_option linter.unusedVariables false
namespace Go.Proofs.Ytbkebjgoaeddjaa
open Go.RowKit Go.VB Go.VB.Clk
attribute [local go_sem] Oper.semAt_some
/-- what Read of the clock leaves -/
def RdC (l : List UInt8) (w : World) (e : Ending) (w' : World) : Prop :=
  (CM.read l = none ∧ e = .returned (.tuple #[.pointer none, .int .i64 11]) ∧ Fr (fun _ => False) w w') ∨
  (∃ d m, CM.read l = some m ∧ e = .returned (.tuple #[.pointer (some ⟨d, 0, none⟩), .int .i64 0]) ∧ w.heap.size ≤ d ∧ CRep w' d m ∧ Fr (fun _ => False) w w')
theorem zc2 (a b : Nat) : (Try.zeroCells84.setIfInBounds 1 (.int .i64 b)).setIfInBounds 0 (.int .i64 a) = (ccells (CM.raw a b)).toArray := by
  have h : Try.zeroCells84.toList = ccells ⟨0, 0, fun _ => 0, fun _ => 0⟩ := by kernel_rfl
  apply Array.toList_inj.1
  rw [Array.toList_setIfInBounds, Array.toList_setIfInBounds, h]
  rfl
structure RcInv (w W : World) (l : List UInt8) (b0 p q : Nat) (m : CM) : Prop where
  fr : Fr (fun _ => False) w W
  s : Blk W b0 [.string (bs l)] 9
  r2 : Blk W (b0 + 1) [.pointer none] 27
  r3 : Blk W (b0 + 1 + 1) [.int .i64 0] 29
  c : CRep W p m
  qq : Blk W q [.pointer (some ⟨p, 0, none⟩)] 27
  far : b0 + 1 + 1 < p ∧ b0 + 1 + 1 < q ∧ p ≠ q ∧ w.heap.size = b0
theorem RcInv.fre {w W W' : World} {l : List UInt8} {b0 p q : Nat} {m : CM} (h : RcInv w W l b0 p q m) (f : Fr (fun _ => False) W W') : RcInv w W' l b0 p q m :=
  ⟨h.fr.trans f (fun _ h _ => h), h.s.fr f (fun h => h), h.r2.fr f (fun h => h), h.r3.fr f (fun h => h), CRep.fr h.c f (fun h => h), h.qq.fr f (fun h => h), h.far⟩
structure RdJ (w : World) (l : List UInt8) (b0 p q ib bc low next : Nat) (i : Nat) (W : World) : Prop where
  inv : RcInv w W l b0 p q (CM.fill l low next i)
  ix : Blk W ib [.int .i64 (2 + 2 * i : Nat)] 3
  cl : Blk W bc [.pointer (some ⟨p, 0, none⟩)] 27
  ok : ∀ k, k < i → okAt low l k = true
  far : p < ib ∧ q < ib ∧ ib < bc
structure RdE (w : World) (l : List UInt8) (b0 : Nat) (W : World) : Prop where
  no : CM.read l = none
  fr : Fr (fun _ => False) w W
  c1 : W.cell? ⟨b0 + 1, 0, none⟩ = some (.pointer none)
  c2 : W.cell? ⟨b0 + 1 + 1, 0, none⟩ = some (.int .i64 11)
  lt : w.heap.size = b0
theorem RdJ.keep {w W W' : World} {l : List UInt8} {b0 p q ib bc low next i z : Nat} (h : RdJ w l b0 p q ib bc low next i W) (f : Fr (fun k => k = z ∨ k = z + 1) W W') (hz : bc < z) : RdJ w l b0 p q ib bc low next i W' := by
  obtain ⟨h1, h2, h3, h4, h5⟩ := h
  obtain ⟨a1, a2, a3, a4, a5, a6, a7⟩ := h1
  exact ⟨⟨a1.trans f (fun k hk hl => by omega), a2.fr f (by omega), a3.fr f (by omega), a4.fr f (by omega), CRep.fr a5 f (by omega), a6.fr f (by omega), a7⟩, h2.fr f (by omega), h3.fr f (by omega), h4, h5⟩
theorem RdE.keep {w W W' : World} {l : List UInt8} {b0 z : Nat} (h : RdE w l b0 W) (f : Fr (fun k => k = z ∨ k = z + 1) W W') (hz : b0 + 1 + 1 < z) : RdE w l b0 W' := by
  obtain ⟨h1, h2, h3, h4, h5⟩ := h
  exact ⟨h1, h2.trans f (fun k hk hl => by omega), cell_fr h3 f (by omega), cell_fr h4 f (by omega), h5⟩
theorem rd_results {W : World} {b : Nat} {a : Option Addr} {e : Int} {tmps : Array Value} (h1 : tmps.getD 2 undef = .pointer (some ⟨b + 1, 0, none⟩)) (h2 : tmps.getD 3 undef = .pointer (some ⟨b + 1 + 1, 0, none⟩)) (c1 : W.cell? ⟨b + 1, 0, none⟩ = some (.pointer a)) (c2 : W.cell? ⟨b + 1 + 1, 0, none⟩ = some (.int .i64 e)) :
    (results Try.f43 tmps).run Try.prog W = .ok (.tuple #[.pointer a, .int .i64 e]) W := by
  rw [Array.getD_eq_getD_getElem?] at h1 h2
  simp [results, Try.results43, go_sem, h1, h2, c1, c2]
theorem two_cells {W : World} {b : Nat} {x y : Value} {t t' : TypeId} (h1 : Blk W (b + 1) [x] t) (h2 : Blk W (b + 1 + 1) [y] t') (u v : Value) :
    ((W.setCell ⟨b + 1, 0, none⟩ u).setCell ⟨b + 1 + 1, 0, none⟩ v).cell? ⟨b + 1, 0, none⟩ = some u ∧ ((W.setCell ⟨b + 1, 0, none⟩ u).setCell ⟨b + 1 + 1, 0, none⟩ v).cell? ⟨b + 1 + 1, 0, none⟩ = some v :=
  ⟨((h1.set 0 u).set_ne ⟨b + 1 + 1, 0, none⟩ v (by simp)).cell 0, ((h2.set_ne ⟨b + 1, 0, none⟩ u (by simp)).set 0 v).cell 0⟩
set_option maxRecDepth 20000 in
set_option maxHeartbeats 16000000 in
theorem Read_go (l : List UInt8) (w : World) (hlen : l.length ≤ 1000000) : Calls Try.prog 43 #[.string (bs l)] w (RdC l w) := by
  have e1 := bs_size l
  have HB := hid (bs_get l)
  have hb0 := byt_lt l 0
  have hb1 := byt_lt l 1
  have FA := hid ((((Fr.refl (fun _ => False) w).alloc (.cells #[Value.string (bs l)] 9)).alloc (.cells #[Value.pointer none] 27)).alloc (.cells #[Value.int .i64 0] 29))
  have Y1 := ((Blk.new w [Value.string (bs l)] 9).alloc (.cells #[Value.pointer none] 27)).alloc (.cells #[Value.int .i64 0] 29)
  have Y2 := (Blk.new (w.alloc (.cells #[Value.string (bs l)] 9)) [Value.pointer none] 27).alloc (.cells #[Value.int .i64 0] 29)
  have Y3 := Blk.new ((w.alloc (.cells #[Value.string (bs l)] 9)).alloc (.cells #[Value.pointer none] 27)) [Value.int .i64 0] 29
  rw [World.size_alloc] at Y2 Y3
  rw [World.size_alloc] at Y3
  refine calls_of_wp_marks Try.func43 rfl ?_
  simp only [Try.ntmps43, List.size_toArray, List.length_cons, List.length_nil, Nat.reduceAdd, Nat.reduceSub, Array.replicate_succ, Array.replicate_zero, List.push_toArray, List.append_toArray, List.nil_append, List.cons_append]
  go_upto_region 1 with (fail)
  obtain ⟨W, hW⟩ : ∃ W, W = ((w.alloc (.cells #[Value.string (bs l)] 9)).alloc (.cells #[Value.pointer none] 27)).alloc (.cells #[Value.int .i64 0] 29) := ⟨_, rfl⟩
  have A1 : Blk W w.heap.size [Value.string (bs l)] 9 := by rw [hW]; exact Y1
  have A2 : Blk W (w.heap.size + 1) [Value.pointer none] 27 := by rw [hW]; exact Y2
  have A3 : Blk W (w.heap.size + 1 + 1) [Value.int .i64 0] 29 := by rw [hW]; exact Y3
  rw [← hW] at FA ⊢
  clear hW Y1 Y2 Y3
  have HA1 := hid A1
  have HA2 := hid A2
  have HA3 := hid A3
  have s1 : W.cell? ⟨w.heap.size, 0, none⟩ = some (.string (bs l)) := A1.cell 0
  have p2 : W.cell? ⟨w.heap.size + 1, 0, none⟩ = some (.pointer none) := A2.cell 0
  have p3 : W.cell? ⟨w.heap.size + 1 + 1, 0, none⟩ = some (.int .i64 0) := A3.cell 0
  have z2 := A2.frozen 0
  have z3 := A3.frozen 0
  clear A1 A2 A3
  -- the way out with ErrForm
  have OUT : Hid (∀ W' : World, Fr (fun _ => False) W W' → CM.read l = none → Fr (fun _ => False) w (((W'.setCell ⟨w.heap.size + 1, 0, none⟩ (.pointer none)).setCell ⟨w.heap.size + 1 + 1, 0, none⟩ (.int .i64 11)))) := hid (fun W' f _ => (((FA.out.trans f (fun _ h _ => h)).setCell ⟨w.heap.size + 1, 0, none⟩ (.pointer none) (fun h => absurd h (by simp))).setCell ⟨w.heap.size + 1 + 1, 0, none⟩ (.int .i64 11) (fun h => absurd h (by simp; omega))))
  generalize hb : w.heap.size = b0 at *
  have HBB := hid hb
  clear hb
  by_cases h2 : 2 ≤ l.length
  case neg =>
    have HN := hid (read_head (l := l) (by simp [rdHead, h2]))
    go_wp2_with (fail)
    obtain ⟨c1, c2⟩ := two_cells HA2.out HA3.out (.pointer none) (.int .i64 11)
    exact leavesM_none (rd_results rfl rfl c1 c2) (.inl ⟨HN.out, rfl, OUT.out W (Fr.refl _ _) HN.out⟩)
  have g0 : ((bs l)[0]'(by omega)).toNat = byt l 0 := HB.out 0 (by omega)
  have g1 : ((bs l)[1]'(by omega)).toNat = byt l 1 := HB.out 1 (by omega)
  have HO0 := hid (fun w => on_go (byt l 0 : Nat) w)
  have HO1 := hid (fun w => on_go (byt l 1 : Nat) w)
  have HRN := hid (show on (byt l 0 : Nat) = false ∨ on (byt l 1 : Nat) = false → CM.read l = none from fun h => read_head (by unfold rdHead; rcases h with h | h <;> simp [h]))
  have HRY := hid (show on (byt l 0 : Nat) = true → on (byt l 1 : Nat) = true → rdHead l = true from fun h h' => by unfold rdHead; simp [h, h', h2])
  have HRL := hid (fun (h : rdLen l = false) => read_len h)
  have HRA := hid (fun i hi h => read_at (l := l) (i := i) hi h)
  have HYES := hid (fun h0 h1 h => read_yes (l := l) h0 h1 h)
  have hon0 := fun h => on_iff (k := byt l 0) |>.1 h
  have hon1 := fun h => on_iff (k := byt l 1) |>.1 h
  have HRD : Hid (rdLen l = (decide (steps (byt l 1) (byt l 0) ≤ 60) && decide (l.length = 2 + 2 * steps (byt l 1) (byt l 0)))) := hid rfl
  cases h0 : on (byt l 0 : Nat) with
  | false =>
    have HN := hid (HRN.out (.inl h0))
    rw [h0] at HO0
    clear h0 hon0 hon1 HRN HRY
    generalize byt l 0 = next at *
    generalize byt l 1 = low at *
    go_wp2_with (first
      | (go_at_call 52; ((with_reducible refine (HO0.out _).mono ?_); rintro e w' ⟨rfl, rfl⟩)))
    obtain ⟨c1, c2⟩ := two_cells HA2.out HA3.out (.pointer none) (.int .i64 11)
    exact leavesM_none (rd_results rfl rfl c1 c2) (.inl ⟨HN.out, rfl, OUT.out _ (Fr.refl _ _) HN.out⟩)
  | true =>
    cases h1 : on (byt l 1 : Nat) with
    | false =>
      have HN := hid (HRN.out (.inr h1))
      rw [h0] at HO0
      rw [h1] at HO1
      clear h0 h1 hon0 hon1 HRN HRY
      generalize byt l 0 = next at *
      generalize byt l 1 = low at *
      go_wp2_with (first
        | (go_at_call 52; ((with_reducible refine (HO0.out _).mono ?_); rintro e w' ⟨rfl, rfl⟩))
        | (go_at_call 52; ((with_reducible refine (HO1.out _).mono ?_); rintro e w' ⟨rfl, rfl⟩)))
      obtain ⟨c1, c2⟩ := two_cells HA2.out HA3.out (.pointer none) (.int .i64 11)
      exact leavesM_none (rd_results rfl rfl c1 c2) (.inl ⟨HN.out, rfl, OUT.out _ (Fr.refl _ _) HN.out⟩)
    | true =>
      have HHD := hid (HRY.out h0 h1)
      have n0 := hon0 h0
      have n1 := hon1 h1
      rw [h0] at HO0
      rw [h1] at HO1
      clear h0 h1 hon0 hon1 HRN HRY
      generalize byt l 0 = next at *
      generalize byt l 1 = low at *
      have HST := hid (fun w => steps_go low next w (by omega) (by omega) (by omega))
      have hz := zc2 low next
      have i0 : (0 : Int) ≤ next := by omega
      have i1 : (next : Int) < 256 := by omega
      have i2 : (0 : Int) ≤ low := by omega
      have i3 : (low : Int) < 256 := by omega
      have i4 : (1 : Int) < (l.length : Int) := by omega
      have i5 : (0 : Int) < (l.length : Int) := by omega
      have i6 : 1 < l.length := by omega
      have i7 : 0 < l.length := by omega
      go_wp2_with (first
        | (go_at_call 52; ((with_reducible refine (HO0.out _).mono ?_); rintro e w' ⟨rfl, rfl⟩))
        | (go_at_call 52; ((with_reducible refine (HO1.out _).mono ?_); rintro e w' ⟨rfl, rfl⟩)))
      have w0 : IntKind.i64.wrap (next : Int) = next := IntWalk.i64_in _ (by omega)
      have w1 : IntKind.i64.wrap (low : Int) = low := IntWalk.i64_in _ (by omega)
      clear p2 p3 z2 z3
      refine wp_region_scrQ (.take 0 (.take 1 (.take 2 (.take 3 (.take 4 (.take 5 (.two 6 8 (.two 7 8 (.op 8 (.op 9 .done)) (.op 7 (.op 9 .done))) (.op 6 (.op 7 (.op 9 .done)))))))))) (fun kz w => (kz ≤ 9 → w.cell? ⟨b0, 0, none⟩ = some (.string (bs l))) ∧ True) (by kernel_rfl) (by kernel_rfl) ?_
      repeat
        first
        | (refine wpT_pure rfl rfl rfl ?_; apply Exists.intro; refine ⟨?_, ?_⟩; intro w; ((go_simp <;> rfl)); simp only [Act.put, List.setIfInBounds_toArray, List.set_cons_zero, List.set_cons_succ])
        | (refine wpT_take 9 rfl rfl (by decide +kernel) ⟨fun _ => s1, trivial⟩ ?_; apply Exists.intro; refine ⟨?_, ?_⟩; intro w hw; (have qa := hw.1 (Nat.le_refl _); have qb := hw.2); ((go_simp <;> rfl)); simp only [Act.put, List.setIfInBounds_toArray, List.set_cons_zero, List.set_cons_succ])
        | (refine wpT_skip rfl rfl ?_; simp only [Act.put, List.setIfInBounds_toArray, List.set_cons_zero, List.set_cons_succ])
      refine wpT_two ?h1 (wpT_op rfl ?h3)
      case' h1 =>
        skip
        refine wpT_op rfl ?_
        go_wp2_with (fail)
        (refine ⟨?_, ?_⟩; focus (intro kz hk hk2 hh; first | (exfalso; simp at hk2; omega) | exact hh | exact (fun h => absurd h (by omega)) | obtain ⟨qa, qb⟩ := hh; first | exact ⟨qa, qb⟩ | (refine ⟨fun h => absurd h (by omega), ?_⟩; first | exact qb | (exact qa)) | (refine ⟨fun h => ?_, ?_⟩; (have qa := qa h); all_goals (first | exact qa | exact qb | (exact qa)))))
        refine wpT_two ?k1 ?k2
        case' k1 =>
          skip
          refine wpT_op rfl ?_
          go_wp2_with (fail)
          (refine ⟨?_, ?_⟩; focus (intro kz hk hk2 hh; first | (exfalso; simp at hk2; omega) | exact hh | exact (fun h => absurd h (by omega)) | obtain ⟨qa, qb⟩ := hh; first | exact ⟨qa, qb⟩ | (refine ⟨fun h => absurd h (by omega), ?_⟩; first | exact qb | (exact cell_fr qa ((Fr.refl (fun _ => False) _).alloc _) (fun h => h))) | (refine ⟨fun h => ?_, ?_⟩; (have qa := qa h); all_goals (first | exact qa | exact qb | (exact cell_fr qa ((Fr.refl (fun _ => False) _).alloc _) (fun h => h))))))
          refine wpT_op rfl ?_
          go_wp2_with (fail)
          (refine ⟨?_, ?_⟩; focus (intro kz hk hk2 hh; first | (exfalso; simp at hk2; omega) | exact hh | exact (fun h => absurd h (by omega)) | obtain ⟨qa, qb⟩ := hh; first | exact ⟨qa, qb⟩ | (refine ⟨fun h => absurd h (by omega), ?_⟩; first | exact qb | (exact cell_fr qa ((Fr.refl (fun _ => False) _).alloc _) (fun h => h))) | (refine ⟨fun h => ?_, ?_⟩; (have qa := qa h); all_goals (first | exact qa | exact qb | (exact cell_fr qa ((Fr.refl (fun _ => False) _).alloc _) (fun h => h))))))
          refine wpT_op rfl ?_
          go_wp2_with (fail)
          (refine ⟨?_, ?_⟩; focus (intro kz hk hk2 hh; first | (exfalso; simp at hk2; omega) | exact hh | exact (fun h => absurd h (by omega)) | obtain ⟨qa, qb⟩ := hh; first | exact ⟨qa, qb⟩ | (refine ⟨fun h => absurd h (by omega), ?_⟩; first | exact qb | (exact qa)) | (refine ⟨fun h => ?_, ?_⟩; (have qa := qa h); all_goals (first | exact qa | exact qb | (exact qa)))))
          refine wpT_nil (quietX_normal ?_)
          have HI := hid (show RcInv w (((W.alloc (.cells (ccells (CM.raw low next)).toArray 84)).alloc (.cells #[Value.pointer (some ⟨W.heap.size, 0, none⟩)] 27)).drew) l b0 W.heap.size (W.heap.size + 1) (CM.raw low next) from ⟨((FA.out.alloc _).alloc _).drew, ((HA1.out.alloc _).alloc _).drew, ((HA2.out.alloc _).alloc _).drew, ((HA3.out.alloc _).alloc _).drew, (show CRep _ W.heap.size (CM.raw low next) from ((Blk.new W (ccells (CM.raw low next)) 84).alloc (.cells #[Value.pointer (some ⟨W.heap.size, 0, none⟩)] 27)).drew), (by have h := (Blk.new (W.alloc (.cells (ccells (CM.raw low next)).toArray 84)) [Value.pointer (some ⟨W.heap.size, 0, none⟩)] 27).drew; rwa [World.size_alloc] at h), by have h1 := Blk.lt HA3.out; have h2 := HBB.out; refine ⟨?_, ?_, ?_, h2⟩ <;> omega⟩)
          generalize ((W.alloc (.cells (ccells (CM.raw low next)).toArray 84)).alloc (.cells #[Value.pointer (some ⟨W.heap.size, 0, none⟩)] 27)).drew = W1 at *
          obtain ⟨p, hp⟩ : ∃ p, p = W.heap.size := ⟨_, rfl⟩
          obtain ⟨q, hq⟩ : ∃ q, q = (W.heap.size + 1) := ⟨_, rfl⟩
          rw [← hq, ← hp] at HI ⊢
          clear hp hq
        case' k2 =>
          skip
          refine wpT_op rfl ?_
          go_wp2_with (fail)
          (refine ⟨?_, ?_⟩; focus (intro kz hk hk2 hh; first | (exfalso; simp at hk2; omega) | exact hh | exact (fun h => absurd h (by omega)) | obtain ⟨qa, qb⟩ := hh; first | exact ⟨qa, qb⟩ | (refine ⟨fun h => absurd h (by omega), ?_⟩; first | exact qb | (exact cell_fr qa ((Fr.refl (fun _ => False) _).alloc _) (fun h => h))) | (refine ⟨fun h => ?_, ?_⟩; (have qa := qa h); all_goals (first | exact qa | exact qb | (exact cell_fr qa ((Fr.refl (fun _ => False) _).alloc _) (fun h => h))))))
          refine wpT_op rfl ?_
          go_wp2_with (fail)
          (refine ⟨?_, ?_⟩; focus (intro kz hk hk2 hh; first | (exfalso; simp at hk2; omega) | exact hh | exact (fun h => absurd h (by omega)) | obtain ⟨qa, qb⟩ := hh; first | exact ⟨qa, qb⟩ | (refine ⟨fun h => absurd h (by omega), ?_⟩; first | exact qb | (exact cell_fr qa ((Fr.refl (fun _ => False) _).alloc _) (fun h => h))) | (refine ⟨fun h => ?_, ?_⟩; (have qa := qa h); all_goals (first | exact qa | exact qb | (exact cell_fr qa ((Fr.refl (fun _ => False) _).alloc _) (fun h => h))))))
          refine wpT_op rfl ?_
          go_wp2_with (fail)
          (refine ⟨?_, ?_⟩; focus (intro kz hk hk2 hh; first | (exfalso; simp at hk2; omega) | exact hh | exact (fun h => absurd h (by omega)) | obtain ⟨qa, qb⟩ := hh; first | exact ⟨qa, qb⟩ | (refine ⟨fun h => absurd h (by omega), ?_⟩; first | exact qb | (exact qa)) | (refine ⟨fun h => ?_, ?_⟩; (have qa := qa h); all_goals (first | exact qa | exact qb | (exact qa)))))
          refine wpT_nil (quietX_normal ?_)
          have HI := hid (show RcInv w (((W.alloc (.cells #[Value.pointer (some ⟨W.heap.size + 1, 0, none⟩)] 27)).alloc (.cells (ccells (CM.raw low next)).toArray 84)).drew) l b0 (W.heap.size + 1) W.heap.size (CM.raw low next) from ⟨((FA.out.alloc _).alloc _).drew, ((HA1.out.alloc _).alloc _).drew, ((HA2.out.alloc _).alloc _).drew, ((HA3.out.alloc _).alloc _).drew, (show CRep _ (W.heap.size + 1) (CM.raw low next) from by have h := (Blk.new (W.alloc (.cells #[Value.pointer (some ⟨W.heap.size + 1, 0, none⟩)] 27)) (ccells (CM.raw low next)) 84).drew; rwa [World.size_alloc] at h), ((Blk.new W [Value.pointer (some ⟨W.heap.size + 1, 0, none⟩)] 27).alloc (.cells (ccells (CM.raw low next)).toArray 84)).drew, by have h1 := Blk.lt HA3.out; have h2 := HBB.out; refine ⟨?_, ?_, ?_, h2⟩ <;> omega⟩)
          generalize ((W.alloc (.cells #[Value.pointer (some ⟨W.heap.size + 1, 0, none⟩)] 27)).alloc (.cells (ccells (CM.raw low next)).toArray 84)).drew = W1 at *
          obtain ⟨p, hp⟩ : ∃ p, p = (W.heap.size + 1) := ⟨_, rfl⟩
          obtain ⟨q, hq⟩ : ∃ q, q = W.heap.size := ⟨_, rfl⟩
          rw [← hp, ← hq] at HI ⊢
          clear hp hq
      case' h3 =>
        skip
        go_wp2_with (fail)
        refine ⟨fun kz h1 h2 hh => (by first | exact ⟨fun h => cell_fr (hh.1 h) ((Fr.refl (fun _ => False) _).alloc _) (fun h => h), trivial⟩ | exact fun h => cell_fr (hh h) ((Fr.refl (fun _ => False) _).alloc _) (fun h => h)), ?_⟩
        refine wpT_op rfl ?_
        go_wp2_with (fail)
        (refine ⟨?_, ?_⟩; focus (intro kz hk hk2 hh; first | (exfalso; simp at hk2; omega) | exact hh | exact (fun h => absurd h (by omega)) | obtain ⟨qa, qb⟩ := hh; first | exact ⟨qa, qb⟩ | (refine ⟨fun h => absurd h (by omega), ?_⟩; first | exact qb | (exact qa)) | (refine ⟨fun h => ?_, ?_⟩; (have qa := qa h); all_goals (first | exact qa | exact qb | (exact qa)))))
        refine wpT_op rfl ?_
        go_wp2_with (fail)
        (refine ⟨?_, ?_⟩; focus (intro kz hk hk2 hh; first | (exfalso; simp at hk2; omega) | exact hh | exact (fun h => absurd h (by omega)) | obtain ⟨qa, qb⟩ := hh; first | exact ⟨qa, qb⟩ | (refine ⟨fun h => absurd h (by omega), ?_⟩; first | exact qb | (exact cell_fr qa ((Fr.refl (fun _ => False) _).alloc _) (fun h => h))) | (refine ⟨fun h => ?_, ?_⟩; (have qa := qa h); all_goals (first | exact qa | exact qb | (exact cell_fr qa ((Fr.refl (fun _ => False) _).alloc _) (fun h => h))))))
        refine wpT_op rfl ?_
        go_wp2_with (fail)
        (refine ⟨?_, ?_⟩; focus (intro kz hk hk2 hh; first | (exfalso; simp at hk2; omega) | exact hh | exact (fun h => absurd h (by omega)) | obtain ⟨qa, qb⟩ := hh; first | exact ⟨qa, qb⟩ | (refine ⟨fun h => absurd h (by omega), ?_⟩; first | exact qb | (exact qa)) | (refine ⟨fun h => ?_, ?_⟩; (have qa := qa h); all_goals (first | exact qa | exact qb | (exact qa)))))
        refine wpT_nil (quietX_normal ?_)
        have HI := hid (show RcInv w (((W.alloc (.cells #[Value.pointer (some ⟨W.heap.size + 1, 0, none⟩)] 27)).alloc (.cells (ccells (CM.raw low next)).toArray 84)).drew) l b0 (W.heap.size + 1) W.heap.size (CM.raw low next) from ⟨((FA.out.alloc _).alloc _).drew, ((HA1.out.alloc _).alloc _).drew, ((HA2.out.alloc _).alloc _).drew, ((HA3.out.alloc _).alloc _).drew, (show CRep _ (W.heap.size + 1) (CM.raw low next) from by have h := (Blk.new (W.alloc (.cells #[Value.pointer (some ⟨W.heap.size + 1, 0, none⟩)] 27)) (ccells (CM.raw low next)) 84).drew; rwa [World.size_alloc] at h), ((Blk.new W [Value.pointer (some ⟨W.heap.size + 1, 0, none⟩)] 27).alloc (.cells (ccells (CM.raw low next)).toArray 84)).drew, by have h1 := Blk.lt HA3.out; have h2 := HBB.out; refine ⟨?_, ?_, ?_, h2⟩ <;> omega⟩)
        generalize ((W.alloc (.cells #[Value.pointer (some ⟨W.heap.size + 1, 0, none⟩)] 27)).alloc (.cells (ccells (CM.raw low next)).toArray 84)).drew = W1 at *
        obtain ⟨p, hp⟩ : ∃ p, p = (W.heap.size + 1) := ⟨_, rfl⟩
        obtain ⟨q, hq⟩ : ∃ q, q = W.heap.size := ⟨_, rfl⟩
        rw [← hp, ← hq] at HI ⊢
        clear hp hq
      · skip
        clear HA1 HA2 HA3 FA OUT s1 w0 w1 hz i4 i5 i6 i7
        have l0 := CRep.low HI.out.c
        have l1 := CRep.next HI.out.c
        have lq : W1.cell? ⟨q, 0, none⟩ = some (.pointer (some ⟨p, 0, none⟩)) := HI.out.qq.cell 0
        have s1 : W1.cell? ⟨b0, 0, none⟩ = some (.string (bs l)) := HI.out.s.cell 0
        go_wp2_with (fail)
        refine wp_region_scrQ (.take 0 (.take 1 (.take 2 (.take 3 (.take 4 (.take 5 (.take 6 (.take 7 (.op 8 (.take 9 .done)))))))))) (fun kz w => (kz ≤ 10 → w.cell? ⟨q, 0, none⟩ = some (.pointer (some ⟨p, 0, none⟩)) ∧ w.cell? ⟨p, 0, none⟩ = some (.int .i64 low) ∧ w.cell? ⟨p, 1, none⟩ = some (.int .i64 next)) ∧ True) (by kernel_rfl) (by kernel_rfl) ?_
        repeat
          first
          | (refine wpT_pure rfl rfl rfl ?_; apply Exists.intro; refine ⟨?_, ?_⟩; intro w; ((go_simp <;> rfl)); simp only [Act.put, List.setIfInBounds_toArray, List.set_cons_zero, List.set_cons_succ])
          | (refine wpT_take 10 rfl rfl (by decide +kernel) ⟨fun _ => ⟨lq, l0, l1⟩, trivial⟩ ?_; apply Exists.intro; refine ⟨?_, ?_⟩; intro w hw; (have qa := hw.1 (Nat.le_refl _); have qb := hw.2); ((go_simp <;> rfl)); simp only [Act.put, List.setIfInBounds_toArray, List.set_cons_zero, List.set_cons_succ])
          | (refine wpT_skip rfl rfl ?_; simp only [Act.put, List.setIfInBounds_toArray, List.set_cons_zero, List.set_cons_succ])
        refine wpT_op rfl ?_
        go_wp2_with ((go_at_call 54; refine (HST.out _).mono ?_; rintro e w' ⟨rfl, rfl⟩))
        (refine ⟨?_, ?_⟩; focus (intro kz hk hk2 hh; first | (exfalso; simp at hk2; omega) | exact hh | exact (fun h => absurd h (by omega)) | obtain ⟨qa, qb⟩ := hh; first | exact ⟨qa, qb⟩ | (refine ⟨fun h => absurd h (by omega), ?_⟩; first | exact qb | (exact qa)) | (refine ⟨fun h => ?_, ?_⟩; (have qa := qa h); all_goals (first | exact qa | exact qb | (exact qa)))))
        repeat
          first
          | (refine wpT_pure rfl rfl rfl ?_; apply Exists.intro; refine ⟨?_, ?_⟩; intro w; ((go_simp <;> rfl)); simp only [Act.put, List.setIfInBounds_toArray, List.set_cons_zero, List.set_cons_succ])
          | (refine wpT_take 10 rfl rfl (by decide +kernel) ⟨fun _ => ⟨lq, l0, l1⟩, trivial⟩ ?_; apply Exists.intro; refine ⟨?_, ?_⟩; intro w hw; (have qa := hw.1 (Nat.le_refl _); have qb := hw.2); ((go_simp <;> rfl)); simp only [Act.put, List.setIfInBounds_toArray, List.set_cons_zero, List.set_cons_succ])
          | (refine wpT_skip rfl rfl ?_; simp only [Act.put, List.setIfInBounds_toArray, List.set_cons_zero, List.set_cons_succ])
        refine wpT_nil (quietX_normal ?_)
        have HI2 := hid (HI.out.fre ((Fr.refl (fun _ => False) W1).drew))
        have s2 : W1.drew.cell? ⟨b0, 0, none⟩ = some (.string (bs l)) := s1
        clear HI l0 l1 lq s1
        generalize W1.drew = W2 at *
        have hsteps : steps low next = (CM.raw low next).n := rfl
        generalize hn : steps low next = n at *
        have hz2 := HI2.out.r2.frozen 0
        have hz3 := HI2.out.r3.frozen 0
        have hp2 : W2.cell? ⟨b0 + 1, 0, none⟩ = some (.pointer none) := HI2.out.r2.cell 0
        have hp3 : W2.cell? ⟨b0 + 1 + 1, 0, none⟩ = some (.int .i64 0) := HI2.out.r3.cell 0
        cases hrl : rdLen l with
        | false =>
          have HN := hid (HRL.out hrl)
          rw [hrl] at HRD
          have hrd : ¬ (n ≤ 60 ∧ l.length = 2 + 2 * n) := by have := HRD.out; simpa using this.symm
          clear hrl HRL hsteps
          have hc : 60 < n ∨ (n ≤ 60 ∧ ((l.length : Int) != 2 + 2 * (n : Int)) = true) := by
            by_cases h : n ≤ 60
            · refine .inr ⟨h, ?_⟩
              simp only [bne_iff_ne, ne_eq]
              omega
            · exact .inl (by omega)
          clear hrd
          obtain ⟨c1, c2⟩ := two_cells HI2.out.r2 HI2.out.r3 (.pointer none) (.int .i64 11)
          have HC1 := hid c1
          have HC2 := hid c2
          have HFF := hid ((HI2.out.fr.setCell ⟨b0 + 1, 0, none⟩ (.pointer none) (fun h => absurd (show b0 + 1 < w.heap.size from h) (by have := HI2.out.far; omega))).setCell ⟨b0 + 1 + 1, 0, none⟩ (.int .i64 11) (fun h => absurd (show b0 + 1 + 1 < w.heap.size from h) (by have := HI2.out.far; omega)))
          clear c1 c2
          rcases hc with h | ⟨h, h'⟩
          all_goals
            go_wp2_with (fail)
            exact leavesM_none (rd_results rfl rfl HC1.out HC2.out) (.inl ⟨HN.out, rfl, HFF.out⟩)
        | true =>
          rw [hrl] at HRD
          have hrd : n ≤ 60 ∧ l.length = 2 + 2 * n := by have := HRD.out; simpa using this.symm
          obtain ⟨hn60, hln⟩ := hrd
          have hne : ((l.length : Int) != 2 + 2 * (n : Int)) = false := by simp only [bne_eq_false_iff_eq]; omega
          have h3 : 2 + 2 * n ≤ l.length := by omega
          have h4 : l.length ≤ 2 + 2 * n := by omega
          have HYES := hid (HYES.out HHD.out hrl)
          have HNN := hid hn
          have HSE := hid (fun w i => steps_go low (xat low i) w (by omega) (by have := xat_on low i; omega) (by have := xat_on low i; omega))
          have HSA := hid (fun w (a : Nat) (ha : 3 ≤ a ∧ a ≤ 127) => steps_go low a w (by omega) (by omega) (by omega))
          have lq : W2.cell? ⟨q, 0, none⟩ = some (.pointer (some ⟨p, 0, none⟩)) := HI2.out.qq.cell 0
          have f3 := (Fr.refl (fun _ => False) W2).alloc (.cells #[Value.int .i64 2] 3)
          have f4 := f3.alloc (.cells [Value.pointer (some ⟨p, 0, none⟩)].toArray 27)
          have d1 := (Blk.new W2 [Value.int .i64 2] 3).alloc (.cells [Value.pointer (some ⟨p, 0, none⟩)].toArray 27)
          have d2 := Blk.new (W2.alloc (.cells #[Value.int .i64 2] 3)) [Value.pointer (some ⟨p, 0, none⟩)] 27
          rw [World.size_alloc] at d2
          have hpl := Blk.lt HI2.out.c
          have hql := Blk.lt HI2.out.qq
          have J0 : RdJ w l b0 p q W2.heap.size (W2.heap.size + 1) low next 0 ((W2.alloc (.cells #[Value.int .i64 2] 3)).alloc (.cells [Value.pointer (some ⟨p, 0, none⟩)].toArray 27)) := ⟨HI2.out.fre f4, d1, d2, fun k hk => absurd hk (by omega), by omega⟩
          have HJ0 := hid J0
          clear hrl HRL hsteps hln hn HHD HRD hz2 hz3 hp2 hp3 f3 f4 d1 d2 J0 HI2
          go_wp2_with (first | (go_at_call 57; refine (all_go _ _).mono ?_; rintro e w9 ⟨rfl, rfl⟩))
          obtain ⟨W4, hW4⟩ : ∃ W4, W4 = (W2.alloc (.cells #[Value.int .i64 2] 3)).alloc (.cells [Value.pointer (some ⟨p, 0, none⟩)].toArray 27) := ⟨_, rfl⟩
          have hz4 : W4.heap.size = W2.heap.size + 2 := by rw [hW4]; simp
          rw [← hW4] at HJ0 ⊢
          clear hW4 s2 lq
          generalize W2.heap.size = ib at *
          refine wp_range_J (n := n) (fun i => .int .i64 (xat low i)) (fun i W => RdJ w l b0 p q ib (ib + 1) low next i W) (fun W => RdE w l b0 W) ?a11 rfl (fun _ _ => rfl) rfl (fun i W1 W2 h f => h.keep f (by omega)) (fun W1 W2 h f => h.keep f (by have := HJ0.out.inv.far; omega)) ?it1 HJ0.out ?asg1 ?round1 ?fin1 ?ret1
          case asg1 =>
            intro i W1 K hK
            gi_wp2
            exact hK
          case it1 =>
            rw [← HNN.out, hz4]
            refine all_it (ib + 2 + 1) (ib + 1) p low next n1 n0 _ fun i W1 h => ⟨h.cl.cell 0, ?_, ?_⟩
            · have := CRep.low h.inv.c; rwa [(fill_low l low next i).1] at this
            · have := CRep.next h.inv.c; rwa [(fill_low l low next i).2] at this
          case ret1 =>
            intro W1 hE hD
            rw [hz4] at hD
            have HE := hid hE
            have HDD := hid hD
            clear hE hD
            go_wp2_with (fail)
            rw [hz4]
            have hbb := HJ0.out.inv.far
            have FP := (Fr.refl (fun k => k = ib + 2) W1).putObj (ib + 2) (.deferred none) (fun _ => rfl)
            exact leavesM_one HDD.out (rd_results rfl rfl (cell_fr HE.out.c1 FP (by omega)) (cell_fr HE.out.c2 FP (by omega))) (.inl ⟨HE.out.no, rfl, HE.out.fr.trans FP (fun k hk hl => by omega)⟩)
          case fin1 =>
            intro W1 hJ hD
            rw [hz4] at hD
            have hz2 := hJ.inv.r2.frozen 0
            have hz3 := hJ.inv.r3.frozen 0
            have hp2 : W1.cell? ⟨b0 + 1, 0, none⟩ = some (.pointer none) := hJ.inv.r2.cell 0
            have hp3 : W1.cell? ⟨b0 + 1 + 1, 0, none⟩ = some (.int .i64 0) := hJ.inv.r3.cell 0
            have lq : W1.cell? ⟨q, 0, none⟩ = some (.pointer (some ⟨p, 0, none⟩)) := hJ.inv.qq.cell 0
            have hbb := hJ.inv.far
            have hff := hJ.far
            obtain ⟨c1, c2⟩ := two_cells hJ.inv.r2 hJ.inv.r3 (.pointer (some ⟨p, 0, none⟩)) (.int .i64 0)
            have F2 := (((Fr.refl (fun k => k = b0 + 1 ∨ k = b0 + 1 + 1) W1).setCell ⟨b0 + 1, 0, none⟩ (.pointer (some ⟨p, 0, none⟩)) (fun _ => .inl rfl)).setCell ⟨b0 + 1 + 1, 0, none⟩ (.int .i64 0) (fun _ => .inr rfl))
            have HD5 := hid ((F2.blk (ib + 2) (Array.getElem?_eq_some_iff.1 hD).1 (by omega)).trans hD)
            have F3 := (F2.mono (T := fun k => k = b0 + 1 ∨ k = b0 + 1 + 1 ∨ k = ib + 2) (fun k h _ => by omega)).putObj (ib + 2) (.deferred none) (fun _ => .inr (.inr rfl))
            have FP := (Fr.refl (fun k => k = ib + 2) ((W1.setCell ⟨b0 + 1, 0, none⟩ (.pointer (some ⟨p, 0, none⟩))).setCell ⟨b0 + 1 + 1, 0, none⟩ (.int .i64 0))).putObj (ib + 2) (.deferred none) (fun _ => rfl)
            have C1 := hid (cell_fr c1 FP (by omega))
            have C2 := hid (cell_fr c2 FP (by omega))
            have HC := hid (CRep.fr hJ.inv.c F3 (by omega))
            have HF := hid (hJ.inv.fr.trans F3 (fun k hk hl => by omega))
            have hy := hid (HYES.out hJ.ok)
            clear c1 c2 F2 F3 FP hD hJ
            go_wp2_with (fail)
            rw [hz4]
            exact leavesM_one HD5.out (rd_results rfl rfl C1.out C2.out) (.inr ⟨p, _, hy.out, rfl, by omega, HC.out, HF.out⟩)
          case round1 =>
            rw [hz4]
            intro i Wb hJ hi hsb
            have hx := xat_on low i
            have hxs := steps_xat n1 (i := i) (by omega)
            have s1 : Wb.cell? ⟨b0, 0, none⟩ = some (.string (bs l)) := hJ.inv.s.cell 0
            have ki : Wb.cell? ⟨ib, 0, none⟩ = some (.int .i64 (2 + 2 * i : Nat)) := hJ.ix.cell 0
            have lq : Wb.cell? ⟨q, 0, none⟩ = some (.pointer (some ⟨p, 0, none⟩)) := hJ.inv.qq.cell 0
            have l0 := CRep.low hJ.inv.c
            rw [(fill_low l low next i).1] at l0
            have b2 := byt_lt l (2 + 2 * i)
            have b3 := byt_lt l (3 + 2 * i)
            have hdef : okAt low l i = (decide (1 ≤ byt l (2 + 2 * i)) && decide (byt l (2 + 2 * i) ≤ 4) && fineB low (byt l (3 + 2 * i)) i) := rfl
            have HRAJ := hid (HRA.out i hi)
            rw [hdef] at HRAJ
            have HYJ := hid (fun h => show ∀ k, k < i + 1 → okAt low l k = true from fun k hk => by
              by_cases e : k = i
              · rw [e, hdef]; exact h
              · exact hJ.ok k (by omega))
            have hfill : CM.fill l low next (i + 1) = { CM.fill l low next i with st := put (CM.fill l low next i).st (xat low i) (byt l (2 + 2 * i)), ab := putN (CM.fill l low next i).ab (xat low i) (byt l (3 + 2 * i)) } := rfl
            have HFI := hid hfill
            have HJ := hid hJ
            have HSI := hid (HSE.out · i)
            rw [hxs] at HSI
            obtain ⟨k, hk⟩ : ∃ k, k = 2 + 2 * i := ⟨_, rfl⟩
            have HK := hid hk
            have k1 : (0 : Int) ≤ k := by omega
            have k2 : (k : Int) < l.length := by omega
            have k3 : (k : Int) + 1 < l.length := by omega
            have k4 : k < l.length := by omega
            have k5 : k + 1 < l.length := by omega
            have g2 : ((bs l)[k]'(e1 ▸ k4)).toNat = byt l (2 + 2 * i) := by rw [← hk]; exact HB.out k (e1 ▸ k4)
            have g3 : ((bs l)[k + 1]'(e1 ▸ k5)).toNat = byt l (3 + 2 * i) := by rw [show 3 + 2 * i = k + 1 by omega]; exact HB.out (k + 1) (e1 ▸ k5)
            have w3 : IntKind.i64.wrap ((k : Int) + 1) = k + 1 := IntWalk.i64_in _ (by omega)
            have ki : Wb.cell? ⟨ib, 0, none⟩ = some (.int .i64 k) := by rw [hk]; exact ki
            clear hdef hfill hJ hk
            generalize byt l (2 + 2 * i) = sv at *
            generalize byt l (3 + 2 * i) = av at *
            generalize hxx : xat low i = x at *
            have HXX := hid hxx
            clear hxx
            have j1 : (0 : Int) ≤ sv := by omega
            have j2 : (sv : Int) < 256 := by omega
            have j3 : (0 : Int) ≤ av := by omega
            have j4 : (av : Int) < 256 := by omega
            have w4 : IntKind.i64.wrap (sv : Int) = sv := IntWalk.i64_in _ (by omega)
            have w5 : IntKind.i64.wrap (av : Int) = av := IntWalk.i64_in _ (by omega)
            gi_wp2_with (fail)
            refine wpIn_region_scr (.take 0 (.take 1 (.take 2 (.take 3 (.take 4 (.take 5 (.take 6 (.take 7 (.take 8 (.take 9 (.take 10 .done))))))))))) (fun kz w => (kz ≤ 11 → w.cell? ⟨b0, 0, none⟩ = some (.string (bs l)) ∧ w.cell? ⟨ib, 0, none⟩ = some (.int .i64 k)) ∧ True) (by kernel_rfl) (by kernel_rfl) (by intro c a d v w h; cases d <;> exact h) (by decide +kernel) (by rintro ⟨_, _, h⟩; exact h) ?_
            repeat
              first
              | (refine wpT_pure rfl rfl rfl ?_; apply Exists.intro; refine ⟨?_, ?_⟩; intro w; ((go_simp <;> rfl)); simp only [Act.put, List.setIfInBounds_toArray, List.set_cons_zero, List.set_cons_succ])
              | (refine wpT_take 11 rfl rfl (by decide +kernel) ⟨fun _ => ⟨s1, ki⟩, trivial⟩ ?_; apply Exists.intro; refine ⟨?_, ?_⟩; intro w hw; (have qa := hw.1 (Nat.le_refl _); have qb := hw.2); ((go_simp <;> rfl)); simp only [Act.put, List.setIfInBounds_toArray, List.set_cons_zero, List.set_cons_succ])
              | (refine wpT_skip rfl rfl ?_; simp only [Act.put, List.setIfInBounds_toArray, List.set_cons_zero, List.set_cons_succ])
            refine wpT_nil ?_
            clear w3 w4 w5 k3 k4 k5 g2 g3 ki s1
            gi_wp2_with (fail)
            have HJ2 := hid (HJ.out.keep (z := ib + 2) ((Fr.refl (fun k => k = ib + 2 ∨ k = ib + 2 + 1) Wb).drew) (by omega))
            have FB := hid ((Fr.refl (fun k => k ≠ ib + 2 ∧ k ≠ ib + 2 + 1) Wb).drew)
            have lq : Wb.drew.cell? ⟨q, 0, none⟩ = some (.pointer (some ⟨p, 0, none⟩)) := lq
            have l0 : Wb.drew.cell? ⟨p, 0, none⟩ = some (.int .i64 low) := l0
            generalize Wb.drew = W5 at *
            have HOA := hid (fun w => on_go (av : Nat) w)
            have hfin : fineB low av i = (decide (av = 0) || (on av && decide (steps low av < i))) := rfl
            rw [hfin] at HRAJ HYJ
            have honA := fun h => on_iff (k := av) |>.1 h
            have HSA := hid (fun (h : 3 ≤ av ∧ av ≤ 127) w => HSA.out w av h)
            generalize steps low av = st at *
            clear hfin
            by_cases hall : (decide (1 ≤ sv) && decide (sv ≤ 4) && (decide (av = 0) || (on av && decide (st < i)))) = true
            case neg =>
              have HN := hid (HRAJ.out (by simpa using hall))
              have hp2 : W5.cell? ⟨b0 + 1, 0, none⟩ = some (.pointer none) := HJ2.out.inv.r2.cell 0
              have hp3 : W5.cell? ⟨b0 + 1 + 1, 0, none⟩ = some (.int .i64 0) := HJ2.out.inv.r3.cell 0
              have hz2 := HJ2.out.inv.r2.frozen 0
              have hz3 := HJ2.out.inv.r3.frozen 0
              have hbb := HJ2.out.inv.far
              have hff := HJ2.out.far
              obtain ⟨c1, c2⟩ := two_cells HJ2.out.inv.r2 HJ2.out.inv.r3 (.pointer none) (.int .i64 11)
              have F2 := ((Fr.refl (fun k => k = b0 + 1 ∨ k = b0 + 1 + 1) W5).setCell ⟨b0 + 1, 0, none⟩ (.pointer none) (fun _ => .inl rfl)).setCell ⟨b0 + 1 + 1, 0, none⟩ (.int .i64 11) (fun _ => .inr rfl)
              have HE := hid (show RdE w l b0 ((W5.setCell ⟨b0 + 1, 0, none⟩ (.pointer none)).setCell ⟨b0 + 1 + 1, 0, none⟩ (.int .i64 11)).drew from ⟨HN.out, (HJ2.out.inv.fr.trans F2 (fun k hk hl => by omega)).drew, c1, c2, hbb.2.2.2⟩)
              have HFX := hid ((FB.out.trans F2 (fun k hk hl => by omega)).drew)
              clear c1 c2 F2 hbb hff
              by_cases hs1 : sv < 1
              · have hd1 : decide ((sv : Int) < 1) = true := by simp; omega
                clear hall
                refine wpIn_region_scr (.take 0 (.take 1 (.take 2 (.take 3 (.take 4 (.take 5 (.take 6 (.take 7 (.take 8 (.take 9 (.take 10 (.op 11 (.take 12 (.take 13 (.take 14 (.take 15 (.take 16 (.take 17 (.take 18 (.take 20 (.take 21 (.take 22 (.take 23 (.take 24 (.op 19 (.op 25 (.take 26 (.take 27 (.take 28 (.take 29 .done)))))))))))))))))))))))))))))) (fun kz w => (kz ≤ 30 → w.cell? ⟨q, 0, none⟩ = some (.pointer (some ⟨p, 0, none⟩)) ∧ w.cell? ⟨p, 0, none⟩ = some (.int .i64 low)) ∧ True) (by kernel_rfl) (by kernel_rfl) (by intro c a d v w h; cases d <;> exact h) (by decide +kernel) (by rintro ⟨_, _, h⟩; exact h) ?_
                repeat
                  first
                  | (refine wpT_pure rfl rfl rfl ?_; apply Exists.intro; refine ⟨?_, ?_⟩; intro w; ((go_simp <;> rfl)); simp only [Act.put, List.setIfInBounds_toArray, List.set_cons_zero, List.set_cons_succ])
                  | (refine wpT_take 30 rfl rfl (by decide +kernel) ⟨fun _ => ⟨lq, l0⟩, trivial⟩ ?_; apply Exists.intro; refine ⟨?_, ?_⟩; intro w hw; (have qa := hw.1 (Nat.le_refl _); have qb := hw.2); ((go_simp <;> rfl)); simp only [Act.put, List.setIfInBounds_toArray, List.set_cons_zero, List.set_cons_succ])
                  | (refine wpT_skip rfl rfl ?_; simp only [Act.put, List.setIfInBounds_toArray, List.set_cons_zero, List.set_cons_succ])
                refine wpT_op rfl ?_
                go_wp2_with ((go_at_call 52; refine (HOA.out _).mono ?_; rintro e w' ⟨rfl, rfl⟩))
                (refine ⟨?_, ?_⟩; focus (intro kz hk hk2 hh; first | (exfalso; simp at hk2; omega) | exact hh | exact (fun h => absurd h (by omega)) | obtain ⟨qa, qb⟩ := hh; first | exact ⟨qa, qb⟩ | (refine ⟨fun h => absurd h (by omega), ?_⟩; first | exact qb | (exact qa)) | (refine ⟨fun h => ?_, ?_⟩; (have qa := qa h); all_goals (first | exact qa | exact qb | (exact qa)))))
                repeat
                  first
                  | (refine wpT_pure rfl rfl rfl ?_; apply Exists.intro; refine ⟨?_, ?_⟩; intro w; ((go_simp <;> rfl)); simp only [Act.put, List.setIfInBounds_toArray, List.set_cons_zero, List.set_cons_succ])
                  | (refine wpT_take 30 rfl rfl (by decide +kernel) ⟨fun _ => ⟨lq, l0⟩, trivial⟩ ?_; apply Exists.intro; refine ⟨?_, ?_⟩; intro w hw; (have qa := hw.1 (Nat.le_refl _); have qb := hw.2); ((go_simp <;> rfl)); simp only [Act.put, List.setIfInBounds_toArray, List.set_cons_zero, List.set_cons_succ])
                  | (refine wpT_skip rfl rfl ?_; simp only [Act.put, List.setIfInBounds_toArray, List.set_cons_zero, List.set_cons_succ])
                refine wpT_op rfl ?_
                go_wp2_with ((go_at_call 54; refine (HSA.out _).mono ?_; rintro e w' ⟨rfl, rfl⟩))
                (refine ⟨?_, ?_⟩; focus (intro kz hk hk2 hh; first | (exfalso; simp at hk2; omega) | exact hh | exact (fun h => absurd h (by omega)) | obtain ⟨qa, qb⟩ := hh; first | exact ⟨qa, qb⟩ | (refine ⟨fun h => absurd h (by omega), ?_⟩; first | exact qb | (exact qa)) | (refine ⟨fun h => ?_, ?_⟩; (have qa := qa h); all_goals (first | exact qa | exact qb | (exact qa)))))
                refine wpT_op rfl ?_
                go_wp2_with ((go_at_call 54; refine (HSI.out _).mono ?_; rintro e w' ⟨rfl, rfl⟩))
                (refine ⟨?_, ?_⟩; focus (intro kz hk hk2 hh; first | (exfalso; simp at hk2; omega) | exact hh | exact (fun h => absurd h (by omega)) | obtain ⟨qa, qb⟩ := hh; first | exact ⟨qa, qb⟩ | (refine ⟨fun h => absurd h (by omega), ?_⟩; first | exact qb | (exact qa)) | (refine ⟨fun h => ?_, ?_⟩; (have qa := qa h); all_goals (first | exact qa | exact qb | (exact qa)))))
                repeat
                  first
                  | (refine wpT_pure rfl rfl rfl ?_; apply Exists.intro; refine ⟨?_, ?_⟩; intro w; ((go_simp <;> rfl)); simp only [Act.put, List.setIfInBounds_toArray, List.set_cons_zero, List.set_cons_succ])
                  | (refine wpT_take 30 rfl rfl (by decide +kernel) ⟨fun _ => ⟨lq, l0⟩, trivial⟩ ?_; apply Exists.intro; refine ⟨?_, ?_⟩; intro w hw; (have qa := hw.1 (Nat.le_refl _); have qb := hw.2); ((go_simp <;> rfl)); simp only [Act.put, List.setIfInBounds_toArray, List.set_cons_zero, List.set_cons_succ])
                  | (refine wpT_skip rfl rfl ?_; simp only [Act.put, List.setIfInBounds_toArray, List.set_cons_zero, List.set_cons_succ])
                refine wpT_nil ?_
                gi_wp2_with (fail)
                exact ⟨HE.out, HFX.out⟩
              · have hd1 : decide ((sv : Int) < 1) = false := by simp; omega
                by_cases hs4 : 4 < sv
                · have hd4 : decide (4 < (sv : Int)) = true := by simp; omega
                  clear hall
                  refine wpIn_region_scr (.take 0 (.take 1 (.take 2 (.take 3 (.take 4 (.take 5 (.take 6 (.take 7 (.take 8 (.take 9 (.take 10 (.op 11 (.take 12 (.take 13 (.take 14 (.take 15 (.take 16 (.take 17 (.take 18 (.take 20 (.take 21 (.take 22 (.take 23 (.take 24 (.op 19 (.op 25 (.take 26 (.take 27 (.take 28 (.take 29 .done)))))))))))))))))))))))))))))) (fun kz w => (kz ≤ 30 → w.cell? ⟨q, 0, none⟩ = some (.pointer (some ⟨p, 0, none⟩)) ∧ w.cell? ⟨p, 0, none⟩ = some (.int .i64 low)) ∧ True) (by kernel_rfl) (by kernel_rfl) (by intro c a d v w h; cases d <;> exact h) (by decide +kernel) (by rintro ⟨_, _, h⟩; exact h) ?_
                  repeat
                    first
                    | (refine wpT_pure rfl rfl rfl ?_; apply Exists.intro; refine ⟨?_, ?_⟩; intro w; ((go_simp <;> rfl)); simp only [Act.put, List.setIfInBounds_toArray, List.set_cons_zero, List.set_cons_succ])
                    | (refine wpT_take 30 rfl rfl (by decide +kernel) ⟨fun _ => ⟨lq, l0⟩, trivial⟩ ?_; apply Exists.intro; refine ⟨?_, ?_⟩; intro w hw; (have qa := hw.1 (Nat.le_refl _); have qb := hw.2); ((go_simp <;> rfl)); simp only [Act.put, List.setIfInBounds_toArray, List.set_cons_zero, List.set_cons_succ])
                    | (refine wpT_skip rfl rfl ?_; simp only [Act.put, List.setIfInBounds_toArray, List.set_cons_zero, List.set_cons_succ])
                  refine wpT_op rfl ?_
                  go_wp2_with ((go_at_call 52; refine (HOA.out _).mono ?_; rintro e w' ⟨rfl, rfl⟩))
                  (refine ⟨?_, ?_⟩; focus (intro kz hk hk2 hh; first | (exfalso; simp at hk2; omega) | exact hh | exact (fun h => absurd h (by omega)) | obtain ⟨qa, qb⟩ := hh; first | exact ⟨qa, qb⟩ | (refine ⟨fun h => absurd h (by omega), ?_⟩; first | exact qb | (exact qa)) | (refine ⟨fun h => ?_, ?_⟩; (have qa := qa h); all_goals (first | exact qa | exact qb | (exact qa)))))
                  repeat
                    first
                    | (refine wpT_pure rfl rfl rfl ?_; apply Exists.intro; refine ⟨?_, ?_⟩; intro w; ((go_simp <;> rfl)); simp only [Act.put, List.setIfInBounds_toArray, List.set_cons_zero, List.set_cons_succ])
                    | (refine wpT_take 30 rfl rfl (by decide +kernel) ⟨fun _ => ⟨lq, l0⟩, trivial⟩ ?_; apply Exists.intro; refine ⟨?_, ?_⟩; intro w hw; (have qa := hw.1 (Nat.le_refl _); have qb := hw.2); ((go_simp <;> rfl)); simp only [Act.put, List.setIfInBounds_toArray, List.set_cons_zero, List.set_cons_succ])
                    | (refine wpT_skip rfl rfl ?_; simp only [Act.put, List.setIfInBounds_toArray, List.set_cons_zero, List.set_cons_succ])
                  refine wpT_op rfl ?_
                  go_wp2_with ((go_at_call 54; refine (HSA.out _).mono ?_; rintro e w' ⟨rfl, rfl⟩))
                  (refine ⟨?_, ?_⟩; focus (intro kz hk hk2 hh; first | (exfalso; simp at hk2; omega) | exact hh | exact (fun h => absurd h (by omega)) | obtain ⟨qa, qb⟩ := hh; first | exact ⟨qa, qb⟩ | (refine ⟨fun h => absurd h (by omega), ?_⟩; first | exact qb | (exact qa)) | (refine ⟨fun h => ?_, ?_⟩; (have qa := qa h); all_goals (first | exact qa | exact qb | (exact qa)))))
                  refine wpT_op rfl ?_
                  go_wp2_with ((go_at_call 54; refine (HSI.out _).mono ?_; rintro e w' ⟨rfl, rfl⟩))
                  (refine ⟨?_, ?_⟩; focus (intro kz hk hk2 hh; first | (exfalso; simp at hk2; omega) | exact hh | exact (fun h => absurd h (by omega)) | obtain ⟨qa, qb⟩ := hh; first | exact ⟨qa, qb⟩ | (refine ⟨fun h => absurd h (by omega), ?_⟩; first | exact qb | (exact qa)) | (refine ⟨fun h => ?_, ?_⟩; (have qa := qa h); all_goals (first | exact qa | exact qb | (exact qa)))))
                  repeat
                    first
                    | (refine wpT_pure rfl rfl rfl ?_; apply Exists.intro; refine ⟨?_, ?_⟩; intro w; ((go_simp <;> rfl)); simp only [Act.put, List.setIfInBounds_toArray, List.set_cons_zero, List.set_cons_succ])
                    | (refine wpT_take 30 rfl rfl (by decide +kernel) ⟨fun _ => ⟨lq, l0⟩, trivial⟩ ?_; apply Exists.intro; refine ⟨?_, ?_⟩; intro w hw; (have qa := hw.1 (Nat.le_refl _); have qb := hw.2); ((go_simp <;> rfl)); simp only [Act.put, List.setIfInBounds_toArray, List.set_cons_zero, List.set_cons_succ])
                    | (refine wpT_skip rfl rfl ?_; simp only [Act.put, List.setIfInBounds_toArray, List.set_cons_zero, List.set_cons_succ])
                  refine wpT_nil ?_
                  gi_wp2_with (fail)
                  exact ⟨HE.out, HFX.out⟩
                · have hd4 : decide (4 < (sv : Int)) = false := by simp; omega
                  have ha0 : av ≠ 0 := by
                    intro e
                    apply hall
                    simp [e]
                    omega
                  have hav : ((av : Int) != 0) = true := by simp; omega
                  cases ho : on (av : Int) with
                  | false =>
                    rw [ho] at HOA
                    clear hall ho honA
                    refine wpIn_region_scr (.take 0 (.take 1 (.take 2 (.take 3 (.take 4 (.take 5 (.take 6 (.take 7 (.take 8 (.take 9 (.take 10 (.op 11 (.take 12 (.take 13 (.take 14 (.take 15 (.take 16 (.take 17 (.take 18 (.take 20 (.take 21 (.take 22 (.take 23 (.take 24 (.op 19 (.op 25 (.take 26 (.take 27 (.take 28 (.take 29 .done)))))))))))))))))))))))))))))) (fun kz w => (kz ≤ 30 → w.cell? ⟨q, 0, none⟩ = some (.pointer (some ⟨p, 0, none⟩)) ∧ w.cell? ⟨p, 0, none⟩ = some (.int .i64 low)) ∧ True) (by kernel_rfl) (by kernel_rfl) (by intro c a d v w h; cases d <;> exact h) (by decide +kernel) (by rintro ⟨_, _, h⟩; exact h) ?_
                    repeat
                      first
                      | (refine wpT_pure rfl rfl rfl ?_; apply Exists.intro; refine ⟨?_, ?_⟩; intro w; ((go_simp <;> rfl)); simp only [Act.put, List.setIfInBounds_toArray, List.set_cons_zero, List.set_cons_succ])
                      | (refine wpT_take 30 rfl rfl (by decide +kernel) ⟨fun _ => ⟨lq, l0⟩, trivial⟩ ?_; apply Exists.intro; refine ⟨?_, ?_⟩; intro w hw; (have qa := hw.1 (Nat.le_refl _); have qb := hw.2); ((go_simp <;> rfl)); simp only [Act.put, List.setIfInBounds_toArray, List.set_cons_zero, List.set_cons_succ])
                      | (refine wpT_skip rfl rfl ?_; simp only [Act.put, List.setIfInBounds_toArray, List.set_cons_zero, List.set_cons_succ])
                    refine wpT_op rfl ?_
                    go_wp2_with ((go_at_call 52; refine (HOA.out _).mono ?_; rintro e w' ⟨rfl, rfl⟩))
                    (refine ⟨?_, ?_⟩; focus (intro kz hk hk2 hh; first | (exfalso; simp at hk2; omega) | exact hh | exact (fun h => absurd h (by omega)) | obtain ⟨qa, qb⟩ := hh; first | exact ⟨qa, qb⟩ | (refine ⟨fun h => absurd h (by omega), ?_⟩; first | exact qb | (exact qa)) | (refine ⟨fun h => ?_, ?_⟩; (have qa := qa h); all_goals (first | exact qa | exact qb | (exact qa)))))
                    repeat
                      first
                      | (refine wpT_pure rfl rfl rfl ?_; apply Exists.intro; refine ⟨?_, ?_⟩; intro w; ((go_simp <;> rfl)); simp only [Act.put, List.setIfInBounds_toArray, List.set_cons_zero, List.set_cons_succ])
                      | (refine wpT_take 30 rfl rfl (by decide +kernel) ⟨fun _ => ⟨lq, l0⟩, trivial⟩ ?_; apply Exists.intro; refine ⟨?_, ?_⟩; intro w hw; (have qa := hw.1 (Nat.le_refl _); have qb := hw.2); ((go_simp <;> rfl)); simp only [Act.put, List.setIfInBounds_toArray, List.set_cons_zero, List.set_cons_succ])
                      | (refine wpT_skip rfl rfl ?_; simp only [Act.put, List.setIfInBounds_toArray, List.set_cons_zero, List.set_cons_succ])
                    refine wpT_op rfl ?_
                    go_wp2_with ((go_at_call 54; refine (HSA.out _).mono ?_; rintro e w' ⟨rfl, rfl⟩))
                    (refine ⟨?_, ?_⟩; focus (intro kz hk hk2 hh; first | (exfalso; simp at hk2; omega) | exact hh | exact (fun h => absurd h (by omega)) | obtain ⟨qa, qb⟩ := hh; first | exact ⟨qa, qb⟩ | (refine ⟨fun h => absurd h (by omega), ?_⟩; first | exact qb | (exact qa)) | (refine ⟨fun h => ?_, ?_⟩; (have qa := qa h); all_goals (first | exact qa | exact qb | (exact qa)))))
                    refine wpT_op rfl ?_
                    go_wp2_with ((go_at_call 54; refine (HSI.out _).mono ?_; rintro e w' ⟨rfl, rfl⟩))
                    (refine ⟨?_, ?_⟩; focus (intro kz hk hk2 hh; first | (exfalso; simp at hk2; omega) | exact hh | exact (fun h => absurd h (by omega)) | obtain ⟨qa, qb⟩ := hh; first | exact ⟨qa, qb⟩ | (refine ⟨fun h => absurd h (by omega), ?_⟩; first | exact qb | (exact qa)) | (refine ⟨fun h => ?_, ?_⟩; (have qa := qa h); all_goals (first | exact qa | exact qb | (exact qa)))))
                    repeat
                      first
                      | (refine wpT_pure rfl rfl rfl ?_; apply Exists.intro; refine ⟨?_, ?_⟩; intro w; ((go_simp <;> rfl)); simp only [Act.put, List.setIfInBounds_toArray, List.set_cons_zero, List.set_cons_succ])
                      | (refine wpT_take 30 rfl rfl (by decide +kernel) ⟨fun _ => ⟨lq, l0⟩, trivial⟩ ?_; apply Exists.intro; refine ⟨?_, ?_⟩; intro w hw; (have qa := hw.1 (Nat.le_refl _); have qb := hw.2); ((go_simp <;> rfl)); simp only [Act.put, List.setIfInBounds_toArray, List.set_cons_zero, List.set_cons_succ])
                      | (refine wpT_skip rfl rfl ?_; simp only [Act.put, List.setIfInBounds_toArray, List.set_cons_zero, List.set_cons_succ])
                    refine wpT_nil ?_
                    gi_wp2_with (fail)
                    exact ⟨HE.out, HFX.out⟩
                  | true =>
                    have hst : i ≤ st := by
                      rw [ho] at hall
                      simp at hall
                      omega
                    have hd5 : decide ((i : Int) ≤ (st : Int)) = true := by simp; omega
                    rw [ho] at HOA
                    have HSA := hid (HSA.out (honA ho))
                    clear hall ho honA
                    refine wpIn_region_scr (.take 0 (.take 1 (.take 2 (.take 3 (.take 4 (.take 5 (.take 6 (.take 7 (.take 8 (.take 9 (.take 10 (.op 11 (.take 12 (.take 13 (.take 14 (.take 15 (.take 16 (.take 17 (.take 18 (.take 20 (.take 21 (.take 22 (.take 23 (.take 24 (.op 19 (.op 25 (.take 26 (.take 27 (.take 28 (.take 29 .done)))))))))))))))))))))))))))))) (fun kz w => (kz ≤ 30 → w.cell? ⟨q, 0, none⟩ = some (.pointer (some ⟨p, 0, none⟩)) ∧ w.cell? ⟨p, 0, none⟩ = some (.int .i64 low)) ∧ True) (by kernel_rfl) (by kernel_rfl) (by intro c a d v w h; cases d <;> exact h) (by decide +kernel) (by rintro ⟨_, _, h⟩; exact h) ?_
                    repeat
                      first
                      | (refine wpT_pure rfl rfl rfl ?_; apply Exists.intro; refine ⟨?_, ?_⟩; intro w; ((go_simp <;> rfl)); simp only [Act.put, List.setIfInBounds_toArray, List.set_cons_zero, List.set_cons_succ])
                      | (refine wpT_take 30 rfl rfl (by decide +kernel) ⟨fun _ => ⟨lq, l0⟩, trivial⟩ ?_; apply Exists.intro; refine ⟨?_, ?_⟩; intro w hw; (have qa := hw.1 (Nat.le_refl _); have qb := hw.2); ((go_simp <;> rfl)); simp only [Act.put, List.setIfInBounds_toArray, List.set_cons_zero, List.set_cons_succ])
                      | (refine wpT_skip rfl rfl ?_; simp only [Act.put, List.setIfInBounds_toArray, List.set_cons_zero, List.set_cons_succ])
                    refine wpT_op rfl ?_
                    go_wp2_with ((go_at_call 52; refine (HOA.out _).mono ?_; rintro e w' ⟨rfl, rfl⟩))
                    (refine ⟨?_, ?_⟩; focus (intro kz hk hk2 hh; first | (exfalso; simp at hk2; omega) | exact hh | exact (fun h => absurd h (by omega)) | obtain ⟨qa, qb⟩ := hh; first | exact ⟨qa, qb⟩ | (refine ⟨fun h => absurd h (by omega), ?_⟩; first | exact qb | (exact qa)) | (refine ⟨fun h => ?_, ?_⟩; (have qa := qa h); all_goals (first | exact qa | exact qb | (exact qa)))))
                    repeat
                      first
                      | (refine wpT_pure rfl rfl rfl ?_; apply Exists.intro; refine ⟨?_, ?_⟩; intro w; ((go_simp <;> rfl)); simp only [Act.put, List.setIfInBounds_toArray, List.set_cons_zero, List.set_cons_succ])
                      | (refine wpT_take 30 rfl rfl (by decide +kernel) ⟨fun _ => ⟨lq, l0⟩, trivial⟩ ?_; apply Exists.intro; refine ⟨?_, ?_⟩; intro w hw; (have qa := hw.1 (Nat.le_refl _); have qb := hw.2); ((go_simp <;> rfl)); simp only [Act.put, List.setIfInBounds_toArray, List.set_cons_zero, List.set_cons_succ])
                      | (refine wpT_skip rfl rfl ?_; simp only [Act.put, List.setIfInBounds_toArray, List.set_cons_zero, List.set_cons_succ])
                    refine wpT_op rfl ?_
                    go_wp2_with ((go_at_call 54; refine (HSA.out _).mono ?_; rintro e w' ⟨rfl, rfl⟩))
                    (refine ⟨?_, ?_⟩; focus (intro kz hk hk2 hh; first | (exfalso; simp at hk2; omega) | exact hh | exact (fun h => absurd h (by omega)) | obtain ⟨qa, qb⟩ := hh; first | exact ⟨qa, qb⟩ | (refine ⟨fun h => absurd h (by omega), ?_⟩; first | exact qb | (exact qa)) | (refine ⟨fun h => ?_, ?_⟩; (have qa := qa h); all_goals (first | exact qa | exact qb | (exact qa)))))
                    refine wpT_op rfl ?_
                    go_wp2_with ((go_at_call 54; refine (HSI.out _).mono ?_; rintro e w' ⟨rfl, rfl⟩))
                    (refine ⟨?_, ?_⟩; focus (intro kz hk hk2 hh; first | (exfalso; simp at hk2; omega) | exact hh | exact (fun h => absurd h (by omega)) | obtain ⟨qa, qb⟩ := hh; first | exact ⟨qa, qb⟩ | (refine ⟨fun h => absurd h (by omega), ?_⟩; first | exact qb | (exact qa)) | (refine ⟨fun h => ?_, ?_⟩; (have qa := qa h); all_goals (first | exact qa | exact qb | (exact qa)))))
                    repeat
                      first
                      | (refine wpT_pure rfl rfl rfl ?_; apply Exists.intro; refine ⟨?_, ?_⟩; intro w; ((go_simp <;> rfl)); simp only [Act.put, List.setIfInBounds_toArray, List.set_cons_zero, List.set_cons_succ])
                      | (refine wpT_take 30 rfl rfl (by decide +kernel) ⟨fun _ => ⟨lq, l0⟩, trivial⟩ ?_; apply Exists.intro; refine ⟨?_, ?_⟩; intro w hw; (have qa := hw.1 (Nat.le_refl _); have qb := hw.2); ((go_simp <;> rfl)); simp only [Act.put, List.setIfInBounds_toArray, List.set_cons_zero, List.set_cons_succ])
                      | (refine wpT_skip rfl rfl ?_; simp only [Act.put, List.setIfInBounds_toArray, List.set_cons_zero, List.set_cons_succ])
                    refine wpT_nil ?_
                    gi_wp2_with (fail)
                    exact ⟨HE.out, HFX.out⟩
            case pos =>
              have HYK := hid (HYJ.out hall)
              simp only [Bool.and_eq_true, decide_eq_true_eq, Bool.or_eq_true] at hall
              obtain ⟨⟨hs1, hs4⟩, hav⟩ := hall
              have hd1 : decide ((sv : Int) < 1) = false := by simp; omega
              have hd4 : decide (4 < (sv : Int)) = false := by simp; omega
              have hbb := HJ2.out.inv.far
              have hff := HJ2.out.far
              have hT : W5.drew.there p (2 + x * 2) 2 := Blk.there (Blk.drew HJ2.out.inv.c) _ _ (by rw [ccells_length]; omega)
              have B1 := Blk.set (Blk.drew HJ2.out.inv.c) (2 + x * 2) (.int .i64 sv)
              rw [ccells_setst _ x (by omega)] at B1
              have B2 := Blk.set B1 (2 + x * 2 + 1) (.int .i64 av)
              rw [ccells_setab _ x (by omega)] at B2
              have B2 : CRep (W5.drew.setCells p (2 + x * 2) [.int .i64 sv, .int .i64 av]) p (CM.fill l low next (i + 1)) := by rw [HFI.out]; exact B2
              have F2 := (Fr.refl (fun k => k = p) W5).drew.put p (2 + x * 2) [.int .i64 sv, .int .i64 av] (fun _ => rfl)
              have X2 := HJ2.out.ix.fr F2 (by omega)
              rw [← HK.out] at X2
              have ki : (W5.drew.setCells p (2 + x * 2) [.int .i64 sv, .int .i64 av]).cell? ⟨ib, 0, none⟩ = some (.int .i64 k) := X2.cell 0
              have zi := X2.frozen 0
              have F3 := (Fr.refl (fun k => k = ib) (W5.drew.setCells p (2 + x * 2) [.int .i64 sv, .int .i64 av])).setCell ⟨ib, 0, none⟩ (.int .i64 (k + 2)) (fun _ => rfl)
              have F5 : Fr (fun j => j = p ∨ j = ib) W5 ((W5.drew.setCells p (2 + x * 2) [.int .i64 sv, .int .i64 av]).setCell ⟨ib, 0, none⟩ (.int .i64 (k + 2))) := (F2.mono (fun j h _ => .inl h)).trans F3 (fun j h _ => .inr h)
              have X3 := X2.set 0 (.int .i64 (k + 2))
              have HEND := hid (show RdJ w l b0 p q ib (ib + 1) low next (i + 1) ((W5.drew.setCells p (2 + x * 2) [.int .i64 sv, .int .i64 av]).setCell ⟨ib, 0, none⟩ (.int .i64 (k + 2))) from
                ⟨⟨HJ2.out.inv.fr.trans F5 (fun k hk hl => by omega), HJ2.out.inv.s.fr F5 (by omega), HJ2.out.inv.r2.fr F5 (by omega), HJ2.out.inv.r3.fr F5 (by omega), CRep.fr B2 F3 (by omega), HJ2.out.inv.qq.fr F5 (by omega), hbb⟩, by
                  have e : ((2 + 2 * (i + 1) : Nat) : Int) = (k : Int) + 2 := by have := HK.out; omega
                  rw [e]; exact X3, HJ2.out.cl.fr F5 (by omega), HYK.out, hff⟩)
              have HEF := hid (FB.out.trans (F5.mono (T := fun k => k ≠ ib + 2 ∧ k ≠ ib + 2 + 1) (fun k hk hl => by omega)) (fun _ h _ => h))
              have y1 : (0 : Int) ≤ (x : Int) := by omega
              have y2 : (x : Int) < 128 := by omega
              clear B1 B2 F2 X2 F3 F5 X3 hbb hff HYJ HYK hs1 hs4
              by_cases ha0 : av = 0
              · have hav0 : ((av : Int) != 0) = false := by simp [ha0]
                clear hav honA ha0
                refine wpIn_region_scr (.take 0 (.take 1 (.take 2 (.take 3 (.take 4 (.take 5 (.take 6 (.take 7 (.take 8 (.take 9 (.take 10 (.op 11 (.take 12 (.take 13 (.take 14 (.take 15 (.take 16 (.take 17 (.take 18 (.take 20 (.take 21 (.take 22 (.take 23 (.take 24 (.op 19 (.op 25 (.take 26 (.take 27 (.take 28 (.take 29 .done)))))))))))))))))))))))))))))) (fun kz w => (kz ≤ 30 → w.cell? ⟨q, 0, none⟩ = some (.pointer (some ⟨p, 0, none⟩)) ∧ w.cell? ⟨p, 0, none⟩ = some (.int .i64 low)) ∧ True) (by kernel_rfl) (by kernel_rfl) (by intro c a d v w h; cases d <;> exact h) (by decide +kernel) (by rintro ⟨_, _, h⟩; exact h) ?_
                repeat
                  first
                  | (refine wpT_pure rfl rfl rfl ?_; apply Exists.intro; refine ⟨?_, ?_⟩; intro w; ((go_simp <;> rfl)); simp only [Act.put, List.setIfInBounds_toArray, List.set_cons_zero, List.set_cons_succ])
                  | (refine wpT_take 30 rfl rfl (by decide +kernel) ⟨fun _ => ⟨lq, l0⟩, trivial⟩ ?_; apply Exists.intro; refine ⟨?_, ?_⟩; intro w hw; (have qa := hw.1 (Nat.le_refl _); have qb := hw.2); ((go_simp <;> rfl)); simp only [Act.put, List.setIfInBounds_toArray, List.set_cons_zero, List.set_cons_succ])
                  | (refine wpT_skip rfl rfl ?_; simp only [Act.put, List.setIfInBounds_toArray, List.set_cons_zero, List.set_cons_succ])
                refine wpT_op rfl ?_
                go_wp2_with ((go_at_call 52; refine (HOA.out _).mono ?_; rintro e w' ⟨rfl, rfl⟩))
                (refine ⟨?_, ?_⟩; focus (intro kz hk hk2 hh; first | (exfalso; simp at hk2; omega) | exact hh | exact (fun h => absurd h (by omega)) | obtain ⟨qa, qb⟩ := hh; first | exact ⟨qa, qb⟩ | (refine ⟨fun h => absurd h (by omega), ?_⟩; first | exact qb | (exact qa)) | (refine ⟨fun h => ?_, ?_⟩; (have qa := qa h); all_goals (first | exact qa | exact qb | (exact qa)))))
                repeat
                  first
                  | (refine wpT_pure rfl rfl rfl ?_; apply Exists.intro; refine ⟨?_, ?_⟩; intro w; ((go_simp <;> rfl)); simp only [Act.put, List.setIfInBounds_toArray, List.set_cons_zero, List.set_cons_succ])
                  | (refine wpT_take 30 rfl rfl (by decide +kernel) ⟨fun _ => ⟨lq, l0⟩, trivial⟩ ?_; apply Exists.intro; refine ⟨?_, ?_⟩; intro w hw; (have qa := hw.1 (Nat.le_refl _); have qb := hw.2); ((go_simp <;> rfl)); simp only [Act.put, List.setIfInBounds_toArray, List.set_cons_zero, List.set_cons_succ])
                  | (refine wpT_skip rfl rfl ?_; simp only [Act.put, List.setIfInBounds_toArray, List.set_cons_zero, List.set_cons_succ])
                refine wpT_op rfl ?_
                go_wp2_with ((go_at_call 54; refine (HSA.out _).mono ?_; rintro e w' ⟨rfl, rfl⟩))
                (refine ⟨?_, ?_⟩; focus (intro kz hk hk2 hh; first | (exfalso; simp at hk2; omega) | exact hh | exact (fun h => absurd h (by omega)) | obtain ⟨qa, qb⟩ := hh; first | exact ⟨qa, qb⟩ | (refine ⟨fun h => absurd h (by omega), ?_⟩; first | exact qb | (exact qa)) | (refine ⟨fun h => ?_, ?_⟩; (have qa := qa h); all_goals (first | exact qa | exact qb | (exact qa)))))
                refine wpT_op rfl ?_
                go_wp2_with ((go_at_call 54; refine (HSI.out _).mono ?_; rintro e w' ⟨rfl, rfl⟩))
                (refine ⟨?_, ?_⟩; focus (intro kz hk hk2 hh; first | (exfalso; simp at hk2; omega) | exact hh | exact (fun h => absurd h (by omega)) | obtain ⟨qa, qb⟩ := hh; first | exact ⟨qa, qb⟩ | (refine ⟨fun h => absurd h (by omega), ?_⟩; first | exact qb | (exact qa)) | (refine ⟨fun h => ?_, ?_⟩; (have qa := qa h); all_goals (first | exact qa | exact qb | (exact qa)))))
                repeat
                  first
                  | (refine wpT_pure rfl rfl rfl ?_; apply Exists.intro; refine ⟨?_, ?_⟩; intro w; ((go_simp <;> rfl)); simp only [Act.put, List.setIfInBounds_toArray, List.set_cons_zero, List.set_cons_succ])
                  | (refine wpT_take 30 rfl rfl (by decide +kernel) ⟨fun _ => ⟨lq, l0⟩, trivial⟩ ?_; apply Exists.intro; refine ⟨?_, ?_⟩; intro w hw; (have qa := hw.1 (Nat.le_refl _); have qb := hw.2); ((go_simp <;> rfl)); simp only [Act.put, List.setIfInBounds_toArray, List.set_cons_zero, List.set_cons_succ])
                  | (refine wpT_skip rfl rfl ?_; simp only [Act.put, List.setIfInBounds_toArray, List.set_cons_zero, List.set_cons_succ])
                refine wpT_nil ?_
                have lq2 : W5.drew.cell? ⟨q, 0, none⟩ = some (.pointer (some ⟨p, 0, none⟩)) := lq
                gi_wp2_with (refine wpListIn_at 103 rfl (by rintro ⟨_, _, h⟩; exact h) (by decide +kernel) ?_)
                go_wp2_with (first | (refine wpList_store_mid rfl 81 _ _ rfl p (2 + x * 2) _ rfl rfl hT Try.size_stand (by simp [Value.oneCell']) ?_; rw [List.toList_toArray]))
                generalize W5.drew.setCells p (2 + x * 2) [.int .i64 sv, .int .i64 av] = W7 at *
                gi_wp2_with (fail)
                exact ⟨HEND.out, HEF.out⟩
              · have hav0 : ((av : Int) != 0) = true := by simp; omega
                obtain ⟨ho, hst⟩ : on (av : Int) = true ∧ st < i := by
                  rcases hav with h | h
                  · exact absurd h ha0
                  · exact h
                have hd5 : decide ((i : Int) ≤ (st : Int)) = false := by simp; omega
                rw [ho] at HOA
                have HSA := hid (HSA.out (honA ho))
                clear hav honA ho ha0
                refine wpIn_region_scr (.take 0 (.take 1 (.take 2 (.take 3 (.take 4 (.take 5 (.take 6 (.take 7 (.take 8 (.take 9 (.take 10 (.op 11 (.take 12 (.take 13 (.take 14 (.take 15 (.take 16 (.take 17 (.take 18 (.take 20 (.take 21 (.take 22 (.take 23 (.take 24 (.op 19 (.op 25 (.take 26 (.take 27 (.take 28 (.take 29 .done)))))))))))))))))))))))))))))) (fun kz w => (kz ≤ 30 → w.cell? ⟨q, 0, none⟩ = some (.pointer (some ⟨p, 0, none⟩)) ∧ w.cell? ⟨p, 0, none⟩ = some (.int .i64 low)) ∧ True) (by kernel_rfl) (by kernel_rfl) (by intro c a d v w h; cases d <;> exact h) (by decide +kernel) (by rintro ⟨_, _, h⟩; exact h) ?_
                repeat
                  first
                  | (refine wpT_pure rfl rfl rfl ?_; apply Exists.intro; refine ⟨?_, ?_⟩; intro w; ((go_simp <;> rfl)); simp only [Act.put, List.setIfInBounds_toArray, List.set_cons_zero, List.set_cons_succ])
                  | (refine wpT_take 30 rfl rfl (by decide +kernel) ⟨fun _ => ⟨lq, l0⟩, trivial⟩ ?_; apply Exists.intro; refine ⟨?_, ?_⟩; intro w hw; (have qa := hw.1 (Nat.le_refl _); have qb := hw.2); ((go_simp <;> rfl)); simp only [Act.put, List.setIfInBounds_toArray, List.set_cons_zero, List.set_cons_succ])
                  | (refine wpT_skip rfl rfl ?_; simp only [Act.put, List.setIfInBounds_toArray, List.set_cons_zero, List.set_cons_succ])
                refine wpT_op rfl ?_
                go_wp2_with ((go_at_call 52; refine (HOA.out _).mono ?_; rintro e w' ⟨rfl, rfl⟩))
                (refine ⟨?_, ?_⟩; focus (intro kz hk hk2 hh; first | (exfalso; simp at hk2; omega) | exact hh | exact (fun h => absurd h (by omega)) | obtain ⟨qa, qb⟩ := hh; first | exact ⟨qa, qb⟩ | (refine ⟨fun h => absurd h (by omega), ?_⟩; first | exact qb | (exact qa)) | (refine ⟨fun h => ?_, ?_⟩; (have qa := qa h); all_goals (first | exact qa | exact qb | (exact qa)))))
                repeat
                  first
                  | (refine wpT_pure rfl rfl rfl ?_; apply Exists.intro; refine ⟨?_, ?_⟩; intro w; ((go_simp <;> rfl)); simp only [Act.put, List.setIfInBounds_toArray, List.set_cons_zero, List.set_cons_succ])
                  | (refine wpT_take 30 rfl rfl (by decide +kernel) ⟨fun _ => ⟨lq, l0⟩, trivial⟩ ?_; apply Exists.intro; refine ⟨?_, ?_⟩; intro w hw; (have qa := hw.1 (Nat.le_refl _); have qb := hw.2); ((go_simp <;> rfl)); simp only [Act.put, List.setIfInBounds_toArray, List.set_cons_zero, List.set_cons_succ])
                  | (refine wpT_skip rfl rfl ?_; simp only [Act.put, List.setIfInBounds_toArray, List.set_cons_zero, List.set_cons_succ])
                refine wpT_op rfl ?_
                go_wp2_with ((go_at_call 54; refine (HSA.out _).mono ?_; rintro e w' ⟨rfl, rfl⟩))
                (refine ⟨?_, ?_⟩; focus (intro kz hk hk2 hh; first | (exfalso; simp at hk2; omega) | exact hh | exact (fun h => absurd h (by omega)) | obtain ⟨qa, qb⟩ := hh; first | exact ⟨qa, qb⟩ | (refine ⟨fun h => absurd h (by omega), ?_⟩; first | exact qb | (exact qa)) | (refine ⟨fun h => ?_, ?_⟩; (have qa := qa h); all_goals (first | exact qa | exact qb | (exact qa)))))
                refine wpT_op rfl ?_
                go_wp2_with ((go_at_call 54; refine (HSI.out _).mono ?_; rintro e w' ⟨rfl, rfl⟩))
                (refine ⟨?_, ?_⟩; focus (intro kz hk hk2 hh; first | (exfalso; simp at hk2; omega) | exact hh | exact (fun h => absurd h (by omega)) | obtain ⟨qa, qb⟩ := hh; first | exact ⟨qa, qb⟩ | (refine ⟨fun h => absurd h (by omega), ?_⟩; first | exact qb | (exact qa)) | (refine ⟨fun h => ?_, ?_⟩; (have qa := qa h); all_goals (first | exact qa | exact qb | (exact qa)))))
                repeat
                  first
                  | (refine wpT_pure rfl rfl rfl ?_; apply Exists.intro; refine ⟨?_, ?_⟩; intro w; ((go_simp <;> rfl)); simp only [Act.put, List.setIfInBounds_toArray, List.set_cons_zero, List.set_cons_succ])
                  | (refine wpT_take 30 rfl rfl (by decide +kernel) ⟨fun _ => ⟨lq, l0⟩, trivial⟩ ?_; apply Exists.intro; refine ⟨?_, ?_⟩; intro w hw; (have qa := hw.1 (Nat.le_refl _); have qb := hw.2); ((go_simp <;> rfl)); simp only [Act.put, List.setIfInBounds_toArray, List.set_cons_zero, List.set_cons_succ])
                  | (refine wpT_skip rfl rfl ?_; simp only [Act.put, List.setIfInBounds_toArray, List.set_cons_zero, List.set_cons_succ])
                refine wpT_nil ?_
                have lq2 : W5.drew.cell? ⟨q, 0, none⟩ = some (.pointer (some ⟨p, 0, none⟩)) := lq
                gi_wp2_with (refine wpListIn_at 103 rfl (by rintro ⟨_, _, h⟩; exact h) (by decide +kernel) ?_)
                go_wp2_with (first | (refine wpList_store_mid rfl 81 _ _ rfl p (2 + x * 2) _ rfl rfl hT Try.size_stand (by simp [Value.oneCell']) ?_; rw [List.toList_toArray]))
                generalize W5.drew.setCells p (2 + x * 2) [.int .i64 sv, .int .i64 av] = W7 at *
                gi_wp2_with (fail)
                exact ⟨HEND.out, HEF.out⟩
      
      · skip
        clear HA1 HA2 HA3 FA OUT s1 w0 w1 hz i4 i5 i6 i7
        have l0 := CRep.low HI.out.c
        have l1 := CRep.next HI.out.c
        have lq : W1.cell? ⟨q, 0, none⟩ = some (.pointer (some ⟨p, 0, none⟩)) := HI.out.qq.cell 0
        have s1 : W1.cell? ⟨b0, 0, none⟩ = some (.string (bs l)) := HI.out.s.cell 0
        go_wp2_with (fail)
        refine wp_region_scrQ (.take 0 (.take 1 (.take 2 (.take 3 (.take 4 (.take 5 (.take 6 (.take 7 (.op 8 (.take 9 .done)))))))))) (fun kz w => (kz ≤ 10 → w.cell? ⟨q, 0, none⟩ = some (.pointer (some ⟨p, 0, none⟩)) ∧ w.cell? ⟨p, 0, none⟩ = some (.int .i64 low) ∧ w.cell? ⟨p, 1, none⟩ = some (.int .i64 next)) ∧ True) (by kernel_rfl) (by kernel_rfl) ?_
        repeat
          first
          | (refine wpT_pure rfl rfl rfl ?_; apply Exists.intro; refine ⟨?_, ?_⟩; intro w; ((go_simp <;> rfl)); simp only [Act.put, List.setIfInBounds_toArray, List.set_cons_zero, List.set_cons_succ])
          | (refine wpT_take 10 rfl rfl (by decide +kernel) ⟨fun _ => ⟨lq, l0, l1⟩, trivial⟩ ?_; apply Exists.intro; refine ⟨?_, ?_⟩; intro w hw; (have qa := hw.1 (Nat.le_refl _); have qb := hw.2); ((go_simp <;> rfl)); simp only [Act.put, List.setIfInBounds_toArray, List.set_cons_zero, List.set_cons_succ])
          | (refine wpT_skip rfl rfl ?_; simp only [Act.put, List.setIfInBounds_toArray, List.set_cons_zero, List.set_cons_succ])
        refine wpT_op rfl ?_
        go_wp2_with ((go_at_call 54; refine (HST.out _).mono ?_; rintro e w' ⟨rfl, rfl⟩))
        (refine ⟨?_, ?_⟩; focus (intro kz hk hk2 hh; first | (exfalso; simp at hk2; omega) | exact hh | exact (fun h => absurd h (by omega)) | obtain ⟨qa, qb⟩ := hh; first | exact ⟨qa, qb⟩ | (refine ⟨fun h => absurd h (by omega), ?_⟩; first | exact qb | (exact qa)) | (refine ⟨fun h => ?_, ?_⟩; (have qa := qa h); all_goals (first | exact qa | exact qb | (exact qa)))))
        repeat
          first
          | (refine wpT_pure rfl rfl rfl ?_; apply Exists.intro; refine ⟨?_, ?_⟩; intro w; ((go_simp <;> rfl)); simp only [Act.put, List.setIfInBounds_toArray, List.set_cons_zero, List.set_cons_succ])
          | (refine wpT_take 10 rfl rfl (by decide +kernel) ⟨fun _ => ⟨lq, l0, l1⟩, trivial⟩ ?_; apply Exists.intro; refine ⟨?_, ?_⟩; intro w hw; (have qa := hw.1 (Nat.le_refl _); have qb := hw.2); ((go_simp <;> rfl)); simp only [Act.put, List.setIfInBounds_toArray, List.set_cons_zero, List.set_cons_succ])
          | (refine wpT_skip rfl rfl ?_; simp only [Act.put, List.setIfInBounds_toArray, List.set_cons_zero, List.set_cons_succ])
        refine wpT_nil (quietX_normal ?_)
        have HI2 := hid (HI.out.fre ((Fr.refl (fun _ => False) W1).drew))
        have s2 : W1.drew.cell? ⟨b0, 0, none⟩ = some (.string (bs l)) := s1
        clear HI l0 l1 lq s1
        generalize W1.drew = W2 at *
        have hsteps : steps low next = (CM.raw low next).n := rfl
        generalize hn : steps low next = n at *
        have hz2 := HI2.out.r2.frozen 0
        have hz3 := HI2.out.r3.frozen 0
        have hp2 : W2.cell? ⟨b0 + 1, 0, none⟩ = some (.pointer none) := HI2.out.r2.cell 0
        have hp3 : W2.cell? ⟨b0 + 1 + 1, 0, none⟩ = some (.int .i64 0) := HI2.out.r3.cell 0
        cases hrl : rdLen l with
        | false =>
          have HN := hid (HRL.out hrl)
          rw [hrl] at HRD
          have hrd : ¬ (n ≤ 60 ∧ l.length = 2 + 2 * n) := by have := HRD.out; simpa using this.symm
          clear hrl HRL hsteps
          have hc : 60 < n ∨ (n ≤ 60 ∧ ((l.length : Int) != 2 + 2 * (n : Int)) = true) := by
            by_cases h : n ≤ 60
            · refine .inr ⟨h, ?_⟩
              simp only [bne_iff_ne, ne_eq]
              omega
            · exact .inl (by omega)
          clear hrd
          obtain ⟨c1, c2⟩ := two_cells HI2.out.r2 HI2.out.r3 (.pointer none) (.int .i64 11)
          have HC1 := hid c1
          have HC2 := hid c2
          have HFF := hid ((HI2.out.fr.setCell ⟨b0 + 1, 0, none⟩ (.pointer none) (fun h => absurd (show b0 + 1 < w.heap.size from h) (by have := HI2.out.far; omega))).setCell ⟨b0 + 1 + 1, 0, none⟩ (.int .i64 11) (fun h => absurd (show b0 + 1 + 1 < w.heap.size from h) (by have := HI2.out.far; omega)))
          clear c1 c2
          rcases hc with h | ⟨h, h'⟩
          all_goals
            go_wp2_with (fail)
            exact leavesM_none (rd_results rfl rfl HC1.out HC2.out) (.inl ⟨HN.out, rfl, HFF.out⟩)
        | true =>
          rw [hrl] at HRD
          have hrd : n ≤ 60 ∧ l.length = 2 + 2 * n := by have := HRD.out; simpa using this.symm
          obtain ⟨hn60, hln⟩ := hrd
          have hne : ((l.length : Int) != 2 + 2 * (n : Int)) = false := by simp only [bne_eq_false_iff_eq]; omega
          have h3 : 2 + 2 * n ≤ l.length := by omega
          have h4 : l.length ≤ 2 + 2 * n := by omega
          have HYES := hid (HYES.out HHD.out hrl)
          have HNN := hid hn
          have HSE := hid (fun w i => steps_go low (xat low i) w (by omega) (by have := xat_on low i; omega) (by have := xat_on low i; omega))
          have HSA := hid (fun w (a : Nat) (ha : 3 ≤ a ∧ a ≤ 127) => steps_go low a w (by omega) (by omega) (by omega))
          have lq : W2.cell? ⟨q, 0, none⟩ = some (.pointer (some ⟨p, 0, none⟩)) := HI2.out.qq.cell 0
          have f3 := (Fr.refl (fun _ => False) W2).alloc (.cells #[Value.int .i64 2] 3)
          have f4 := f3.alloc (.cells [Value.pointer (some ⟨p, 0, none⟩)].toArray 27)
          have d1 := (Blk.new W2 [Value.int .i64 2] 3).alloc (.cells [Value.pointer (some ⟨p, 0, none⟩)].toArray 27)
          have d2 := Blk.new (W2.alloc (.cells #[Value.int .i64 2] 3)) [Value.pointer (some ⟨p, 0, none⟩)] 27
          rw [World.size_alloc] at d2
          have hpl := Blk.lt HI2.out.c
          have hql := Blk.lt HI2.out.qq
          have J0 : RdJ w l b0 p q W2.heap.size (W2.heap.size + 1) low next 0 ((W2.alloc (.cells #[Value.int .i64 2] 3)).alloc (.cells [Value.pointer (some ⟨p, 0, none⟩)].toArray 27)) := ⟨HI2.out.fre f4, d1, d2, fun k hk => absurd hk (by omega), by omega⟩
          have HJ0 := hid J0
          clear hrl HRL hsteps hln hn HHD HRD hz2 hz3 hp2 hp3 f3 f4 d1 d2 J0 HI2
          go_wp2_with (first | (go_at_call 57; refine (all_go _ _).mono ?_; rintro e w9 ⟨rfl, rfl⟩))
          obtain ⟨W4, hW4⟩ : ∃ W4, W4 = (W2.alloc (.cells #[Value.int .i64 2] 3)).alloc (.cells [Value.pointer (some ⟨p, 0, none⟩)].toArray 27) := ⟨_, rfl⟩
          have hz4 : W4.heap.size = W2.heap.size + 2 := by rw [hW4]; simp
          rw [← hW4] at HJ0 ⊢
          clear hW4 s2 lq
          generalize W2.heap.size = ib at *
          refine wp_range_J (n := n) (fun i => .int .i64 (xat low i)) (fun i W => RdJ w l b0 p q ib (ib + 1) low next i W) (fun W => RdE w l b0 W) ?a12 rfl (fun _ _ => rfl) rfl (fun i W1 W2 h f => h.keep f (by omega)) (fun W1 W2 h f => h.keep f (by have := HJ0.out.inv.far; omega)) ?it2 HJ0.out ?asg2 ?round2 ?fin2 ?ret2
          case asg2 =>
            intro i W1 K hK
            gi_wp2
            exact hK
          case it2 =>
            rw [← HNN.out, hz4]
            refine all_it (ib + 2 + 1) (ib + 1) p low next n1 n0 _ fun i W1 h => ⟨h.cl.cell 0, ?_, ?_⟩
            · have := CRep.low h.inv.c; rwa [(fill_low l low next i).1] at this
            · have := CRep.next h.inv.c; rwa [(fill_low l low next i).2] at this
          case ret2 =>
            intro W1 hE hD
            rw [hz4] at hD
            have HE := hid hE
            have HDD := hid hD
            clear hE hD
            go_wp2_with (fail)
            rw [hz4]
            have hbb := HJ0.out.inv.far
            have FP := (Fr.refl (fun k => k = ib + 2) W1).putObj (ib + 2) (.deferred none) (fun _ => rfl)
            exact leavesM_one HDD.out (rd_results rfl rfl (cell_fr HE.out.c1 FP (by omega)) (cell_fr HE.out.c2 FP (by omega))) (.inl ⟨HE.out.no, rfl, HE.out.fr.trans FP (fun k hk hl => by omega)⟩)
          case fin2 =>
            intro W1 hJ hD
            rw [hz4] at hD
            have hz2 := hJ.inv.r2.frozen 0
            have hz3 := hJ.inv.r3.frozen 0
            have hp2 : W1.cell? ⟨b0 + 1, 0, none⟩ = some (.pointer none) := hJ.inv.r2.cell 0
            have hp3 : W1.cell? ⟨b0 + 1 + 1, 0, none⟩ = some (.int .i64 0) := hJ.inv.r3.cell 0
            have lq : W1.cell? ⟨q, 0, none⟩ = some (.pointer (some ⟨p, 0, none⟩)) := hJ.inv.qq.cell 0
            have hbb := hJ.inv.far
            have hff := hJ.far
            obtain ⟨c1, c2⟩ := two_cells hJ.inv.r2 hJ.inv.r3 (.pointer (some ⟨p, 0, none⟩)) (.int .i64 0)
            have F2 := (((Fr.refl (fun k => k = b0 + 1 ∨ k = b0 + 1 + 1) W1).setCell ⟨b0 + 1, 0, none⟩ (.pointer (some ⟨p, 0, none⟩)) (fun _ => .inl rfl)).setCell ⟨b0 + 1 + 1, 0, none⟩ (.int .i64 0) (fun _ => .inr rfl))
            have HD5 := hid ((F2.blk (ib + 2) (Array.getElem?_eq_some_iff.1 hD).1 (by omega)).trans hD)
            have F3 := (F2.mono (T := fun k => k = b0 + 1 ∨ k = b0 + 1 + 1 ∨ k = ib + 2) (fun k h _ => by omega)).putObj (ib + 2) (.deferred none) (fun _ => .inr (.inr rfl))
            have FP := (Fr.refl (fun k => k = ib + 2) ((W1.setCell ⟨b0 + 1, 0, none⟩ (.pointer (some ⟨p, 0, none⟩))).setCell ⟨b0 + 1 + 1, 0, none⟩ (.int .i64 0))).putObj (ib + 2) (.deferred none) (fun _ => rfl)
            have C1 := hid (cell_fr c1 FP (by omega))
            have C2 := hid (cell_fr c2 FP (by omega))
            have HC := hid (CRep.fr hJ.inv.c F3 (by omega))
            have HF := hid (hJ.inv.fr.trans F3 (fun k hk hl => by omega))
            have hy := hid (HYES.out hJ.ok)
            clear c1 c2 F2 F3 FP hD hJ
            go_wp2_with (fail)
            rw [hz4]
            exact leavesM_one HD5.out (rd_results rfl rfl C1.out C2.out) (.inr ⟨p, _, hy.out, rfl, by omega, HC.out, HF.out⟩)
          case round2 =>
            rw [hz4]
            intro i Wb hJ hi hsb
            have hx := xat_on low i
            have hxs := steps_xat n1 (i := i) (by omega)
            have s1 : Wb.cell? ⟨b0, 0, none⟩ = some (.string (bs l)) := hJ.inv.s.cell 0
            have ki : Wb.cell? ⟨ib, 0, none⟩ = some (.int .i64 (2 + 2 * i : Nat)) := hJ.ix.cell 0
            have lq : Wb.cell? ⟨q, 0, none⟩ = some (.pointer (some ⟨p, 0, none⟩)) := hJ.inv.qq.cell 0
            have l0 := CRep.low hJ.inv.c
            rw [(fill_low l low next i).1] at l0
            have b2 := byt_lt l (2 + 2 * i)
            have b3 := byt_lt l (3 + 2 * i)
            have hdef : okAt low l i = (decide (1 ≤ byt l (2 + 2 * i)) && decide (byt l (2 + 2 * i) ≤ 4) && fineB low (byt l (3 + 2 * i)) i) := rfl
            have HRAJ := hid (HRA.out i hi)
            rw [hdef] at HRAJ
            have HYJ := hid (fun h => show ∀ k, k < i + 1 → okAt low l k = true from fun k hk => by
              by_cases e : k = i
              · rw [e, hdef]; exact h
              · exact hJ.ok k (by omega))
            have hfill : CM.fill l low next (i + 1) = { CM.fill l low next i with st := put (CM.fill l low next i).st (xat low i) (byt l (2 + 2 * i)), ab := putN (CM.fill l low next i).ab (xat low i) (byt l (3 + 2 * i)) } := rfl
            have HFI := hid hfill
            have HJ := hid hJ
            have HSI := hid (HSE.out · i)
            rw [hxs] at HSI
            obtain ⟨k, hk⟩ : ∃ k, k = 2 + 2 * i := ⟨_, rfl⟩
            have HK := hid hk
            have k1 : (0 : Int) ≤ k := by omega
            have k2 : (k : Int) < l.length := by omega
            have k3 : (k : Int) + 1 < l.length := by omega
            have k4 : k < l.length := by omega
            have k5 : k + 1 < l.length := by omega
            have g2 : ((bs l)[k]'(e1 ▸ k4)).toNat = byt l (2 + 2 * i) := by rw [← hk]; exact HB.out k (e1 ▸ k4)
            have g3 : ((bs l)[k + 1]'(e1 ▸ k5)).toNat = byt l (3 + 2 * i) := by rw [show 3 + 2 * i = k + 1 by omega]; exact HB.out (k + 1) (e1 ▸ k5)
            have w3 : IntKind.i64.wrap ((k : Int) + 1) = k + 1 := IntWalk.i64_in _ (by omega)
            have ki : Wb.cell? ⟨ib, 0, none⟩ = some (.int .i64 k) := by rw [hk]; exact ki
            clear hdef hfill hJ hk
            generalize byt l (2 + 2 * i) = sv at *
            generalize byt l (3 + 2 * i) = av at *
            generalize hxx : xat low i = x at *
            have HXX := hid hxx
            clear hxx
            have j1 : (0 : Int) ≤ sv := by omega
            have j2 : (sv : Int) < 256 := by omega
            have j3 : (0 : Int) ≤ av := by omega
            have j4 : (av : Int) < 256 := by omega
            have w4 : IntKind.i64.wrap (sv : Int) = sv := IntWalk.i64_in _ (by omega)
            have w5 : IntKind.i64.wrap (av : Int) = av := IntWalk.i64_in _ (by omega)
            gi_wp2_with (fail)
            refine wpIn_region_scr (.take 0 (.take 1 (.take 2 (.take 3 (.take 4 (.take 5 (.take 6 (.take 7 (.take 8 (.take 9 (.take 10 .done))))))))))) (fun kz w => (kz ≤ 11 → w.cell? ⟨b0, 0, none⟩ = some (.string (bs l)) ∧ w.cell? ⟨ib, 0, none⟩ = some (.int .i64 k)) ∧ True) (by kernel_rfl) (by kernel_rfl) (by intro c a d v w h; cases d <;> exact h) (by decide +kernel) (by rintro ⟨_, _, h⟩; exact h) ?_
            repeat
              first
              | (refine wpT_pure rfl rfl rfl ?_; apply Exists.intro; refine ⟨?_, ?_⟩; intro w; ((go_simp <;> rfl)); simp only [Act.put, List.setIfInBounds_toArray, List.set_cons_zero, List.set_cons_succ])
              | (refine wpT_take 11 rfl rfl (by decide +kernel) ⟨fun _ => ⟨s1, ki⟩, trivial⟩ ?_; apply Exists.intro; refine ⟨?_, ?_⟩; intro w hw; (have qa := hw.1 (Nat.le_refl _); have qb := hw.2); ((go_simp <;> rfl)); simp only [Act.put, List.setIfInBounds_toArray, List.set_cons_zero, List.set_cons_succ])
              | (refine wpT_skip rfl rfl ?_; simp only [Act.put, List.setIfInBounds_toArray, List.set_cons_zero, List.set_cons_succ])
            refine wpT_nil ?_
            clear w3 w4 w5 k3 k4 k5 g2 g3 ki s1
            gi_wp2_with (fail)
            have HJ2 := hid (HJ.out.keep (z := ib + 2) ((Fr.refl (fun k => k = ib + 2 ∨ k = ib + 2 + 1) Wb).drew) (by omega))
            have FB := hid ((Fr.refl (fun k => k ≠ ib + 2 ∧ k ≠ ib + 2 + 1) Wb).drew)
            have lq : Wb.drew.cell? ⟨q, 0, none⟩ = some (.pointer (some ⟨p, 0, none⟩)) := lq
            have l0 : Wb.drew.cell? ⟨p, 0, none⟩ = some (.int .i64 low) := l0
            generalize Wb.drew = W5 at *
            have HOA := hid (fun w => on_go (av : Nat) w)
            have hfin : fineB low av i = (decide (av = 0) || (on av && decide (steps low av < i))) := rfl
            rw [hfin] at HRAJ HYJ
            have honA := fun h => on_iff (k := av) |>.1 h
            have HSA := hid (fun (h : 3 ≤ av ∧ av ≤ 127) w => HSA.out w av h)
            generalize steps low av = st at *
            clear hfin
            by_cases hall : (decide (1 ≤ sv) && decide (sv ≤ 4) && (decide (av = 0) || (on av && decide (st < i)))) = true
            case neg =>
              have HN := hid (HRAJ.out (by simpa using hall))
              have hp2 : W5.cell? ⟨b0 + 1, 0, none⟩ = some (.pointer none) := HJ2.out.inv.r2.cell 0
              have hp3 : W5.cell? ⟨b0 + 1 + 1, 0, none⟩ = some (.int .i64 0) := HJ2.out.inv.r3.cell 0
              have hz2 := HJ2.out.inv.r2.frozen 0
              have hz3 := HJ2.out.inv.r3.frozen 0
              have hbb := HJ2.out.inv.far
              have hff := HJ2.out.far
              obtain ⟨c1, c2⟩ := two_cells HJ2.out.inv.r2 HJ2.out.inv.r3 (.pointer none) (.int .i64 11)
              have F2 := ((Fr.refl (fun k => k = b0 + 1 ∨ k = b0 + 1 + 1) W5).setCell ⟨b0 + 1, 0, none⟩ (.pointer none) (fun _ => .inl rfl)).setCell ⟨b0 + 1 + 1, 0, none⟩ (.int .i64 11) (fun _ => .inr rfl)
              have HE := hid (show RdE w l b0 ((W5.setCell ⟨b0 + 1, 0, none⟩ (.pointer none)).setCell ⟨b0 + 1 + 1, 0, none⟩ (.int .i64 11)).drew from ⟨HN.out, (HJ2.out.inv.fr.trans F2 (fun k hk hl => by omega)).drew, c1, c2, hbb.2.2.2⟩)
              have HFX := hid ((FB.out.trans F2 (fun k hk hl => by omega)).drew)
              clear c1 c2 F2 hbb hff
              by_cases hs1 : sv < 1
              · have hd1 : decide ((sv : Int) < 1) = true := by simp; omega
                clear hall
                refine wpIn_region_scr (.take 0 (.take 1 (.take 2 (.take 3 (.take 4 (.take 5 (.take 6 (.take 7 (.take 8 (.take 9 (.take 10 (.op 11 (.take 12 (.take 13 (.take 14 (.take 15 (.take 16 (.take 17 (.take 18 (.take 20 (.take 21 (.take 22 (.take 23 (.take 24 (.op 19 (.op 25 (.take 26 (.take 27 (.take 28 (.take 29 .done)))))))))))))))))))))))))))))) (fun kz w => (kz ≤ 30 → w.cell? ⟨q, 0, none⟩ = some (.pointer (some ⟨p, 0, none⟩)) ∧ w.cell? ⟨p, 0, none⟩ = some (.int .i64 low)) ∧ True) (by kernel_rfl) (by kernel_rfl) (by intro c a d v w h; cases d <;> exact h) (by decide +kernel) (by rintro ⟨_, _, h⟩; exact h) ?_
                repeat
                  first
                  | (refine wpT_pure rfl rfl rfl ?_; apply Exists.intro; refine ⟨?_, ?_⟩; intro w; ((go_simp <;> rfl)); simp only [Act.put, List.setIfInBounds_toArray, List.set_cons_zero, List.set_cons_succ])
                  | (refine wpT_take 30 rfl rfl (by decide +kernel) ⟨fun _ => ⟨lq, l0⟩, trivial⟩ ?_; apply Exists.intro; refine ⟨?_, ?_⟩; intro w hw; (have qa := hw.1 (Nat.le_refl _); have qb := hw.2); ((go_simp <;> rfl)); simp only [Act.put, List.setIfInBounds_toArray, List.set_cons_zero, List.set_cons_succ])
                  | (refine wpT_skip rfl rfl ?_; simp only [Act.put, List.setIfInBounds_toArray, List.set_cons_zero, List.set_cons_succ])
                refine wpT_op rfl ?_
                go_wp2_with ((go_at_call 52; refine (HOA.out _).mono ?_; rintro e w' ⟨rfl, rfl⟩))
                (refine ⟨?_, ?_⟩; focus (intro kz hk hk2 hh; first | (exfalso; simp at hk2; omega) | exact hh | exact (fun h => absurd h (by omega)) | obtain ⟨qa, qb⟩ := hh; first | exact ⟨qa, qb⟩ | (refine ⟨fun h => absurd h (by omega), ?_⟩; first | exact qb | (exact qa)) | (refine ⟨fun h => ?_, ?_⟩; (have qa := qa h); all_goals (first | exact qa | exact qb | (exact qa)))))
                repeat
                  first
                  | (refine wpT_pure rfl rfl rfl ?_; apply Exists.intro; refine ⟨?_, ?_⟩; intro w; ((go_simp <;> rfl)); simp only [Act.put, List.setIfInBounds_toArray, List.set_cons_zero, List.set_cons_succ])
                  | (refine wpT_take 30 rfl rfl (by decide +kernel) ⟨fun _ => ⟨lq, l0⟩, trivial⟩ ?_; apply Exists.intro; refine ⟨?_, ?_⟩; intro w hw; (have qa := hw.1 (Nat.le_refl _); have qb := hw.2); ((go_simp <;> rfl)); simp only [Act.put, List.setIfInBounds_toArray, List.set_cons_zero, List.set_cons_succ])
                  | (refine wpT_skip rfl rfl ?_; simp only [Act.put, List.setIfInBounds_toArray, List.set_cons_zero, List.set_cons_succ])
                refine wpT_op rfl ?_
                go_wp2_with ((go_at_call 54; refine (HSA.out _).mono ?_; rintro e w' ⟨rfl, rfl⟩))
                (refine ⟨?_, ?_⟩; focus (intro kz hk hk2 hh; first | (exfalso; simp at hk2; omega) | exact hh | exact (fun h => absurd h (by omega)) | obtain ⟨qa, qb⟩ := hh; first | exact ⟨qa, qb⟩ | (refine ⟨fun h => absurd h (by omega), ?_⟩; first | exact qb | (exact qa)) | (refine ⟨fun h => ?_, ?_⟩; (have qa := qa h); all_goals (first | exact qa | exact qb | (exact qa)))))
                refine wpT_op rfl ?_
                go_wp2_with ((go_at_call 54; refine (HSI.out _).mono ?_; rintro e w' ⟨rfl, rfl⟩))
                (refine ⟨?_, ?_⟩; focus (intro kz hk hk2 hh; first | (exfalso; simp at hk2; omega) | exact hh | exact (fun h => absurd h (by omega)) | obtain ⟨qa, qb⟩ := hh; first | exact ⟨qa, qb⟩ | (refine ⟨fun h => absurd h (by omega), ?_⟩; first | exact qb | (exact qa)) | (refine ⟨fun h => ?_, ?_⟩; (have qa := qa h); all_goals (first | exact qa | exact qb | (exact qa)))))
                repeat
                  first
                  | (refine wpT_pure rfl rfl rfl ?_; apply Exists.intro; refine ⟨?_, ?_⟩; intro w; ((go_simp <;> rfl)); simp only [Act.put, List.setIfInBounds_toArray, List.set_cons_zero, List.set_cons_succ])
                  | (refine wpT_take 30 rfl rfl (by decide +kernel) ⟨fun _ => ⟨lq, l0⟩, trivial⟩ ?_; apply Exists.intro; refine ⟨?_, ?_⟩; intro w hw; (have qa := hw.1 (Nat.le_refl _); have qb := hw.2); ((go_simp <;> rfl)); simp only [Act.put, List.setIfInBounds_toArray, List.set_cons_zero, List.set_cons_succ])
                  | (refine wpT_skip rfl rfl ?_; simp only [Act.put, List.setIfInBounds_toArray, List.set_cons_zero, List.set_cons_succ])
                refine wpT_nil ?_
                gi_wp2_with (fail)
                exact ⟨HE.out, HFX.out⟩
              · have hd1 : decide ((sv : Int) < 1) = false := by simp; omega
                by_cases hs4 : 4 < sv
                · have hd4 : decide (4 < (sv : Int)) = true := by simp; omega
                  clear hall
                  refine wpIn_region_scr (.take 0 (.take 1 (.take 2 (.take 3 (.take 4 (.take 5 (.take 6 (.take 7 (.take 8 (.take 9 (.take 10 (.op 11 (.take 12 (.take 13 (.take 14 (.take 15 (.take 16 (.take 17 (.take 18 (.take 20 (.take 21 (.take 22 (.take 23 (.take 24 (.op 19 (.op 25 (.take 26 (.take 27 (.take 28 (.take 29 .done)))))))))))))))))))))))))))))) (fun kz w => (kz ≤ 30 → w.cell? ⟨q, 0, none⟩ = some (.pointer (some ⟨p, 0, none⟩)) ∧ w.cell? ⟨p, 0, none⟩ = some (.int .i64 low)) ∧ True) (by kernel_rfl) (by kernel_rfl) (by intro c a d v w h; cases d <;> exact h) (by decide +kernel) (by rintro ⟨_, _, h⟩; exact h) ?_
                  repeat
                    first
                    | (refine wpT_pure rfl rfl rfl ?_; apply Exists.intro; refine ⟨?_, ?_⟩; intro w; ((go_simp <;> rfl)); simp only [Act.put, List.setIfInBounds_toArray, List.set_cons_zero, List.set_cons_succ])
                    | (refine wpT_take 30 rfl rfl (by decide +kernel) ⟨fun _ => ⟨lq, l0⟩, trivial⟩ ?_; apply Exists.intro; refine ⟨?_, ?_⟩; intro w hw; (have qa := hw.1 (Nat.le_refl _); have qb := hw.2); ((go_simp <;> rfl)); simp only [Act.put, List.setIfInBounds_toArray, List.set_cons_zero, List.set_cons_succ])
                    | (refine wpT_skip rfl rfl ?_; simp only [Act.put, List.setIfInBounds_toArray, List.set_cons_zero, List.set_cons_succ])
                  refine wpT_op rfl ?_
                  go_wp2_with ((go_at_call 52; refine (HOA.out _).mono ?_; rintro e w' ⟨rfl, rfl⟩))
                  (refine ⟨?_, ?_⟩; focus (intro kz hk hk2 hh; first | (exfalso; simp at hk2; omega) | exact hh | exact (fun h => absurd h (by omega)) | obtain ⟨qa, qb⟩ := hh; first | exact ⟨qa, qb⟩ | (refine ⟨fun h => absurd h (by omega), ?_⟩; first | exact qb | (exact qa)) | (refine ⟨fun h => ?_, ?_⟩; (have qa := qa h); all_goals (first | exact qa | exact qb | (exact qa)))))
                  repeat
                    first
                    | (refine wpT_pure rfl rfl rfl ?_; apply Exists.intro; refine ⟨?_, ?_⟩; intro w; ((go_simp <;> rfl)); simp only [Act.put, List.setIfInBounds_toArray, List.set_cons_zero, List.set_cons_succ])
                    | (refine wpT_take 30 rfl rfl (by decide +kernel) ⟨fun _ => ⟨lq, l0⟩, trivial⟩ ?_; apply Exists.intro; refine ⟨?_, ?_⟩; intro w hw; (have qa := hw.1 (Nat.le_refl _); have qb := hw.2); ((go_simp <;> rfl)); simp only [Act.put, List.setIfInBounds_toArray, List.set_cons_zero, List.set_cons_succ])
                    | (refine wpT_skip rfl rfl ?_; simp only [Act.put, List.setIfInBounds_toArray, List.set_cons_zero, List.set_cons_succ])
                  refine wpT_op rfl ?_
                  go_wp2_with ((go_at_call 54; refine (HSA.out _).mono ?_; rintro e w' ⟨rfl, rfl⟩))
                  (refine ⟨?_, ?_⟩; focus (intro kz hk hk2 hh; first | (exfalso; simp at hk2; omega) | exact hh | exact (fun h => absurd h (by omega)) | obtain ⟨qa, qb⟩ := hh; first | exact ⟨qa, qb⟩ | (refine ⟨fun h => absurd h (by omega), ?_⟩; first | exact qb | (exact qa)) | (refine ⟨fun h => ?_, ?_⟩; (have qa := qa h); all_goals (first | exact qa | exact qb | (exact qa)))))
                  refine wpT_op rfl ?_
                  go_wp2_with ((go_at_call 54; refine (HSI.out _).mono ?_; rintro e w' ⟨rfl, rfl⟩))
                  (refine ⟨?_, ?_⟩; focus (intro kz hk hk2 hh; first | (exfalso; simp at hk2; omega) | exact hh | exact (fun h => absurd h (by omega)) | obtain ⟨qa, qb⟩ := hh; first | exact ⟨qa, qb⟩ | (refine ⟨fun h => absurd h (by omega), ?_⟩; first | exact qb | (exact qa)) | (refine ⟨fun h => ?_, ?_⟩; (have qa := qa h); all_goals (first | exact qa | exact qb | (exact qa)))))
                  repeat
                    first
                    | (refine wpT_pure rfl rfl rfl ?_; apply Exists.intro; refine ⟨?_, ?_⟩; intro w; ((go_simp <;> rfl)); simp only [Act.put, List.setIfInBounds_toArray, List.set_cons_zero, List.set_cons_succ])
                    | (refine wpT_take 30 rfl rfl (by decide +kernel) ⟨fun _ => ⟨lq, l0⟩, trivial⟩ ?_; apply Exists.intro; refine ⟨?_, ?_⟩; intro w hw; (have qa := hw.1 (Nat.le_refl _); have qb := hw.2); ((go_simp <;> rfl)); simp only [Act.put, List.setIfInBounds_toArray, List.set_cons_zero, List.set_cons_succ])
                    | (refine wpT_skip rfl rfl ?_; simp only [Act.put, List.setIfInBounds_toArray, List.set_cons_zero, List.set_cons_succ])
                  refine wpT_nil ?_
                  gi_wp2_with (fail)
                  exact ⟨HE.out, HFX.out⟩
                · have hd4 : decide (4 < (sv : Int)) = false := by simp; omega
                  have ha0 : av ≠ 0 := by
                    intro e
                    apply hall
                    simp [e]
                    omega
                  have hav : ((av : Int) != 0) = true := by simp; omega
                  cases ho : on (av : Int) with
                  | false =>
                    rw [ho] at HOA
                    clear hall ho honA
                    refine wpIn_region_scr (.take 0 (.take 1 (.take 2 (.take 3 (.take 4 (.take 5 (.take 6 (.take 7 (.take 8 (.take 9 (.take 10 (.op 11 (.take 12 (.take 13 (.take 14 (.take 15 (.take 16 (.take 17 (.take 18 (.take 20 (.take 21 (.take 22 (.take 23 (.take 24 (.op 19 (.op 25 (.take 26 (.take 27 (.take 28 (.take 29 .done)))))))))))))))))))))))))))))) (fun kz w => (kz ≤ 30 → w.cell? ⟨q, 0, none⟩ = some (.pointer (some ⟨p, 0, none⟩)) ∧ w.cell? ⟨p, 0, none⟩ = some (.int .i64 low)) ∧ True) (by kernel_rfl) (by kernel_rfl) (by intro c a d v w h; cases d <;> exact h) (by decide +kernel) (by rintro ⟨_, _, h⟩; exact h) ?_
                    repeat
                      first
                      | (refine wpT_pure rfl rfl rfl ?_; apply Exists.intro; refine ⟨?_, ?_⟩; intro w; ((go_simp <;> rfl)); simp only [Act.put, List.setIfInBounds_toArray, List.set_cons_zero, List.set_cons_succ])
                      | (refine wpT_take 30 rfl rfl (by decide +kernel) ⟨fun _ => ⟨lq, l0⟩, trivial⟩ ?_; apply Exists.intro; refine ⟨?_, ?_⟩; intro w hw; (have qa := hw.1 (Nat.le_refl _); have qb := hw.2); ((go_simp <;> rfl)); simp only [Act.put, List.setIfInBounds_toArray, List.set_cons_zero, List.set_cons_succ])
                      | (refine wpT_skip rfl rfl ?_; simp only [Act.put, List.setIfInBounds_toArray, List.set_cons_zero, List.set_cons_succ])
                    refine wpT_op rfl ?_
                    go_wp2_with ((go_at_call 52; refine (HOA.out _).mono ?_; rintro e w' ⟨rfl, rfl⟩))
                    (refine ⟨?_, ?_⟩; focus (intro kz hk hk2 hh; first | (exfalso; simp at hk2; omega) | exact hh | exact (fun h => absurd h (by omega)) | obtain ⟨qa, qb⟩ := hh; first | exact ⟨qa, qb⟩ | (refine ⟨fun h => absurd h (by omega), ?_⟩; first | exact qb | (exact qa)) | (refine ⟨fun h => ?_, ?_⟩; (have qa := qa h); all_goals (first | exact qa | exact qb | (exact qa)))))
                    repeat
                      first
                      | (refine wpT_pure rfl rfl rfl ?_; apply Exists.intro; refine ⟨?_, ?_⟩; intro w; ((go_simp <;> rfl)); simp only [Act.put, List.setIfInBounds_toArray, List.set_cons_zero, List.set_cons_succ])
                      | (refine wpT_take 30 rfl rfl (by decide +kernel) ⟨fun _ => ⟨lq, l0⟩, trivial⟩ ?_; apply Exists.intro; refine ⟨?_, ?_⟩; intro w hw; (have qa := hw.1 (Nat.le_refl _); have qb := hw.2); ((go_simp <;> rfl)); simp only [Act.put, List.setIfInBounds_toArray, List.set_cons_zero, List.set_cons_succ])
                      | (refine wpT_skip rfl rfl ?_; simp only [Act.put, List.setIfInBounds_toArray, List.set_cons_zero, List.set_cons_succ])
                    refine wpT_op rfl ?_
                    go_wp2_with ((go_at_call 54; refine (HSA.out _).mono ?_; rintro e w' ⟨rfl, rfl⟩))
                    (refine ⟨?_, ?_⟩; focus (intro kz hk hk2 hh; first | (exfalso; simp at hk2; omega) | exact hh | exact (fun h => absurd h (by omega)) | obtain ⟨qa, qb⟩ := hh; first | exact ⟨qa, qb⟩ | (refine ⟨fun h => absurd h (by omega), ?_⟩; first | exact qb | (exact qa)) | (refine ⟨fun h => ?_, ?_⟩; (have qa := qa h); all_goals (first | exact qa | exact qb | (exact qa)))))
                    refine wpT_op rfl ?_
                    go_wp2_with ((go_at_call 54; refine (HSI.out _).mono ?_; rintro e w' ⟨rfl, rfl⟩))
                    (refine ⟨?_, ?_⟩; focus (intro kz hk hk2 hh; first | (exfalso; simp at hk2; omega) | exact hh | exact (fun h => absurd h (by omega)) | obtain ⟨qa, qb⟩ := hh; first | exact ⟨qa, qb⟩ | (refine ⟨fun h => absurd h (by omega), ?_⟩; first | exact qb | (exact qa)) | (refine ⟨fun h => ?_, ?_⟩; (have qa := qa h); all_goals (first | exact qa | exact qb | (exact qa)))))
                    repeat
                      first
                      | (refine wpT_pure rfl rfl rfl ?_; apply Exists.intro; refine ⟨?_, ?_⟩; intro w; ((go_simp <;> rfl)); simp only [Act.put, List.setIfInBounds_toArray, List.set_cons_zero, List.set_cons_succ])
                      | (refine wpT_take 30 rfl rfl (by decide +kernel) ⟨fun _ => ⟨lq, l0⟩, trivial⟩ ?_; apply Exists.intro; refine ⟨?_, ?_⟩; intro w hw; (have qa := hw.1 (Nat.le_refl _); have qb := hw.2); ((go_simp <;> rfl)); simp only [Act.put, List.setIfInBounds_toArray, List.set_cons_zero, List.set_cons_succ])
                      | (refine wpT_skip rfl rfl ?_; simp only [Act.put, List.setIfInBounds_toArray, List.set_cons_zero, List.set_cons_succ])
                    refine wpT_nil ?_
                    gi_wp2_with (fail)
                    exact ⟨HE.out, HFX.out⟩
                  | true =>
                    have hst : i ≤ st := by
                      rw [ho] at hall
                      simp at hall
                      omega
                    have hd5 : decide ((i : Int) ≤ (st : Int)) = true := by simp; omega
                    rw [ho] at HOA
                    have HSA := hid (HSA.out (honA ho))
                    clear hall ho honA
                    refine wpIn_region_scr (.take 0 (.take 1 (.take 2 (.take 3 (.take 4 (.take 5 (.take 6 (.take 7 (.take 8 (.take 9 (.take 10 (.op 11 (.take 12 (.take 13 (.take 14 (.take 15 (.take 16 (.take 17 (.take 18 (.take 20 (.take 21 (.take 22 (.take 23 (.take 24 (.op 19 (.op 25 (.take 26 (.take 27 (.take 28 (.take 29 .done)))))))))))))))))))))))))))))) (fun kz w => (kz ≤ 30 → w.cell? ⟨q, 0, none⟩ = some (.pointer (some ⟨p, 0, none⟩)) ∧ w.cell? ⟨p, 0, none⟩ = some (.int .i64 low)) ∧ True) (by kernel_rfl) (by kernel_rfl) (by intro c a d v w h; cases d <;> exact h) (by decide +kernel) (by rintro ⟨_, _, h⟩; exact h) ?_
                    repeat
                      first
                      | (refine wpT_pure rfl rfl rfl ?_; apply Exists.intro; refine ⟨?_, ?_⟩; intro w; ((go_simp <;> rfl)); simp only [Act.put, List.setIfInBounds_toArray, List.set_cons_zero, List.set_cons_succ])
                      | (refine wpT_take 30 rfl rfl (by decide +kernel) ⟨fun _ => ⟨lq, l0⟩, trivial⟩ ?_; apply Exists.intro; refine ⟨?_, ?_⟩; intro w hw; (have qa := hw.1 (Nat.le_refl _); have qb := hw.2); ((go_simp <;> rfl)); simp only [Act.put, List.setIfInBounds_toArray, List.set_cons_zero, List.set_cons_succ])
                      | (refine wpT_skip rfl rfl ?_; simp only [Act.put, List.setIfInBounds_toArray, List.set_cons_zero, List.set_cons_succ])
                    refine wpT_op rfl ?_
                    go_wp2_with ((go_at_call 52; refine (HOA.out _).mono ?_; rintro e w' ⟨rfl, rfl⟩))
                    (refine ⟨?_, ?_⟩; focus (intro kz hk hk2 hh; first | (exfalso; simp at hk2; omega) | exact hh | exact (fun h => absurd h (by omega)) | obtain ⟨qa, qb⟩ := hh; first | exact ⟨qa, qb⟩ | (refine ⟨fun h => absurd h (by omega), ?_⟩; first | exact qb | (exact qa)) | (refine ⟨fun h => ?_, ?_⟩; (have qa := qa h); all_goals (first | exact qa | exact qb | (exact qa)))))
                    repeat
                      first
                      | (refine wpT_pure rfl rfl rfl ?_; apply Exists.intro; refine ⟨?_, ?_⟩; intro w; ((go_simp <;> rfl)); simp only [Act.put, List.setIfInBounds_toArray, List.set_cons_zero, List.set_cons_succ])
                      | (refine wpT_take 30 rfl rfl (by decide +kernel) ⟨fun _ => ⟨lq, l0⟩, trivial⟩ ?_; apply Exists.intro; refine ⟨?_, ?_⟩; intro w hw; (have qa := hw.1 (Nat.le_refl _); have qb := hw.2); ((go_simp <;> rfl)); simp only [Act.put, List.setIfInBounds_toArray, List.set_cons_zero, List.set_cons_succ])
                      | (refine wpT_skip rfl rfl ?_; simp only [Act.put, List.setIfInBounds_toArray, List.set_cons_zero, List.set_cons_succ])
                    refine wpT_op rfl ?_
                    go_wp2_with ((go_at_call 54; refine (HSA.out _).mono ?_; rintro e w' ⟨rfl, rfl⟩))
                    (refine ⟨?_, ?_⟩; focus (intro kz hk hk2 hh; first | (exfalso; simp at hk2; omega) | exact hh | exact (fun h => absurd h (by omega)) | obtain ⟨qa, qb⟩ := hh; first | exact ⟨qa, qb⟩ | (refine ⟨fun h => absurd h (by omega), ?_⟩; first | exact qb | (exact qa)) | (refine ⟨fun h => ?_, ?_⟩; (have qa := qa h); all_goals (first | exact qa | exact qb | (exact qa)))))
                    refine wpT_op rfl ?_
                    go_wp2_with ((go_at_call 54; refine (HSI.out _).mono ?_; rintro e w' ⟨rfl, rfl⟩))
                    (refine ⟨?_, ?_⟩; focus (intro kz hk hk2 hh; first | (exfalso; simp at hk2; omega) | exact hh | exact (fun h => absurd h (by omega)) | obtain ⟨qa, qb⟩ := hh; first | exact ⟨qa, qb⟩ | (refine ⟨fun h => absurd h (by omega), ?_⟩; first | exact qb | (exact qa)) | (refine ⟨fun h => ?_, ?_⟩; (have qa := qa h); all_goals (first | exact qa | exact qb | (exact qa)))))
                    repeat
                      first
                      | (refine wpT_pure rfl rfl rfl ?_; apply Exists.intro; refine ⟨?_, ?_⟩; intro w; ((go_simp <;> rfl)); simp only [Act.put, List.setIfInBounds_toArray, List.set_cons_zero, List.set_cons_succ])
                      | (refine wpT_take 30 rfl rfl (by decide +kernel) ⟨fun _ => ⟨lq, l0⟩, trivial⟩ ?_; apply Exists.intro; refine ⟨?_, ?_⟩; intro w hw; (have qa := hw.1 (Nat.le_refl _); have qb := hw.2); ((go_simp <;> rfl)); simp only [Act.put, List.setIfInBounds_toArray, List.set_cons_zero, List.set_cons_succ])
                      | (refine wpT_skip rfl rfl ?_; simp only [Act.put, List.setIfInBounds_toArray, List.set_cons_zero, List.set_cons_succ])
                    refine wpT_nil ?_
                    gi_wp2_with (fail)
                    exact ⟨HE.out, HFX.out⟩
            case pos =>
              have HYK := hid (HYJ.out hall)
              simp only [Bool.and_eq_true, decide_eq_true_eq, Bool.or_eq_true] at hall
              obtain ⟨⟨hs1, hs4⟩, hav⟩ := hall
              have hd1 : decide ((sv : Int) < 1) = false := by simp; omega
              have hd4 : decide (4 < (sv : Int)) = false := by simp; omega
              have hbb := HJ2.out.inv.far
              have hff := HJ2.out.far
              have hT : W5.drew.there p (2 + x * 2) 2 := Blk.there (Blk.drew HJ2.out.inv.c) _ _ (by rw [ccells_length]; omega)
              have B1 := Blk.set (Blk.drew HJ2.out.inv.c) (2 + x * 2) (.int .i64 sv)
              rw [ccells_setst _ x (by omega)] at B1
              have B2 := Blk.set B1 (2 + x * 2 + 1) (.int .i64 av)
              rw [ccells_setab _ x (by omega)] at B2
              have B2 : CRep (W5.drew.setCells p (2 + x * 2) [.int .i64 sv, .int .i64 av]) p (CM.fill l low next (i + 1)) := by rw [HFI.out]; exact B2
              have F2 := (Fr.refl (fun k => k = p) W5).drew.put p (2 + x * 2) [.int .i64 sv, .int .i64 av] (fun _ => rfl)
              have X2 := HJ2.out.ix.fr F2 (by omega)
              rw [← HK.out] at X2
              have ki : (W5.drew.setCells p (2 + x * 2) [.int .i64 sv, .int .i64 av]).cell? ⟨ib, 0, none⟩ = some (.int .i64 k) := X2.cell 0
              have zi := X2.frozen 0
              have F3 := (Fr.refl (fun k => k = ib) (W5.drew.setCells p (2 + x * 2) [.int .i64 sv, .int .i64 av])).setCell ⟨ib, 0, none⟩ (.int .i64 (k + 2)) (fun _ => rfl)
              have F5 : Fr (fun j => j = p ∨ j = ib) W5 ((W5.drew.setCells p (2 + x * 2) [.int .i64 sv, .int .i64 av]).setCell ⟨ib, 0, none⟩ (.int .i64 (k + 2))) := (F2.mono (fun j h _ => .inl h)).trans F3 (fun j h _ => .inr h)
              have X3 := X2.set 0 (.int .i64 (k + 2))
              have HEND := hid (show RdJ w l b0 p q ib (ib + 1) low next (i + 1) ((W5.drew.setCells p (2 + x * 2) [.int .i64 sv, .int .i64 av]).setCell ⟨ib, 0, none⟩ (.int .i64 (k + 2))) from
                ⟨⟨HJ2.out.inv.fr.trans F5 (fun k hk hl => by omega), HJ2.out.inv.s.fr F5 (by omega), HJ2.out.inv.r2.fr F5 (by omega), HJ2.out.inv.r3.fr F5 (by omega), CRep.fr B2 F3 (by omega), HJ2.out.inv.qq.fr F5 (by omega), hbb⟩, by
                  have e : ((2 + 2 * (i + 1) : Nat) : Int) = (k : Int) + 2 := by have := HK.out; omega
                  rw [e]; exact X3, HJ2.out.cl.fr F5 (by omega), HYK.out, hff⟩)
              have HEF := hid (FB.out.trans (F5.mono (T := fun k => k ≠ ib + 2 ∧ k ≠ ib + 2 + 1) (fun k hk hl => by omega)) (fun _ h _ => h))
              have y1 : (0 : Int) ≤ (x : Int) := by omega
              have y2 : (x : Int) < 128 := by omega
              clear B1 B2 F2 X2 F3 F5 X3 hbb hff HYJ HYK hs1 hs4
              by_cases ha0 : av = 0
              · have hav0 : ((av : Int) != 0) = false := by simp [ha0]
                clear hav honA ha0
                refine wpIn_region_scr (.take 0 (.take 1 (.take 2 (.take 3 (.take 4 (.take 5 (.take 6 (.take 7 (.take 8 (.take 9 (.take 10 (.op 11 (.take 12 (.take 13 (.take 14 (.take 15 (.take 16 (.take 17 (.take 18 (.take 20 (.take 21 (.take 22 (.take 23 (.take 24 (.op 19 (.op 25 (.take 26 (.take 27 (.take 28 (.take 29 .done)))))))))))))))))))))))))))))) (fun kz w => (kz ≤ 30 → w.cell? ⟨q, 0, none⟩ = some (.pointer (some ⟨p, 0, none⟩)) ∧ w.cell? ⟨p, 0, none⟩ = some (.int .i64 low)) ∧ True) (by kernel_rfl) (by kernel_rfl) (by intro c a d v w h; cases d <;> exact h) (by decide +kernel) (by rintro ⟨_, _, h⟩; exact h) ?_
                repeat
                  first
                  | (refine wpT_pure rfl rfl rfl ?_; apply Exists.intro; refine ⟨?_, ?_⟩; intro w; ((go_simp <;> rfl)); simp only [Act.put, List.setIfInBounds_toArray, List.set_cons_zero, List.set_cons_succ])
                  | (refine wpT_take 30 rfl rfl (by decide +kernel) ⟨fun _ => ⟨lq, l0⟩, trivial⟩ ?_; apply Exists.intro; refine ⟨?_, ?_⟩; intro w hw; (have qa := hw.1 (Nat.le_refl _); have qb := hw.2); ((go_simp <;> rfl)); simp only [Act.put, List.setIfInBounds_toArray, List.set_cons_zero, List.set_cons_succ])
                  | (refine wpT_skip rfl rfl ?_; simp only [Act.put, List.setIfInBounds_toArray, List.set_cons_zero, List.set_cons_succ])
                refine wpT_op rfl ?_
                go_wp2_with ((go_at_call 52; refine (HOA.out _).mono ?_; rintro e w' ⟨rfl, rfl⟩))
                (refine ⟨?_, ?_⟩; focus (intro kz hk hk2 hh; first | (exfalso; simp at hk2; omega) | exact hh | exact (fun h => absurd h (by omega)) | obtain ⟨qa, qb⟩ := hh; first | exact ⟨qa, qb⟩ | (refine ⟨fun h => absurd h (by omega), ?_⟩; first | exact qb | (exact qa)) | (refine ⟨fun h => ?_, ?_⟩; (have qa := qa h); all_goals (first | exact qa | exact qb | (exact qa)))))
                repeat
                  first
                  | (refine wpT_pure rfl rfl rfl ?_; apply Exists.intro; refine ⟨?_, ?_⟩; intro w; ((go_simp <;> rfl)); simp only [Act.put, List.setIfInBounds_toArray, List.set_cons_zero, List.set_cons_succ])
                  | (refine wpT_take 30 rfl rfl (by decide +kernel) ⟨fun _ => ⟨lq, l0⟩, trivial⟩ ?_; apply Exists.intro; refine ⟨?_, ?_⟩; intro w hw; (have qa := hw.1 (Nat.le_refl _); have qb := hw.2); ((go_simp <;> rfl)); simp only [Act.put, List.setIfInBounds_toArray, List.set_cons_zero, List.set_cons_succ])
                  | (refine wpT_skip rfl rfl ?_; simp only [Act.put, List.setIfInBounds_toArray, List.set_cons_zero, List.set_cons_succ])
                refine wpT_op rfl ?_
                go_wp2_with ((go_at_call 54; refine (HSA.out _).mono ?_; rintro e w' ⟨rfl, rfl⟩))
                (refine ⟨?_, ?_⟩; focus (intro kz hk hk2 hh; first | (exfalso; simp at hk2; omega) | exact hh | exact (fun h => absurd h (by omega)) | obtain ⟨qa, qb⟩ := hh; first | exact ⟨qa, qb⟩ | (refine ⟨fun h => absurd h (by omega), ?_⟩; first | exact qb | (exact qa)) | (refine ⟨fun h => ?_, ?_⟩; (have qa := qa h); all_goals (first | exact qa | exact qb | (exact qa)))))
                refine wpT_op rfl ?_
                go_wp2_with ((go_at_call 54; refine (HSI.out _).mono ?_; rintro e w' ⟨rfl, rfl⟩))
                (refine ⟨?_, ?_⟩; focus (intro kz hk hk2 hh; first | (exfalso; simp at hk2; omega) | exact hh | exact (fun h => absurd h (by omega)) | obtain ⟨qa, qb⟩ := hh; first | exact ⟨qa, qb⟩ | (refine ⟨fun h => absurd h (by omega), ?_⟩; first | exact qb | (exact qa)) | (refine ⟨fun h => ?_, ?_⟩; (have qa := qa h); all_goals (first | exact qa | exact qb | (exact qa)))))
                repeat
                  first
                  | (refine wpT_pure rfl rfl rfl ?_; apply Exists.intro; refine ⟨?_, ?_⟩; intro w; ((go_simp <;> rfl)); simp only [Act.put, List.setIfInBounds_toArray, List.set_cons_zero, List.set_cons_succ])
                  | (refine wpT_take 30 rfl rfl (by decide +kernel) ⟨fun _ => ⟨lq, l0⟩, trivial⟩ ?_; apply Exists.intro; refine ⟨?_, ?_⟩; intro w hw; (have qa := hw.1 (Nat.le_refl _); have qb := hw.2); ((go_simp <;> rfl)); simp only [Act.put, List.setIfInBounds_toArray, List.set_cons_zero, List.set_cons_succ])
                  | (refine wpT_skip rfl rfl ?_; simp only [Act.put, List.setIfInBounds_toArray, List.set_cons_zero, List.set_cons_succ])
                refine wpT_nil ?_
                have lq2 : W5.drew.cell? ⟨q, 0, none⟩ = some (.pointer (some ⟨p, 0, none⟩)) := lq
                gi_wp2_with (refine wpListIn_at 103 rfl (by rintro ⟨_, _, h⟩; exact h) (by decide +kernel) ?_)
                go_wp2_with (first | (refine wpList_store_mid rfl 81 _ _ rfl p (2 + x * 2) _ rfl rfl hT Try.size_stand (by simp [Value.oneCell']) ?_; rw [List.toList_toArray]))
                generalize W5.drew.setCells p (2 + x * 2) [.int .i64 sv, .int .i64 av] = W7 at *
                gi_wp2_with (fail)
                exact ⟨HEND.out, HEF.out⟩
              · have hav0 : ((av : Int) != 0) = true := by simp; omega
                obtain ⟨ho, hst⟩ : on (av : Int) = true ∧ st < i := by
                  rcases hav with h | h
                  · exact absurd h ha0
                  · exact h
                have hd5 : decide ((i : Int) ≤ (st : Int)) = false := by simp; omega
                rw [ho] at HOA
                have HSA := hid (HSA.out (honA ho))
                clear hav honA ho ha0
                refine wpIn_region_scr (.take 0 (.take 1 (.take 2 (.take 3 (.take 4 (.take 5 (.take 6 (.take 7 (.take 8 (.take 9 (.take 10 (.op 11 (.take 12 (.take 13 (.take 14 (.take 15 (.take 16 (.take 17 (.take 18 (.take 20 (.take 21 (.take 22 (.take 23 (.take 24 (.op 19 (.op 25 (.take 26 (.take 27 (.take 28 (.take 29 .done)))))))))))))))))))))))))))))) (fun kz w => (kz ≤ 30 → w.cell? ⟨q, 0, none⟩ = some (.pointer (some ⟨p, 0, none⟩)) ∧ w.cell? ⟨p, 0, none⟩ = some (.int .i64 low)) ∧ True) (by kernel_rfl) (by kernel_rfl) (by intro c a d v w h; cases d <;> exact h) (by decide +kernel) (by rintro ⟨_, _, h⟩; exact h) ?_
                repeat
                  first
                  | (refine wpT_pure rfl rfl rfl ?_; apply Exists.intro; refine ⟨?_, ?_⟩; intro w; ((go_simp <;> rfl)); simp only [Act.put, List.setIfInBounds_toArray, List.set_cons_zero, List.set_cons_succ])
                  | (refine wpT_take 30 rfl rfl (by decide +kernel) ⟨fun _ => ⟨lq, l0⟩, trivial⟩ ?_; apply Exists.intro; refine ⟨?_, ?_⟩; intro w hw; (have qa := hw.1 (Nat.le_refl _); have qb := hw.2); ((go_simp <;> rfl)); simp only [Act.put, List.setIfInBounds_toArray, List.set_cons_zero, List.set_cons_succ])
                  | (refine wpT_skip rfl rfl ?_; simp only [Act.put, List.setIfInBounds_toArray, List.set_cons_zero, List.set_cons_succ])
                refine wpT_op rfl ?_
                go_wp2_with ((go_at_call 52; refine (HOA.out _).mono ?_; rintro e w' ⟨rfl, rfl⟩))
                (refine ⟨?_, ?_⟩; focus (intro kz hk hk2 hh; first | (exfalso; simp at hk2; omega) | exact hh | exact (fun h => absurd h (by omega)) | obtain ⟨qa, qb⟩ := hh; first | exact ⟨qa, qb⟩ | (refine ⟨fun h => absurd h (by omega), ?_⟩; first | exact qb | (exact qa)) | (refine ⟨fun h => ?_, ?_⟩; (have qa := qa h); all_goals (first | exact qa | exact qb | (exact qa)))))
                repeat
                  first
                  | (refine wpT_pure rfl rfl rfl ?_; apply Exists.intro; refine ⟨?_, ?_⟩; intro w; ((go_simp <;> rfl)); simp only [Act.put, List.setIfInBounds_toArray, List.set_cons_zero, List.set_cons_succ])
                  | (refine wpT_take 30 rfl rfl (by decide +kernel) ⟨fun _ => ⟨lq, l0⟩, trivial⟩ ?_; apply Exists.intro; refine ⟨?_, ?_⟩; intro w hw; (have qa := hw.1 (Nat.le_refl _); have qb := hw.2); ((go_simp <;> rfl)); simp only [Act.put, List.setIfInBounds_toArray, List.set_cons_zero, List.set_cons_succ])
                  | (refine wpT_skip rfl rfl ?_; simp only [Act.put, List.setIfInBounds_toArray, List.set_cons_zero, List.set_cons_succ])
                refine wpT_op rfl ?_
                go_wp2_with ((go_at_call 54; refine (HSA.out _).mono ?_; rintro e w' ⟨rfl, rfl⟩))
                (refine ⟨?_, ?_⟩; focus (intro kz hk hk2 hh; first | (exfalso; simp at hk2; omega) | exact hh | exact (fun h => absurd h (by omega)) | obtain ⟨qa, qb⟩ := hh; first | exact ⟨qa, qb⟩ | (refine ⟨fun h => absurd h (by omega), ?_⟩; first | exact qb | (exact qa)) | (refine ⟨fun h => ?_, ?_⟩; (have qa := qa h); all_goals (first | exact qa | exact qb | (exact qa)))))
                refine wpT_op rfl ?_
                go_wp2_with ((go_at_call 54; refine (HSI.out _).mono ?_; rintro e w' ⟨rfl, rfl⟩))
                (refine ⟨?_, ?_⟩; focus (intro kz hk hk2 hh; first | (exfalso; simp at hk2; omega) | exact hh | exact (fun h => absurd h (by omega)) | obtain ⟨qa, qb⟩ := hh; first | exact ⟨qa, qb⟩ | (refine ⟨fun h => absurd h (by omega), ?_⟩; first | exact qb | (exact qa)) | (refine ⟨fun h => ?_, ?_⟩; (have qa := qa h); all_goals (first | exact qa | exact qb | (exact qa)))))
                repeat
                  first
                  | (refine wpT_pure rfl rfl rfl ?_; apply Exists.intro; refine ⟨?_, ?_⟩; intro w; ((go_simp <;> rfl)); simp only [Act.put, List.setIfInBounds_toArray, List.set_cons_zero, List.set_cons_succ])
                  | (refine wpT_take 30 rfl rfl (by decide +kernel) ⟨fun _ => ⟨lq, l0⟩, trivial⟩ ?_; apply Exists.intro; refine ⟨?_, ?_⟩; intro w hw; (have qa := hw.1 (Nat.le_refl _); have qb := hw.2); ((go_simp <;> rfl)); simp only [Act.put, List.setIfInBounds_toArray, List.set_cons_zero, List.set_cons_succ])
                  | (refine wpT_skip rfl rfl ?_; simp only [Act.put, List.setIfInBounds_toArray, List.set_cons_zero, List.set_cons_succ])
                refine wpT_nil ?_
                have lq2 : W5.drew.cell? ⟨q, 0, none⟩ = some (.pointer (some ⟨p, 0, none⟩)) := lq
                gi_wp2_with (refine wpListIn_at 103 rfl (by rintro ⟨_, _, h⟩; exact h) (by decide +kernel) ?_)
                go_wp2_with (first | (refine wpList_store_mid rfl 81 _ _ rfl p (2 + x * 2) _ rfl rfl hT Try.size_stand (by simp [Value.oneCell']) ?_; rw [List.toList_toArray]))
                generalize W5.drew.setCells p (2 + x * 2) [.int .i64 sv, .int .i64 av] = W7 at *
                gi_wp2_with (fail)
                exact ⟨HEND.out, HEF.out⟩
      
      · skip
        clear HA1 HA2 HA3 FA OUT s1 w0 w1 hz i4 i5 i6 i7
        have l0 := CRep.low HI.out.c
        have l1 := CRep.next HI.out.c
        have lq : W1.cell? ⟨q, 0, none⟩ = some (.pointer (some ⟨p, 0, none⟩)) := HI.out.qq.cell 0
        have s1 : W1.cell? ⟨b0, 0, none⟩ = some (.string (bs l)) := HI.out.s.cell 0
        go_wp2_with (fail)
        refine wp_region_scrQ (.take 0 (.take 1 (.take 2 (.take 3 (.take 4 (.take 5 (.take 6 (.take 7 (.op 8 (.take 9 .done)))))))))) (fun kz w => (kz ≤ 10 → w.cell? ⟨q, 0, none⟩ = some (.pointer (some ⟨p, 0, none⟩)) ∧ w.cell? ⟨p, 0, none⟩ = some (.int .i64 low) ∧ w.cell? ⟨p, 1, none⟩ = some (.int .i64 next)) ∧ True) (by kernel_rfl) (by kernel_rfl) ?_
        repeat
          first
          | (refine wpT_pure rfl rfl rfl ?_; apply Exists.intro; refine ⟨?_, ?_⟩; intro w; ((go_simp <;> rfl)); simp only [Act.put, List.setIfInBounds_toArray, List.set_cons_zero, List.set_cons_succ])
          | (refine wpT_take 10 rfl rfl (by decide +kernel) ⟨fun _ => ⟨lq, l0, l1⟩, trivial⟩ ?_; apply Exists.intro; refine ⟨?_, ?_⟩; intro w hw; (have qa := hw.1 (Nat.le_refl _); have qb := hw.2); ((go_simp <;> rfl)); simp only [Act.put, List.setIfInBounds_toArray, List.set_cons_zero, List.set_cons_succ])
          | (refine wpT_skip rfl rfl ?_; simp only [Act.put, List.setIfInBounds_toArray, List.set_cons_zero, List.set_cons_succ])
        refine wpT_op rfl ?_
        go_wp2_with ((go_at_call 54; refine (HST.out _).mono ?_; rintro e w' ⟨rfl, rfl⟩))
        (refine ⟨?_, ?_⟩; focus (intro kz hk hk2 hh; first | (exfalso; simp at hk2; omega) | exact hh | exact (fun h => absurd h (by omega)) | obtain ⟨qa, qb⟩ := hh; first | exact ⟨qa, qb⟩ | (refine ⟨fun h => absurd h (by omega), ?_⟩; first | exact qb | (exact qa)) | (refine ⟨fun h => ?_, ?_⟩; (have qa := qa h); all_goals (first | exact qa | exact qb | (exact qa)))))
        repeat
          first
          | (refine wpT_pure rfl rfl rfl ?_; apply Exists.intro; refine ⟨?_, ?_⟩; intro w; ((go_simp <;> rfl)); simp only [Act.put, List.setIfInBounds_toArray, List.set_cons_zero, List.set_cons_succ])
          | (refine wpT_take 10 rfl rfl (by decide +kernel) ⟨fun _ => ⟨lq, l0, l1⟩, trivial⟩ ?_; apply Exists.intro; refine ⟨?_, ?_⟩; intro w hw; (have qa := hw.1 (Nat.le_refl _); have qb := hw.2); ((go_simp <;> rfl)); simp only [Act.put, List.setIfInBounds_toArray, List.set_cons_zero, List.set_cons_succ])
          | (refine wpT_skip rfl rfl ?_; simp only [Act.put, List.setIfInBounds_toArray, List.set_cons_zero, List.set_cons_succ])
        refine wpT_nil (quietX_normal ?_)
        have HI2 := hid (HI.out.fre ((Fr.refl (fun _ => False) W1).drew))
        have s2 : W1.drew.cell? ⟨b0, 0, none⟩ = some (.string (bs l)) := s1
        clear HI l0 l1 lq s1
        generalize W1.drew = W2 at *
        have hsteps : steps low next = (CM.raw low next).n := rfl
        generalize hn : steps low next = n at *
        have hz2 := HI2.out.r2.frozen 0
        have hz3 := HI2.out.r3.frozen 0
        have hp2 : W2.cell? ⟨b0 + 1, 0, none⟩ = some (.pointer none) := HI2.out.r2.cell 0
        have hp3 : W2.cell? ⟨b0 + 1 + 1, 0, none⟩ = some (.int .i64 0) := HI2.out.r3.cell 0
        cases hrl : rdLen l with
        | false =>
          have HN := hid (HRL.out hrl)
          rw [hrl] at HRD
          have hrd : ¬ (n ≤ 60 ∧ l.length = 2 + 2 * n) := by have := HRD.out; simpa using this.symm
          clear hrl HRL hsteps
          have hc : 60 < n ∨ (n ≤ 60 ∧ ((l.length : Int) != 2 + 2 * (n : Int)) = true) := by
            by_cases h : n ≤ 60
            · refine .inr ⟨h, ?_⟩
              simp only [bne_iff_ne, ne_eq]
              omega
            · exact .inl (by omega)
          clear hrd
          obtain ⟨c1, c2⟩ := two_cells HI2.out.r2 HI2.out.r3 (.pointer none) (.int .i64 11)
          have HC1 := hid c1
          have HC2 := hid c2
          have HFF := hid ((HI2.out.fr.setCell ⟨b0 + 1, 0, none⟩ (.pointer none) (fun h => absurd (show b0 + 1 < w.heap.size from h) (by have := HI2.out.far; omega))).setCell ⟨b0 + 1 + 1, 0, none⟩ (.int .i64 11) (fun h => absurd (show b0 + 1 + 1 < w.heap.size from h) (by have := HI2.out.far; omega)))
          clear c1 c2
          rcases hc with h | ⟨h, h'⟩
          all_goals
            go_wp2_with (fail)
            exact leavesM_none (rd_results rfl rfl HC1.out HC2.out) (.inl ⟨HN.out, rfl, HFF.out⟩)
        | true =>
          rw [hrl] at HRD
          have hrd : n ≤ 60 ∧ l.length = 2 + 2 * n := by have := HRD.out; simpa using this.symm
          obtain ⟨hn60, hln⟩ := hrd
          have hne : ((l.length : Int) != 2 + 2 * (n : Int)) = false := by simp only [bne_eq_false_iff_eq]; omega
          have h3 : 2 + 2 * n ≤ l.length := by omega
          have h4 : l.length ≤ 2 + 2 * n := by omega
          have HYES := hid (HYES.out HHD.out hrl)
          have HNN := hid hn
          have HSE := hid (fun w i => steps_go low (xat low i) w (by omega) (by have := xat_on low i; omega) (by have := xat_on low i; omega))
          have HSA := hid (fun w (a : Nat) (ha : 3 ≤ a ∧ a ≤ 127) => steps_go low a w (by omega) (by omega) (by omega))
          have lq : W2.cell? ⟨q, 0, none⟩ = some (.pointer (some ⟨p, 0, none⟩)) := HI2.out.qq.cell 0
          have f3 := (Fr.refl (fun _ => False) W2).alloc (.cells #[Value.int .i64 2] 3)
          have f4 := f3.alloc (.cells [Value.pointer (some ⟨p, 0, none⟩)].toArray 27)
          have d1 := (Blk.new W2 [Value.int .i64 2] 3).alloc (.cells [Value.pointer (some ⟨p, 0, none⟩)].toArray 27)
          have d2 := Blk.new (W2.alloc (.cells #[Value.int .i64 2] 3)) [Value.pointer (some ⟨p, 0, none⟩)] 27
          rw [World.size_alloc] at d2
          have hpl := Blk.lt HI2.out.c
          have hql := Blk.lt HI2.out.qq
          have J0 : RdJ w l b0 p q W2.heap.size (W2.heap.size + 1) low next 0 ((W2.alloc (.cells #[Value.int .i64 2] 3)).alloc (.cells [Value.pointer (some ⟨p, 0, none⟩)].toArray 27)) := ⟨HI2.out.fre f4, d1, d2, fun k hk => absurd hk (by omega), by omega⟩
          have HJ0 := hid J0
          clear hrl HRL hsteps hln hn HHD HRD hz2 hz3 hp2 hp3 f3 f4 d1 d2 J0 HI2
          go_wp2_with (first | (go_at_call 57; refine (all_go _ _).mono ?_; rintro e w9 ⟨rfl, rfl⟩))
          obtain ⟨W4, hW4⟩ : ∃ W4, W4 = (W2.alloc (.cells #[Value.int .i64 2] 3)).alloc (.cells [Value.pointer (some ⟨p, 0, none⟩)].toArray 27) := ⟨_, rfl⟩
          have hz4 : W4.heap.size = W2.heap.size + 2 := by rw [hW4]; simp
          rw [← hW4] at HJ0 ⊢
          clear hW4 s2 lq
          generalize W2.heap.size = ib at *
          refine wp_range_J (n := n) (fun i => .int .i64 (xat low i)) (fun i W => RdJ w l b0 p q ib (ib + 1) low next i W) (fun W => RdE w l b0 W) ?a13 rfl (fun _ _ => rfl) rfl (fun i W1 W2 h f => h.keep f (by omega)) (fun W1 W2 h f => h.keep f (by have := HJ0.out.inv.far; omega)) ?it3 HJ0.out ?asg3 ?round3 ?fin3 ?ret3
          case asg3 =>
            intro i W1 K hK
            gi_wp2
            exact hK
          case it3 =>
            rw [← HNN.out, hz4]
            refine all_it (ib + 2 + 1) (ib + 1) p low next n1 n0 _ fun i W1 h => ⟨h.cl.cell 0, ?_, ?_⟩
            · have := CRep.low h.inv.c; rwa [(fill_low l low next i).1] at this
            · have := CRep.next h.inv.c; rwa [(fill_low l low next i).2] at this
          case ret3 =>
            intro W1 hE hD
            rw [hz4] at hD
            have HE := hid hE
            have HDD := hid hD
            clear hE hD
            go_wp2_with (fail)
            rw [hz4]
            have hbb := HJ0.out.inv.far
            have FP := (Fr.refl (fun k => k = ib + 2) W1).putObj (ib + 2) (.deferred none) (fun _ => rfl)
            exact leavesM_one HDD.out (rd_results rfl rfl (cell_fr HE.out.c1 FP (by omega)) (cell_fr HE.out.c2 FP (by omega))) (.inl ⟨HE.out.no, rfl, HE.out.fr.trans FP (fun k hk hl => by omega)⟩)
          case fin3 =>
            intro W1 hJ hD
            rw [hz4] at hD
            have hz2 := hJ.inv.r2.frozen 0
            have hz3 := hJ.inv.r3.frozen 0
            have hp2 : W1.cell? ⟨b0 + 1, 0, none⟩ = some (.pointer none) := hJ.inv.r2.cell 0
            have hp3 : W1.cell? ⟨b0 + 1 + 1, 0, none⟩ = some (.int .i64 0) := hJ.inv.r3.cell 0
            have lq : W1.cell? ⟨q, 0, none⟩ = some (.pointer (some ⟨p, 0, none⟩)) := hJ.inv.qq.cell 0
            have hbb := hJ.inv.far
            have hff := hJ.far
            obtain ⟨c1, c2⟩ := two_cells hJ.inv.r2 hJ.inv.r3 (.pointer (some ⟨p, 0, none⟩)) (.int .i64 0)
            have F2 := (((Fr.refl (fun k => k = b0 + 1 ∨ k = b0 + 1 + 1) W1).setCell ⟨b0 + 1, 0, none⟩ (.pointer (some ⟨p, 0, none⟩)) (fun _ => .inl rfl)).setCell ⟨b0 + 1 + 1, 0, none⟩ (.int .i64 0) (fun _ => .inr rfl))
            have HD5 := hid ((F2.blk (ib + 2) (Array.getElem?_eq_some_iff.1 hD).1 (by omega)).trans hD)
            have F3 := (F2.mono (T := fun k => k = b0 + 1 ∨ k = b0 + 1 + 1 ∨ k = ib + 2) (fun k h _ => by omega)).putObj (ib + 2) (.deferred none) (fun _ => .inr (.inr rfl))
            have FP := (Fr.refl (fun k => k = ib + 2) ((W1.setCell ⟨b0 + 1, 0, none⟩ (.pointer (some ⟨p, 0, none⟩))).setCell ⟨b0 + 1 + 1, 0, none⟩ (.int .i64 0))).putObj (ib + 2) (.deferred none) (fun _ => rfl)
            have C1 := hid (cell_fr c1 FP (by omega))
            have C2 := hid (cell_fr c2 FP (by omega))
            have HC := hid (CRep.fr hJ.inv.c F3 (by omega))
            have HF := hid (hJ.inv.fr.trans F3 (fun k hk hl => by omega))
            have hy := hid (HYES.out hJ.ok)
            clear c1 c2 F2 F3 FP hD hJ
            go_wp2_with (fail)
            rw [hz4]
            exact leavesM_one HD5.out (rd_results rfl rfl C1.out C2.out) (.inr ⟨p, _, hy.out, rfl, by omega, HC.out, HF.out⟩)
          case round3 =>
            rw [hz4]
            intro i Wb hJ hi hsb
            have hx := xat_on low i
            have hxs := steps_xat n1 (i := i) (by omega)
            have s1 : Wb.cell? ⟨b0, 0, none⟩ = some (.string (bs l)) := hJ.inv.s.cell 0
            have ki : Wb.cell? ⟨ib, 0, none⟩ = some (.int .i64 (2 + 2 * i : Nat)) := hJ.ix.cell 0
            have lq : Wb.cell? ⟨q, 0, none⟩ = some (.pointer (some ⟨p, 0, none⟩)) := hJ.inv.qq.cell 0
            have l0 := CRep.low hJ.inv.c
            rw [(fill_low l low next i).1] at l0
            have b2 := byt_lt l (2 + 2 * i)
            have b3 := byt_lt l (3 + 2 * i)
            have hdef : okAt low l i = (decide (1 ≤ byt l (2 + 2 * i)) && decide (byt l (2 + 2 * i) ≤ 4) && fineB low (byt l (3 + 2 * i)) i) := rfl
            have HRAJ := hid (HRA.out i hi)
            rw [hdef] at HRAJ
            have HYJ := hid (fun h => show ∀ k, k < i + 1 → okAt low l k = true from fun k hk => by
              by_cases e : k = i
              · rw [e, hdef]; exact h
              · exact hJ.ok k (by omega))
            have hfill : CM.fill l low next (i + 1) = { CM.fill l low next i with st := put (CM.fill l low next i).st (xat low i) (byt l (2 + 2 * i)), ab := putN (CM.fill l low next i).ab (xat low i) (byt l (3 + 2 * i)) } := rfl
            have HFI := hid hfill
            have HJ := hid hJ
            have HSI := hid (HSE.out · i)
            rw [hxs] at HSI
            obtain ⟨k, hk⟩ : ∃ k, k = 2 + 2 * i := ⟨_, rfl⟩
            have HK := hid hk
            have k1 : (0 : Int) ≤ k := by omega
            have k2 : (k : Int) < l.length := by omega
            have k3 : (k : Int) + 1 < l.length := by omega
            have k4 : k < l.length := by omega
            have k5 : k + 1 < l.length := by omega
            have g2 : ((bs l)[k]'(e1 ▸ k4)).toNat = byt l (2 + 2 * i) := by rw [← hk]; exact HB.out k (e1 ▸ k4)
            have g3 : ((bs l)[k + 1]'(e1 ▸ k5)).toNat = byt l (3 + 2 * i) := by rw [show 3 + 2 * i = k + 1 by omega]; exact HB.out (k + 1) (e1 ▸ k5)
            have w3 : IntKind.i64.wrap ((k : Int) + 1) = k + 1 := IntWalk.i64_in _ (by omega)
            have ki : Wb.cell? ⟨ib, 0, none⟩ = some (.int .i64 k) := by rw [hk]; exact ki
            clear hdef hfill hJ hk
            generalize byt l (2 + 2 * i) = sv at *
            generalize byt l (3 + 2 * i) = av at *
            generalize hxx : xat low i = x at *
            have HXX := hid hxx
            clear hxx
            have j1 : (0 : Int) ≤ sv := by omega
            have j2 : (sv : Int) < 256 := by omega
            have j3 : (0 : Int) ≤ av := by omega
            have j4 : (av : Int) < 256 := by omega
            have w4 : IntKind.i64.wrap (sv : Int) = sv := IntWalk.i64_in _ (by omega)
            have w5 : IntKind.i64.wrap (av : Int) = av := IntWalk.i64_in _ (by omega)
            gi_wp2_with (fail)
            refine wpIn_region_scr (.take 0 (.take 1 (.take 2 (.take 3 (.take 4 (.take 5 (.take 6 (.take 7 (.take 8 (.take 9 (.take 10 .done))))))))))) (fun kz w => (kz ≤ 11 → w.cell? ⟨b0, 0, none⟩ = some (.string (bs l)) ∧ w.cell? ⟨ib, 0, none⟩ = some (.int .i64 k)) ∧ True) (by kernel_rfl) (by kernel_rfl) (by intro c a d v w h; cases d <;> exact h) (by decide +kernel) (by rintro ⟨_, _, h⟩; exact h) ?_
            repeat
              first
              | (refine wpT_pure rfl rfl rfl ?_; apply Exists.intro; refine ⟨?_, ?_⟩; intro w; ((go_simp <;> rfl)); simp only [Act.put, List.setIfInBounds_toArray, List.set_cons_zero, List.set_cons_succ])
              | (refine wpT_take 11 rfl rfl (by decide +kernel) ⟨fun _ => ⟨s1, ki⟩, trivial⟩ ?_; apply Exists.intro; refine ⟨?_, ?_⟩; intro w hw; (have qa := hw.1 (Nat.le_refl _); have qb := hw.2); ((go_simp <;> rfl)); simp only [Act.put, List.setIfInBounds_toArray, List.set_cons_zero, List.set_cons_succ])
              | (refine wpT_skip rfl rfl ?_; simp only [Act.put, List.setIfInBounds_toArray, List.set_cons_zero, List.set_cons_succ])
            refine wpT_nil ?_
            clear w3 w4 w5 k3 k4 k5 g2 g3 ki s1
            gi_wp2_with (fail)
            have HJ2 := hid (HJ.out.keep (z := ib + 2) ((Fr.refl (fun k => k = ib + 2 ∨ k = ib + 2 + 1) Wb).drew) (by omega))
            have FB := hid ((Fr.refl (fun k => k ≠ ib + 2 ∧ k ≠ ib + 2 + 1) Wb).drew)
            have lq : Wb.drew.cell? ⟨q, 0, none⟩ = some (.pointer (some ⟨p, 0, none⟩)) := lq
            have l0 : Wb.drew.cell? ⟨p, 0, none⟩ = some (.int .i64 low) := l0
            generalize Wb.drew = W5 at *
            have HOA := hid (fun w => on_go (av : Nat) w)
            have hfin : fineB low av i = (decide (av = 0) || (on av && decide (steps low av < i))) := rfl
            rw [hfin] at HRAJ HYJ
            have honA := fun h => on_iff (k := av) |>.1 h
            have HSA := hid (fun (h : 3 ≤ av ∧ av ≤ 127) w => HSA.out w av h)
            generalize steps low av = st at *
            clear hfin
            by_cases hall : (decide (1 ≤ sv) && decide (sv ≤ 4) && (decide (av = 0) || (on av && decide (st < i)))) = true
            case neg =>
              have HN := hid (HRAJ.out (by simpa using hall))
              have hp2 : W5.cell? ⟨b0 + 1, 0, none⟩ = some (.pointer none) := HJ2.out.inv.r2.cell 0
              have hp3 : W5.cell? ⟨b0 + 1 + 1, 0, none⟩ = some (.int .i64 0) := HJ2.out.inv.r3.cell 0
              have hz2 := HJ2.out.inv.r2.frozen 0
              have hz3 := HJ2.out.inv.r3.frozen 0
              have hbb := HJ2.out.inv.far
              have hff := HJ2.out.far
              obtain ⟨c1, c2⟩ := two_cells HJ2.out.inv.r2 HJ2.out.inv.r3 (.pointer none) (.int .i64 11)
              have F2 := ((Fr.refl (fun k => k = b0 + 1 ∨ k = b0 + 1 + 1) W5).setCell ⟨b0 + 1, 0, none⟩ (.pointer none) (fun _ => .inl rfl)).setCell ⟨b0 + 1 + 1, 0, none⟩ (.int .i64 11) (fun _ => .inr rfl)
              have HE := hid (show RdE w l b0 ((W5.setCell ⟨b0 + 1, 0, none⟩ (.pointer none)).setCell ⟨b0 + 1 + 1, 0, none⟩ (.int .i64 11)).drew from ⟨HN.out, (HJ2.out.inv.fr.trans F2 (fun k hk hl => by omega)).drew, c1, c2, hbb.2.2.2⟩)
              have HFX := hid ((FB.out.trans F2 (fun k hk hl => by omega)).drew)
              clear c1 c2 F2 hbb hff
              by_cases hs1 : sv < 1
              · have hd1 : decide ((sv : Int) < 1) = true := by simp; omega
                clear hall
                refine wpIn_region_scr (.take 0 (.take 1 (.take 2 (.take 3 (.take 4 (.take 5 (.take 6 (.take 7 (.take 8 (.take 9 (.take 10 (.op 11 (.take 12 (.take 13 (.take 14 (.take 15 (.take 16 (.take 17 (.take 18 (.take 20 (.take 21 (.take 22 (.take 23 (.take 24 (.op 19 (.op 25 (.take 26 (.take 27 (.take 28 (.take 29 .done)))))))))))))))))))))))))))))) (fun kz w => (kz ≤ 30 → w.cell? ⟨q, 0, none⟩ = some (.pointer (some ⟨p, 0, none⟩)) ∧ w.cell? ⟨p, 0, none⟩ = some (.int .i64 low)) ∧ True) (by kernel_rfl) (by kernel_rfl) (by intro c a d v w h; cases d <;> exact h) (by decide +kernel) (by rintro ⟨_, _, h⟩; exact h) ?_
                repeat
                  first
                  | (refine wpT_pure rfl rfl rfl ?_; apply Exists.intro; refine ⟨?_, ?_⟩; intro w; ((go_simp <;> rfl)); simp only [Act.put, List.setIfInBounds_toArray, List.set_cons_zero, List.set_cons_succ])
                  | (refine wpT_take 30 rfl rfl (by decide +kernel) ⟨fun _ => ⟨lq, l0⟩, trivial⟩ ?_; apply Exists.intro; refine ⟨?_, ?_⟩; intro w hw; (have qa := hw.1 (Nat.le_refl _); have qb := hw.2); ((go_simp <;> rfl)); simp only [Act.put, List.setIfInBounds_toArray, List.set_cons_zero, List.set_cons_succ])
                  | (refine wpT_skip rfl rfl ?_; simp only [Act.put, List.setIfInBounds_toArray, List.set_cons_zero, List.set_cons_succ])
                refine wpT_op rfl ?_
                go_wp2_with ((go_at_call 52; refine (HOA.out _).mono ?_; rintro e w' ⟨rfl, rfl⟩))
                (refine ⟨?_, ?_⟩; focus (intro kz hk hk2 hh; first | (exfalso; simp at hk2; omega) | exact hh | exact (fun h => absurd h (by omega)) | obtain ⟨qa, qb⟩ := hh; first | exact ⟨qa, qb⟩ | (refine ⟨fun h => absurd h (by omega), ?_⟩; first | exact qb | (exact qa)) | (refine ⟨fun h => ?_, ?_⟩; (have qa := qa h); all_goals (first | exact qa | exact qb | (exact qa)))))
                repeat
                  first
                  | (refine wpT_pure rfl rfl rfl ?_; apply Exists.intro; refine ⟨?_, ?_⟩; intro w; ((go_simp <;> rfl)); simp only [Act.put, List.setIfInBounds_toArray, List.set_cons_zero, List.set_cons_succ])
                  | (refine wpT_take 30 rfl rfl (by decide +kernel) ⟨fun _ => ⟨lq, l0⟩, trivial⟩ ?_; apply Exists.intro; refine ⟨?_, ?_⟩; intro w hw; (have qa := hw.1 (Nat.le_refl _); have qb := hw.2); ((go_simp <;> rfl)); simp only [Act.put, List.setIfInBounds_toArray, List.set_cons_zero, List.set_cons_succ])
                  | (refine wpT_skip rfl rfl ?_; simp only [Act.put, List.setIfInBounds_toArray, List.set_cons_zero, List.set_cons_succ])
                refine wpT_op rfl ?_
                go_wp2_with ((go_at_call 54; refine (HSA.out _).mono ?_; rintro e w' ⟨rfl, rfl⟩))
                (refine ⟨?_, ?_⟩; focus (intro kz hk hk2 hh; first | (exfalso; simp at hk2; omega) | exact hh | exact (fun h => absurd h (by omega)) | obtain ⟨qa, qb⟩ := hh; first | exact ⟨qa, qb⟩ | (refine ⟨fun h => absurd h (by omega), ?_⟩; first | exact qb | (exact qa)) | (refine ⟨fun h => ?_, ?_⟩; (have qa := qa h); all_goals (first | exact qa | exact qb | (exact qa)))))
                refine wpT_op rfl ?_
                go_wp2_with ((go_at_call 54; refine (HSI.out _).mono ?_; rintro e w' ⟨rfl, rfl⟩))
                (refine ⟨?_, ?_⟩; focus (intro kz hk hk2 hh; first | (exfalso; simp at hk2; omega) | exact hh | exact (fun h => absurd h (by omega)) | obtain ⟨qa, qb⟩ := hh; first | exact ⟨qa, qb⟩ | (refine ⟨fun h => absurd h (by omega), ?_⟩; first | exact qb | (exact qa)) | (refine ⟨fun h => ?_, ?_⟩; (have qa := qa h); all_goals (first | exact qa | exact qb | (exact qa)))))
                repeat
                  first
                  | (refine wpT_pure rfl rfl rfl ?_; apply Exists.intro; refine ⟨?_, ?_⟩; intro w; ((go_simp <;> rfl)); simp only [Act.put, List.setIfInBounds_toArray, List.set_cons_zero, List.set_cons_succ])
                  | (refine wpT_take 30 rfl rfl (by decide +kernel) ⟨fun _ => ⟨lq, l0⟩, trivial⟩ ?_; apply Exists.intro; refine ⟨?_, ?_⟩; intro w hw; (have qa := hw.1 (Nat.le_refl _); have qb := hw.2); ((go_simp <;> rfl)); simp only [Act.put, List.setIfInBounds_toArray, List.set_cons_zero, List.set_cons_succ])
                  | (refine wpT_skip rfl rfl ?_; simp only [Act.put, List.setIfInBounds_toArray, List.set_cons_zero, List.set_cons_succ])
                refine wpT_nil ?_
                gi_wp2_with (fail)
                exact ⟨HE.out, HFX.out⟩
              · have hd1 : decide ((sv : Int) < 1) = false := by simp; omega
                by_cases hs4 : 4 < sv
                · have hd4 : decide (4 < (sv : Int)) = true := by simp; omega
                  clear hall
                  refine wpIn_region_scr (.take 0 (.take 1 (.take 2 (.take 3 (.take 4 (.take 5 (.take 6 (.take 7 (.take 8 (.take 9 (.take 10 (.op 11 (.take 12 (.take 13 (.take 14 (.take 15 (.take 16 (.take 17 (.take 18 (.take 20 (.take 21 (.take 22 (.take 23 (.take 24 (.op 19 (.op 25 (.take 26 (.take 27 (.take 28 (.take 29 .done)))))))))))))))))))))))))))))) (fun kz w => (kz ≤ 30 → w.cell? ⟨q, 0, none⟩ = some (.pointer (some ⟨p, 0, none⟩)) ∧ w.cell? ⟨p, 0, none⟩ = some (.int .i64 low)) ∧ True) (by kernel_rfl) (by kernel_rfl) (by intro c a d v w h; cases d <;> exact h) (by decide +kernel) (by rintro ⟨_, _, h⟩; exact h) ?_
                  repeat
                    first
                    | (refine wpT_pure rfl rfl rfl ?_; apply Exists.intro; refine ⟨?_, ?_⟩; intro w; ((go_simp <;> rfl)); simp only [Act.put, List.setIfInBounds_toArray, List.set_cons_zero, List.set_cons_succ])
                    | (refine wpT_take 30 rfl rfl (by decide +kernel) ⟨fun _ => ⟨lq, l0⟩, trivial⟩ ?_; apply Exists.intro; refine ⟨?_, ?_⟩; intro w hw; (have qa := hw.1 (Nat.le_refl _); have qb := hw.2); ((go_simp <;> rfl)); simp only [Act.put, List.setIfInBounds_toArray, List.set_cons_zero, List.set_cons_succ])
                    | (refine wpT_skip rfl rfl ?_; simp only [Act.put, List.setIfInBounds_toArray, List.set_cons_zero, List.set_cons_succ])
                  refine wpT_op rfl ?_
                  go_wp2_with ((go_at_call 52; refine (HOA.out _).mono ?_; rintro e w' ⟨rfl, rfl⟩))
                  (refine ⟨?_, ?_⟩; focus (intro kz hk hk2 hh; first | (exfalso; simp at hk2; omega) | exact hh | exact (fun h => absurd h (by omega)) | obtain ⟨qa, qb⟩ := hh; first | exact ⟨qa, qb⟩ | (refine ⟨fun h => absurd h (by omega), ?_⟩; first | exact qb | (exact qa)) | (refine ⟨fun h => ?_, ?_⟩; (have qa := qa h); all_goals (first | exact qa | exact qb | (exact qa)))))
                  repeat
                    first
                    | (refine wpT_pure rfl rfl rfl ?_; apply Exists.intro; refine ⟨?_, ?_⟩; intro w; ((go_simp <;> rfl)); simp only [Act.put, List.setIfInBounds_toArray, List.set_cons_zero, List.set_cons_succ])
                    | (refine wpT_take 30 rfl rfl (by decide +kernel) ⟨fun _ => ⟨lq, l0⟩, trivial⟩ ?_; apply Exists.intro; refine ⟨?_, ?_⟩; intro w hw; (have qa := hw.1 (Nat.le_refl _); have qb := hw.2); ((go_simp <;> rfl)); simp only [Act.put, List.setIfInBounds_toArray, List.set_cons_zero, List.set_cons_succ])
                    | (refine wpT_skip rfl rfl ?_; simp only [Act.put, List.setIfInBounds_toArray, List.set_cons_zero, List.set_cons_succ])
                  refine wpT_op rfl ?_
                  go_wp2_with ((go_at_call 54; refine (HSA.out _).mono ?_; rintro e w' ⟨rfl, rfl⟩))
                  (refine ⟨?_, ?_⟩; focus (intro kz hk hk2 hh; first | (exfalso; simp at hk2; omega) | exact hh | exact (fun h => absurd h (by omega)) | obtain ⟨qa, qb⟩ := hh; first | exact ⟨qa, qb⟩ | (refine ⟨fun h => absurd h (by omega), ?_⟩; first | exact qb | (exact qa)) | (refine ⟨fun h => ?_, ?_⟩; (have qa := qa h); all_goals (first | exact qa | exact qb | (exact qa)))))
                  refine wpT_op rfl ?_
                  go_wp2_with ((go_at_call 54; refine (HSI.out _).mono ?_; rintro e w' ⟨rfl, rfl⟩))
                  (refine ⟨?_, ?_⟩; focus (intro kz hk hk2 hh; first | (exfalso; simp at hk2; omega) | exact hh | exact (fun h => absurd h (by omega)) | obtain ⟨qa, qb⟩ := hh; first | exact ⟨qa, qb⟩ | (refine ⟨fun h => absurd h (by omega), ?_⟩; first | exact qb | (exact qa)) | (refine ⟨fun h => ?_, ?_⟩; (have qa := qa h); all_goals (first | exact qa | exact qb | (exact qa)))))
                  repeat
                    first
                    | (refine wpT_pure rfl rfl rfl ?_; apply Exists.intro; refine ⟨?_, ?_⟩; intro w; ((go_simp <;> rfl)); simp only [Act.put, List.setIfInBounds_toArray, List.set_cons_zero, List.set_cons_succ])
                    | (refine wpT_take 30 rfl rfl (by decide +kernel) ⟨fun _ => ⟨lq, l0⟩, trivial⟩ ?_; apply Exists.intro; refine ⟨?_, ?_⟩; intro w hw; (have qa := hw.1 (Nat.le_refl _); have qb := hw.2); ((go_simp <;> rfl)); simp only [Act.put, List.setIfInBounds_toArray, List.set_cons_zero, List.set_cons_succ])
                    | (refine wpT_skip rfl rfl ?_; simp only [Act.put, List.setIfInBounds_toArray, List.set_cons_zero, List.set_cons_succ])
                  refine wpT_nil ?_
                  gi_wp2_with (fail)
                  exact ⟨HE.out, HFX.out⟩
                · have hd4 : decide (4 < (sv : Int)) = false := by simp; omega
                  have ha0 : av ≠ 0 := by
                    intro e
                    apply hall
                    simp [e]
                    omega
                  have hav : ((av : Int) != 0) = true := by simp; omega
                  cases ho : on (av : Int) with
                  | false =>
                    rw [ho] at HOA
                    clear hall ho honA
                    refine wpIn_region_scr (.take 0 (.take 1 (.take 2 (.take 3 (.take 4 (.take 5 (.take 6 (.take 7 (.take 8 (.take 9 (.take 10 (.op 11 (.take 12 (.take 13 (.take 14 (.take 15 (.take 16 (.take 17 (.take 18 (.take 20 (.take 21 (.take 22 (.take 23 (.take 24 (.op 19 (.op 25 (.take 26 (.take 27 (.take 28 (.take 29 .done)))))))))))))))))))))))))))))) (fun kz w => (kz ≤ 30 → w.cell? ⟨q, 0, none⟩ = some (.pointer (some ⟨p, 0, none⟩)) ∧ w.cell? ⟨p, 0, none⟩ = some (.int .i64 low)) ∧ True) (by kernel_rfl) (by kernel_rfl) (by intro c a d v w h; cases d <;> exact h) (by decide +kernel) (by rintro ⟨_, _, h⟩; exact h) ?_
                    repeat
                      first
                      | (refine wpT_pure rfl rfl rfl ?_; apply Exists.intro; refine ⟨?_, ?_⟩; intro w; ((go_simp <;> rfl)); simp only [Act.put, List.setIfInBounds_toArray, List.set_cons_zero, List.set_cons_succ])
                      | (refine wpT_take 30 rfl rfl (by decide +kernel) ⟨fun _ => ⟨lq, l0⟩, trivial⟩ ?_; apply Exists.intro; refine ⟨?_, ?_⟩; intro w hw; (have qa := hw.1 (Nat.le_refl _); have qb := hw.2); ((go_simp <;> rfl)); simp only [Act.put, List.setIfInBounds_toArray, List.set_cons_zero, List.set_cons_succ])
                      | (refine wpT_skip rfl rfl ?_; simp only [Act.put, List.setIfInBounds_toArray, List.set_cons_zero, List.set_cons_succ])
                    refine wpT_op rfl ?_
                    go_wp2_with ((go_at_call 52; refine (HOA.out _).mono ?_; rintro e w' ⟨rfl, rfl⟩))
                    (refine ⟨?_, ?_⟩; focus (intro kz hk hk2 hh; first | (exfalso; simp at hk2; omega) | exact hh | exact (fun h => absurd h (by omega)) | obtain ⟨qa, qb⟩ := hh; first | exact ⟨qa, qb⟩ | (refine ⟨fun h => absurd h (by omega), ?_⟩; first | exact qb | (exact qa)) | (refine ⟨fun h => ?_, ?_⟩; (have qa := qa h); all_goals (first | exact qa | exact qb | (exact qa)))))
                    repeat
                      first
                      | (refine wpT_pure rfl rfl rfl ?_; apply Exists.intro; refine ⟨?_, ?_⟩; intro w; ((go_simp <;> rfl)); simp only [Act.put, List.setIfInBounds_toArray, List.set_cons_zero, List.set_cons_succ])
                      | (refine wpT_take 30 rfl rfl (by decide +kernel) ⟨fun _ => ⟨lq, l0⟩, trivial⟩ ?_; apply Exists.intro; refine ⟨?_, ?_⟩; intro w hw; (have qa := hw.1 (Nat.le_refl _); have qb := hw.2); ((go_simp <;> rfl)); simp only [Act.put, List.setIfInBounds_toArray, List.set_cons_zero, List.set_cons_succ])
                      | (refine wpT_skip rfl rfl ?_; simp only [Act.put, List.setIfInBounds_toArray, List.set_cons_zero, List.set_cons_succ])
                    refine wpT_op rfl ?_
                    go_wp2_with ((go_at_call 54; refine (HSA.out _).mono ?_; rintro e w' ⟨rfl, rfl⟩))
                    (refine ⟨?_, ?_⟩; focus (intro kz hk hk2 hh; first | (exfalso; simp at hk2; omega) | exact hh | exact (fun h => absurd h (by omega)) | obtain ⟨qa, qb⟩ := hh; first | exact ⟨qa, qb⟩ | (refine ⟨fun h => absurd h (by omega), ?_⟩; first | exact qb | (exact qa)) | (refine ⟨fun h => ?_, ?_⟩; (have qa := qa h); all_goals (first | exact qa | exact qb | (exact qa)))))
                    refine wpT_op rfl ?_
                    go_wp2_with ((go_at_call 54; refine (HSI.out _).mono ?_; rintro e w' ⟨rfl, rfl⟩))
                    (refine ⟨?_, ?_⟩; focus (intro kz hk hk2 hh; first | (exfalso; simp at hk2; omega) | exact hh | exact (fun h => absurd h (by omega)) | obtain ⟨qa, qb⟩ := hh; first | exact ⟨qa, qb⟩ | (refine ⟨fun h => absurd h (by omega), ?_⟩; first | exact qb | (exact qa)) | (refine ⟨fun h => ?_, ?_⟩; (have qa := qa h); all_goals (first | exact qa | exact qb | (exact qa)))))
                    repeat
                      first
                      | (refine wpT_pure rfl rfl rfl ?_; apply Exists.intro; refine ⟨?_, ?_⟩; intro w; ((go_simp <;> rfl)); simp only [Act.put, List.setIfInBounds_toArray, List.set_cons_zero, List.set_cons_succ])
                      | (refine wpT_take 30 rfl rfl (by decide +kernel) ⟨fun _ => ⟨lq, l0⟩, trivial⟩ ?_; apply Exists.intro; refine ⟨?_, ?_⟩; intro w hw; (have qa := hw.1 (Nat.le_refl _); have qb := hw.2); ((go_simp <;> rfl)); simp only [Act.put, List.setIfInBounds_toArray, List.set_cons_zero, List.set_cons_succ])
                      | (refine wpT_skip rfl rfl ?_; simp only [Act.put, List.setIfInBounds_toArray, List.set_cons_zero, List.set_cons_succ])
                    refine wpT_nil ?_
                    gi_wp2_with (fail)
                    exact ⟨HE.out, HFX.out⟩
                  | true =>
                    have hst : i ≤ st := by
                      rw [ho] at hall
                      simp at hall
                      omega
                    have hd5 : decide ((i : Int) ≤ (st : Int)) = true := by simp; omega
                    rw [ho] at HOA
                    have HSA := hid (HSA.out (honA ho))
                    clear hall ho honA
                    refine wpIn_region_scr (.take 0 (.take 1 (.take 2 (.take 3 (.take 4 (.take 5 (.take 6 (.take 7 (.take 8 (.take 9 (.take 10 (.op 11 (.take 12 (.take 13 (.take 14 (.take 15 (.take 16 (.take 17 (.take 18 (.take 20 (.take 21 (.take 22 (.take 23 (.take 24 (.op 19 (.op 25 (.take 26 (.take 27 (.take 28 (.take 29 .done)))))))))))))))))))))))))))))) (fun kz w => (kz ≤ 30 → w.cell? ⟨q, 0, none⟩ = some (.pointer (some ⟨p, 0, none⟩)) ∧ w.cell? ⟨p, 0, none⟩ = some (.int .i64 low)) ∧ True) (by kernel_rfl) (by kernel_rfl) (by intro c a d v w h; cases d <;> exact h) (by decide +kernel) (by rintro ⟨_, _, h⟩; exact h) ?_
                    repeat
                      first
                      | (refine wpT_pure rfl rfl rfl ?_; apply Exists.intro; refine ⟨?_, ?_⟩; intro w; ((go_simp <;> rfl)); simp only [Act.put, List.setIfInBounds_toArray, List.set_cons_zero, List.set_cons_succ])
                      | (refine wpT_take 30 rfl rfl (by decide +kernel) ⟨fun _ => ⟨lq, l0⟩, trivial⟩ ?_; apply Exists.intro; refine ⟨?_, ?_⟩; intro w hw; (have qa := hw.1 (Nat.le_refl _); have qb := hw.2); ((go_simp <;> rfl)); simp only [Act.put, List.setIfInBounds_toArray, List.set_cons_zero, List.set_cons_succ])
                      | (refine wpT_skip rfl rfl ?_; simp only [Act.put, List.setIfInBounds_toArray, List.set_cons_zero, List.set_cons_succ])
                    refine wpT_op rfl ?_
                    go_wp2_with ((go_at_call 52; refine (HOA.out _).mono ?_; rintro e w' ⟨rfl, rfl⟩))
                    (refine ⟨?_, ?_⟩; focus (intro kz hk hk2 hh; first | (exfalso; simp at hk2; omega) | exact hh | exact (fun h => absurd h (by omega)) | obtain ⟨qa, qb⟩ := hh; first | exact ⟨qa, qb⟩ | (refine ⟨fun h => absurd h (by omega), ?_⟩; first | exact qb | (exact qa)) | (refine ⟨fun h => ?_, ?_⟩; (have qa := qa h); all_goals (first | exact qa | exact qb | (exact qa)))))
                    repeat
                      first
                      | (refine wpT_pure rfl rfl rfl ?_; apply Exists.intro; refine ⟨?_, ?_⟩; intro w; ((go_simp <;> rfl)); simp only [Act.put, List.setIfInBounds_toArray, List.set_cons_zero, List.set_cons_succ])
                      | (refine wpT_take 30 rfl rfl (by decide +kernel) ⟨fun _ => ⟨lq, l0⟩, trivial⟩ ?_; apply Exists.intro; refine ⟨?_, ?_⟩; intro w hw; (have qa := hw.1 (Nat.le_refl _); have qb := hw.2); ((go_simp <;> rfl)); simp only [Act.put, List.setIfInBounds_toArray, List.set_cons_zero, List.set_cons_succ])
                      | (refine wpT_skip rfl rfl ?_; simp only [Act.put, List.setIfInBounds_toArray, List.set_cons_zero, List.set_cons_succ])
                    refine wpT_op rfl ?_
                    go_wp2_with ((go_at_call 54; refine (HSA.out _).mono ?_; rintro e w' ⟨rfl, rfl⟩))
                    (refine ⟨?_, ?_⟩; focus (intro kz hk hk2 hh; first | (exfalso; simp at hk2; omega) | exact hh | exact (fun h => absurd h (by omega)) | obtain ⟨qa, qb⟩ := hh; first | exact ⟨qa, qb⟩ | (refine ⟨fun h => absurd h (by omega), ?_⟩; first | exact qb | (exact qa)) | (refine ⟨fun h => ?_, ?_⟩; (have qa := qa h); all_goals (first | exact qa | exact qb | (exact qa)))))
                    refine wpT_op rfl ?_
                    go_wp2_with ((go_at_call 54; refine (HSI.out _).mono ?_; rintro e w' ⟨rfl, rfl⟩))
                    (refine ⟨?_, ?_⟩; focus (intro kz hk hk2 hh; first | (exfalso; simp at hk2; omega) | exact hh | exact (fun h => absurd h (by omega)) | obtain ⟨qa, qb⟩ := hh; first | exact ⟨qa, qb⟩ | (refine ⟨fun h => absurd h (by omega), ?_⟩; first | exact qb | (exact qa)) | (refine ⟨fun h => ?_, ?_⟩; (have qa := qa h); all_goals (first | exact qa | exact qb | (exact qa)))))
                    repeat
                      first
                      | (refine wpT_pure rfl rfl rfl ?_; apply Exists.intro; refine ⟨?_, ?_⟩; intro w; ((go_simp <;> rfl)); simp only [Act.put, List.setIfInBounds_toArray, List.set_cons_zero, List.set_cons_succ])
                      | (refine wpT_take 30 rfl rfl (by decide +kernel) ⟨fun _ => ⟨lq, l0⟩, trivial⟩ ?_; apply Exists.intro; refine ⟨?_, ?_⟩; intro w hw; (have qa := hw.1 (Nat.le_refl _); have qb := hw.2); ((go_simp <;> rfl)); simp only [Act.put, List.setIfInBounds_toArray, List.set_cons_zero, List.set_cons_succ])
                      | (refine wpT_skip rfl rfl ?_; simp only [Act.put, List.setIfInBounds_toArray, List.set_cons_zero, List.set_cons_succ])
                    refine wpT_nil ?_
                    gi_wp2_with (fail)
                    exact ⟨HE.out, HFX.out⟩
            case pos =>
              have HYK := hid (HYJ.out hall)
              simp only [Bool.and_eq_true, decide_eq_true_eq, Bool.or_eq_true] at hall
              obtain ⟨⟨hs1, hs4⟩, hav⟩ := hall
              have hd1 : decide ((sv : Int) < 1) = false := by simp; omega
              have hd4 : decide (4 < (sv : Int)) = false := by simp; omega
              have hbb := HJ2.out.inv.far
              have hff := HJ2.out.far
              have hT : W5.drew.there p (2 + x * 2) 2 := Blk.there (Blk.drew HJ2.out.inv.c) _ _ (by rw [ccells_length]; omega)
              have B1 := Blk.set (Blk.drew HJ2.out.inv.c) (2 + x * 2) (.int .i64 sv)
              rw [ccells_setst _ x (by omega)] at B1
              have B2 := Blk.set B1 (2 + x * 2 + 1) (.int .i64 av)
              rw [ccells_setab _ x (by omega)] at B2
              have B2 : CRep (W5.drew.setCells p (2 + x * 2) [.int .i64 sv, .int .i64 av]) p (CM.fill l low next (i + 1)) := by rw [HFI.out]; exact B2
              have F2 := (Fr.refl (fun k => k = p) W5).drew.put p (2 + x * 2) [.int .i64 sv, .int .i64 av] (fun _ => rfl)
              have X2 := HJ2.out.ix.fr F2 (by omega)
              rw [← HK.out] at X2
              have ki : (W5.drew.setCells p (2 + x * 2) [.int .i64 sv, .int .i64 av]).cell? ⟨ib, 0, none⟩ = some (.int .i64 k) := X2.cell 0
              have zi := X2.frozen 0
              have F3 := (Fr.refl (fun k => k = ib) (W5.drew.setCells p (2 + x * 2) [.int .i64 sv, .int .i64 av])).setCell ⟨ib, 0, none⟩ (.int .i64 (k + 2)) (fun _ => rfl)
              have F5 : Fr (fun j => j = p ∨ j = ib) W5 ((W5.drew.setCells p (2 + x * 2) [.int .i64 sv, .int .i64 av]).setCell ⟨ib, 0, none⟩ (.int .i64 (k + 2))) := (F2.mono (fun j h _ => .inl h)).trans F3 (fun j h _ => .inr h)
              have X3 := X2.set 0 (.int .i64 (k + 2))
              have HEND := hid (show RdJ w l b0 p q ib (ib + 1) low next (i + 1) ((W5.drew.setCells p (2 + x * 2) [.int .i64 sv, .int .i64 av]).setCell ⟨ib, 0, none⟩ (.int .i64 (k + 2))) from
                ⟨⟨HJ2.out.inv.fr.trans F5 (fun k hk hl => by omega), HJ2.out.inv.s.fr F5 (by omega), HJ2.out.inv.r2.fr F5 (by omega), HJ2.out.inv.r3.fr F5 (by omega), CRep.fr B2 F3 (by omega), HJ2.out.inv.qq.fr F5 (by omega), hbb⟩, by
                  have e : ((2 + 2 * (i + 1) : Nat) : Int) = (k : Int) + 2 := by have := HK.out; omega
                  rw [e]; exact X3, HJ2.out.cl.fr F5 (by omega), HYK.out, hff⟩)
              have HEF := hid (FB.out.trans (F5.mono (T := fun k => k ≠ ib + 2 ∧ k ≠ ib + 2 + 1) (fun k hk hl => by omega)) (fun _ h _ => h))
              have y1 : (0 : Int) ≤ (x : Int) := by omega
              have y2 : (x : Int) < 128 := by omega
              clear B1 B2 F2 X2 F3 F5 X3 hbb hff HYJ HYK hs1 hs4
              by_cases ha0 : av = 0
              · have hav0 : ((av : Int) != 0) = false := by simp [ha0]
                clear hav honA ha0
                refine wpIn_region_scr (.take 0 (.take 1 (.take 2 (.take 3 (.take 4 (.take 5 (.take 6 (.take 7 (.take 8 (.take 9 (.take 10 (.op 11 (.take 12 (.take 13 (.take 14 (.take 15 (.take 16 (.take 17 (.take 18 (.take 20 (.take 21 (.take 22 (.take 23 (.take 24 (.op 19 (.op 25 (.take 26 (.take 27 (.take 28 (.take 29 .done)))))))))))))))))))))))))))))) (fun kz w => (kz ≤ 30 → w.cell? ⟨q, 0, none⟩ = some (.pointer (some ⟨p, 0, none⟩)) ∧ w.cell? ⟨p, 0, none⟩ = some (.int .i64 low)) ∧ True) (by kernel_rfl) (by kernel_rfl) (by intro c a d v w h; cases d <;> exact h) (by decide +kernel) (by rintro ⟨_, _, h⟩; exact h) ?_
                repeat
                  first
                  | (refine wpT_pure rfl rfl rfl ?_; apply Exists.intro; refine ⟨?_, ?_⟩; intro w; ((go_simp <;> rfl)); simp only [Act.put, List.setIfInBounds_toArray, List.set_cons_zero, List.set_cons_succ])
                  | (refine wpT_take 30 rfl rfl (by decide +kernel) ⟨fun _ => ⟨lq, l0⟩, trivial⟩ ?_; apply Exists.intro; refine ⟨?_, ?_⟩; intro w hw; (have qa := hw.1 (Nat.le_refl _); have qb := hw.2); ((go_simp <;> rfl)); simp only [Act.put, List.setIfInBounds_toArray, List.set_cons_zero, List.set_cons_succ])
                  | (refine wpT_skip rfl rfl ?_; simp only [Act.put, List.setIfInBounds_toArray, List.set_cons_zero, List.set_cons_succ])
                refine wpT_op rfl ?_
                go_wp2_with ((go_at_call 52; refine (HOA.out _).mono ?_; rintro e w' ⟨rfl, rfl⟩))
                (refine ⟨?_, ?_⟩; focus (intro kz hk hk2 hh; first | (exfalso; simp at hk2; omega) | exact hh | exact (fun h => absurd h (by omega)) | obtain ⟨qa, qb⟩ := hh; first | exact ⟨qa, qb⟩ | (refine ⟨fun h => absurd h (by omega), ?_⟩; first | exact qb | (exact qa)) | (refine ⟨fun h => ?_, ?_⟩; (have qa := qa h); all_goals (first | exact qa | exact qb | (exact qa)))))
                repeat
                  first
                  | (refine wpT_pure rfl rfl rfl ?_; apply Exists.intro; refine ⟨?_, ?_⟩; intro w; ((go_simp <;> rfl)); simp only [Act.put, List.setIfInBounds_toArray, List.set_cons_zero, List.set_cons_succ])
                  | (refine wpT_take 30 rfl rfl (by decide +kernel) ⟨fun _ => ⟨lq, l0⟩, trivial⟩ ?_; apply Exists.intro; refine ⟨?_, ?_⟩; intro w hw; (have qa := hw.1 (Nat.le_refl _); have qb := hw.2); ((go_simp <;> rfl)); simp only [Act.put, List.setIfInBounds_toArray, List.set_cons_zero, List.set_cons_succ])
                  | (refine wpT_skip rfl rfl ?_; simp only [Act.put, List.setIfInBounds_toArray, List.set_cons_zero, List.set_cons_succ])
                refine wpT_op rfl ?_
                go_wp2_with ((go_at_call 54; refine (HSA.out _).mono ?_; rintro e w' ⟨rfl, rfl⟩))
                (refine ⟨?_, ?_⟩; focus (intro kz hk hk2 hh; first | (exfalso; simp at hk2; omega) | exact hh | exact (fun h => absurd h (by omega)) | obtain ⟨qa, qb⟩ := hh; first | exact ⟨qa, qb⟩ | (refine ⟨fun h => absurd h (by omega), ?_⟩; first | exact qb | (exact qa)) | (refine ⟨fun h => ?_, ?_⟩; (have qa := qa h); all_goals (first | exact qa | exact qb | (exact qa)))))
                refine wpT_op rfl ?_
                go_wp2_with ((go_at_call 54; refine (HSI.out _).mono ?_; rintro e w' ⟨rfl, rfl⟩))
                (refine ⟨?_, ?_⟩; focus (intro kz hk hk2 hh; first | (exfalso; simp at hk2; omega) | exact hh | exact (fun h => absurd h (by omega)) | obtain ⟨qa, qb⟩ := hh; first | exact ⟨qa, qb⟩ | (refine ⟨fun h => absurd h (by omega), ?_⟩; first | exact qb | (exact qa)) | (refine ⟨fun h => ?_, ?_⟩; (have qa := qa h); all_goals (first | exact qa | exact qb | (exact qa)))))
                repeat
                  first
                  | (refine wpT_pure rfl rfl rfl ?_; apply Exists.intro; refine ⟨?_, ?_⟩; intro w; ((go_simp <;> rfl)); simp only [Act.put, List.setIfInBounds_toArray, List.set_cons_zero, List.set_cons_succ])
                  | (refine wpT_take 30 rfl rfl (by decide +kernel) ⟨fun _ => ⟨lq, l0⟩, trivial⟩ ?_; apply Exists.intro; refine ⟨?_, ?_⟩; intro w hw; (have qa := hw.1 (Nat.le_refl _); have qb := hw.2); ((go_simp <;> rfl)); simp only [Act.put, List.setIfInBounds_toArray, List.set_cons_zero, List.set_cons_succ])
                  | (refine wpT_skip rfl rfl ?_; simp only [Act.put, List.setIfInBounds_toArray, List.set_cons_zero, List.set_cons_succ])
                refine wpT_nil ?_
                have lq2 : W5.drew.cell? ⟨q, 0, none⟩ = some (.pointer (some ⟨p, 0, none⟩)) := lq
                gi_wp2_with (refine wpListIn_at 103 rfl (by rintro ⟨_, _, h⟩; exact h) (by decide +kernel) ?_)
                go_wp2_with (first | (refine wpList_store_mid rfl 81 _ _ rfl p (2 + x * 2) _ rfl rfl hT Try.size_stand (by simp [Value.oneCell']) ?_; rw [List.toList_toArray]))
                generalize W5.drew.setCells p (2 + x * 2) [.int .i64 sv, .int .i64 av] = W7 at *
                gi_wp2_with (fail)
                exact ⟨HEND.out, HEF.out⟩
              · have hav0 : ((av : Int) != 0) = true := by simp; omega
                obtain ⟨ho, hst⟩ : on (av : Int) = true ∧ st < i := by
                  rcases hav with h | h
                  · exact absurd h ha0
                  · exact h
                have hd5 : decide ((i : Int) ≤ (st : Int)) = false := by simp; omega
                rw [ho] at HOA
                have HSA := hid (HSA.out (honA ho))
                clear hav honA ho ha0
                refine wpIn_region_scr (.take 0 (.take 1 (.take 2 (.take 3 (.take 4 (.take 5 (.take 6 (.take 7 (.take 8 (.take 9 (.take 10 (.op 11 (.take 12 (.take 13 (.take 14 (.take 15 (.take 16 (.take 17 (.take 18 (.take 20 (.take 21 (.take 22 (.take 23 (.take 24 (.op 19 (.op 25 (.take 26 (.take 27 (.take 28 (.take 29 .done)))))))))))))))))))))))))))))) (fun kz w => (kz ≤ 30 → w.cell? ⟨q, 0, none⟩ = some (.pointer (some ⟨p, 0, none⟩)) ∧ w.cell? ⟨p, 0, none⟩ = some (.int .i64 low)) ∧ True) (by kernel_rfl) (by kernel_rfl) (by intro c a d v w h; cases d <;> exact h) (by decide +kernel) (by rintro ⟨_, _, h⟩; exact h) ?_
                repeat
                  first
                  | (refine wpT_pure rfl rfl rfl ?_; apply Exists.intro; refine ⟨?_, ?_⟩; intro w; ((go_simp <;> rfl)); simp only [Act.put, List.setIfInBounds_toArray, List.set_cons_zero, List.set_cons_succ])
                  | (refine wpT_take 30 rfl rfl (by decide +kernel) ⟨fun _ => ⟨lq, l0⟩, trivial⟩ ?_; apply Exists.intro; refine ⟨?_, ?_⟩; intro w hw; (have qa := hw.1 (Nat.le_refl _); have qb := hw.2); ((go_simp <;> rfl)); simp only [Act.put, List.setIfInBounds_toArray, List.set_cons_zero, List.set_cons_succ])
                  | (refine wpT_skip rfl rfl ?_; simp only [Act.put, List.setIfInBounds_toArray, List.set_cons_zero, List.set_cons_succ])
                refine wpT_op rfl ?_
                go_wp2_with ((go_at_call 52; refine (HOA.out _).mono ?_; rintro e w' ⟨rfl, rfl⟩))
                (refine ⟨?_, ?_⟩; focus (intro kz hk hk2 hh; first | (exfalso; simp at hk2; omega) | exact hh | exact (fun h => absurd h (by omega)) | obtain ⟨qa, qb⟩ := hh; first | exact ⟨qa, qb⟩ | (refine ⟨fun h => absurd h (by omega), ?_⟩; first | exact qb | (exact qa)) | (refine ⟨fun h => ?_, ?_⟩; (have qa := qa h); all_goals (first | exact qa | exact qb | (exact qa)))))
                repeat
                  first
                  | (refine wpT_pure rfl rfl rfl ?_; apply Exists.intro; refine ⟨?_, ?_⟩; intro w; ((go_simp <;> rfl)); simp only [Act.put, List.setIfInBounds_toArray, List.set_cons_zero, List.set_cons_succ])
                  | (refine wpT_take 30 rfl rfl (by decide +kernel) ⟨fun _ => ⟨lq, l0⟩, trivial⟩ ?_; apply Exists.intro; refine ⟨?_, ?_⟩; intro w hw; (have qa := hw.1 (Nat.le_refl _); have qb := hw.2); ((go_simp <;> rfl)); simp only [Act.put, List.setIfInBounds_toArray, List.set_cons_zero, List.set_cons_succ])
                  | (refine wpT_skip rfl rfl ?_; simp only [Act.put, List.setIfInBounds_toArray, List.set_cons_zero, List.set_cons_succ])
                refine wpT_op rfl ?_
                go_wp2_with ((go_at_call 54; refine (HSA.out _).mono ?_; rintro e w' ⟨rfl, rfl⟩))
                (refine ⟨?_, ?_⟩; focus (intro kz hk hk2 hh; first | (exfalso; simp at hk2; omega) | exact hh | exact (fun h => absurd h (by omega)) | obtain ⟨qa, qb⟩ := hh; first | exact ⟨qa, qb⟩ | (refine ⟨fun h => absurd h (by omega), ?_⟩; first | exact qb | (exact qa)) | (refine ⟨fun h => ?_, ?_⟩; (have qa := qa h); all_goals (first | exact qa | exact qb | (exact qa)))))
                refine wpT_op rfl ?_
                go_wp2_with ((go_at_call 54; refine (HSI.out _).mono ?_; rintro e w' ⟨rfl, rfl⟩))
                (refine ⟨?_, ?_⟩; focus (intro kz hk hk2 hh; first | (exfalso; simp at hk2; omega) | exact hh | exact (fun h => absurd h (by omega)) | obtain ⟨qa, qb⟩ := hh; first | exact ⟨qa, qb⟩ | (refine ⟨fun h => absurd h (by omega), ?_⟩; first | exact qb | (exact qa)) | (refine ⟨fun h => ?_, ?_⟩; (have qa := qa h); all_goals (first | exact qa | exact qb | (exact qa)))))
                repeat
                  first
                  | (refine wpT_pure rfl rfl rfl ?_; apply Exists.intro; refine ⟨?_, ?_⟩; intro w; ((go_simp <;> rfl)); simp only [Act.put, List.setIfInBounds_toArray, List.set_cons_zero, List.set_cons_succ])
                  | (refine wpT_take 30 rfl rfl (by decide +kernel) ⟨fun _ => ⟨lq, l0⟩, trivial⟩ ?_; apply Exists.intro; refine ⟨?_, ?_⟩; intro w hw; (have qa := hw.1 (Nat.le_refl _); have qb := hw.2); ((go_simp <;> rfl)); simp only [Act.put, List.setIfInBounds_toArray, List.set_cons_zero, List.set_cons_succ])
                  | (refine wpT_skip rfl rfl ?_; simp only [Act.put, List.setIfInBounds_toArray, List.set_cons_zero, List.set_cons_succ])
                refine wpT_nil ?_
                have lq2 : W5.drew.cell? ⟨q, 0, none⟩ = some (.pointer (some ⟨p, 0, none⟩)) := lq
                gi_wp2_with (refine wpListIn_at 103 rfl (by rintro ⟨_, _, h⟩; exact h) (by decide +kernel) ?_)
                go_wp2_with (first | (refine wpList_store_mid rfl 81 _ _ rfl p (2 + x * 2) _ rfl rfl hT Try.size_stand (by simp [Value.oneCell']) ?_; rw [List.toList_toArray]))
                generalize W5.drew.setCells p (2 + x * 2) [.int .i64 sv, .int .i64 av] = W7 at *
                gi_wp2_with (fail)
                exact ⟨HEND.out, HEF.out⟩
      
end Go.Proofs.Ytbkebjgoaeddjaa
