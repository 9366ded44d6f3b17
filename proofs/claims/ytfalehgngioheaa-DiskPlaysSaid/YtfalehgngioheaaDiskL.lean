import Derived.Test.YtfalehgngioheaaDiskK
set_option linter.unusedVariables false
namespace Go.Proofs.Ytfalehgngioheaa
open Go.RowKit Go.VB Go.VB.Disk
attribute [local go_sem] Oper.semAt_some
theorem syncE_length (ps : List Pg) (wv : List Value) (h : wv.length = ps.length) : (syncE ps wv).length = (pcs ps wv).length := by simp [syncE, pcs]
theorem syncE_get (ps : List Pg) (wv : List Value) (i : Nat) (p : Pg) (v : Value) (hp : ps[i]? = some p) (hv : wv[i]? = some v) : (syncE ps wv)[i]? = some (p.cur, syncV p v) := by
  simp [syncE, List.getElem?_zipWith, hp, hv]
theorem syncE_safe (ps : List Pg) (wv : List Value) (h : ∀ p ∈ ps, p.safe.length = 512) (h2 : ∀ p ∈ ps, ∀ s ∈ p.ws, s.length = 512) : ∀ q ∈ syncE ps wv, q.1.length = 512 := by
  intro q hq
  obtain ⟨i, hi, rfl⟩ := List.mem_iff_getElem.1 hq
  simp only [syncE, List.getElem_zipWith]
  exact Pg.cur_length _ (h _ (List.getElem_mem _)) (h2 _ (List.getElem_mem _))
theorem run_load_mid {P : Program} {op : Oper} {a : Act} {w : World} (ty : TypeId) (x : Operand) (ho : op.op = .load ty x) (b o : Nat) (hx : a.eval x = .pointer (some ⟨b, o, none⟩)) (cs : List Value) (d : TypeDesc) (hc : w.rangeAt b o cs)
    (hu : P.underlying ty = some d) (hd : d.isRow = true) (hi : (P.info? ty).map (·.size) = some cs.length) : (execOp a.eval op).run P w = .ok (.value (.agg cs.toArray)) w := by
  unfold execOp
  simp only [ho, hx, Instr.loadAt, Instr.sureAddr, Sem.run_bind, Sem.run_pure, Result.andThen_ok, run_loadVar_mid w b o ty cs d hc hu hd hi]
set_option maxHeartbeats 1000000 in
set_option maxRecDepth 100000 in
theorem Sync1_go (w : World) (bd d pb : Nat) (ps : List Pg) (wv : List Value) (lv fl off armed left : Value) (h1 : Blk w bd [.pointer (some ⟨d, 0, none⟩)] 24)
   (hd : Blk w d [.slice (some ⟨pb, 0, none⟩) ps.length ps.length, lv, fl, off, armed, left] 69) (hp : Blk w pb (pcells (pcs ps wv)) 78) (hwv : wv.length = ps.length)
   (hs : ∀ p ∈ ps, p.safe.length = 512) (hws : ∀ p ∈ ps, ∀ s ∈ p.ws, s.length = 512) (hn : ps.length ≤ 400) (hfew : ∀ p ∈ ps, p.ws.length ≤ 1000000)
   (ho : ∀ (i : Nat) (p : Pg) (v : Value), ps[i]? = some p → wv[i]? = some v → w.ownsRow 0 76 512 v p.ws.length (p.ws.flatMap bv)) :
   Calls Try.prog 48 #[.pointer (some ⟨bd, 0, none⟩)] w fun e w' => e = .returned (.tuple #[]) ∧ Fr (fun k => k = pb) w w' ∧ Blk w' pb (pcells (syncE ps wv)) 78 := by
  have k1 : w.cell? ⟨bd, 0, none⟩ = some (.pointer (some ⟨d, 0, none⟩)) := h1.cell 0
  have bw := Blk.new w [.pointer (some ⟨d, 0, none⟩)] 24
  have F1 := (Fr.refl (fun k => k = pb) w).alloc (.cells [Value.pointer (some ⟨d, 0, none⟩)].toArray 24)
  have hpl := pcs_length ps wv hwv
  have hEl := syncE_length ps wv hwv
  have hLs := pcs_safe ps wv hs
  have hEs := syncE_safe ps wv hs hws
  have hplt := hp.lt
  refine calls_of_wp_marks Try.func48 rfl ?_
  simp only [Try.ntmps48, List.size_toArray, List.length_cons, List.length_nil, Nat.reduceAdd, Nat.reduceSub, Array.replicate_succ, Array.replicate_zero, List.push_toArray, List.append_toArray, List.nil_append, List.cons_append]
  have H1 := hid h1
  have HD := hid hd
  have HP := hid hp
  have BW := hid bw
  have FF := hid F1
  have Hs := hid hs
  have Hws := hid hws
  have Hfew := hid hfew
  have Ho := hid ho
  have HLs := hid hLs
  have HEs := hid hEs
  have Hpl := hid hpl
  have HEl := hid hEl
  have Hwv := hid hwv
  clear h1 hd hp bw F1 hs hws hfew ho hLs hEs hpl hEl hwv
  go_wp2_with (first | (go_at_call 42; refine (written_any _ _).mono ?_; rintro e w1 ⟨rfl, rfl⟩))
  generalize hW : w.alloc (Obj.cells [Value.pointer (some ⟨d, 0, none⟩)].toArray 24) = w1 at BW FF ⊢
  have hsz1 : w1.heap.size = w.heap.size + 1 := by rw [← hW]; simp
  have g3 := HD.out.alloc (Obj.cells [Value.pointer (some ⟨d, 0, none⟩)].toArray 24)
  rw [hW] at g3
  have g4 := HP.out.alloc (Obj.cells [Value.pointer (some ⟨d, 0, none⟩)].toArray 24)
  rw [hW] at g4
  have go : ∀ (i : Nat) (p : Pg) (v : Value), ps[i]? = some p → wv[i]? = some v → w1.ownsRow 0 76 512 v p.ws.length (p.ws.flatMap bv) := by
    intro i p v hp hv; rw [← hW]; exact (Ho.out i p v hp hv).alloc _
  clear hW
  refine wp_range rfl (fun _ _ => rfl) ?_
  intro fn
  generalize hrec : mkRec fn _ _ _ _ _ = rec
  have hW2 : ∃ W2, (w1.alloc (.deferred (some []))).alloc (.loop (rec .ready none)) = W2 := ⟨_, rfl⟩
  obtain ⟨W2, hW2⟩ := hW2
  rw [hW2]
  have hl2 : W2.heap[w1.heap.size + 1]? = some (.loop (rec .ready none)) := by
    rw [← hW2]; have := World.alloc_heap_new (w1.alloc (.deferred (some []))) (.loop (rec .ready none)); rwa [World.size_alloc] at this
  have hD2 : W2.heap[w1.heap.size]? = some (.deferred (some [])) := by
    rw [← hW2]; exact (Below.heap_alloc _ _ _ (by simp)).trans (World.alloc_heap_new w1 _)
  have F2 : Fr (fun k => k = pb) w1 W2 := by rw [← hW2]; exact ((Fr.refl _ _).alloc _).alloc _
  have b2 := (BW.out.alloc (.deferred (some []))).alloc (.loop (rec .ready none))
  have b3 := (g3.alloc (.deferred (some []))).alloc (.loop (rec .ready none))
  have b4 := (g4.alloc (.deferred (some []))).alloc (.loop (rec .ready none))
  rw [hW2] at b2 b3 b4
  have bo : ∀ (i : Nat) (p : Pg) (v : Value), ps[i]? = some p → wv[i]? = some v → W2.ownsRow 0 76 512 v p.ws.length (p.ws.flatMap bv) := by
    intro i p v hp hv; rw [← hW2]; exact ((go i p v hp hv).alloc _).alloc _
  have hs2 : W2.heap.size = w.heap.size + 3 := by rw [← hW2]; simp [hsz1]
  clear hW2 g3 g4 go
  have n2 : w.heap.size ≠ pb := by omega
  have n3 : d ≠ pb := b3.ne_of_type b4 (by decide)
  have bfr : ∀ {W : World}, Fr (fun k => k = pb ∨ k = w1.heap.size + 1) W2 W → Blk W w.heap.size [.pointer (some ⟨d, 0, none⟩)] 24 ∧ Blk W d [.slice (some ⟨pb, 0, none⟩) ps.length ps.length, lv, fl, off, armed, left] 69 := by
    intro W hF
    refine ⟨b2.fr hF (by omega), b3.fr hF ?_⟩
    rintro (h | h)
    · exact n3 h
    · have := HD.out.lt; omega
  have at_i : ∀ (i : Nat), i < ps.length → ∃ p v, ps[i]? = some p ∧ wv[i]? = some v ∧ p ∈ ps := by
    intro i hi
    have := Hwv.out
    exact ⟨ps[i], wv[i], List.getElem?_eq_getElem hi, List.getElem?_eq_getElem (by omega), List.getElem_mem _⟩
  refine (written1_in (w1.heap.size + 1) w.heap.size d pb ps.length
    (fun i W => Fr (fun k => k = pb ∨ k = w1.heap.size + 1) W2 W ∧ Blk W pb (pcells (mixL (syncE ps wv) (pcs ps wv) i)) 78 ∧ W.heap[w1.heap.size + 1]? = some (.loop (rec .ready none)) ∧ W.heap[w1.heap.size]? = some (.deferred (some [])))
    (fun i => ((ps[i]?).map fun p => p.ws.length).getD 0) hn ?_ ?_ ?_ W2 ⟨Fr.refl _ _, by rw [mixL_zero]; exact b4, hl2, hD2⟩).mono ?_
  · rintro i W ⟨hF, hB, hl, hD⟩
    obtain ⟨c2, c3⟩ := bfr hF
    refine ⟨c2.cell 0, c3.cell 0, fun hi => ?_⟩
    obtain ⟨p, v, hp, hv, hm⟩ := at_i i hi
    obtain ⟨a, cap, rfl, -⟩ := ownsRow_form (bo i p v hp hv)
    have hg : (mixL (syncE ps wv) (pcs ps wv) i)[i]? = some (p.safe, .slice a p.ws.length cap) := by
      rw [mixL_get _ _ _ HEl.out (by rw [Hpl.out]; exact hi)]; exact pcs_get _ _ _ _ _ hp hv
    refine ⟨a, cap, ?_⟩
    rw [hp]
    exact rangeAt_one (rangeAt_right (pcells_range hB (mixL_safe _ _ _ HEs.out HLs.out) i _ hg) (i * 513 + 512) (by rw [bv_length, Hs.out p hm]))
  · rintro i W ⟨hF, hB, hl, hD⟩ hi hlen
    obtain ⟨p, v, hp, hv, hm⟩ := at_i i hi
    rw [hp] at hlen
    have hw0 : p.ws = [] := List.eq_nil_of_length_eq_zero (by simpa using hlen)
    refine ⟨hF, ?_, hl, hD⟩
    rw [← mixL_skip _ _ _ HEl.out ?_ (by rw [Hpl.out]; exact hi)]
    · exact hB
    · rw [syncE_get _ _ _ _ _ hp hv, pcs_get _ _ _ _ _ hp hv]
      simp [Pg.cur, syncV, hw0]
  · rintro i W ⟨hF, hB, hl, hD⟩ hi hlen
    obtain ⟨p, v, hp, hv, hm⟩ := at_i i hi
    rw [hp] at hlen
    simp only [Option.map_some, Option.getD_some] at hlen
    have hg : (mixL (syncE ps wv) (pcs ps wv) i)[i]? = some (p.safe, v) := by
      rw [mixL_get _ _ _ HEl.out (by rw [Hpl.out]; exact hi)]; exact pcs_get _ _ _ _ _ hp hv
    have hms := mixL_safe (syncE ps wv) (pcs ps wv) i HEs.out HLs.out
    have he := syncE_get _ _ _ _ _ hp hv
    have hrow := bo i p v hp hv
    rcases hrow.2 with ⟨-, h0⟩ | ⟨g, cap, cur, rfl, -, hgg, -, -, -, htk⟩
    · omega
    obtain ⟨ws, x, hwx⟩ : ∃ ws x, p.ws = ws ++ [x] := by
      rcases List.eq_nil_or_concat p.ws with h | h
      · rw [h] at hlen; simp at hlen
      · obtain ⟨ws, x, h⟩ := h; exact ⟨ws, x, by rw [h, List.concat_eq_append]⟩
    have hx512 := Hws.out p hm x (by rw [hwx]; simp)
    have hcur : p.cur = x := by simp [Pg.cur, hwx]
    have hfe := Hfew.out p hm
    have hsafe := Hs.out p hm
    have gB : Blk W2 g cur.toList 76 := by unfold Blk; simpa using hgg
    have gne : g ≠ pb := gB.ne_of_type b4 (by decide)
    have gnl : g ≠ w1.heap.size + 1 := by
      rintro rfl
      rw [show W2.heap[w1.heap.size + 1]? = _ from gB] at hl2
      cases hl2
    have hx := flat_range (n := 0) (cap := 0) hgg p.ws (Hws.out p hm) htk (p.ws.length - 1) x (by rw [hwx]; simp)
    have hxW : (W.putObj (w1.heap.size + 1) (.loop (rec .busy none))).rangeAt g ((p.ws.length - 1) * 512) (bv x) := by
      intro j u hj
      rw [← hx j u hj]
      exact World.cell?_of_block ((World.putObj_heap_other gnl).trans (hF.blk g gB.lt (by omega)))
    have hBp := hB.putObj (.loop (rec .busy none)) hl rfl
    have kv := rangeAt_one (rangeAt_right (pcells_range hBp hms i _ hg) (i * 513 + 512) (by rw [bv_length, hsafe]))
    dsimp only at kv
    have hlI : (w1.heap.size + 1) < W.heap.size := (Array.getElem?_eq_some_iff.1 hl).1
    have hlb : (W.putObj (w1.heap.size + 1) (.loop (rec .busy none))).heap[w1.heap.size + 1]? = some (.loop (rec .busy none)) := World.putObj_heap_same hlI
    have hDb : (W.putObj (w1.heap.size + 1) (.loop (rec .busy none))).heap[w1.heap.size]? = some (.deferred (some [])) := (World.putObj_heap_other (by omega)).trans hD
    have hFb : Fr (fun k => k = pb ∨ k = w1.heap.size + 1) W2 (W.putObj (w1.heap.size + 1) (.loop (rec .busy none))) := hF.putObj _ _ (fun _ => .inr rfl)
    have hsz : (Try.prog.info? 76).map (·.size) = some (bv x).length := by rw [bv_length, hx512]; exact Try.size_halves
    have hT0 : (W.putObj (w1.heap.size + 1) (.loop (rec .busy none))).there pb (i * 513) (bv x).toArray.size := hBp.there _ _ (by
      rw [List.size_toArray, bv_length, hx512, pcells_length _ hms]
      have : (mixL (syncE ps wv) (pcs ps wv) i).length = ps.length := by have := HEl.out; have := Hpl.out; simp [mixL]; omega
      rw [this]; omega)
    have hone := all_oneCell_toArray (bv_one x)
    have hk1 : ((p.ws.length : Int) - 1).toNat = p.ws.length - 1 := by omega
    have hk0 : (0 : Int) < p.ws.length := by omega
    have hk2 : (0 : Int) ≤ (p.ws.length : Int) - 1 := by omega
    have hk3 : (p.ws.length : Int) - 1 < p.ws.length := by omega
    have hk4 : (1 : Int) ≤ p.ws.length := by omega
    have hk5 : 1 ≤ p.ws.length := by omega
    have hwrap : IntKind.i64.wrap ((p.ws.length : Int) - 1) = (p.ws.length : Int) - 1 := IntWalk.i64_in _ (by omega)
    -- behind the two stores
    have hS1 := hBp.drew.put (i * 513) (bv x) (by
      rw [bv_length, hx512, pcells_length _ hms]
      have : (mixL (syncE ps wv) (pcs ps wv) i).length = ps.length := by have := HEl.out; have := Hpl.out; simp [mixL]; omega
      rw [this]; omega)
    rw [pcells_setsafe _ i p.safe x _ hg hms hx512] at hS1
    have hms2 : ∀ q ∈ (mixL (syncE ps wv) (pcs ps wv) i).set i (x, .slice (some ⟨g, 0, none⟩) p.ws.length cap), q.1.length = 512 := by
      intro q hq
      rcases List.mem_or_eq_of_mem_set hq with h | rfl
      · exact hms q h
      · exact hx512
    have hget2 : ((mixL (syncE ps wv) (pcs ps wv) i).set i (x, .slice (some ⟨g, 0, none⟩) p.ws.length cap))[i]? = some (x, .slice (some ⟨g, 0, none⟩) p.ws.length cap) := by
      rw [List.getElem?_set, if_pos rfl, if_pos (List.getElem?_eq_some_iff.1 hg).1]
    have kv2 := rangeAt_one (rangeAt_right (pcells_range hS1 hms2 i _ hget2) (i * 513 + 512) (by rw [bv_length, hx512]))
    dsimp only at kv2
    have zS := hS1.frozen
    have hfin : ((mixL (syncE ps wv) (pcs ps wv) i).set i (x, .slice (some ⟨g, 0, none⟩) p.ws.length cap)).set i (x, .slice none 0 0) = mixL (syncE ps wv) (pcs ps wv) (i + 1) := by
      rw [List.set_set, ← mixL_set _ _ _ (p.cur, syncV p (.slice (some ⟨g, 0, none⟩) p.ws.length cap)) HEl.out he, hcur]
      simp [syncV, hwx]
    have hS2 := hS1.set (i * 513 + 512) (.slice none 0 0)
    rw [pcells_set _ i x _ _ hget2 hms2, hfin] at hS2
    have HS2 := hid hS2
    have nlpb : w1.heap.size + 1 ≠ pb := by have := HP.out.lt; omega
    have nlpb2 : w1.heap.size ≠ pb := by have := HP.out.lt; omega
    have HFb := hid hFb
    have Hlb := hid hlb
    have HDb := hid hDb
    have HSZ := hid hsz
    have HGet := hid hget2
    clear hS2 hFb hlb hDb hsz hget2 hS1 hms2 hfin hBp
    obtain ⟨JJ, hJJ⟩ : ∃ JJ : World → Prop, JJ = fun W' => Fr (fun k => k = pb ∨ k = w1.heap.size + 1) W2 W' ∧ Blk W' pb (pcells (mixL (syncE ps wv) (pcs ps wv) (i + 1))) 78 ∧ W'.heap[w1.heap.size + 1]? = some (.loop (rec .ready none)) ∧ W'.heap[w1.heap.size]? = some (.deferred (some [])) := ⟨_, rfl⟩
    have HJJ := hid hJJ
    clear hJJ hrow hx hwx hcur gB gne gnl he hg hms at_i bfr bo hF hB b2 b3 b4 hl2 hD2 F2 hp hv hi hm n2 n3 hplt htk hgg HD HP BW FF H1
    subst hrec
    refine YieldAt.mono (yieldAt_round (R := fun b W' => b = true ∧ JJ W') hl rfl (fun K hK => by gi_wp2; exact hK) ?_) ?_
    · clear hl hD hlI
      generalize W.putObj (w1.heap.size + 1) _ = Wb at *
      gi_wp2
      refine wpIn_region_plan [true, true, true, true, true, true, true, true, true, true, true, true, true, true, false, false, false, false, false, false] (fun kz w => (kz ≤ 14 → (w.cell? ⟨pb, i * 513 + 512, none⟩ = some (.slice (some ⟨g, 0, none⟩) p.ws.length cap) ∧ w.rangeAt g ((p.ws.length - 1) * 512) (bv x))) ∧ True) (by kernel_rfl) (by kernel_rfl) (by intro c a d v w h; cases d <;> exact h) (by decide +kernel) (by rintro ⟨_, _, h⟩; exact h) (fun kz => ⟨fun _ => ⟨kv, hxW⟩, trivial⟩) ?_
      repeat
        first
        | (refine wpTake_yes 14 rfl (by decide +kernel) ?_; apply Exists.intro; refine ⟨?_, ?_⟩; intro w hw; (try (have qa := (hw rfl).1 (Nat.le_refl _); have qb := (hw rfl).2)); (first | (exact run_load_mid _ _ rfl g _ rfl (bv x) _ (qa.2) Try.underlying76 rfl HSZ.out) | (go_simp <;> rfl)); simp only [Act.put, List.setIfInBounds_toArray, List.set_cons_zero, List.set_cons_succ])
        | (refine wpTake_no rfl ?_; simp only [Act.put, List.setIfInBounds_toArray, List.set_cons_zero, List.set_cons_succ])
        | (refine wpTake_pass ?_)
      refine wpTake_nil ?_
      repeat (refine wpRest_pass ?_)
      refine wpRest_op ?_
      go_wp2_with (fail)
      (refine ⟨?_, ?_⟩; focus (intro kz hk hk2; rintro ⟨qa, qb⟩; first | (exfalso; simp at hk2; omega) | exact ⟨qa, qb⟩ | (refine ⟨fun h => absurd h (by omega), ?_⟩; first | exact qb | (trivial)) | (refine ⟨fun h => ?_, ?_⟩; (have qa := qa h); all_goals (first | exact qa | exact qb | (trivial)))))
      refine wpRest_op ?_
      go_wp2_with (fail)
      (refine ⟨?_, ?_⟩; focus (intro kz hk hk2; rintro ⟨qa, qb⟩; first | (exfalso; simp at hk2; omega) | exact ⟨qa, qb⟩ | (refine ⟨fun h => absurd h (by omega), ?_⟩; first | exact qb | (trivial)) | (refine ⟨fun h => ?_, ?_⟩; (have qa := qa h); all_goals (first | exact qa | exact qb | (trivial)))))
      refine wpRest_op ?_
      go_wp2_with ((refine wpList_store_mid rfl 76 _ _ rfl pb (i * 513) _ rfl rfl hT0 (by rw [List.size_toArray]; exact HSZ.out) hone ?_; rw [List.toList_toArray]))
      (refine ⟨?_, ?_⟩; focus (intro kz hk hk2; rintro ⟨qa, qb⟩; first | (exfalso; simp at hk2; omega) | exact ⟨qa, qb⟩ | (refine ⟨fun h => absurd h (by omega), ?_⟩; first | exact qb | (trivial)) | (refine ⟨fun h => ?_, ?_⟩; (have qa := qa h); all_goals (first | exact qa | exact qb | (trivial)))))
      have HF2 := HFb.out.drew.put pb (i * 513) (bv x) (fun _ => .inl rfl)
      have HL2 : (Wb.drew.setCells pb (i * 513) (bv x)).heap[w1.heap.size + 1]? = some (.loop (mkRec fn _ _ _ _ w1.heap.size .busy none)) := (((Fr.refl (fun k => k = pb) Wb.drew).put pb (i * 513) (bv x) (fun _ => rfl)).blk _ (Array.getElem?_eq_some_iff.1 Hlb.out).1 nlpb).trans Hlb.out
      have HD2 : (Wb.drew.setCells pb (i * 513) (bv x)).heap[w1.heap.size]? = some (.deferred (some [])) := (((Fr.refl (fun k => k = pb) Wb.drew).put pb (i * 513) (bv x) (fun _ => rfl)).blk _ (Array.getElem?_eq_some_iff.1 HDb.out).1 nlpb2).trans HDb.out
      generalize Wb.drew.setCells pb (i * 513) (bv x) = Wc at *
      refine wpRest_op ?_
      go_wp2_with (fail)
      (refine ⟨?_, ?_⟩; focus (intro kz hk hk2; rintro ⟨qa, qb⟩; first | (exfalso; simp at hk2; omega) | exact ⟨qa, qb⟩ | (refine ⟨fun h => absurd h (by omega), ?_⟩; first | exact qb | (trivial)) | (refine ⟨fun h => ?_, ?_⟩; (have qa := qa h); all_goals (first | exact qa | exact qb | (trivial)))))
      refine wpRest_op ?_
      go_wp2_with (fail)
      (refine ⟨?_, ?_⟩; focus (intro kz hk hk2; rintro ⟨qa, qb⟩; first | (exfalso; simp at hk2; omega) | exact ⟨qa, qb⟩ | (refine ⟨fun h => absurd h (by omega), ?_⟩; first | exact qb | (trivial)) | (refine ⟨fun h => ?_, ?_⟩; (have qa := qa h); all_goals (first | exact qa | exact qb | (trivial)))))
      refine wpRest_op ?_
      go_wp2_with (fail)
      (refine ⟨?_, ?_⟩; focus (intro kz hk hk2; rintro ⟨qa, qb⟩; first | (exfalso; simp at hk2; omega) | exact ⟨qa, qb⟩ | (refine ⟨fun h => absurd h (by omega), ?_⟩; first | exact qb | (trivial)) | (refine ⟨fun h => ?_, ?_⟩; (have qa := qa h); all_goals (first | exact qa | exact qb | (trivial)))))
      refine wpRest_nil ?_
      have HL3 := (heap_setCell_other Wc ⟨pb, i * 513 + 512, none⟩ _ (.slice none 0 0) nlpb).trans HL2
      have HD3 := (heap_setCell_other Wc ⟨pb, i * 513 + 512, none⟩ _ (.slice none 0 0) nlpb2).trans HD2
      have HF3 := HF2.setCell ⟨pb, i * 513 + 512, none⟩ (.slice none 0 0) (fun _ => .inl rfl)
      have HS3 := HS2.out
      generalize Wc.setCell ⟨pb, i * 513 + 512, none⟩ (.slice none 0 0) = Wd at *
      gi_wp2
      rw [← hsz1]
      refine ⟨HL3, rfl, ?_⟩
      rw [HJJ.out]
      exact ⟨HF3.putObj _ _ (fun _ => .inr rfl), HS3.putObj _ HL3 rfl, World.putObj_heap_same (Array.getElem?_eq_some_iff.1 HL3).1, (World.putObj_heap_other (by omega)).trans HD3⟩
    · rintro e W' ⟨b, rfl, rfl, h⟩
      rw [HJJ.out] at h
      exact ⟨rfl, h⟩
  · rintro e W ⟨⟨v, rfl⟩, hF, hB, hl, hD⟩
    refine ⟨⟨v, rfl⟩, hD, .inl ⟨hl, ?_⟩⟩
    have hD' : ∀ o, (W.putObj (w1.heap.size + 1) o).heap[w1.heap.size]? = some (.deferred (some [])) := fun o => (World.putObj_heap_other (by omega)).trans hD
    have hF' : ∀ o o', Fr (fun k => k = pb) w ((W.putObj (w1.heap.size + 1) o).putObj w1.heap.size o') := by
      intro o o'
      refine Fr.putObj (Fr.putObj ((FF.out.trans F2 (by intro i h _; exact h)).trans hF ?_) _ _ ?_) _ _ ?_
      · rintro k (h | h) hk
        · exact h
        · omega
      · intro h; omega
      · intro h; omega
    have hB' : ∀ o o', Blk ((W.putObj (w1.heap.size + 1) o).putObj w1.heap.size o') pb (pcells (syncE ps wv)) 78 := by
      intro o o'
      rw [← mixL_all (syncE ps wv) (pcs ps wv) HEl.out, Hpl.out]
      exact (hB.of_heap (World.putObj_heap_other (by omega))).of_heap (World.putObj_heap_other (by omega))
    simp only [hsz1] at hD' hF' hB'
    clear hF hB hl hD bo at_i bfr
    go_wp2
    exact leavesM_one (v := .tuple #[]) (hD' _) (results_none rfl _ _ _) ⟨rfl, hF' _ _, hB' _ _⟩
