import Derived.Test.YtfalehgngioheaaDiskQ
import Derived.Laws.EntriesVeiled
set_option linter.unusedVariables false
namespace Go.Proofs.Ytfalehgngioheaa
open Go.RowKit Go.VB Go.VB.Disk
attribute [local go_sem] Oper.semAt_some
/-- an end that no panic reaches -/
def quiet (Q : Exit → Act → World → Prop) : Exit → Act → World → Prop
  | .panic _, _, _ => False
  | e, a, w => Q e a w
theorem quiet_normal {Q : Exit → Act → World → Prop} {a : Act} {w : World} (h : Q .normal a w) : quiet Q .normal a w := h
theorem wp_region_planQ {P : Program} {Q : Exit → Act → World → Prop} {id : Nat} {l : List Oper} {a : Act} {w : World} (m : List Bool) (S : Nat → World → Prop) (hm : P.follows .mixedOrders = true) (hp : planB l.toArray m = true) (hS : ∀ k, S k w.drew)
    (h : wpTake P l.toArray S 0 m l a (fun a' => wpRest P l.toArray S (quiet Q) 0 m l a' w.drew)) : (Code.region id l.toArray true).wp P Q a w := by
  refine Code.wp_mono ?_ (wp_region_plan (Q := quiet Q) m S hm hp (fun _ _ _ _ _ h => h) hS h)
  intro e a w h
  cases e <;> first | exact h | exact False.elim h
theorem put_half (A B Z : List Value) (hA : A.length = 256) (hZ : Z.length = 256) (hB : B.length = 256) : (A ++ Z).take 256 ++ B ++ (A ++ Z).drop (256 + B.length) = A ++ B := by
  rw [List.take_append_of_le_length (by omega), List.take_of_length_le (by omega), List.drop_eq_nil_of_le (by simp; omega), List.append_nil]
theorem Try.size_half : (Try.prog.info? 74).map (·.size) = some 256 := by kernel_rfl
theorem flat_len (ws : List Bytes) (h : ∀ s ∈ ws, s.length = 512) : (ws.flatMap bv).length = ws.length * 512 := by
  induction ws with
  | nil => rfl
  | cons s ws ih =>
    have := ih fun x hx => h x (List.mem_cons_of_mem _ hx)
    rw [List.flatMap_cons, List.length_append, bv_length, h s List.mem_cons_self, this, List.length_cons]
    omega
theorem flat_one (ws : List Bytes) : ∀ v ∈ ws.flatMap bv, v.oneCell' = true := by
  intro v hv
  obtain ⟨s, hs, hv⟩ := List.mem_flatMap.1 hv
  exact bv_one s v hv
theorem own_of_blk {w : World} {b size n : Nat} {l : List Value} {t : TypeId} (h : Blk w b l t) (hl : l.length = n * size) (hn : n ≤ 1099511627776) : w.ownsRow 0 t size (.slice (some ⟨b, 0, none⟩) n n) n l := by
  refine ⟨hl, .inr ⟨b, n, l.toArray, rfl, Nat.zero_le _, h, Nat.le_refl _, ?_, ?_, ?_⟩⟩
  · simp only [maxLen]; omega
  · simpa using hl
  · simp [← hl]
theorem wpListIn_at {P : Program} {ops : Array Oper} {Q : Exit → Act → World → Prop} {l : Nat} {o : Oper} {os : List Oper} {a : Act} {w : World} (slot : Tmp) (_hd : o.dst = some slot) (hQ : ¬ LetsOut Q) (hnd : noDefer (o :: os).toArray = true)
    (h : wpList P ops Q (o :: os) a w) : wpListIn (Fence.wide.inRound l) 0 P ops Q (o :: os) a w := wpListIn_of hQ _ _ _ hnd h
set_option maxHeartbeats 6000000 in
set_option maxRecDepth 100000 in
theorem Crash_go {R : Nat → Prop} (w : World) (d pb : Nat) (ps : List Pg) (wv : List Value) (la : Option Addr) (n cap fl : Nat) (off armed : Bool) (left : Value) (v : Value) (q : List Int)
   (hd : Blk w d [.slice (some ⟨pb, 0, none⟩) ps.length ps.length, .slice la n cap, .int .i64 fl, .bool off, .bool armed, left] 69) (hp : Blk w pb (pcells (pcs ps wv)) 78) (hwv : wv.length = ps.length)
   (hs : ∀ p ∈ ps, p.safe.length = 512) (hws : ∀ p ∈ ps, ∀ s ∈ p.ws, s.length = 512) (hn : ps.length ≤ 400) (hfew : ∀ p ∈ ps, p.ws.length ≤ 1000000)
   (ho : ∀ (i : Nat) (p : Pg) (v : Value), ps[i]? = some p → wv[i]? = some v → w.ownsRow 0 76 512 v p.ws.length (p.ws.flatMap bv))
   (hfl : fl ≤ n) (hcap : n ≤ cap) (hn1 : n ≤ 1048576) (hq : QRep R w v q) (hR : ∀ k, R k → k ≠ pb ∧ k ≠ d ∧ k < w.heap.size) (hql : q.length ≤ 9223372036854775807) :
   Calls Try.prog 19 #[.pointer (some ⟨d, 0, none⟩), v] w fun e w' => e = .returned (.tuple #[]) ∧ Fr (fun k => k = pb ∨ k = d) w w' ∧ Blk w' pb (pcells (crashE ps wv q)) 78 ∧
     Blk w' d [.slice (some ⟨pb, 0, none⟩) ps.length ps.length, .slice la (fl + takeQ (qAt ps q ps.length) (n - fl + 1)) cap, .int .i64 ((fl + takeQ (qAt ps q ps.length) (n - fl + 1) : Nat) : Int), .bool false, .bool false, left] 69 := by
  obtain ⟨qa, qc, rfl, hqc, hqx⟩ := hq
  have hq : QRep R w (.slice qa q.length qc) q := ⟨qa, qc, rfl, hqc, hqx⟩
  clear hqc hqx
  have bw := Blk.new w [.slice qa q.length qc] 32
  have F1 := (Fr.refl (fun k => k = pb ∨ k = d) w).alloc (.cells [Value.slice qa q.length qc].toArray 32)
  have hpl := pcs_length ps wv hwv
  have hEl := crashE_length ps wv q hwv
  have hLs := pcs_safe ps wv hs
  have hEs := crashE_safe ps hs hws wv q
  have hplt := hp.lt
  have hdlt := hd.lt
  refine calls_of_wp_marks Try.func19 rfl ?_
  simp only [Try.ntmps19, List.size_toArray, List.length_cons, List.length_nil, Nat.reduceAdd, Nat.reduceSub, Array.replicate_succ, Array.replicate_zero, List.push_toArray, List.append_toArray, List.nil_append, List.cons_append]
  have HD := hid hd
  have HP := hid hp
  have BW := hid bw
  have FF := hid F1
  have Hs := hid hs
  have Hws := hid hws
  have Hfew := hid hfew
  have Ho := hid ho
  have HLs := hid hLs
  have HEs := hid hEs
  have Hpl := hid hpl
  have HEl := hid hEl
  have Hwv := hid hwv
  have HQ := hid hq
  have HR := hid hR
  clear hd hp bw F1 hs hws hfew ho hLs hEs hpl hEl hwv hq hR
  go_wp2_with (first | (go_at_call 42; refine (written_any _ _).mono ?_; rintro e w1 ⟨rfl, rfl⟩))
  obtain ⟨w1, hW⟩ : ∃ w1, (((w.alloc (Obj.cells #[Value.slice qa q.length qc] 32)).alloc (Obj.cells #[Value.func (Fn.func 41) #[] #[Value.pointer (some ⟨w.heap.size, 0, none⟩)]] 80)).alloc (Obj.cells #[Value.pointer (some ⟨d, 0, none⟩)] 24)) = w1 := ⟨_, rfl⟩
  rw [hW]
  have hsz1 : w1.heap.size = w.heap.size + 3 := by rw [← hW]; simp
  have C1 : Blk w1 w.heap.size [.slice qa q.length qc] 32 := by rw [← hW]; exact (BW.out.alloc _).alloc _
  have C2 : Blk w1 (w.heap.size + 1) [.func (.func 41) #[] #[.pointer (some ⟨w.heap.size, 0, none⟩)]] 80 := by
    rw [← hW]
    have := Blk.new (w.alloc (Obj.cells #[Value.slice qa q.length qc] 32)) [Value.func (.func 41) #[] #[.pointer (some ⟨w.heap.size, 0, none⟩)]] 80
    rw [World.size_alloc] at this
    exact this.alloc _
  have C3 : Blk w1 (w.heap.size + 2) [.pointer (some ⟨d, 0, none⟩)] 24 := by
    rw [← hW]
    have := Blk.new ((w.alloc (Obj.cells #[Value.slice qa q.length qc] 32)).alloc (Obj.cells #[Value.func (Fn.func 41) #[] #[Value.pointer (some ⟨w.heap.size, 0, none⟩)]] 80)) [.pointer (some ⟨d, 0, none⟩)] 24
    rw [World.size_alloc, World.size_alloc] at this
    exact this
  have FW : Fr (fun k => k = pb ∨ k = d) w w1 := by rw [← hW]; exact (FF.out.alloc _).alloc _
  have FZ : Fr (fun _ => False) w w1 := by rw [← hW]; exact (((Fr.refl _ _).alloc _).alloc _).alloc _
  have g3 := HD.out.fr FZ (by simp)
  have g4 := HP.out.fr FZ (by simp)
  have gq : QRep R w1 (.slice qa q.length qc) q := by
    refine HQ.out.fr (S := fun _ => False) ?_ (by simp)
    rw [← hW]
    exact (((Fr.refl _ _).alloc _).alloc _).alloc _
  have go : ∀ (i : Nat) (p : Pg) (v : Value), ps[i]? = some p → wv[i]? = some v → w1.ownsRow 0 76 512 v p.ws.length (p.ws.flatMap bv) := by
    intro i p v hp hv; rw [← hW]; exact (((Ho.out i p v hp hv).alloc _).alloc _).alloc _
  clear hW BW FF
  refine wp_range rfl (fun _ _ => rfl) ?_
  intro fn
  generalize hrec : mkRec fn _ _ _ _ _ = rec
  obtain ⟨W2, hW2⟩ : ∃ W2, (w1.alloc (.deferred (some []))).alloc (.loop (rec .ready none)) = W2 := ⟨_, rfl⟩
  rw [hW2]
  have hl2 : W2.heap[w1.heap.size + 1]? = some (.loop (rec .ready none)) := by
    rw [← hW2]; have := World.alloc_heap_new (w1.alloc (.deferred (some []))) (.loop (rec .ready none)); rwa [World.size_alloc] at this
  have hD2 : W2.heap[w1.heap.size]? = some (.deferred (some [])) := by
    rw [← hW2]; exact (Below.heap_alloc _ _ _ (by simp)).trans (World.alloc_heap_new w1 _)
  have F2 : Fr (fun _ => False) w1 W2 := by rw [← hW2]; exact ((Fr.refl _ _).alloc _).alloc _
  have b1 := C1.fr F2 (by simp)
  have b2 := C2.fr F2 (by simp)
  have b3 := C3.fr F2 (by simp)
  have bd := g3.fr F2 (by simp)
  have bp := g4.fr F2 (by simp)
  have bq := gq.fr F2 (by simp)
  have bo : ∀ (i : Nat) (p : Pg) (v : Value), ps[i]? = some p → wv[i]? = some v → W2.ownsRow 0 76 512 v p.ws.length (p.ws.flatMap bv) := by
    intro i p v hp hv; rw [← hW2]; exact ((go i p v hp hv).alloc _).alloc _
  have hs2 : W2.heap.size = w.heap.size + 5 := by rw [← hW2]; simp [hsz1]
  clear hW2 C1 C2 C3 g3 g4 gq go
  have n3 : d ≠ pb := bd.ne_of_type bp (by decide)
  have bfr : ∀ {W : World}, Fr (fun k => k = pb ∨ k = w.heap.size ∨ k = w1.heap.size + 1) W2 W →
      Blk W (w.heap.size + 2) [.pointer (some ⟨d, 0, none⟩)] 24 ∧ Blk W d [.slice (some ⟨pb, 0, none⟩) ps.length ps.length, .slice la n cap, .int .i64 fl, .bool off, .bool armed, left] 69 ∧
      Blk W (w.heap.size + 1) [.func (.func 41) #[] #[.pointer (some ⟨w.heap.size, 0, none⟩)]] 80 := by
    intro W hF
    exact ⟨b3.fr hF (by omega), bd.fr hF (by omega), b2.fr hF (by omega)⟩
  have at_i : ∀ (i : Nat), i < ps.length → ∃ p v, ps[i]? = some p ∧ wv[i]? = some v ∧ p ∈ ps := by
    intro i hi
    have := Hwv.out
    exact ⟨ps[i], wv[i], List.getElem?_eq_getElem hi, List.getElem?_eq_getElem (by omega), List.getElem_mem _⟩
  refine (written1_in (w1.heap.size + 1) (w.heap.size + 2) d pb ps.length
    (fun i W => Fr (fun k => k = pb ∨ k = w.heap.size ∨ k = w1.heap.size + 1) W2 W ∧ Blk W pb (pcells (mixL (crashE ps wv q) (pcs ps wv) i)) 78 ∧ (∃ v', Blk W w.heap.size [v'] 32 ∧ QRep R W v' (qAt ps q i)) ∧
      W.heap[w1.heap.size + 1]? = some (.loop (rec .ready none)) ∧ W.heap[w1.heap.size]? = some (.deferred (some [])))
    (fun i => ((ps[i]?).map fun p => p.ws.length).getD 0) hn ?_ ?_ ?_ W2 ⟨Fr.refl _ _, by rw [mixL_zero]; exact bp, ⟨_, b1, by rw [qAt_zero]; exact bq⟩, hl2, hD2⟩).mono ?_
  · rintro i W ⟨hF, hB, hQ, hl, hD⟩
    obtain ⟨c2, c3, -⟩ := bfr hF
    refine ⟨c2.cell 0, c3.cell 0, fun hi => ?_⟩
    obtain ⟨p, v, hp, hv, hm⟩ := at_i i hi
    obtain ⟨a, cap, rfl, -⟩ := ownsRow_form (bo i p v hp hv)
    have hg : (mixL (crashE ps wv q) (pcs ps wv) i)[i]? = some (p.safe, .slice a p.ws.length cap) := by
      rw [mixL_get _ _ _ HEl.out (by rw [Hpl.out]; exact hi)]; exact pcs_get _ _ _ _ _ hp hv
    refine ⟨a, cap, ?_⟩
    rw [hp]
    exact rangeAt_one (rangeAt_right (pcells_range hB (mixL_safe _ _ _ HEs.out HLs.out) i _ hg) (i * 513 + 512) (by rw [bv_length, Hs.out p hm]))
  · rintro i W ⟨hF, hB, hQ, hl, hD⟩ hi hlen
    obtain ⟨p, v, hp, hv, hm⟩ := at_i i hi
    rw [hp] at hlen
    have hw0 : p.ws = [] := List.eq_nil_of_length_eq_zero (by simpa using hlen)
    refine ⟨hF, ?_, ?_, hl, hD⟩
    · rw [← mixL_skip _ _ _ HEl.out ?_ (by rw [Hpl.out]; exact hi)]
      · exact hB
      · rw [crashE_get _ _ _ _ _ _ hp hv, pcs_get _ _ _ _ _ hp hv, if_pos hw0]
    · rw [qAt_succ _ _ _ _ hp, if_pos hw0]; exact hQ
  · rintro i W ⟨hF, hB, hQ, hl, hD⟩ hi hlen
    obtain ⟨p, v, hp, hv, hm⟩ := at_i i hi
    rw [hp] at hlen
    simp only [Option.map_some, Option.getD_some] at hlen
    have hne : p.ws ≠ [] := by intro h; rw [h] at hlen; simp at hlen
    have hg : (mixL (crashE ps wv q) (pcs ps wv) i)[i]? = some (p.safe, v) := by
      rw [mixL_get _ _ _ HEl.out (by rw [Hpl.out]; exact hi)]; exact pcs_get _ _ _ _ _ hp hv
    have hms := mixL_safe (crashE ps wv q) (pcs ps wv) i HEs.out HLs.out
    have he := crashE_get ps wv q i p v hp hv
    rw [if_neg hne] at he
    have hqs := qAt_succ ps q i p hp
    rw [if_neg hne] at hqs
    have hql2 := Nat.le_trans (qAt_length ps q i) hql
    have hx512 := crash_len p (qAt ps q i) (Hs.out p hm) (Hws.out p hm)
    have hrow := bo i p v hp hv
    rcases hrow.2 with ⟨-, h0⟩ | ⟨g, gc, cur, rfl, -, hgg, hgc, -, -, htk⟩
    · omega
    obtain ⟨v', hqb, hqr⟩ := hQ
    generalize hqi : qAt ps q i = qi at *
    have hfe := Hfew.out p hm
    have hsafe := Hs.out p hm
    have hall : ∀ s ∈ p.safe :: p.ws, s.length = 512 := by
      intro s hs
      rcases List.mem_cons.1 hs with rfl | hs
      · exact hsafe
      · exact Hws.out p hm s hs
    have gB : Blk W2 g cur.toList 76 := by unfold Blk; simpa using hgg
    have gne : g ≠ pb := gB.ne_of_type bp (by decide)
    have gnq : g ≠ w.heap.size := gB.ne_of_type b1 (by decide)
    have gnl : g ≠ w1.heap.size + 1 := by
      rintro rfl
      rw [show W2.heap[w1.heap.size + 1]? = _ from gB] at hl2
      cases hl2
    have hcl := (bfr hF).2.2
    have hlI : (w1.heap.size + 1) < W.heap.size := (Array.getElem?_eq_some_iff.1 hl).1
    have FP : Fr (fun k => k = w1.heap.size + 1) W (W.putObj (w1.heap.size + 1) (.loop (rec .busy none))) := (Fr.refl _ _).putObj _ _ (fun _ => rfl)
    have gW := (gB.fr hF (by omega)).putObj (.loop (rec .busy none)) hl rfl
    have hBp := hB.putObj (.loop (rec .busy none)) hl rfl
    have hqp := hqb.putObj (.loop (rec .busy none)) hl rfl
    have hclp := hcl.putObj (.loop (rec .busy none)) hl rfl
    have hqrp := hqr.fr FP (by intro k hk; have := HR.out k hk; omega)
    have hlb : (W.putObj (w1.heap.size + 1) (.loop (rec .busy none))).heap[w1.heap.size + 1]? = some (.loop (rec .busy none)) := World.putObj_heap_same hlI
    have hDb : (W.putObj (w1.heap.size + 1) (.loop (rec .busy none))).heap[w1.heap.size]? = some (.deferred (some [])) := (World.putObj_heap_other (by omega)).trans hD
    have hFb : Fr (fun k => k = pb ∨ k = w.heap.size ∨ k = w1.heap.size + 1) W2 (W.putObj (w1.heap.size + 1) (.loop (rec .busy none))) := hF.putObj _ _ (fun _ => .inr (.inr rfl))
    have hwsz : (W.putObj (w1.heap.size + 1) (.loop (rec .busy none))).heap.size ≥ w.heap.size + 5 := by rw [World.putObj_size]; have := hF.size; omega
    have hsrc : (W.putObj (w1.heap.size + 1) (.loop (rec .busy none))).rangeAt g 0 (p.ws.flatMap bv) := by
      have := gW.range [] (p.ws.flatMap bv) (cur.toList.drop (p.ws.length * 512)) (by rw [← htk]; simp)
      simpa using this
    have kS := rangeAt_left (pcells_range hBp hms i _ hg)
    have kv := rangeAt_one (rangeAt_right (pcells_range hBp hms i _ hg) (i * 513 + 512) (by rw [bv_length, hsafe]))
    dsimp only at kv kS
    have hsz : (Try.prog.info? 76).map (·.size) = some (bv p.safe).length := by rw [bv_length, hsafe]; exact Try.size_halves
    have hml : (mixL (crashE ps wv q) (pcs ps wv) i).length = ps.length := by have := HEl.out; have := Hpl.out; simp [mixL]; omega
    have hcl2 : ∃ x, (p.crash qi).safe = x := ⟨_, rfl⟩
    have hmix := mixL_set (crashE ps wv q) (pcs ps wv) i _ HEl.out he
    have HMix := hid hmix
    have HAll := hid hall
    have HG := hid hg
    have HMs := hid hms
    have HML := hid hml
    have HBp := hid hBp
    have HGW := hid gW
    have HQp := hid hqp
    have HQr := hid hqrp
    have HCl := hid hclp
    have Hlb := hid hlb
    have HDb := hid hDb
    have HFb := hid hFb
    have HSrc := hid hsrc
    have HSZ := hid hsz
    have HX := hid hx512
    have HQS := hid hqs
    obtain ⟨JJ, hJJ⟩ : ∃ JJ : World → Prop, JJ = fun W' => Fr (fun k => k = pb ∨ k = w.heap.size ∨ k = w1.heap.size + 1) W2 W' ∧ Blk W' pb (pcells (mixL (crashE ps wv q) (pcs ps wv) (i + 1))) 78 ∧ (∃ v', Blk W' w.heap.size [v'] 32 ∧ QRep R W' v' (qAt ps q (i + 1))) ∧
      W'.heap[w1.heap.size + 1]? = some (.loop (rec .ready none)) ∧ W'.heap[w1.heap.size]? = some (.deferred (some [])) := ⟨_, rfl⟩
    have HJJ := hid hJJ
    clear hJJ hmix hall hg hms hml hBp gW hqp hqrp hclp hlb hDb hFb hsrc hsz hx512 hqs hrow gB gne gnq gnl he at_i bfr bo hF hB b1 b2 b3 bd bp bq hl2 hD2 F2 hp hv hm n3 htk hgg HD HP FW hqb hqr hcl FP hcl2 hdlt hqi
    subst hrec
    refine YieldAt.mono (yieldAt_round (R := fun b W' => b = true ∧ JJ W') hl rfl (fun K hK => by gi_wp2; exact hK) ?_) ?_
    · clear hl hD hlI
      generalize W.putObj (w1.heap.size + 1) _ = Wb at *
      gi_wp2
      refine wpIn_region_plan [true, true, true, true, false, true, true, true, true, false, false] (fun kz w => (kz ≤ 10 → w.rangeAt pb (i * 513) (bv p.safe)) ∧ w.cell? ⟨pb, i * 513 + 512, none⟩ = some (.slice (some ⟨g, 0, none⟩) p.ws.length gc)) (by kernel_rfl) (by kernel_rfl) (by intro c a d v w h; cases d <;> exact h) (by decide +kernel) (by rintro ⟨_, _, h⟩; exact h) (fun kz => ⟨fun _ => kS, kv⟩) ?_
      repeat
        first
        | (refine wpTake_yes 10 rfl (by decide +kernel) ?_; apply Exists.intro; refine ⟨?_, ?_⟩; intro w hw; (try (have qa := (hw rfl).1 (Nat.le_refl _); have qb := (hw rfl).2)); (first | (exact run_load_mid _ _ rfl pb _ rfl (bv p.safe) _ qa Try.underlying76 rfl HSZ.out) | (go_simp <;> rfl)); simp only [Act.put, List.setIfInBounds_toArray, List.set_cons_zero, List.set_cons_succ])
        | (refine wpTake_no rfl ?_; simp only [Act.put, List.setIfInBounds_toArray, List.set_cons_zero, List.set_cons_succ])
        | (refine wpTake_pass ?_)
      refine wpTake_nil ?_
      repeat (refine wpRest_pass ?_)
      have keep : ∀ W', Fr (fun _ => False) Wb W' → W'.rangeAt pb (i * 513) (bv p.safe) ∧ W'.cell? ⟨pb, i * 513 + 512, none⟩ = some (.slice (some ⟨g, 0, none⟩) p.ws.length gc) := by
        intro W' hF
        have hB := HBp.out.fr hF (by simp)
        exact ⟨rangeAt_left (pcells_range hB HMs.out i _ HG.out), rangeAt_one (rangeAt_right (pcells_range hB HMs.out i _ HG.out) (i * 513 + 512) (by rw [bv_length, hsafe]))⟩
      have hdl : Wb.drew.heap.size = Wb.heap.size := rfl
      have hfl2 := flat_len p.ws (fun s hs => HAll.out s (List.mem_cons_of_mem _ hs))
      clear kS kv
      refine wpRest_op ?_
      refine wpList_buildSlice_one (x := .agg (bv p.safe).toArray) (cells := (bv p.safe).toArray) rfl rfl Try.underlying72 (info_two Try.info_halves) (by simp [Value.cells, zcells_length]) (by omega) (by omega) rfl rfl (by simp [bv_length, hsafe]) ?_
      have B1 := Blk.new Wb.drew (bv p.safe) 76
      have FA := ((Fr.refl (fun _ => False) Wb).drew).alloc (Obj.cells (bv p.safe).toArray 76)
      have SR := HSrc.out
      have SR2 : (Wb.drew.alloc (Obj.cells (bv p.safe).toArray 76)).rangeAt g 0 (p.ws.flatMap bv) := fun j v hj => (World.cell?_alloc_some _ _ _ (by rw [show Wb.drew.cell? _ = _ from SR j v hj]; rfl)).trans (SR j v hj)
      generalize Wb.drew.alloc (Obj.cells (bv p.safe).toArray 76) = Wc at *
      clear SR
      go_wp2
      refine ⟨fun k hk hk2 hS => ⟨fun _ => (keep _ FA).1, (keep _ FA).2⟩, ?_⟩
      repeat (refine wpRest_pass ?_)
      refine wpRest_op ?_
      refine wpList_append rfl rfl Try.underlying72 Try.underlying72 (.inr ⟨_, rfl⟩) Try.info_halves (by simp [Value.cells, zcells_length]) rfl rfl (own_of_blk B1 (by rw [bv_length, hsafe]) (by omega)) (Src.slice (news := p.ws.flatMap bv) hfl2 (flat_one p.ws) SR2) (by omega) (by omega) ?_
      intro b c w3 hown hg hat
      have FB := FA.grown hg (fun k hk hlt => absurd hlt (by have : k = Wb.heap.size := (Option.some.inj hk).symm; omega))
      have HOW := hid hown
      clear hg hat hown SR2 B1 FA
      go_wp2
      refine ⟨fun k hk hk2 hS => ⟨fun _ => (keep _ FB).1, (keep _ FB).2⟩, ?_⟩
      have KE := hid keep
      clear keep
      refine wpRest_op ?_
      go_wp2
      refine ⟨fun k hk hk2 hS => hS, ?_⟩
      refine wpRest_nil ?_
      gi_wp2
      have FC := FB.alloc (Obj.cells Try.zeroCells76 76)
      have Z0 : Blk (w3.alloc (Obj.cells Try.zeroCells76 76)) w3.heap.size (zcells 512) 76 := Blk.new_of _ _ Try.zero_halves
      have own4 := HOW.out.alloc (Obj.cells Try.zeroCells76 76)
      have hw4 : (w3.alloc (Obj.cells Try.zeroCells76 76)).heap.size = w3.heap.size + 1 := by simp
      generalize w3.alloc (Obj.cells Try.zeroCells76 76) = w4 at *
      have hlt3 := FB.size
      rcases HOW.out.2 with ⟨hnil, -⟩ | ⟨ga, ca, cu, he, -, hga3, -⟩
      · exfalso; injection hnil with e1 e2; omega
      have hga : ga < w3.heap.size := (Array.getElem?_eq_some_iff.1 hga3).1
      clear hga3 HOW
      obtain ⟨e1, -, e3⟩ : b = some ⟨ga, 0, none⟩ ∧ True ∧ c = ca := by injection he with e1 e2 e3; exact ⟨e1, trivial, e3⟩
      subst e1; subst e3
      rcases own4.2 with ⟨hnil, -⟩ | ⟨ga', ca', cu', he', -, hga4, -, -, -, htk4⟩
      · exfalso; cases hnil
      obtain ⟨rfl, rfl⟩ : ga = ga' ∧ c = ca' := by injection he' with e1 e2 e3; injection e1 with e1; injection e1 with e1; exact ⟨e1, e3⟩
      have gA : Blk w4 ga cu'.toList 76 := by unfold Blk; simpa using hga4
      have q4 := HQp.out.fr FC (by simp)
      have c4 := HCl.out.fr FC (by simp)
      have p4 := HBp.out.fr FC (by simp)
      have qr4 := HQr.out.fr FC (by simp)
      clear he he' own4 hga4 FB KE
      have hrow : ∀ (W' : World), Blk W' ga cu'.toList 76 → ∀ (t : Nat) (s : Bytes), (p.safe :: p.ws)[t]? = some s → W'.rangeAt ga (t * 512) (bv s) := by
        intro W' hB t s hs
        have hB' : W'.heap[ga]? = some (.cells cu' 76 (0, 0)) := by have := hB; unfold Blk at this; simpa using this
        refine flat_range (n := 0) (cap := 0) hB' (p.safe :: p.ws) HAll.out ?_ t s hs
        rw [show (p.safe :: p.ws).length = 1 + p.ws.length by simp; omega, List.flatMap_cons]
        exact htk4
      have KROW := hid hrow
      clear hrow htk4
      have k30 : w4.cell? ⟨w.heap.size + 1, 0, none⟩ = _ := c4.cell 0
      refine wpIn_loop_rounds 3 ?_
      rw [roundsIn_succ]
      have hC1 := Crash1_rep w4 w.heap.size (p.ws.length + 1) qi _ q4 qr4 (fun h => by have := HR.out _ h; omega) (by omega) (by omega) (by omega)
      rw [show ((p.ws.length + 1 : Nat) : Int) = 1 + p.ws.length by omega] at hC1
      have ht1 := takeQ_lt qi (p.ws.length + 1) (by omega)
      have gaq : ga ≠ w.heap.size := gA.ne_of_type q4 (by decide)
      have HC1 := hid hC1
      clear hC1 q4 qr4
      generalize he1 : takeQ qi (p.ws.length + 1) = t1 at *
      gi_wp2
      refine ⟨trivial, rfl, (CallsIn.inRound _ (callsIn_wide.2 HC1.out)).mono ?_⟩
      rintro e w5 ⟨rfl, FQ, hsz5, v2, q5, qr5⟩
      obtain ⟨s1, hs1⟩ : ∃ s1, (p.safe :: p.ws)[t1]? = some s1 := ⟨_, List.getElem?_eq_getElem (by simpa using ht1)⟩
      have h5a : s1.length = 512 := HAll.out s1 (List.mem_of_getElem? hs1)
      have gA5 := gA.fr FQ gaq
      gi_wp2_with (refine wpListIn_at 37 rfl (by rintro ⟨_, _, h⟩; exact h) (by decide +kernel) ?_)
      have FR5 : Fr (fun k => k = w.heap.size ∨ k = w3.heap.size) w4 w5 := FQ.mono (fun k hk _ => .inl hk)
      have hbq : w3.heap.size ≠ w.heap.size := by omega
      have Z5 := Z0.fr FQ hbq
      have hga3 : ga ≠ w3.heap.size := by omega
      have hlA : (s1.take 256).length = 256 := by simp; omega
      have r5 : w5.rangeAt ga (t1 * 512) (bv (s1.take 256)) := by
        have := KROW.out w5 gA5 t1 s1 hs1
        rw [← List.take_append_drop 256 s1, bv_append] at this
        exact rangeAt_left this
      have hsA : (Try.prog.info? 74).map (·.size) = some (bv (s1.take 256)).length := by rw [bv_length, hlA]; exact Try.size_half
      have hT5 : w5.there w3.heap.size 0 (bv (s1.take 256)).toArray.size := Z5.there _ _ (by rw [List.size_toArray, bv_length, hlA, zcells_length]; omega)
      have hone := all_oneCell_toArray (bv_one (s1.take 256))
      have HSA := hid hsA
      clear hsA
      go_wp2_with (first
        | (refine wpList_load_mid rfl 74 _ rfl ga (t1 * 512) rfl _ _ r5 Try.underlying74 rfl HSA.out ?_)
        | (refine wpList_store_mid rfl 74 _ _ rfl w3.heap.size 0 _ rfl rfl hT5 (by rw [List.size_toArray]; exact HSA.out) hone ?_; rw [List.toList_toArray]))
      have FR6 := FR5.put w3.heap.size 0 (bv (s1.take 256)) (fun _ => .inr rfl)
      have Z6 := Z5.put 0 (bv (s1.take 256)) (by rw [bv_length, hlA, zcells_length]; omega)
      have q6 := q5.put_ne w3.heap.size 0 (bv (s1.take 256)) hbq.symm
      have gA6 := gA5.put_ne w3.heap.size 0 (bv (s1.take 256)) hga3
      have qr6 := qr5.fr ((Fr.refl (fun k => k = w3.heap.size) w5).put w3.heap.size 0 (bv (s1.take 256)) (fun _ => rfl)) (fun k hk e => by have := HR.out k hk; omega)
      generalize w5.setCells w3.heap.size 0 (bv (s1.take 256)) = w6 at *
      have c6 := c4.fr FR6 (by omega)
      have p6 := p4.fr FR6 (by omega)
      have Z6' : Blk w6 w3.heap.size (bv (s1.take 256) ++ zcells 256) 76 := by
        rw [bv_length, hlA] at Z6
        simpa [zcells] using Z6
      have k30' : w6.cell? ⟨w.heap.size + 1, 0, none⟩ = _ := c6.cell 0
      have hql3 : qi.tail.length ≤ 9223372036854775807 := by simp; omega
      have hC2 := Crash1_rep w6 w.heap.size (p.ws.length + 1) qi.tail _ q6 qr6 (fun h => by have := HR.out _ h; omega) (by omega) (by omega) (by omega)
      rw [show ((p.ws.length + 1 : Nat) : Int) = 1 + p.ws.length by omega] at hC2
      have ht2 := takeQ_lt qi.tail (p.ws.length + 1) (by omega)
      have HC2 := hid hC2
      clear hC2 q6 qr6 k30 HC1 FQ FR5 Z5 Z0 r5 hT5 q5 qr5 gA5 gA c4 p4 Z6 HSA hone
      generalize he2 : takeQ qi.tail (p.ws.length + 1) = t2 at *
      gi_wp2
      rw [roundsIn_succ]
      gi_wp2
      refine ⟨trivial, rfl, (CallsIn.inRound _ (callsIn_wide.2 HC2.out)).mono ?_⟩
      rintro e w7 ⟨rfl, FQ, hsz7, v3, q7, qr7⟩
      obtain ⟨s2, hs2x⟩ : ∃ s2, (p.safe :: p.ws)[t2]? = some s2 := ⟨_, List.getElem?_eq_getElem (by simpa using ht2)⟩
      have h7a : s2.length = 512 := HAll.out s2 (List.mem_of_getElem? hs2x)
      have gA7 := gA6.fr FQ gaq
      have FR7 := FR6.trans FQ (fun k hk _ => .inl hk)
      have Z7 := Z6'.fr FQ hbq
      have hlB : (s2.drop 256).length = 256 := by simp; omega
      have r7 : w7.rangeAt ga (t2 * 512 + 256) (bv (s2.drop 256)) := by
        have := KROW.out w7 gA7 t2 s2 hs2x
        rw [← List.take_append_drop 256 s2, bv_append] at this
        exact rangeAt_right this _ (by rw [bv_length]; simp; omega)
      have hsB : (Try.prog.info? 74).map (·.size) = some (bv (s2.drop 256)).length := by rw [bv_length, hlB]; exact Try.size_half
      have hT7 : w7.there w3.heap.size 256 (bv (s2.drop 256)).toArray.size := Z7.there _ _ (by rw [List.size_toArray, bv_length, hlB, List.length_append, zcells_length, bv_length, hlA]; omega)
      have hone := all_oneCell_toArray (bv_one (s2.drop 256))
      have HSB := hid hsB
      clear hsB FR6 gA6
      gi_wp2_with (refine wpListIn_at 37 rfl (by rintro ⟨_, _, h⟩; exact h) (by decide +kernel) ?_)
      go_wp2_with (first
        | (refine wpList_load_mid rfl 74 _ rfl ga (t2 * 512 + 256) rfl _ _ r7 Try.underlying74 rfl HSB.out ?_)
        | (refine wpList_store_mid rfl 74 _ _ rfl w3.heap.size 256 _ rfl rfl hT7 (by rw [List.size_toArray]; exact HSB.out) hone ?_; rw [List.toList_toArray]))
      have FR8 := FR7.put w3.heap.size 256 (bv (s2.drop 256)) (fun _ => .inr rfl)
      have Z8 := Z7.put 256 (bv (s2.drop 256)) (by rw [bv_length, hlB, List.length_append, zcells_length, bv_length, hlA]; omega)
      have q8 := q7.put_ne w3.heap.size 256 (bv (s2.drop 256)) hbq.symm
      have qr8 := qr7.fr ((Fr.refl (fun k => k = w3.heap.size) w7).put w3.heap.size 256 (bv (s2.drop 256)) (fun _ => rfl)) (fun k hk e => by have := HR.out k hk; omega)
      have p8 := (p6.fr FQ (by omega)).put_ne w3.heap.size 256 (bv (s2.drop 256)) (by omega)
      generalize w7.setCells w3.heap.size 256 (bv (s2.drop 256)) = w8 at *
      have hX : (p.crash qi).safe = s1.take 256 ++ s2.drop 256 := by
        simp [Pg.crash, he1, he2, List.getD_eq_getElem?_getD, hs1, hs2x]
      have Z9 : Blk w8 w3.heap.size (bv (p.crash qi).safe) 76 := by
        rw [hX, bv_append]
        rw [put_half _ _ _ (by rw [bv_length, hlA]) (zcells_length _) (by rw [bv_length, hlB])] at Z8
        exact Z8
      have hlX := HX.out
      generalize (p.crash qi).safe = x at *
      have R9 := Z9.all
      have hsz : (Try.prog.info? 76).map (·.size) = some (bv x).length := by rw [bv_length, hlX]; exact Try.size_halves
      have HSZ9 := hid hsz
      have hT8 : w8.there pb (i * 513) (bv x).toArray.size := p8.there _ _ (by
        rw [List.size_toArray, bv_length, hlX, pcells_length _ HMs.out, HML.out]; omega)
      have hS1 := p8.put (i * 513) (bv x) (by rw [bv_length, hlX, pcells_length _ HMs.out, HML.out]; omega)
      rw [pcells_setsafe _ i p.safe x _ HG.out HMs.out hlX] at hS1
      have hone := all_oneCell_toArray (bv_one x)
      have hms2 : ∀ q' ∈ (mixL (crashE ps wv q) (pcs ps wv) i).set i (x, .slice (some ⟨g, 0, none⟩) p.ws.length gc), q'.1.length = 512 := by
        intro q' hq'
        rcases List.mem_or_eq_of_mem_set hq' with h | rfl
        · exact HMs.out q' h
        · exact hlX
      have hget2 : ((mixL (crashE ps wv q) (pcs ps wv) i).set i (x, .slice (some ⟨g, 0, none⟩) p.ws.length gc))[i]? = some (x, .slice (some ⟨g, 0, none⟩) p.ws.length gc) := by
        rw [List.getElem?_set, if_pos rfl, if_pos (List.getElem?_eq_some_iff.1 HG.out).1]
      have kv2 := rangeAt_one (rangeAt_right (pcells_range hS1 hms2 i _ hget2) (i * 513 + 512) (by rw [bv_length, hlX]))
      dsimp only at kv2
      have zS := hS1.frozen
      have hfin : ((mixL (crashE ps wv q) (pcs ps wv) i).set i (x, .slice (some ⟨g, 0, none⟩) p.ws.length gc)).set i (x, .slice none 0 0) = mixL (crashE ps wv q) (pcs ps wv) (i + 1) := by
        rw [List.set_set]; exact HMix.out
      have hS2 := hS1.set (i * 513 + 512) (.slice none 0 0)
      rw [pcells_set _ i x _ _ hget2 hms2, hfin] at hS2
      have HS2 := hid hS2
      clear hS2 hS1 hms2 hget2 hfin hsz Z8 Z9 p8 hX
      -- out of the loop
      gi_wp2
      rw [roundsIn_succ]
      gi_wp2_with (refine wpListIn_at 42 rfl (by rintro ⟨_, _, h⟩; exact h) (by decide +kernel) ?_)
      go_wp2_with (first
        | (refine wpList_load_mid rfl 76 _ rfl w3.heap.size 0 rfl _ _ R9 Try.underlying76 rfl HSZ9.out ?_)
        | (refine wpList_store_mid rfl 76 _ _ rfl pb (i * 513) _ rfl rfl hT8 (by rw [List.size_toArray]; exact HSZ9.out) hone ?_; rw [List.toList_toArray]))
      have hszW2 := HFb.out.size
      have FB8 : Fr (fun k => k = pb ∨ k = w.heap.size ∨ k = w3.heap.size) Wb w8 := (FC.mono (T := fun k => k = pb ∨ k = w.heap.size ∨ k = w3.heap.size) (by simp)).trans FR8 (fun k hk _ => .inr hk)
      have FBf := (FB8.put pb (i * 513) (bv x) (fun _ => .inl rfl)).setCell ⟨pb, i * 513 + 512, none⟩ (.slice none 0 0) (fun _ => .inl rfl)
      have F8f := ((Fr.refl (fun k => k = pb) w8).put pb (i * 513) (bv x) (fun _ => rfl)).setCell ⟨pb, i * 513 + 512, none⟩ (.slice none 0 0) (fun _ => rfl)
      have HS3 := HS2.out
      generalize (w8.setCells pb (i * 513) (bv x)).setCell ⟨pb, i * 513 + 512, none⟩ (.slice none 0 0) = Wf at *
      have F2f := HFb.out.trans FBf (by
        rintro k (h | h | h) hk
        · exact .inl h
        · exact .inr (.inl h)
        · omega)
      have HLf := (FBf.blk (w1.heap.size + 1) (Array.getElem?_eq_some_iff.1 Hlb.out).1 (by omega)).trans Hlb.out
      have HDf := (FBf.blk w1.heap.size (Array.getElem?_eq_some_iff.1 HDb.out).1 (by omega)).trans HDb.out
      have qf := q8.fr F8f (by omega)
      have qrf := qr8.fr F8f (by intro k hk; have := HR.out k hk; omega)
      have hrR : ∀ k, R k → k ≠ w1.heap.size + 1 := by intro k hk; have := HR.out k hk; omega
      rw [← hsz1]
      refine ⟨HLf, rfl, ?_⟩
      rw [HJJ.out]
      refine ⟨F2f.putObj _ _ (fun _ => .inr (.inr rfl)), HS3.putObj _ HLf rfl, ⟨v3, qf.putObj _ HLf rfl, ?_⟩, World.putObj_heap_same (Array.getElem?_eq_some_iff.1 HLf).1, (World.putObj_heap_other (by omega)).trans HDf⟩
      rw [HQS.out]
      exact qrf.fr ((Fr.refl (fun k => k = w1.heap.size + 1) Wf).putObj _ _ (fun _ => rfl)) hrR
    · rintro e W' ⟨b, rfl, rfl, h⟩
      rw [HJJ.out] at h
      exact ⟨rfl, h⟩
  · rintro e W ⟨⟨v, rfl⟩, hF, hB, hQ, hl, hD⟩
    refine ⟨⟨v, rfl⟩, hD, .inl ⟨hl, ?_⟩⟩
    have hD' : ∀ o, (W.putObj (w1.heap.size + 1) o).heap[w1.heap.size]? = some (.deferred (some [])) := fun o => (World.putObj_heap_other (by omega)).trans hD
    obtain ⟨v3, q3, qr3⟩ := hQ
    obtain ⟨c3, cd, cc⟩ := bfr hF
    have FP := (Fr.refl (fun k => k = w1.heap.size + 1) W).putObj (w1.heap.size + 1) (.loop (rec .exhausted none)) (fun _ => rfl)
    have hWsz := hF.size
    have x3 := q3.fr FP (by omega)
    have xd := cd.fr FP (by omega)
    have xc := cc.fr FP (by omega)
    have xq := qr3.fr FP (by intro k hk; have := HR.out k hk; omega)
    have xp := hB.fr FP (by omega)
    rw [← Hpl.out, mixL_all _ _ HEl.out] at xp
    have hDx := hD' (.loop (rec .exhausted none))
    have FX : Fr (fun k => k = pb ∨ k = d) w (W.putObj (w1.heap.size + 1) (.loop (rec .exhausted none))) := by
      refine Fr.putObj ((FW.trans F2 (by simp)).trans hF ?_) _ _ ?_
      · rintro k (h | h | h) hk
        · exact .inl h
        · omega
        · omega
      · intro h; omega
    have hszX : w.heap.size + 5 ≤ (W.putObj (w1.heap.size + 1) (.loop (rec .exhausted none))).heap.size := by rw [World.putObj_size]; omega
    go_wp2
    rw [← hsz1]
    generalize W.putObj (w1.heap.size + 1) (.loop (rec .exhausted none)) = Wx at *
    generalize hqi : qAt ps q ps.length = qi at *
    have hqil : qi.length ≤ 9223372036854775807 := by rw [← hqi]; exact Nat.le_trans (qAt_length _ _ _) hql
    have hC := Crash1_rep (R := R) Wx.drew w.heap.size (n - fl + 1) qi v3 x3 (xq.fr ((Fr.refl (fun _ => False) Wx).drew) (by simp)) (fun h => by have := HR.out _ h; omega) (by omega) (by omega) (by omega)
    have ht := takeQ_lt qi (n - fl + 1) (by omega)
    rw [show ((n - fl + 1 : Nat) : Int) = (n : Int) - fl + 1 by omega] at hC
    generalize hte : takeQ qi (n - fl + 1) = t at *
    have HC := hid hC
    have XD := hid xd
    have XC := hid xc
    have XP := hid xp
    have FXX := hid FX
    have HDX := hid hDx
    have c1 : Wx.cell? ⟨d, 1, none⟩ = some (.slice la n cap) := xd.cell 1
    have c2 : Wx.cell? ⟨d, 2, none⟩ = some (.int .i64 fl) := xd.cell 2
    have c0 : Wx.cell? ⟨w.heap.size + 1, 0, none⟩ = some (.func (.func 41) #[] #[.pointer (some ⟨w.heap.size, 0, none⟩)]) := xc.cell 0
    clear hC xd xc xp FX hDx hD hF hB hl hD' x3 xq q3 qr3 c3 cd cc FP bfr at_i bo b1 b2 b3 bd bp bq hl2 hD2 F2 FW hrec
    generalize hwq : w.heap.size = wq at *
    have hw1 : IntKind.i64.wrap ((n : Int) - fl) = (n : Int) - fl := IntWalk.i64_in _ (by omega)
    have hw2 : IntKind.i64.wrap ((n : Int) - fl + 1) = (n : Int) - fl + 1 := IntWalk.i64_in _ (by omega)
    have hw3 : IntKind.i64.wrap ((fl : Int) + t) = (fl : Int) + t := IntWalk.i64_in _ (by omega)
    refine wp_region_planQ [true, true, true, true, true, true, true, true, true, true, true, true, true, true, true, true, false, false, false, false, false] (fun kz w => (kz ≤ 20 → w.cell? ⟨d, 1, none⟩ = some (.slice la n cap)) ∧ w.cell? ⟨d, 2, none⟩ = some (.int .i64 fl) ∧ w.cell? ⟨(wq + 1), 0, none⟩ = some (.func (.func 41) #[] #[.pointer (some ⟨wq, 0, none⟩)])) (by kernel_rfl) (by kernel_rfl) (fun kz => ⟨fun _ => c1, c2, c0⟩) ?_
    repeat
      first
      | (refine wpTake_yes 20 rfl (by decide +kernel) ?_; apply Exists.intro; refine ⟨?_, ?_⟩; intro w hw; (try (have qa := (hw rfl).1 (Nat.le_refl _); have qb := (hw rfl).2)); ((go_simp <;> rfl)); simp only [Act.put, List.setIfInBounds_toArray, List.set_cons_zero, List.set_cons_succ])
      | (refine wpTake_no rfl ?_; simp only [Act.put, List.setIfInBounds_toArray, List.set_cons_zero, List.set_cons_succ])
      | (refine wpTake_pass ?_)
    refine wpTake_nil ?_
    repeat (refine wpRest_pass ?_)
    have keep : ∀ W', Fr (fun k => k = wq) Wx W' → W'.cell? ⟨d, 1, none⟩ = some (.slice la n cap) ∧ W'.cell? ⟨d, 2, none⟩ = some (.int .i64 fl) ∧ W'.cell? ⟨(wq + 1), 0, none⟩ = some (.func (.func 41) #[] #[.pointer (some ⟨wq, 0, none⟩)]) := by
      intro W' hF
      exact ⟨(XD.out.fr hF (by omega)).cell 1, (XD.out.fr hF (by omega)).cell 2, (XC.out.fr hF (by omega)).cell 0⟩
    clear c0 c1 c2
    refine wpRest_op ?_
    go_wp2_with (first | (go_at_call 41; refine HC.out.mono ?_; rintro e w5 ⟨rfl, FQ, hsz5, -⟩))
    have FQ5 := (Fr.refl (fun k => k = wq) Wx).drew.trans FQ (fun k hk _ => hk)
    refine ⟨fun k hk hk2 hS => ⟨fun _ => (keep _ FQ5).1, (keep _ FQ5).2⟩, ?_⟩
    have x5 := XD.out.fr FQ5 (by omega)
    have z5 := x5.frozen
    have X5 := hid x5
    clear x5 FQ
    repeat (refine wpRest_op ?_; go_wp2; (refine ⟨?_, ?_⟩; focus (intro kz hk hk2; rintro ⟨qa, qb⟩; first | (exfalso; simp at hk2; omega) | exact ⟨qa, qb⟩ | (refine ⟨fun h => absurd h (by omega), ?_⟩; first | exact qb | (skip)) | (refine ⟨fun h => ?_, ?_⟩; (have qa := qa h); all_goals (first | exact qa | exact qb | (skip))))))
    refine wpRest_nil ?_
    refine quiet_normal ?_
    have FX5 := FXX.out.trans FQ5 (fun k hk hlt => by omega)
    have HDX5 := (FQ5.blk w1.heap.size (Array.getElem?_eq_some_iff.1 HDX.out).1 (by omega)).trans HDX.out
    have P5 := XP.out.fr FQ5 (by omega)
    have X6 := X5.out.set 2 (.int .i64 ((fl : Int) + t))
    have P6 := P5.set_ne ⟨d, 2, none⟩ (.int .i64 ((fl : Int) + t)) n3.symm
    have F6 := FX5.setCell ⟨d, 2, none⟩ (.int .i64 ((fl : Int) + t)) (fun _ => .inr rfl)
    have D6 := (heap_setCell_other w5 ⟨d, 2, none⟩ w1.heap.size (.int .i64 ((fl : Int) + t)) (by dsimp only; omega)).trans HDX5
    generalize w5.setCell ⟨d, 2, none⟩ (.int .i64 ((fl : Int) + t)) = w6 at *
    clear FX5 HDX5 P5 X5 FQ5 HDX XP XC XD keep z5 HC
    rw [show (fl : Int) + t = ((fl + t : Nat) : Int) by omega] at *
    have hft : fl + t ≤ n := by omega
    generalize hfte : fl + t = ft at *
    simp only [List.set_cons_zero, List.set_cons_succ] at X6
    have e1 : w6.cell? ⟨d, 1, none⟩ = some (.slice la n cap) := X6.cell 1
    have e2 : w6.cell? ⟨d, 2, none⟩ = some (.int .i64 ft) := X6.cell 2
    have z6 := X6.frozen
    have HX6 := hid X6
    have HP6 := hid P6
    have HF6 := hid F6
    have HD6 := hid D6
    clear X6 P6 F6 D6
    have hfc : (ft : Int) ≤ cap := by omega
    have hfc0 : (0 : Int) ≤ ft := by omega
    go_wp2
    refine wp_region_planQ [true, true, true, true, true, true, true, true, true, true, false, false, false] (fun kz w => (kz ≤ 12 → w.cell? ⟨d, 1, none⟩ = some (.slice la n cap)) ∧ w.cell? ⟨d, 2, none⟩ = some (.int .i64 ft)) (by kernel_rfl) (by kernel_rfl) (fun kz => ⟨fun _ => e1, e2⟩) ?_
    repeat
      first
      | (refine wpTake_yes 12 rfl (by decide +kernel) ?_; apply Exists.intro; refine ⟨?_, ?_⟩; intro w hw; (try (have qa := (hw rfl).1 (Nat.le_refl _); have qb := (hw rfl).2)); ((go_simp <;> rfl)); simp only [Act.put, List.setIfInBounds_toArray, List.set_cons_zero, List.set_cons_succ])
      | (refine wpTake_no rfl ?_; simp only [Act.put, List.setIfInBounds_toArray, List.set_cons_zero, List.set_cons_succ])
      | (refine wpTake_pass ?_)
    refine wpTake_nil ?_
    repeat (refine wpRest_pass ?_)
    repeat (refine wpRest_op ?_; go_wp2; (refine ⟨?_, ?_⟩; focus (intro kz hk hk2; rintro ⟨qa, qb⟩; first | (exfalso; simp at hk2; omega) | exact ⟨qa, qb⟩ | (refine ⟨fun h => absurd h (by omega), ?_⟩; first | exact qb | (skip)) | (refine ⟨fun h => ?_, ?_⟩; (have qa := qa h); all_goals (first | exact qa | exact qb | (skip))))))
    refine wpRest_nil ?_
    refine quiet_normal ?_
    have X7 := (HX6.out.set 1 (.slice la ft cap)).drew
    have P7 := (HP6.out.set_ne ⟨d, 1, none⟩ (.slice la ft cap) n3.symm).drew
    have F7 := (HF6.out.setCell ⟨d, 1, none⟩ (.slice la ft cap) (fun _ => .inr rfl)).drew
    have D7 : (w6.setCell ⟨d, 1, none⟩ (.slice la ft cap)).drew.heap[w1.heap.size]? = some (.deferred (some [])) := (heap_setCell_other w6 ⟨d, 1, none⟩ w1.heap.size (.slice la ft cap) (by dsimp only; omega)).trans HD6.out
    generalize (w6.setCell ⟨d, 1, none⟩ (.slice la ft cap)).drew = w7 at *
    simp only [List.set_cons_zero, List.set_cons_succ] at X7
    clear HX6 HP6 HF6 HD6 e1 e2 z6
    have z7 := X7.frozen
    have k3 : w7.cell? ⟨d, 3, none⟩ = some (.bool off) := X7.cell 3
    have k4 : w7.cell? ⟨d, 4, none⟩ = some (.bool armed) := X7.cell 4
    have Hqi := hid hqi
    have Hte := hid hte
    have Hfte := hid hfte
    clear hqi hte hfte
    have X9 := (X7.set 3 (.bool false)).set 4 (.bool false)
    have P9 := (P7.set_ne ⟨d, 3, none⟩ (.bool false) n3.symm).set_ne ⟨d, 4, none⟩ (.bool false) n3.symm
    have F9 := (F7.setCell ⟨d, 3, none⟩ (.bool false) (fun _ => .inr rfl)).setCell ⟨d, 4, none⟩ (.bool false) (fun _ => .inr rfl)
    have D9 : ((w7.setCell ⟨d, 3, none⟩ (.bool false)).setCell ⟨d, 4, none⟩ (.bool false)).heap[w1.heap.size]? = some (.deferred (some [])) := (heap_setCell_other _ ⟨d, 4, none⟩ w1.heap.size (.bool false) (by dsimp only; omega)).trans ((heap_setCell_other w7 ⟨d, 3, none⟩ w1.heap.size (.bool false) (by dsimp only; omega)).trans D7)
    simp only [List.set_cons_zero, List.set_cons_succ] at X9
    have HX9 := hid X9
    have HP9 := hid P9
    have HF9 := hid F9
    have HD9 := hid D9
    clear X7 P7 F7 D7 X9 P9 F9 D9
    go_wp2
    rw [← hsz1]
    refine leavesM_one (v := .tuple #[]) HD9.out (results_none rfl _ _ _) ?_
    refine ⟨rfl, Fr.putObj HF9.out _ _ (by intro h; omega), ?_, ?_⟩
    · exact HP9.out.of_heap (World.putObj_heap_other (by omega))
    · rw [Hqi.out, Hte.out, Hfte.out]
      exact HX9.out.of_heap (World.putObj_heap_other (by omega))
