import Derived.Test.YtbkebjgoaeddjaaClkC
import Derived.Test.YtbkebjgoaeddjaaOwn
/- The clock under test: Snap, Oldest. -/
set_option linter.unusedVariables false
namespace Go.VB.Clk
open Go.RowKit
/-- numbers as cells -/
def nv (l : List Nat) : List Value := l.map fun x : Nat => Value.int .i64 (x : Int)
theorem nv_length (l : List Nat) : (nv l).length = l.length := by simp [nv]
theorem nv_append (l m : List Nat) : nv (l ++ m) = nv l ++ nv m := by simp [nv]
def CM.liveN (m : CM) (i : Nat) : List Nat := (m.known.take i).filter m.live
theorem CM.liveN_zero (m : CM) : m.liveN 0 = [] := by simp [CM.liveN]
theorem CM.known_take (m : CM) (i : Nat) (h : i < m.n) : m.known.take (i + 1) = m.known.take i ++ [xat m.low i] := by
  rw [List.take_add_one, List.getElem?_eq_getElem (by rw [CM.known_length]; exact h), CM.known_get m i (by rw [CM.known_length]; exact h)]
  rfl
theorem CM.liveN_yes (m : CM) (i : Nat) (h : i < m.n) (hl : m.live (xat m.low i) = true) : m.liveN (i + 1) = m.liveN i ++ [xat m.low i] := by
  unfold CM.liveN
  rw [m.known_take i h, List.filter_append]
  simp [hl]
theorem CM.liveN_no (m : CM) (i : Nat) (h : i < m.n) (hl : m.live (xat m.low i) = false) : m.liveN (i + 1) = m.liveN i := by
  unfold CM.liveN
  rw [m.known_take i h, List.filter_append]
  simp [hl]
theorem CM.liveN_all (m : CM) : m.liveN m.n = m.lives := by
  unfold CM.liveN CM.lives
  rw [List.take_of_length_le (by rw [CM.known_length]; exact Nat.le_refl _)]
theorem CM.liveN_le (m : CM) (i : Nat) : (m.liveN i).length ≤ i := by
  unfold CM.liveN
  exact Nat.le_trans (List.length_filter_le _ _) (List.length_take_le _ _)
end Go.VB.Clk
namespace Go.Proofs.Ytbkebjgoaeddjaa
open Go.RowKit Go.VB Go.VB.Clk
attribute [local go_sem] Oper.semAt_some
theorem Try.info_int : (Try.prog.info? 3).map (fun i => (i.zero, i.size, i.bytes)) = some (some (.int .i64 0), 1, 8) := by kernel_rfl
theorem Try.size_snap : (Try.prog.info? 37).map (·.size) = some 2 := by kernel_rfl
theorem wpListIn_at {P : Program} {ops : Array Oper} {Q : Exit → Act → World → Prop} {l : Nat} {o : Oper} {os : List Oper} {a : Act} {w : World} (slot : Tmp) (_hd : o.dst = some slot) (hQ : ¬ LetsOut Q) (hnd : noDefer (o :: os).toArray = true)
    (h : wpList P ops Q (o :: os) a w) : wpListIn (Fence.wide.inRound l) 0 P ops Q (o :: os) a w := wpListIn_of hQ _ _ _ hnd h
/-- a slice that the call has made: its numbers; all of it in new memory -/
structure NumRow (w w' : World) (v : Value) (l : List Nat) : Prop where
  own : w'.ownsRow 0 3 1 v l.length (nv l)
  new : ∀ k, v.ownBlock = some k → w.heap.size ≤ k
theorem NumRow.app {w Wb Wc wg : World} {v v' : Value} {l : List Nat} {x : Nat} (h : NumRow w Wb v l) (f1 : Fr (fun _ => False) Wb Wc) (hs : w.heap.size ≤ Wc.heap.size) (hg : Wc.grownBy wg v.ownBlock) (hown : wg.ownsRow 0 3 1 v' (l.length + 1) (nv l ++ [.int .i64 x]))
    (hat : ∀ k, v'.ownBlock = some k → v.ownBlock = some k ∨ k = Wc.heap.size) : NumRow w wg v' (l ++ [x]) ∧ Fr (fun k => v.ownBlock = some k) Wb wg := by
  refine ⟨⟨?_, fun k hk => ?_⟩, (f1.mono (fun _ h _ => h.elim)).grown hg (fun k hk _ => hk)⟩
  · rw [List.length_append, nv_append]
    exact hown
  · rcases hat k hk with h' | rfl
    · exact h.new k h'
    · exact hs
structure SnapInv (w W : World) (c : Nat) (m : CM) (l : List Nat) : Prop where
  fr : Fr (fun _ => False) w W
  br : Blk W (w.heap.size + 1) [.int .i64 0, .slice none 0 0] 37
  bs : ∃ v, Blk W (w.heap.size + 2) [.int .i64 m.next, v] 37 ∧ NumRow w W v l ∧ ∀ k, v.ownBlock = some k → k ≠ w.heap.size + 4 ∧ k ≠ w.heap.size + 5
  bb : Blk W w.heap.size [.pointer (some ⟨c, 0, none⟩)] 27
  bi : Blk W (w.heap.size + 3) [.pointer (some ⟨c, 0, none⟩)] 27
theorem SnapInv.keep {w W W' : World} {c : Nat} {m : CM} {l : List Nat} (h : SnapInv w W c m l) (f : Fr (fun k => k = w.heap.size + 4 ∨ k = w.heap.size + 5) W W') : SnapInv w W' c m l := by
  obtain ⟨h1, h2, ⟨v, h3, h4, h5⟩, h6, h7⟩ := h
  refine ⟨h1.trans f (fun i hi hl => by omega), h2.fr f (by omega), ⟨v, h3.fr f (by omega), ⟨own_fr h4.own f (fun k hk hn => by have := h5 k hk; omega), h4.new⟩, h5⟩, h6.fr f (by omega), h7.fr f (by omega)⟩
variable {w : World} {c : Nat} {m : CM}
set_option maxHeartbeats 2000000 in
theorem Snap_go (h : CRep w c m) (ok : m.Ok) : Calls Try.prog 36 #[.pointer (some ⟨c, 0, none⟩)] w fun e w' => ∃ v, e = .returned (.agg #[.int .i64 m.next, v]) ∧ NumRow w w' v m.lives ∧ Fr (fun _ => False) w w' := by
  have h1 := h.next
  have hlt := lt_of_cell h1
  refine calls_of_wp_marks Try.func36 rfl ?_
  simp only [Try.ntmps36, List.size_toArray, List.length_cons, List.length_nil, Nat.reduceAdd, Nat.reduceSub, Array.replicate_succ, Array.replicate_zero, List.push_toArray, List.append_toArray, List.nil_append, List.cons_append]
  have HH := hid h
  clear h
  go_wp2_with (first | (go_at_call 57; refine (all_go _ _).mono ?_; rintro e w1 ⟨rfl, rfl⟩))
  obtain ⟨W, hW⟩ : ∃ W, W = (((w.alloc (.cells #[Value.pointer (some ⟨c, 0, none⟩)] 27)).alloc (.cells #[Value.int .i64 0, .slice none 0 0] 37)).alloc (.cells #[Value.int .i64 m.next, .slice none 0 0] 37)).alloc (.cells #[Value.pointer (some ⟨c, 0, none⟩)] 27) := ⟨_, rfl⟩
  have hz : W.heap.size = w.heap.size + 4 := by rw [hW]; simp
  have inv0 : SnapInv w W c m (m.liveN 0) := by
    rw [CM.liveN_zero, hW]
    refine ⟨((((Fr.refl _ w).alloc _).alloc _).alloc _).alloc _, ?_, ⟨_, ?_, ⟨own_nil, fun k hk => by simp [Value.ownBlock] at hk⟩, fun k hk => by simp [Value.ownBlock] at hk⟩, ?_, ?_⟩
    · have := ((Blk.new (w.alloc (.cells #[Value.pointer (some ⟨c, 0, none⟩)] 27)) [Value.int .i64 0, .slice none 0 0] 37).alloc (.cells #[Value.int .i64 m.next, .slice none 0 0] 37)).alloc (.cells #[Value.pointer (some ⟨c, 0, none⟩)] 27)
      simpa using this
    · have := (Blk.new ((w.alloc (.cells #[Value.pointer (some ⟨c, 0, none⟩)] 27)).alloc (.cells #[Value.int .i64 0, .slice none 0 0] 37)) [Value.int .i64 m.next, .slice none 0 0] 37).alloc (.cells #[Value.pointer (some ⟨c, 0, none⟩)] 27)
      simpa using this
    · exact (((Blk.new w [Value.pointer (some ⟨c, 0, none⟩)] 27).alloc _).alloc _).alloc _
    · have := Blk.new (((w.alloc (.cells #[Value.pointer (some ⟨c, 0, none⟩)] 27)).alloc (.cells #[Value.int .i64 0, .slice none 0 0] 37)).alloc (.cells #[Value.int .i64 m.next, .slice none 0 0] 37)) [Value.pointer (some ⟨c, 0, none⟩)] 27
      simpa using this
  rw [← hW]
  clear hW
  refine wp_range_J (n := m.n) (fun i => .int .i64 (xat m.low i)) (fun i W => SnapInv w W c m (m.liveN i)) (fun _ => False) ?a1 rfl (fun _ _ => rfl) rfl (fun i W1 W2 h f => h.keep (f.mono (by rw [hz]; exact fun k h _ => h))) (fun _ _ h _ => h.elim) ?it inv0 ?asg ?round ?fin (fun _ h _ => h.elim)
  case asg =>
    intro i W1 K hK
    gi_wp2
    exact hK
  case it =>
    rw [hz]
    refine all_it (w.heap.size + 4 + 1) (w.heap.size + 1 + 1 + 1) c m.low m.next ok.lo ok.nx _ fun i W1 h => ⟨h.bi.cell 0, ?_, ?_⟩
    · exact (CRep.fr HH.out h.fr (fun h => h)).low
    · exact (CRep.fr HH.out h.fr (fun h => h)).next
  case round =>
    rw [hz]
    intro i Wb inv hi hsb
    have hx := xat_on m.low i
    have HC := hid (CRep.fr HH.out inv.fr (fun h => h))
    have hli := m.liveN_le i
    have hf := ok.far
    have INV := hid inv
    obtain ⟨f0, br, ⟨v, b2, row, hoff⟩, bb, bi⟩ := inv
    have k0 : Wb.cell? ⟨w.heap.size, 0, none⟩ = some (.pointer (some ⟨c, 0, none⟩)) := bb.cell 0
    obtain ⟨va, vc, rfl, hvc⟩ := own_slice row.own
    have k1 : Wb.cell? ⟨w.heap.size + 1 + 1, 1, none⟩ = some (.slice va (m.liveN i).length vc) := b2.cell 1
    cases hlv : m.live (xat m.low i) with
    | false =>
      have HL := hid (live_is HC.out (x := xat m.low i) (by omega) hlv)
      have HN := hid (m.liveN_no i hi hlv)
      clear hlv f0 br b2 row hoff bb bi inv0
      gi_wp2_with (fail)
      refine ⟨trivial, rfl, (CallsIn.inRound _ (callsIn_wide.2 HL.out)).mono ?_⟩
      rintro e w5 ⟨rfl, rfl⟩
      gi_wp2_with (fail)
      refine ⟨?_, Fr.refl _ _⟩
      show SnapInv w _ c m (m.liveN (i + 1))
      rw [HN.out]
      exact INV.out
    | true =>
      have HL := hid (live_is HC.out (x := xat m.low i) (by omega) hlv)
      have HN := hid (m.liveN_yes i hi hlv)
      have F1 := hid ((Fr.refl (fun _ => False) Wb).alloc (.cells #[Value.int .i64 (xat m.low i)] 3))
      have hsrc : Src Try.prog (Wb.alloc (.cells #[Value.int .i64 (xat m.low i)] 3)) 1 (.slice (some ⟨Wb.heap.size, 0, none⟩) 1 1) 1 [Value.int .i64 (xat m.low i)] := Src.slice (by simp) (by simp [Value.oneCell']) (Blk.new Wb [Value.int .i64 (xat m.low i)] 3).all
      have ho := own_fr row.own F1.out (fun _ _ h => h)
      have z1 : (Wb.alloc (.cells #[Value.int .i64 (xat m.low i)] 3)).frozen? ⟨w.heap.size + 1 + 1, 1, none⟩ = false := ((b2.fr F1.out (fun h => h))).frozen 1
      clear hlv f0 br bb bi inv0
      gi_wp2_with (fail)
      refine ⟨trivial, rfl, (CallsIn.inRound _ (callsIn_wide.2 HL.out)).mono ?_⟩
      rintro e w5 ⟨rfl, rfl⟩
      gi_wp2_with (refine wpListIn_at 19 rfl (by rintro ⟨_, _, h⟩; exact h) (by decide +kernel) ?_)
      go_wp2_with (first
        | (refine wpList_append rfl (s := .tmp 20) (x := .tmp 22) (t := 26) (tx := 26) rfl Try.underlying26 Try.underlying26 (.inr ⟨_, rfl⟩) Try.info_int rfl rfl rfl ho hsrc (by omega) (by omega) ?_
           intro ab ac wg hown hg hat
           have hg : World.grownBy _ wg (Value.slice va (m.liveN i).length vc).ownBlock := hg
           have hat : ∀ k, (Value.slice ab ((m.liveN i).length + 1) ac).ownBlock = some k → (Value.slice va (m.liveN i).length vc).ownBlock = some k ∨ k = _ := hat
           obtain ⟨row', fg⟩ := row.app F1.out (by simp; omega) hg hown hat
           have hne : ∀ k, (Value.slice va (m.liveN i).length vc).ownBlock = some k → k ≠ w.heap.size + 2 := ownsRow_ne b2 (by decide) row.own
           have b3 := b2.fr fg (fun h => hne _ h rfl)
           have k2 : wg.cell? ⟨w.heap.size + 1 + 1, 1, none⟩ = some (.slice va (m.liveN i).length vc) := b3.cell 1
           have z2 : wg.frozen? ⟨w.heap.size + 1 + 1, 1, none⟩ = false := b3.frozen 1
           have hat : ∀ k, (Value.slice ab ((m.liveN i).length + 1) ac).ownBlock = some k → (Value.slice va (m.liveN i).length vc).ownBlock = some k ∨ k = Wb.heap.size + 1 := by simpa using hat
           have row0 := hid row
           have ROW := hid row'
           have HAT := hid hat
           have FG := hid fg
           have HNE := hid hne
           have hoff' := hid hoff
           have B3 := hid b3
           clear hg hown hat row' fg hne b2 b3 ho hsrc z1 hoff row k1))
      have f2 := (Fr.refl (fun k => k = w.heap.size + 2) wg).setCell ⟨w.heap.size + 2, 1, none⟩ (.slice ab ((m.liveN i).length + 1) ac) (fun _ => rfl)
      have f3 := (FG.out.mono (T := fun k => (Value.slice va (m.liveN i).length vc).ownBlock = some k ∨ k = w.heap.size + 2) (fun k h _ => .inl h)).trans f2 (fun k h _ => .inr h)
      have hn2 := ROW.out.new
      obtain ⟨f0, br, -, bb, bi⟩ := INV.out
      have ne1 := ownsRow_ne br (by decide) row0.out.own
      have ne3 := ownsRow_ne bb (by decide) row0.out.own
      have ne4 := ownsRow_ne bi (by decide) row0.out.own
      have hlt2 : ∀ k, (Value.slice ab ((m.liveN i).length + 1) ac).ownBlock = some k → k ≠ w.heap.size + 2 ∧ k ≠ w.heap.size + 4 ∧ k ≠ w.heap.size + 5 := fun k hk => by
        rcases HAT.out k hk with h | h
        · exact ⟨HNE.out k h, (hoff'.out k h).1, (hoff'.out k h).2⟩
        · omega
      refine ⟨?_, f3.mono fun k hk _ => ?_⟩
      · show SnapInv w _ c m (m.liveN (i + 1))
        rw [HN.out]
        refine ⟨f0.trans f3 fun k hk hl => ?_, br.fr f3 ?_, ⟨_, B3.out.set 1 _, ⟨own_fr ROW.out.own f2 fun k hk h => (hlt2 k hk).1 h, hn2⟩, fun k hk => ⟨(hlt2 k hk).2.1, (hlt2 k hk).2.2⟩⟩, bb.fr f3 ?_, bi.fr f3 ?_⟩
        · rcases hk with hk | hk
          · have := row0.out.new k hk
            omega
          · omega
        · rintro (h | h)
          · exact ne1 _ h rfl
          · omega
        · rintro (h | h)
          · exact ne3 _ h rfl
          · omega
        · rintro (h | h)
          · exact ne4 _ h rfl
          · omega
      · rcases hk with hk | hk
        · exact hoff'.out k hk
        · omega
  case fin =>
    intro W1 inv hD
    obtain ⟨f0, br, ⟨v, b2, row, hoff⟩, bb, bi⟩ := inv
    rw [m.liveN_all] at row
    rw [hz] at hD
    have hr := b2.all
    have hT : W1.there (w.heap.size + 1) 0 2 := br.there 0 2 (by simp)
    obtain ⟨sa, sc, rfl, -⟩ := own_slice row.own
    have B4 := br.put 0 [.int .i64 m.next, .slice sa m.lives.length sc] (by simp)
    have F4 := (Fr.refl (fun k => k = w.heap.size + 1) W1).put (w.heap.size + 1) 0 [.int .i64 m.next, .slice sa m.lives.length sc] (fun _ => rfl)
    have hD4 := (F4.blk _ (Array.getElem?_eq_some_iff.1 hD).1 (by omega)).trans hD
    have hne := ownsRow_ne br (by decide) row.own
    have HF0 := hid f0
    have HROW := hid row
    have HOFF := hid hoff
    have HB4 := hid B4
    have HF4 := hid F4
    have HD4 := hid hD4
    have HNE := hid hne
    clear f0 br bb bi b2 row hoff inv0 hD B4 F4 hD4 hne
    go_wp2_with (first
      | (refine wpList_load_mid rfl 37 _ rfl (w.heap.size + 2) 0 rfl _ _ hr Try.underlying37 rfl Try.size_snap ?_)
      | (refine wpList_store_mid rfl 37 _ _ rfl (w.heap.size + 1) 0 _ rfl rfl hT Try.size_snap (by simp [Value.oneCell']) ?_; rw [List.toList_toArray]))
    generalize W1.setCells (w.heap.size + 1) 0 [.int .i64 m.next, .slice sa m.lives.length sc] = W4 at *
    have hfin := (HF0.out.trans HF4.out (T := fun k => k = w.heap.size + 1) (fun k hk hl => by omega)).putObj (w.heap.size + 4) (.deferred none) (fun h => absurd h (by omega))
    rw [hz]
    refine leavesM_one (v := .agg #[.int .i64 m.next, .slice sa m.lives.length sc]) HD4.out (results_cell_mid (b := w.heap.size + 1) (o := 0) rfl _ _ rfl (cs := [.int .i64 m.next, .slice sa m.lives.length sc]) ?_ Try.underlying37 rfl Try.size_snap) ⟨_, rfl, ⟨?_, HROW.out.new⟩, hfin⟩
    · exact Blk.all _ (HB4.out.of_heap (World.putObj_heap_other (by omega)))
    · exact own_fr (S := fun k => k = w.heap.size + 1 ∨ k = w.heap.size + 4) HROW.out.own ((HF4.out.mono (fun k h _ => .inl h)).putObj _ _ (fun _ => .inr rfl)) (fun k hk h => by
        rcases h with h | h
        · exact HNE.out k hk h
        · exact (HOFF.out k hk).1 h)
end Go.Proofs.Ytbkebjgoaeddjaa
