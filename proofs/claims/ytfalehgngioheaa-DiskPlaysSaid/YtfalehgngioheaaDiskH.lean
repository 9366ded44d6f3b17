import Derived.Test.YtfalehgngioheaaDiskG
set_option linter.unusedVariables false
namespace Go.Proofs.Ytfalehgngioheaa
open Go.RowKit Go.VB Go.VB.Disk
theorem DRep.mono {S S' : Nat → Prop} {w : World} {d : Nat} {m : DM} (h : DRep S w d m) (hs : ∀ k, S k → S' k) (hlt : ∀ k, S' k → k < w.heap.size) : DRep S' w d m := by
  obtain ⟨pb, lv, wv, h1, h2, h3, h4, h5, h6, h7, h8, h9⟩ := h
  exact ⟨pb, lv, wv, hs _ h1, hs _ h2, hlt, h4, h5, h6, h7.mono fun _ _ hk => hs _ hk, fun i p v hp hv => (h8 i p v hp hv).mono fun _ _ hk => hs _ hk, h9⟩
theorem DRep.wider {S : Nat → Prop} {w w0 w' : World} {d : Nat} {m : DM} (h : DRep (Ext S w0 w') w' d m) (hle : w.heap.size ≤ w0.heap.size) : DRep (Ext S w w') w' d m :=
  h.mono (fun k hk => hk.imp id fun ⟨h1, h2⟩ => ⟨Nat.le_trans hle h1, h2⟩) fun k hk => hk.elim (fun hk => h.lt k (.inl hk)) (·.2)
theorem DRep.d_lt {S : Nat → Prop} {w : World} {d : Nat} {m : DM} (h : DRep S w d m) : d < w.heap.size := by obtain ⟨_, _, _, hlt, _⟩ := h.turn; exact hlt
theorem ownsRow_form {w : World} {b : Nat} {e : TypeId} {size : Nat} {v : Value} {n : Nat} {xs : List Value} (h : w.ownsRow b e size v n xs) : ∃ a cap, v = .slice a n cap ∧ n ≤ cap := by
  rcases h.2 with ⟨rfl, hn⟩ | ⟨g, cap, cur, rfl, -, -, hc, -⟩
  · exact ⟨none, 0, by rw [hn], by omega⟩
  · exact ⟨_, _, rfl, hc⟩
theorem operate_rep {S : Nat → Prop} {w : World} {d : Nat} {m : DM} (h : DRep S w d m) (fw : FuncId) (cw : Array Value) (eg : ∀ args w, (callFunc fw args).run Try.prog w = .ok (.enter fw args) w) (wrong : Int)
    (hw : Calls Try.prog fw cw w fun e w' => e = .returned (.int .i64 wrong) ∧ ∃ n, w' = w.drewN n)
    (fd : FuncId) (cd : Array Value) (ed : ∀ args w, (callFunc fd args).run Try.prog w = .ok (.enter fd args) w) (f : DM → DM)
    (hd : wrong = 0 → ∀ w1, DRep S w1 d { m with left := wrap64 (m.left - 1) } → Fr (fun k => k = d) w w1 → w1.heap.size = w.heap.size →
      Calls Try.prog fd cd w1 fun e w' => e = .returned (.tuple #[]) ∧ Fr S w1 w' ∧ DRep (Ext S w1 w') w' d (f { m with left := wrap64 (m.left - 1) })) :
    Calls Try.prog 36 #[.pointer (some ⟨d, 0, none⟩), .func (.func fw) #[] cw, .func (.func fd) #[] cd] w fun e w' =>
      e = .returned (.int .i64 (m.operate wrong f).2) ∧ Fr S w w' ∧ DRep (Ext S w w') w' d (m.operate wrong f).1 := by
  obtain ⟨pb, lv, hS, hlt, h4, h7, ht⟩ := h.turn
  have c3 : w.cell? ⟨d, 3, none⟩ = some (.bool m.off) := h4.cell 3
  have c4 : w.cell? ⟨d, 4, none⟩ = some (.bool m.armed) := h4.cell 4
  have c5 : w.cell? ⟨d, 5, none⟩ = some (.int .i64 m.left) := h4.cell 5
  by_cases hoff : m.off = true
  · rw [hoff] at c3
    refine (operate_off w d c3 _ _).mono ?_
    rintro e w' ⟨rfl, rfl⟩
    simp only [DM.operate, hoff, if_true]
    exact ⟨trivial, Fr.refl _ _, h.ext (Nat.le_refl _)⟩
  have hoff' : m.off = false := by simpa using hoff
  rw [hoff'] at c3
  by_cases hwr : wrong = 0
  case neg =>
    refine (operate_wrong w d c3 _ fw cw eg wrong (by rw [bne_iff_ne]; exact hwr) hw).mono ?_
    rintro e w' ⟨rfl, hf⟩
    simp only [DM.operate, hoff', Bool.false_eq_true, if_false, if_pos (show wrong ≠ 0 from hwr)]
    exact ⟨trivial, hf.mono (by simp), (h.fr hf (by simp)).ext hf.size⟩
  subst hwr
  by_cases hp : m.armed = true ∧ m.left ≤ 0
  · obtain ⟨ha, hl⟩ := hp
    rw [ha] at c4
    refine (operate_power w d c3 c4 m.left c5 hl h4.frozen _ fw cw eg hw).mono ?_
    rintro e w' ⟨rfl, n, rfl⟩
    have hf : Fr (fun k => k = d) w ((w.drewN n).setCell ⟨d, 3, none⟩ (.bool true)) := ((Fr.refl (fun k => k = d) w).drewN n).setCell ⟨d, 3, none⟩ _ (fun _ => rfl)
    have hm : m.operate 0 f = ({ m with off := true }, 24) := by simp [DM.operate, hoff', ha, hl]
    rw [hm]
    obtain ⟨h7', ht⟩ := ht _ { m with off := true } hf rfl
    exact ⟨rfl, hf.mono (fun k hk _ => by rw [hk]; exact hS), (ht lv h7' ((h4.drewN n).set 3 (.bool true))).ext hf.size⟩
  · have hl : m.armed = false ∨ 0 < m.left := by
      cases ha : m.armed with
      | false => exact .inl rfl
      | true => exact .inr (Int.not_le.1 fun h => hp ⟨ha, h⟩)
    have hm : m.operate 0 f = (f { m with left := wrap64 (m.left - 1) }, 0) := by
      simp only [DM.operate, hoff', Bool.false_eq_true, if_false, ne_eq, not_true]
      rw [if_neg]
      simpa using fun ha => Int.not_le.1 fun h => hp ⟨ha, h⟩
    rw [hm]
    refine (operate_go w d c3 m.armed c4 m.left c5 hl h4.frozen fw cw eg hw fd cd ed (fun w' => Fr S w w' ∧ DRep (Ext S w w') w' d (f { m with left := wrap64 (m.left - 1) })) ?_).mono (fun e w' h => h)
    intro n
    have hf : Fr (fun k => k = d) w ((w.drewN n).setCell ⟨d, 5, none⟩ (.int .i64 (wrap64 (m.left - 1)))) := ((Fr.refl (fun k => k = d) w).drewN n).setCell ⟨d, 5, none⟩ _ (fun _ => rfl)
    obtain ⟨h7', ht⟩ := ht _ { m with left := wrap64 (m.left - 1) } hf rfl
    have hr := ht lv h7' ((h4.drewN n).set 5 _)
    refine (hd rfl _ hr hf (by simp)).mono ?_
    rintro e w' ⟨rfl, hf2, hr2⟩
    have hs : ((w.drewN n).setCell ⟨d, 5, none⟩ (.int .i64 (wrap64 (m.left - 1)))).heap.size = w.heap.size := by simp
    refine ⟨rfl, (hf.mono (fun k hk _ => by rw [hk]; exact hS)).trans hf2 (fun i hi _ => hi), ?_⟩
    have : Ext S ((w.drewN n).setCell ⟨d, 5, none⟩ (.int .i64 (wrap64 (m.left - 1)))) w' = Ext S w w' := by unfold Ext; rw [hs]
    rwa [this] at hr2


theorem Flush_rep {S : Nat → Prop} {w : World} {d : Nat} {m : DM} (h : DRep S w d m) :
    Calls Try.prog 24 #[.pointer (some ⟨d, 0, none⟩)] w fun e w' => e = .returned (.int .i64 m.flush.2) ∧ Fr S w w' ∧ DRep (Ext S w w') w' d m.flush.1 := by
  have B1 := Blk.new w [.pointer (some ⟨d, 0, none⟩)] 24
  have F0 := (Fr.refl (fun _ => False) w).alloc (.cells [Value.pointer (some ⟨d, 0, none⟩)].toArray 24)
  have hd := h.fr F0 (by simp)
  have hlt := h.d_lt
  have key : Calls Try.prog 36 #[.pointer (some ⟨d, 0, none⟩), .func (.func 46) #[] #[], .func (.func 47) #[] #[.pointer (some ⟨w.heap.size, 0, none⟩)]] (w.alloc (.cells [Value.pointer (some ⟨d, 0, none⟩)].toArray 24))
      fun e w' => e = .returned (.int .i64 m.flush.2) ∧ Fr S w w' ∧ DRep (Ext S w w') w' d m.flush.1 := by
    refine (operate_rep hd 46 #[] (fun _ _ => rfl) 0 ((fine_any _).mono fun e w' h => ⟨h.1, 0, h.2.symm⟩) 47 _ (fun _ _ => rfl) (fun m => { m with flushed := m.log.length }) ?_).mono ?_
    · intro _ w1 hr hf hs
      obtain ⟨pb, lv, hS, hlt1, h4, h7, ht⟩ := hr.turn
      have b1 := B1.fr hf (by omega)
      obtain ⟨a, cap, rfl, -⟩ := ownsRow_form h7.1
      refine (Flush1_go w1 w.heap.size d a m.log.length cap _ (b1.cell 0) (h4.cell 1) (h4.cell 2) h4.frozen (by omega)).mono ?_
      rintro e w' ⟨rfl, n, rfl⟩
      have hf2 : Fr (fun k => k = d) w1 ((w1.setCell ⟨d, 2, none⟩ (.int .i64 m.log.length)).drewN n) := ((Fr.refl (fun k => k = d) w1).setCell ⟨d, 2, none⟩ _ (fun _ => rfl)).drewN n
      obtain ⟨h7', ht⟩ := ht _ { m with left := wrap64 (m.left - 1), flushed := m.log.length } hf2 rfl
      exact ⟨rfl, hf2.mono (fun k hk _ => by rw [hk]; exact hS), (ht _ h7' ((h4.set 2 _).drewN n)).ext hf2.size⟩
    · rintro e w' ⟨rfl, hf, hr⟩
      exact ⟨rfl, (F0.mono (by simp)).trans hf (fun i hi _ => hi), hr.wider F0.size⟩
  have H := hid key
  clear key hd B1 F0 hlt h
  go_enter Try.func24, Try.ntmps24
  go_wp2_with (first | (go_at_call 36; refine H.out.mono ?_; rintro e w' ⟨rfl, hf, hr⟩))
  go_ret
  exact ⟨rfl, hf, hr⟩
theorem Append_rep {S : Nat → Prop} {w : World} {d : Nat} {m : DM} (h : DRep S w d m) (hlog : m.log.length ≤ 1048576) (l : Bytes) (hl : l.length ≤ 140737488355328) :
    Calls Try.prog 21 #[.pointer (some ⟨d, 0, none⟩), .string (bs l)] w fun e w' => e = .returned (.int .i64 (m.append l).2) ∧ Fr S w w' ∧ DRep (Ext S w w') w' d (m.append l).1 := by
  have hsz1 : (w.alloc (.cells [Value.pointer (some ⟨d, 0, none⟩)].toArray 24)).heap.size = w.heap.size + 1 := by simp
  have B1 := (Blk.new w [.pointer (some ⟨d, 0, none⟩)] 24).alloc (.cells [Value.string (bs l)].toArray 9)
  have B2 := Blk.new (w.alloc (.cells [Value.pointer (some ⟨d, 0, none⟩)].toArray 24)) [.string (bs l)] 9
  rw [hsz1] at B2
  have F0 := ((Fr.refl (fun _ => False) w).alloc (.cells [Value.pointer (some ⟨d, 0, none⟩)].toArray 24)).alloc (.cells [Value.string (bs l)].toArray 9)
  have hd := h.fr F0 (by simp)
  have hlt := h.d_lt
  have key : Calls Try.prog 36 #[.pointer (some ⟨d, 0, none⟩), .func (.func 44) #[] #[.pointer (some ⟨w.heap.size, 0, none⟩), .pointer (some ⟨w.heap.size + 1, 0, none⟩)], .func (.func 45) #[] #[.pointer (some ⟨w.heap.size, 0, none⟩), .pointer (some ⟨w.heap.size + 1, 0, none⟩)]]
      ((w.alloc (.cells [Value.pointer (some ⟨d, 0, none⟩)].toArray 24)).alloc (.cells [Value.string (bs l)].toArray 9))
      fun e w' => e = .returned (.int .i64 (m.append l).2) ∧ Fr S w w' ∧ DRep (Ext S w w') w' d (m.append l).1 := by
    refine (operate_rep hd 44 _ (fun _ _ => rfl) (if 1048576 < m.log.length + l.length then 31 else 0) ?_ 45 _ (fun _ _ => rfl) (fun m => { m with log := m.log ++ l }) ?_).mono ?_
    · obtain ⟨pb, lv, hS, hlt1, h4, h7, ht⟩ := hd.turn
      obtain ⟨a, cap, rfl, -⟩ := ownsRow_form h7.1
      exact Append1_go _ _ _ d a m.log.length cap l (B1.cell 0) (B2.cell 0) (h4.cell 1) hlog hl
    · intro hw0 w1 hr hf hs
      have hfit : m.log.length + l.length ≤ 1048576 := by
        rcases Nat.lt_or_ge 1048576 (m.log.length + l.length) with h | h
        · rw [if_pos h] at hw0; cases hw0
        · exact h
      obtain ⟨pb, lv, wv, q1, q2, q3, q4, q5, q6, q7, q8, q9⟩ := hr
      refine (Append2_go w1 _ _ d l m.log _ lv _ _ _ _ (B1.fr hf (by omega)) (B2.fr hf (by omega)) q4 q7.1 hfit).mono ?_
      rintro e w' ⟨rfl, lv', ho', hb', hf', hat⟩
      have n1 := own_ne (S := S) q4 (by decide) q7
      have sub : ∀ k, (k = d ∨ lv.ownBlock = some k) → S k := fun k hk => hk.elim (fun e => by rw [e]; exact q1) (q7.2 k)
      have lv5 : ∀ k, lv.ownBlock = some k → ∃ cur, Blk w1 k cur 5 := by
        intro k hk
        rcases q7.1.2 with ⟨rfl, _⟩ | ⟨g, cap, cur, rfl, -, hg, -⟩
        · simp [Value.ownBlock] at hk
        · simp [Value.ownBlock] at hk; subst hk
          exact ⟨cur.toList, by unfold Blk; simpa using hg⟩
      have apart : ∀ {b : Nat} {c : List Value} {t : TypeId}, Blk w1 b c t → t ≠ 69 → t ≠ 5 → ¬ (b = d ∨ lv.ownBlock = some b) := by
        rintro b c t hb ht1 ht2 (rfl | hk)
        · exact ht1 (hb.uniq q4).2
        · obtain ⟨cur, hc⟩ := lv5 b hk
          exact ht2 (hb.uniq hc).2
      refine ⟨rfl, hf'.mono (fun k hk _ => sub k hk), pb, lv', wv, .inl q1, .inl q2, fun k hk => hk.elim (fun h => Nat.lt_of_lt_of_le (q3 k h) hf'.size) (·.2), hb', q5.fr hf' (apart q5 (by decide) (by decide)), q6, ⟨ho', fun k hk => ?_⟩, fun i p v hp hv => ((q8 i p v hp hv).fr hf' ?_).mono fun _ _ hk => .inl hk, q9⟩
      · rcases hat k hk with h | h
        · exact .inl (q7.2 k h)
        · refine .inr ⟨h, ?_⟩
          rcases ho'.2 with ⟨rfl, _⟩ | ⟨g, cap, cur, rfl, -, hg, -⟩
          · simp [Value.ownBlock] at hk
          · simp [Value.ownBlock] at hk; subst hk
            exact (Array.getElem?_eq_some_iff.1 hg).1
      · intro k hk
        rcases (q8 i p v hp hv).1.2 with ⟨rfl, _⟩ | ⟨g, cap, cur, rfl, -, hg, -⟩
        · simp [Value.ownBlock] at hk
        · simp [Value.ownBlock] at hk; subst hk
          exact apart (show Blk w1 g cur.toList 76 by unfold Blk; simpa using hg) (by decide) (by decide)
    · rintro e w' ⟨rfl, hf, hr⟩
      exact ⟨rfl, (F0.mono (by simp)).trans hf (fun i hi _ => hi), hr.wider F0.size⟩
  have H := hid key
  clear key hd B1 B2 F0 hlt h hsz1
  go_enter Try.func21, Try.ntmps21
  go_wp2_with (first | (go_at_call 36; refine H.out.mono ?_; rintro e w' ⟨rfl, hf, hr⟩))
  go_ret
  exact ⟨rfl, hf, hr⟩
