import Derived.Test.YtfalehgngioheaaDiskH
set_option linter.unusedVariables false
namespace Go.Proofs.Ytfalehgngioheaa
open Go.RowKit Go.VB Go.VB.Disk
theorem ownsRow_take {w : World} {e : TypeId} {a : Option Addr} {n cap : Nat} {l : Bytes} (h : w.ownsRow 0 e 1 (.slice a n cap) n (bv l)) (k : Nat) (hk : k ≤ n) (hl : l.length = n) : w.ownsRow 0 e 1 (.slice a k cap) k (bv (l.take k)) := by
  refine ⟨by simp [bv]; omega, ?_⟩
  rcases h.2 with ⟨h1, h2⟩ | ⟨g, cap', cur, h1, h2, h3, h4, h5, h6, h7⟩
  · left
    injection h1 with e1 e2 e3
    subst e1; subst e3
    have : k = 0 := by omega
    subst this
    exact ⟨rfl, rfl⟩
  · injection h1 with e1 e2 e3
    subst e1; subst e3
    refine .inr ⟨g, cap, cur, rfl, h2, h3, by omega, h5, h6, ?_⟩
    rw [bv_take, ← h7, List.take_take]
    congr 1
    omega
theorem Cut_rep {S : Nat → Prop} {w : World} {d : Nat} {m : DM} (h : DRep S w d m) (n : Int) :
    Calls Try.prog 28 #[.pointer (some ⟨d, 0, none⟩), .int .i64 n] w fun e w' => e = .returned (.int .i64 (m.cut n).2) ∧ Fr S w w' ∧ DRep (Ext S w w') w' d (m.cut n).1 := by
  have hsz1 : (w.alloc (.cells [Value.pointer (some ⟨d, 0, none⟩)].toArray 24)).heap.size = w.heap.size + 1 := by simp
  have B1 := (Blk.new w [.pointer (some ⟨d, 0, none⟩)] 24).alloc (.cells [Value.int .i64 n].toArray 3)
  have B2 := Blk.new (w.alloc (.cells [Value.pointer (some ⟨d, 0, none⟩)].toArray 24)) [.int .i64 n] 3
  rw [hsz1] at B2
  have F0 := ((Fr.refl (fun _ => False) w).alloc (.cells [Value.pointer (some ⟨d, 0, none⟩)].toArray 24)).alloc (.cells [Value.int .i64 n].toArray 3)
  have hd := h.fr F0 (by simp)
  have hlt := h.d_lt
  have key : Calls Try.prog 36 #[.pointer (some ⟨d, 0, none⟩), .func (.func 49) #[] #[.pointer (some ⟨w.heap.size + 1, 0, none⟩), .pointer (some ⟨w.heap.size, 0, none⟩)], .func (.func 50) #[] #[.pointer (some ⟨w.heap.size, 0, none⟩), .pointer (some ⟨w.heap.size + 1, 0, none⟩)]]
      ((w.alloc (.cells [Value.pointer (some ⟨d, 0, none⟩)].toArray 24)).alloc (.cells [Value.int .i64 n].toArray 3))
      fun e w' => e = .returned (.int .i64 (m.cut n).2) ∧ Fr S w w' ∧ DRep (Ext S w w') w' d (m.cut n).1 := by
    refine (operate_rep hd 49 _ (fun _ _ => rfl) (if n < 0 ∨ (m.log.length : Int) < n then 1 else 0) ?_ 50 _ (fun _ _ => rfl) (fun m => { m with log := m.log.take n.toNat, flushed := min m.flushed n.toNat }) ?_).mono ?_
    · obtain ⟨pb, lv, hS, hlt1, h4, h7, ht⟩ := hd.turn
      obtain ⟨a, cap, rfl, -⟩ := ownsRow_form h7.1
      exact Cut1_go _ _ _ d n a m.log.length cap (B1.cell 0) (B2.cell 0) (h4.cell 1)
    · intro hw0 w1 hr hf hs
      have hn : ¬ (n < 0 ∨ (m.log.length : Int) < n) := by intro h; rw [if_pos h] at hw0; cases hw0
      obtain ⟨pb, lv, hS, hlt1, h4, h7, ht⟩ := hr.turn
      obtain ⟨a, cap, rfl, hcap⟩ := ownsRow_form h7.1
      have b1 := B1.fr hf (by omega)
      have b2 := B2.fr hf (by omega)
      obtain ⟨k, rfl⟩ : ∃ k : Nat, n = k := ⟨n.toNat, by omega⟩
      refine (Cut2_go w1 _ _ d k a m.log.length cap m.flushed (b1.cell 0) (b2.cell 0) (h4.cell 1) (h4.cell 2) h4.frozen (by omega) hcap (by omega) (by omega)).mono ?_
      rintro e w' ⟨rfl, j, rfl⟩
      have hf2 : Fr (fun k => k = d) w1 (((w1.setCell ⟨d, 1, none⟩ (.slice a k cap)).setCell ⟨d, 2, none⟩ (.int .i64 (min m.flushed k : Nat))).drewN j) := (((Fr.refl (fun k => k = d) w1).setCell ⟨d, 1, none⟩ _ (fun _ => rfl)).setCell ⟨d, 2, none⟩ _ (fun _ => rfl)).drewN j
      obtain ⟨h7', ht⟩ := ht _ { m with left := wrap64 (m.left - 1), log := m.log.take k, flushed := min m.flushed k } hf2 rfl
      have hk : k ≤ m.log.length := by omega
      refine ⟨rfl, hf2.mono (fun k hk _ => by rw [hk]; exact hS), (ht (.slice a k cap) ⟨?_, ?_⟩ ?_).ext hf2.size⟩
      · have := ownsRow_take (l := m.log) h7'.1 k hk rfl
        have e : (m.log.take k).length = k := by simp; omega
        rw [e]
        exact this
      · intro x hx
        refine h7.2 x ?_
        cases a with
        | none => simp [Value.ownBlock] at hx
        | some a => simpa [Value.ownBlock] using hx
      · exact ((h4.set 1 (.slice a k cap)).set 2 (.int .i64 (min m.flushed k : Nat))).drewN j
    · rintro e w' ⟨rfl, hf, hr⟩
      exact ⟨rfl, (F0.mono (by simp)).trans hf (fun i hi _ => hi), hr.wider F0.size⟩
  have H := hid key
  clear key hd B1 B2 F0 hlt h hsz1
  go_enter Try.func28, Try.ntmps28
  go_wp2_with (first | (go_at_call 36; refine H.out.mono ?_; rintro e w' ⟨rfl, hf, hr⟩))
  go_ret
  exact ⟨rfl, hf, hr⟩
theorem pcs_set (ps : List Pg) (wv : List Value) (i : Nat) (p : Pg) (v : Value) (hp : ps[i]? = some p) (s : Bytes) : (pcs ps wv).set i (p.safe, v) = pcs (ps.modify i (Pg.write s)) (wv.set i v) := by
  apply List.ext_getElem?
  intro j
  have hi := (List.getElem?_eq_some_iff.1 hp).1
  have hpi := (List.getElem?_eq_some_iff.1 hp).2
  rw [List.getElem?_set]
  simp only [pcs, List.getElem?_zipWith, List.getElem?_modify, List.getElem?_set, List.length_zipWith]
  by_cases hij : i = j
  · subst hij
    simp only [if_true, hp]
    by_cases hl : i < wv.length
    · rw [if_pos (by omega), if_pos hl]; rfl
    · rw [if_neg (by omega), if_neg hl]; rfl
  · rw [if_neg hij, if_neg hij]
    cases ps[j]? <;> cases wv[j]? <;> simp [hij]
set_option maxHeartbeats 400000 in
theorem Write_rep {S : Nat → Prop} {w : World} {d : Nat} {m : DM} {kk : Nat} (h : DRep S w d m) (ok : m.Ok kk) (hkk : kk ≤ 1000000) (n : Int) (l : Bytes) :
    Calls Try.prog 17 #[.pointer (some ⟨d, 0, none⟩), .int .i64 n, .string (bs l)] w fun e w' => e = .returned (.int .i64 (m.write n l).2) ∧ Fr S w w' ∧ DRep (Ext S w w') w' d (m.write n l).1 := by
  have hsz1 : (w.alloc (.cells [Value.pointer (some ⟨d, 0, none⟩)].toArray 24)).heap.size = w.heap.size + 1 := by simp
  have hsz2 : ((w.alloc (.cells [Value.pointer (some ⟨d, 0, none⟩)].toArray 24)).alloc (.cells [Value.int .i64 n].toArray 3)).heap.size = w.heap.size + 1 + 1 := by simp
  have B1 := ((Blk.new w [.pointer (some ⟨d, 0, none⟩)] 24).alloc (.cells [Value.int .i64 n].toArray 3)).alloc (.cells [Value.string (bs l)].toArray 9)
  have B2 := (Blk.new (w.alloc (.cells [Value.pointer (some ⟨d, 0, none⟩)].toArray 24)) [.int .i64 n] 3).alloc (.cells [Value.string (bs l)].toArray 9)
  have B3 := Blk.new ((w.alloc (.cells [Value.pointer (some ⟨d, 0, none⟩)].toArray 24)).alloc (.cells [Value.int .i64 n].toArray 3)) [.string (bs l)] 9
  rw [hsz1] at B2
  rw [hsz2] at B3
  have F0 := (((Fr.refl (fun _ => False) w).alloc (.cells [Value.pointer (some ⟨d, 0, none⟩)].toArray 24)).alloc (.cells [Value.int .i64 n].toArray 3)).alloc (.cells [Value.string (bs l)].toArray 9)
  have hd := h.fr F0 (by simp)
  have hlt := h.d_lt
  have key : Calls Try.prog 36 #[.pointer (some ⟨d, 0, none⟩), .func (.func 37) #[] #[.pointer (some ⟨w.heap.size, 0, none⟩), .pointer (some ⟨w.heap.size + 1, 0, none⟩), .pointer (some ⟨w.heap.size + 1 + 1, 0, none⟩)], .func (.func 39) #[] #[.pointer (some ⟨w.heap.size, 0, none⟩), .pointer (some ⟨w.heap.size + 1, 0, none⟩), .pointer (some ⟨w.heap.size + 1 + 1, 0, none⟩)]]
      (((w.alloc (.cells [Value.pointer (some ⟨d, 0, none⟩)].toArray 24)).alloc (.cells [Value.int .i64 n].toArray 3)).alloc (.cells [Value.string (bs l)].toArray 9))
      fun e w' => e = .returned (.int .i64 (m.write n l).2) ∧ Fr S w w' ∧ DRep (Ext S w w') w' d (m.write n l).1 := by
    refine (operate_rep hd 37 _ (fun _ _ => rfl) (if m.is n then (if l.length = 512 then 0 else 1) else 22) ?_ 39 _ (fun _ _ => rfl) (fun m => { m with pages := m.pages.modify n.toNat (Pg.write l) }) ?_).mono ?_
    · obtain ⟨pb, lv, hS, hlt1, h4, h7, ht⟩ := hd.turn
      exact Write1_go _ _ _ _ d n _ m.pages.length m.pages.length l (B1.cell 0) (B2.cell 0) (B3.cell 0) (h4.cell 0)
    · intro hw0 w1 hr hf hs
      have his : m.is n = true := by
        cases hi : m.is n with
        | true => rfl
        | false => rw [hi] at hw0; cases hw0
      have hl512 : l.length = 512 := by
        by_cases hl : l.length = 512
        · exact hl
        · rw [his, if_pos rfl, if_neg hl] at hw0; cases hw0
      simp only [DM.is, Bool.and_eq_true, decide_eq_true_eq] at his
      obtain ⟨k, rfl⟩ : ∃ k : Nat, n = k := ⟨n.toNat, by omega⟩
      have hk : k < m.pages.length := by omega
      obtain ⟨pb, lv, wv, q1, q2, q3, q4, q5, q6, q7, q8, q9⟩ := hr
      dsimp only at q4 q5 q6 q7 q8 q9
      obtain ⟨p, hp⟩ : ∃ p, m.pages[k]? = some p := ⟨_, List.getElem?_eq_getElem hk⟩
      obtain ⟨v, hv⟩ : ∃ v, wv[k]? = some v := ⟨_, List.getElem?_eq_getElem (by omega)⟩
      have hpl := pcs_length m.pages wv q6
      have hpm := List.mem_of_getElem? hp
      have ho := q8 k p v hp hv
      have q4' := q4
      rw [← hpl] at q4'
      refine (Write2_go w1 _ _ _ d pb k l (pcs m.pages wv) p.safe v lv _ _ _ _ p.ws (B1.fr hf (by omega)) (B2.fr hf (by omega)) (B3.fr hf (by omega)) q4' q5 (pcs_safe _ _ ok.safe) (by rw [hpl]; exact ok.np) (pcs_get _ _ _ _ _ hp hv) ho.1 (Nat.le_trans (ok.few p hpm) hkk) hl512).mono ?_
      rintro e w' ⟨rfl, v', ho', hb', hf', hat⟩
      have hdpb := q4.ne_of_type q5 (by decide)
      have sub : ∀ k, (k = pb ∨ v.ownBlock = some k) → S k := fun k hk => hk.elim (fun e => by rw [e]; exact q2) (ho.2 k)
      have vb : ∀ j, v.ownBlock = some j → ∃ cur, Blk w1 j cur 76 := by
        intro j hj
        rcases ho.1.2 with ⟨rfl, _⟩ | ⟨g, cap, cur, rfl, -, hg, -⟩
        · simp [Value.ownBlock] at hj
        · simp [Value.ownBlock] at hj; subst hj
          exact ⟨cur.toList, by unfold Blk; simpa using hg⟩
      have apart : ∀ {b : Nat} {c : List Value} {t : TypeId}, Blk w1 b c t → t ≠ 78 → t ≠ 76 → ¬ (b = pb ∨ v.ownBlock = some b) := by
        rintro b c t hb ht1 ht2 (rfl | hj)
        · exact ht1 (hb.uniq q5).2
        · obtain ⟨cur, hc⟩ := vb b hj
          exact ht2 (hb.uniq hc).2
      have v'lt : ∀ j, v'.ownBlock = some j → j < w'.heap.size := by
        intro j hj
        rcases ho'.2 with ⟨rfl, _⟩ | ⟨g, cap, cur, rfl, -, hg, -⟩
        · simp [Value.ownBlock] at hj
        · simp [Value.ownBlock] at hj; subst hj
          exact (Array.getElem?_eq_some_iff.1 hg).1
      have oldlt : ∀ (i : Nat) (u : Value) (j : Nat), wv[i]? = some u → u.ownBlock = some j → S j := by
        intro i u j hu hj
        have hil := (List.getElem?_eq_some_iff.1 hu).1
        exact (q8 i _ u (List.getElem?_eq_getElem (by omega)) hu).2 j hj
      have hS3 : ∀ j, S j → j < w1.heap.size := q3
      refine ⟨rfl, hf'.mono (fun k hk _ => sub k hk), pb, lv, wv.set k v', .inl q1, .inl q2, fun j hj => hj.elim (fun h => Nat.lt_of_lt_of_le (q3 j h) hf'.size) (·.2), ?_, ?_, by simp [q6], ?_, ?_, ?_⟩
      · simpa using q4.fr hf' (apart q4 (by decide) (by decide))
      · have := pcs_set m.pages wv k p v' hp l
        rw [this] at hb'
        exact hb'
      · refine (q7.fr hf' ?_).mono fun _ _ hk => .inl hk
        intro j hj
        rcases q7.1.2 with ⟨rfl, _⟩ | ⟨g, cap, cur, rfl, -, hg, -⟩
        · simp [Value.ownBlock] at hj
        · simp [Value.ownBlock] at hj; subst hj
          exact apart (show Blk w1 g cur.toList 5 by unfold Blk; simpa using hg) (by decide) (by decide)
      · intro i p2 u hp2 hu
        simp only [Int.toNat_natCast, List.getElem?_modify] at hp2
        rw [List.getElem?_set] at hu
        by_cases hik : k = i
        · subst hik
          rw [if_pos rfl, if_pos (by omega)] at hu
          injection hu with hu
          subst hu
          rw [hp] at hp2
          simp only [if_true] at hp2
          obtain rfl : Pg.write l p = p2 := by simpa using hp2
          exact ⟨ho', fun j hj => (hat j hj).elim (fun h => .inl (ho.2 j h)) (fun h => .inr ⟨h, v'lt j hj⟩)⟩
        · rw [if_neg hik] at hu
          have hp3 : m.pages[i]? = some p2 := by simpa [hik] using hp2
          refine ((q8 i p2 u hp3 hu).fr hf' ?_).mono fun _ _ hk => .inl hk
          intro j hj
          rintro (rfl | hj2)
          · exact absurd rfl (own_ne q5 (by decide) (q8 i p2 u hp3 hu) _ hj)
          · exact q9 k i v u j hik hv hu hj2 hj
      · intro i j u u' b hij hu hu' hb1 hb2
        rw [List.getElem?_set] at hu hu'
        by_cases hik : k = i
        · subst hik
          rw [if_pos rfl, if_pos (by omega)] at hu
          injection hu with hu
          subst hu
          rw [if_neg hij] at hu'
          rcases hat b hb1 with h | h
          · exact q9 k j v u' b hij hv hu' h hb2
          · have := hS3 b (oldlt j u' b hu' hb2); omega
        · rw [if_neg hik] at hu
          by_cases hjk : k = j
          · subst hjk
            rw [if_pos rfl, if_pos (by omega)] at hu'
            injection hu' with hu'
            subst hu'
            rcases hat b hb2 with h | h
            · exact q9 k i v u b (Ne.symm hij) hv hu h hb1
            · have := hS3 b (oldlt i u b hu hb1); omega
          · rw [if_neg hjk] at hu'
            exact q9 i j u u' b hij hu hu' hb1 hb2
    · rintro e w' ⟨rfl, hf, hr⟩
      exact ⟨rfl, (F0.mono (by simp)).trans hf (fun i hi _ => hi), hr.wider F0.size⟩
  have H := hid key
  clear key hd B1 B2 B3 F0 hlt h hsz1 hsz2 ok
  go_enter Try.func17, Try.ntmps17
  go_wp2_with (first | (go_at_call 36; refine H.out.mono ?_; rintro e w' ⟨rfl, hf, hr⟩))
  go_ret
  exact ⟨rfl, hf, hr⟩
