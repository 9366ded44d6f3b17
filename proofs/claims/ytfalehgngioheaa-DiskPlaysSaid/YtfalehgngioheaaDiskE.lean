import Derived.Test.YtfalehgngioheaaDiskC
set_option linter.unusedVariables false
namespace Go.Proofs.Ytfalehgngioheaa
open Go.RowKit Go.VB Go.VB.Disk
/-- the pages' cells, as the program lays them -/
def pcs (ps : List Pg) (wv : List Value) : List (Bytes × Value) := ps.zipWith (fun p v => (p.safe, v)) wv
def DRep (S : Nat → Prop) (w : World) (d : Nat) (m : DM) : Prop :=
  ∃ (pb : Nat) (lv : Value) (wv : List Value), S d ∧ S pb ∧ (∀ k, S k → k < w.heap.size) ∧
    Blk w d [.slice (some ⟨pb, 0, none⟩) m.pages.length m.pages.length, lv, .int .i64 m.flushed, .bool m.off, .bool m.armed, .int .i64 m.left] 69 ∧
    Blk w pb (pcells (pcs m.pages wv)) 78 ∧ wv.length = m.pages.length ∧
    OwnB S w 5 1 lv m.log.length (bv m.log) ∧
    (∀ (i : Nat) (p : Pg) (v : Value), m.pages[i]? = some p → wv[i]? = some v → OwnB S w 76 512 v p.ws.length (p.ws.flatMap bv)) ∧
    (∀ (i j : Nat) (v v' : Value) (k : Nat), i ≠ j → wv[i]? = some v → wv[j]? = some v' → v.ownBlock = some k → v'.ownBlock = some k → False)
/-- S and the blocks that came between two worlds -/
def Ext (S : Nat → Prop) (w w' : World) : Nat → Prop := fun k => S k ∨ (w.heap.size ≤ k ∧ k < w'.heap.size)
theorem DRep.fr {S R : Nat → Prop} {w w' : World} {d : Nat} {m : DM} (h : DRep S w d m) (hf : Fr R w w') (hd : ∀ k, S k → ¬ R k) : DRep S w' d m := by
  obtain ⟨pb, lv, wv, h1, h2, h3, h4, h5, h6, h7, h8, h9⟩ := h
  exact ⟨pb, lv, wv, h1, h2, fun k hk => Nat.lt_of_lt_of_le (h3 k hk) hf.size, h4.fr hf (hd d h1), h5.fr hf (hd pb h2), h6, h7.fr hf fun k hk => hd k (h7.2 k hk),
    fun i p v hp hv => (h8 i p v hp hv).fr hf fun k hk => hd k ((h8 i p v hp hv).2 k hk), h9⟩
theorem DRep.ext {S : Nat → Prop} {w w' : World} {d : Nat} {m : DM} (h : DRep S w' d m) (hle : w.heap.size ≤ w'.heap.size) : DRep (Ext S w w') w' d m := by
  obtain ⟨pb, lv, wv, h1, h2, h3, h4, h5, h6, h7, h8, h9⟩ := h
  exact ⟨pb, lv, wv, .inl h1, .inl h2, fun k hk => hk.elim (h3 k) (·.2), h4, h5, h6, h7.mono fun _ _ hk => .inl hk, fun i p v hp hv => (h8 i p v hp hv).mono fun _ _ hk => .inl hk, h9⟩
theorem DRep.lt {S : Nat → Prop} {w : World} {d : Nat} {m : DM} (h : DRep S w d m) : ∀ k, S k → k < w.heap.size := by
  obtain ⟨pb, lv, wv, h1, h2, h3, _⟩ := h; exact h3
theorem pcs_length (ps : List Pg) (wv : List Value) (h : wv.length = ps.length) : (pcs ps wv).length = ps.length := by simp [pcs, h]
theorem pcs_safe (ps : List Pg) (wv : List Value) (h : ∀ p ∈ ps, p.safe.length = 512) : ∀ q ∈ pcs ps wv, q.1.length = 512 := by
  intro q hq
  obtain ⟨i, hi, rfl⟩ := List.mem_iff_getElem.1 hq
  simp only [pcs, List.getElem_zipWith]
  exact h _ (List.getElem_mem _)
theorem pcs_get (ps : List Pg) (wv : List Value) (i : Nat) (p : Pg) (v : Value) (hp : ps[i]? = some p) (hv : wv[i]? = some v) : (pcs ps wv)[i]? = some (p.safe, v) := by
  simp [pcs, List.getElem?_zipWith, hp, hv]

theorem Read_rep {S : Nat → Prop} {w : World} {d : Nat} {m : DM} {k : Nat} (h : DRep S w d m) (ok : m.Ok k) (hk : k ≤ 1000000) (n : Int) :
    Calls Try.prog 20 #[.pointer (some ⟨d, 0, none⟩), .int .i64 n] w fun e w' => e = .returned (.tuple #[.string (bs (m.read n).1), .int .i64 (m.read n).2]) ∧ Fr (fun _ => False) w w' := by
  obtain ⟨pb, lv, wv, h1, h2, h3, h4, h5, h6, h7, h8, h9⟩ := h
  have c0 := h4.cell 0
  have c3 := h4.cell 3
  simp only [List.getElem?_cons_zero, List.getElem?_cons_succ] at c0 c3
  by_cases hoff : m.off = true
  · rw [hoff] at c3
    refine (Read_off w d n c3).mono ?_
    rintro e w' ⟨rfl, rfl⟩
    exact ⟨by simp [DM.read, hoff], Fr.refl _ _⟩
  · have hoff' : m.off = false := by simpa using hoff
    rw [hoff'] at c3
    by_cases hn : 0 ≤ n ∧ n < (m.pages.length : Int)
    · have hi : n.toNat < m.pages.length := by omega
      obtain ⟨p, hp⟩ : ∃ p, m.pages[n.toNat]? = some p := ⟨_, List.getElem?_eq_getElem hi⟩
      obtain ⟨v, hv⟩ : ∃ v, wv[n.toNat]? = some v := ⟨_, List.getElem?_eq_getElem (by omega)⟩
      have hq := pcs_get m.pages wv n.toNat p v hp hv
      have hl := pcs_length m.pages wv h6
      have ho := h8 _ _ _ hp hv
      have hpm := List.mem_of_getElem? hp
      have hr : m.read n = (p.cur, 0) := by
        simp [DM.read, hoff', DM.is, hn.1, hn.2, List.getD, (List.getElem?_eq_some_iff.1 hp).2]
      rw [hr]
      rw [← hl] at c0
      rcases ho.1.2 with ⟨rfl, h0⟩ | ⟨g, cap, cur, rfl, -, hg, hcap, -, hsz, htk⟩
      · have hws : p.ws = [] := List.eq_nil_of_length_eq_zero h0
        refine (Read_safe w d pb _ n c0 c3 h5 (pcs_safe _ _ ok.safe) (by rw [hl]; exact ok.np) p.safe none 0 hn.1 hq).mono ?_
        rintro e w' ⟨rfl, hf⟩
        exact ⟨by simp [Pg.cur, hws], hf⟩
      · rcases List.eq_nil_or_concat p.ws with hws | ⟨ws, x, hws⟩
        · rw [hws] at hq
          refine (Read_safe w d pb _ n c0 c3 h5 (pcs_safe _ _ ok.safe) (by rw [hl]; exact ok.np) p.safe _ cap hn.1 (by simpa using hq)).mono ?_
          rintro e w' ⟨rfl, hf⟩
          exact ⟨by simp [Pg.cur, hws], hf⟩
        · have hx := flat_range (n := 0) (cap := 0) hg p.ws (ok.ws p hpm) htk (p.ws.length - 1) x (by rw [hws]; simp)
          refine (Read_last w d pb _ n c0 c3 h5 (pcs_safe _ _ ok.safe) (by rw [hl]; exact ok.np) p.safe g p.ws.length cap hn.1 hq (by rw [hws]; simp) (Nat.le_trans (ok.few p hpm) hk) x (ok.ws p hpm x (by rw [hws]; simp)) hx).mono ?_
          rintro e w' ⟨rfl, hf⟩
          exact ⟨by simp [Pg.cur, hws], hf⟩
    · have hr : m.read n = ([], 22) := by
        have hb : (decide (0 ≤ n) && decide (n < (m.pages.length : Int))) = false := by simp only [Bool.and_eq_false_iff, decide_eq_false_iff_not]; omega
        simp [DM.read, hoff', DM.is, hb]
      rw [hr]
      exact Read_out w d _ _ _ n c0 c3 hn
theorem Safe_rep {S : Nat → Prop} {w : World} {d : Nat} {m : DM} {k : Nat} (h : DRep S w d m) (ok : m.Ok k) (n : Int) :
    Calls Try.prog 27 #[.pointer (some ⟨d, 0, none⟩), .int .i64 n] w fun e w' => e = .returned (.tuple #[.string (bs (m.safeOf n).1), .int .i64 (m.safeOf n).2]) ∧ Fr (fun _ => False) w w' := by
  obtain ⟨pb, lv, wv, h1, h2, h3, h4, h5, h6, h7, h8, h9⟩ := h
  have c0 := h4.cell 0
  simp only [List.getElem?_cons_zero] at c0
  by_cases hn : 0 ≤ n ∧ n < (m.pages.length : Int)
  · have hi : n.toNat < m.pages.length := by omega
    obtain ⟨p, hp⟩ : ∃ p, m.pages[n.toNat]? = some p := ⟨_, List.getElem?_eq_getElem hi⟩
    obtain ⟨v, hv⟩ : ∃ v, wv[n.toNat]? = some v := ⟨_, List.getElem?_eq_getElem (by omega)⟩
    have hq := pcs_get m.pages wv n.toNat p v hp hv
    have hl := pcs_length m.pages wv h6
    have hr : m.safeOf n = (p.safe, 0) := by
      simp [DM.safeOf, DM.is, hn.1, hn.2, List.getD, (List.getElem?_eq_some_iff.1 hp).2]
    rw [hr]
    rw [← hl] at c0
    exact Safe_go w d pb _ n c0 h5 (pcs_safe _ _ ok.safe) (by rw [hl]; exact ok.np) (p.safe, v) hn.1 hq
  · have hr : m.safeOf n = ([], 22) := by
      have hb : (decide (0 ≤ n) && decide (n < (m.pages.length : Int))) = false := by simp only [Bool.and_eq_false_iff, decide_eq_false_iff_not]; omega
      simp [DM.safeOf, DM.is, hb]
    rw [hr]
    exact Safe_out w d _ _ _ n c0 hn
theorem Log_rep {S : Nat → Prop} {w : World} {d : Nat} {m : DM} (h : DRep S w d m) :
    Calls Try.prog 22 #[.pointer (some ⟨d, 0, none⟩)] w fun e w' => e = .returned (.string (bs m.log)) ∧ w = w' := by
  obtain ⟨pb, lv, wv, h1, h2, h3, h4, h5, h6, h7, h8, h9⟩ := h
  exact Log_some w d lv m.log (h4.cell 1) h7.1
theorem Flushed_rep {S : Nat → Prop} {w : World} {d : Nat} {m : DM} (h : DRep S w d m) :
    Calls Try.prog 25 #[.pointer (some ⟨d, 0, none⟩)] w fun e w' => e = .returned (.int .i64 m.flushed) ∧ w = w' := by
  obtain ⟨pb, lv, wv, h1, h2, h3, h4, h5, h6, h7, h8, h9⟩ := h
  exact Flushed_some w d m.flushed (h4.cell 2)
theorem On_rep {S : Nat → Prop} {w : World} {d : Nat} {m : DM} (h : DRep S w d m) :
    Calls Try.prog 23 #[.pointer (some ⟨d, 0, none⟩)] w fun e w' => e = .returned (.bool (!m.off)) ∧ w = w' := by
  obtain ⟨pb, lv, wv, h1, h2, h3, h4, h5, h6, h7, h8, h9⟩ := h
  exact On_some w d m.off (h4.cell 3)
theorem Pages_rep {S : Nat → Prop} {w : World} {d : Nat} {m : DM} (h : DRep S w d m) :
    Calls Try.prog 35 #[.pointer (some ⟨d, 0, none⟩)] w fun e w' => e = .returned (.int .i64 m.pages.length) ∧ w = w' := by
  obtain ⟨pb, lv, wv, h1, h2, h3, h4, h5, h6, h7, h8, h9⟩ := h
  exact Pages_some w d _ _ _ (h4.cell 0)
theorem own_ne {S : Nat → Prop} {w : World} {d : Nat} {l : List Value} {t e : TypeId} (hb : Blk w d l t) (hte : t ≠ e) {size n : Nat} {v : Value} {xs : List Value} (h : OwnB S w e size v n xs) : ∀ k, v.ownBlock = some k → k ≠ d := by
  intro k hk e
  subst e
  rcases h.1.2 with ⟨rfl, _⟩ | ⟨g, cap, cur, rfl, -, hg, -⟩
  · simp [Value.ownBlock] at hk
  · simp [Value.ownBlock] at hk; subst hk
    exact hte (hb.uniq (show Blk w g cur.toList e by unfold Blk; simpa using hg)).2
/-- the struct's own block has turned, the pages have not -/
theorem DRep.turn {S : Nat → Prop} {w : World} {d : Nat} {m : DM} (h : DRep S w d m) :
    ∃ (pb : Nat) (lv : Value), S d ∧ d < w.heap.size ∧ Blk w d [.slice (some ⟨pb, 0, none⟩) m.pages.length m.pages.length, lv, .int .i64 m.flushed, .bool m.off, .bool m.armed, .int .i64 m.left] 69 ∧
      OwnB S w 5 1 lv m.log.length (bv m.log) ∧
      ∀ (w' : World) (m' : DM), Fr (fun k => k = d) w w' → m'.pages = m.pages → OwnB S w' 5 1 lv m.log.length (bv m.log) ∧
        ∀ lv' : Value, OwnB S w' 5 1 lv' m'.log.length (bv m'.log) →
          Blk w' d [.slice (some ⟨pb, 0, none⟩) m.pages.length m.pages.length, lv', .int .i64 m'.flushed, .bool m'.off, .bool m'.armed, .int .i64 m'.left] 69 → DRep S w' d m' := by
  obtain ⟨pb, lv, wv, h1, h2, h3, h4, h5, h6, h7, h8, h9⟩ := h
  refine ⟨pb, lv, h1, h3 d h1, h4, h7, fun w' m' hf hp => ⟨h7.fr hf (own_ne h4 (by decide) h7), fun lv' ho hb => ⟨pb, lv', wv, h1, h2, fun k hk => Nat.lt_of_lt_of_le (h3 k hk) hf.size, by rw [hp]; exact hb, ?_, by rw [hp]; exact h6, ho, ?_, h9⟩⟩⟩
  · rw [hp]; exact h5.fr hf (h4.ne_of_type h5 (by decide)).symm
  · rw [hp]; exact fun i p v hp hv => (h8 i p v hp hv).fr hf (own_ne h4 (by decide) (h8 i p v hp hv))
theorem Arm_rep {S : Nat → Prop} {w : World} {d : Nat} {m : DM} (h : DRep S w d m) (n : Int) :
    Calls Try.prog 29 #[.pointer (some ⟨d, 0, none⟩), .int .i64 n] w fun e w' => e = .returned (.tuple #[]) ∧ Fr S w w' ∧ DRep (Ext S w w') w' d (m.arm n) := by
  obtain ⟨pb, lv, hS, hlt, h4, h7, ht⟩ := h.turn
  refine (Arm_some w d n _ _ (h4.cell 4) (h4.cell 5) h4.frozen).mono ?_
  rintro e w' ⟨rfl, rfl⟩
  have hf : Fr (fun k => k = d) w ((w.setCell ⟨d, 4, none⟩ (.bool (decide (0 ≤ n)))).setCell ⟨d, 5, none⟩ (.int .i64 n)) := ((Fr.refl (fun k => k = d) w).setCell ⟨d, 4, none⟩ _ (fun _ => rfl)).setCell ⟨d, 5, none⟩ _ (fun _ => rfl)
  obtain ⟨h7', ht⟩ := ht _ (m.arm n) hf rfl
  exact ⟨rfl, hf.mono (fun k hk _ => by rw [hk]; exact hS), (ht lv h7' (by simpa [DM.arm] using (h4.set 4 (.bool (decide (0 ≤ n)))).set 5 (.int .i64 n))).ext hf.size⟩
