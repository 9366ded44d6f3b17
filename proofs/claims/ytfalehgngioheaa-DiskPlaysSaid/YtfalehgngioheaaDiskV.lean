import Derived.Test.YtfalehgngioheaaDiskU
set_option linter.unusedVariables false
namespace Go.Proofs.Ytfalehgngioheaa
open Go.RowKit Go.VB Go.VB.Disk
theorem Ok_operate {m : DM} {k k' : Nat} (ok : m.Ok k) (hk : k ≤ k') (wrong : Int) (f : DM → DM) (hf : wrong = 0 → ∀ m' : DM, m'.Ok k → m'.pages = m.pages → m'.log = m.log → (f m').Ok k') : (m.operate wrong f).1.Ok k' := by
  have up : ∀ m' : DM, m'.pages = m.pages → m'.log = m.log → m'.flushed = m.flushed → m'.Ok k' := by
    intro m' h1 h2 h3
    exact ⟨by rw [h1]; exact ok.np, by rw [h1]; exact ok.safe, by rw [h1]; exact ok.ws, by rw [h1]; exact fun p hp => Nat.le_trans (ok.few p hp) hk, by rw [h2]; exact ok.log, by rw [h2, h3]; exact ok.fl⟩
  unfold DM.operate
  split
  · exact up m rfl rfl rfl
  · split
    · exact up m rfl rfl rfl
    · split
      · exact up _ rfl rfl rfl
      · rename_i hw _
        refine hf (by simpa using hw) _ ⟨ok.np, ok.safe, ok.ws, ok.few, ok.log, ok.fl⟩ rfl rfl
theorem Ok_mono {m : DM} {k k' : Nat} (ok : m.Ok k) (hk : k ≤ k') : m.Ok k' := ⟨ok.np, ok.safe, ok.ws, fun p hp => Nat.le_trans (ok.few p hp) hk, ok.log, ok.fl⟩
theorem Ok_write {m : DM} {k : Nat} (ok : m.Ok k) (n : Int) (s : Bytes) : (m.write n s).1.Ok (k + 1) := by
  refine Ok_operate ok (by omega) _ _ fun hw m' ok' hp hl => ?_
  have hs : s.length = 512 := by
    by_cases h : s.length = 512
    · exact h
    · exfalso
      rw [if_neg h] at hw
      split at hw <;> cases hw
  have key : ∀ p ∈ m'.pages.modify n.toNat (Pg.write s), ∃ p0 ∈ m'.pages, p = p0 ∨ p = Pg.write s p0 := by
    intro p hp
    obtain ⟨i, hi, rfl⟩ := List.mem_iff_getElem.1 hp
    rw [List.getElem_modify]
    have hi' : i < m'.pages.length := by simpa using hi
    refine ⟨m'.pages[i], List.getElem_mem _, ?_⟩
    split
    · exact .inr rfl
    · exact .inl rfl
  refine ⟨by simpa using ok'.np, ?_, ?_, ?_, ok'.log, ok'.fl⟩
  · intro p hp
    obtain ⟨p0, h0, rfl | rfl⟩ := key p hp
    · exact ok'.safe _ h0
    · exact ok'.safe p0 h0
  · intro p hp x hx
    obtain ⟨p0, h0, rfl | rfl⟩ := key p hp
    · exact ok'.ws _ h0 x hx
    · rcases List.mem_append.1 hx with h | h
      · exact ok'.ws _ h0 x h
      · rw [List.mem_singleton.1 h]; exact hs
  · intro p hp
    obtain ⟨p0, h0, rfl | rfl⟩ := key p hp
    · exact Nat.le_trans (ok'.few _ h0) (by omega)
    · have := ok'.few _ h0
      simp [Pg.write]; omega
theorem Ok_sync {m : DM} {k : Nat} (ok : m.Ok k) : m.sync.1.Ok k := by
  refine Ok_operate ok (Nat.le_refl _) _ _ fun _ m' ok' _ _ => ?_
  refine ⟨by simpa using ok'.np, ?_, ?_, ?_, ok'.log, ok'.fl⟩
  · intro p hp
    obtain ⟨p0, h0, rfl⟩ := List.mem_map.1 hp
    exact Pg.cur_length _ (ok'.safe _ h0) (ok'.ws _ h0)
  · intro p hp
    obtain ⟨p0, h0, rfl⟩ := List.mem_map.1 hp
    simp [Pg.sync]
  · intro p hp
    obtain ⟨p0, h0, rfl⟩ := List.mem_map.1 hp
    simp [Pg.sync]
theorem Ok_append {m : DM} {k : Nat} (ok : m.Ok k) (s : Bytes) : (m.append s).1.Ok k := by
  refine Ok_operate ok (Nat.le_refl _) _ _ fun hw m' ok' _ hl => ?_
  have : ¬ 1048576 < m.log.length + s.length := by intro h; rw [if_pos h] at hw; cases hw
  have hf := ok'.fl
  refine ⟨ok'.np, ok'.safe, ok'.ws, ok'.few, ?_, ?_⟩
  · simp only [List.length_append]; rw [hl]; omega
  · simp only [List.length_append]; omega
theorem Ok_flush {m : DM} {k : Nat} (ok : m.Ok k) : m.flush.1.Ok k :=
  Ok_operate ok (Nat.le_refl _) _ _ fun _ _ ok' _ _ => ⟨ok'.np, ok'.safe, ok'.ws, ok'.few, ok'.log, Nat.le_refl _⟩
theorem Ok_cut {m : DM} {k : Nat} (ok : m.Ok k) (n : Int) : (m.cut n).1.Ok k :=
  Ok_operate ok (Nat.le_refl _) _ _ fun hw m' ok' _ hl => by
    have h1 := ok'.log
    have h2 := ok'.fl
    have hn : ¬ (n < 0 ∨ (m.log.length : Int) < n) := by intro h; rw [if_pos h] at hw; cases hw
    refine ⟨ok'.np, ok'.safe, ok'.ws, ok'.few, ?_, ?_⟩
    · simp only [List.length_take]; omega
    · simp only [List.length_take]; omega
theorem Ok_arm {m : DM} {k : Nat} (ok : m.Ok k) (n : Int) : (m.arm n).Ok k := ⟨ok.np, ok.safe, ok.ws, ok.few, ok.log, ok.fl⟩
