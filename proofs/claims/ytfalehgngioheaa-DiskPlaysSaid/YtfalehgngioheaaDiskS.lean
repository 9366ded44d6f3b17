import Derived.Test.YtfalehgngioheaaDiskR
set_option linter.unusedVariables false
namespace Go.Proofs.Ytfalehgngioheaa
open Go.RowKit Go.VB Go.VB.Disk
theorem crashPages_get (ps : List Pg) : ∀ (q : List Int) (i : Nat) (p2 : Pg), (crashPages ps q).1[i]? = some p2 → ∃ p, ps[i]? = some p ∧ (p.ws = [] → p2 = p) ∧ (p.ws ≠ [] → p2.ws = []) := by
  induction ps with
  | nil => intro q i p2 h; simp [crashPages] at h
  | cons p ps ih =>
    intro q i p2 h
    unfold crashPages at h
    split at h
    · rename_i hw
      cases i with
      | zero => exact ⟨p, rfl, fun _ => (Option.some.inj h).symm, fun h => absurd hw h⟩
      | succ i => simpa using ih q i p2 (by simpa using h)
    · rename_i hw
      cases i with
      | zero =>
        obtain rfl : p.crash q = p2 := by simpa using h
        exact ⟨p, rfl, fun h => absurd h hw, fun _ => rfl⟩
      | succ i => simpa using ih q.tail.tail i p2 (by simpa using h)
theorem Crash_rep {S R : Nat → Prop} {w : World} {d : Nat} {m : DM} {kk : Nat} (h : DRep S w d m) (ok : m.Ok kk) (hkk : kk ≤ 1000000) {v : Value} {q : List Int} (hq : QRep R w v q) (hR : ∀ k, R k → ¬ S k ∧ k < w.heap.size) (hql : q.length ≤ 9223372036854775807) :
    Calls Try.prog 19 #[.pointer (some ⟨d, 0, none⟩), v] w fun e w' => e = .returned (.tuple #[]) ∧ Fr S w w' ∧ DRep (Ext S w w') w' d (m.crash q) := by
  obtain ⟨pb, lv, wv, q1, q2, q3, q4, q5, q6, q7, q8, q9⟩ := h
  obtain ⟨a, cap, rfl, hcap⟩ := ownsRow_form q7.1
  refine (Crash_go (R := R) w d pb m.pages wv a m.log.length cap m.flushed m.off m.armed _ v q q4 q5 q6 ok.safe ok.ws ok.np (fun p hp => Nat.le_trans (ok.few p hp) hkk) (fun i p v hp hv => (q8 i p v hp hv).1) ok.fl hcap ok.log hq
    (fun k hk => ⟨fun e => (hR k hk).1 (e ▸ q2), fun e => (hR k hk).1 (e ▸ q1), (hR k hk).2⟩) hql).mono ?_
  rintro e w' ⟨rfl, hf, hb, hd⟩
  have e1 : m.flushed + takeQ (qAt m.pages q m.pages.length) (m.log.length - m.flushed + 1) = (m.crash q).flushed := by simp [DM.crash, crashPages_snd]
  have hfl := ok.fl
  have ht := takeQ_lt (qAt m.pages q m.pages.length) (m.log.length - m.flushed + 1) (by omega)
  have hfn : (m.crash q).flushed ≤ m.log.length := by rw [← e1]; omega
  rw [e1] at hd
  have hdpb := q4.ne_of_type q5 (by decide)
  have own_syncV : ∀ (p : Pg) (v : Value) (k : Nat), (syncV p v).ownBlock = some k → v.ownBlock = some k := by
    intro p v k hk
    unfold syncV at hk
    split at hk
    · exact hk
    · simp [Value.ownBlock] at hk
  have zip_get : ∀ (i : Nat) (u : Value), (m.pages.zipWith syncV wv)[i]? = some u → ∃ p v, m.pages[i]? = some p ∧ wv[i]? = some v ∧ u = syncV p v := by
    intro i u hu
    rw [List.getElem?_zipWith] at hu
    cases hp : m.pages[i]? with
    | none => simp [hp] at hu
    | some p =>
      cases hv : wv[i]? with
      | none => simp [hp, hv] at hu
      | some v => exact ⟨p, v, rfl, rfl, by simpa [hp, hv] using hu.symm⟩
  have hlen := crashPages_length m.pages q
  have hne : ∀ {size n : Nat} {v : Value} {xs : List Value} {e : TypeId}, e ≠ 69 → e ≠ 78 → OwnB S w e size v n xs → ∀ k, v.ownBlock = some k → ¬ (k = pb ∨ k = d) := by
    intro size n v xs e h1 h2 ho k hk h
    rcases h with h | h
    · exact own_ne q5 h2.symm ho k hk h
    · exact own_ne q4 h1.symm ho k hk h
  have hlog : (m.crash q).log = m.log.take (m.crash q).flushed := by simp [DM.crash]
  refine ⟨rfl, hf.mono (fun k hk _ => hk.elim (fun h => by rw [h]; exact q2) (fun h => by rw [h]; exact q1)), pb, .slice a (m.crash q).flushed cap, m.pages.zipWith syncV wv, .inl q1, .inl q2, fun k hk => hk.elim (fun h => Nat.lt_of_lt_of_le (q3 k h) hf.size) (·.2), ?_, ?_, ?_, ⟨?_, ?_⟩, ?_, ?_⟩
  · have : (m.crash q).pages.length = m.pages.length := hlen
    rw [this]
    exact hd
  · have : (m.crash q).pages = (crashPages m.pages q).1 := rfl
    rw [this, crashE_pcs]
    exact hb
  · have : (m.crash q).pages.length = m.pages.length := hlen
    rw [this]
    simp [q6]
  · have hoL := (q7.fr hf (hne (by decide) (by decide) q7)).1
    have := ownsRow_take (l := m.log) hoL _ hfn rfl
    rw [hlog]
    have e3 : (m.log.take (m.crash q).flushed).length = (m.crash q).flushed := by simp; omega
    rw [e3]
    exact this
  · intro x hx
    refine .inl (q7.2 x ?_)
    cases a with
    | none => simp [Value.ownBlock] at hx
    | some a => simpa [Value.ownBlock] using hx
  · intro i p2 u hp2 hu
    obtain ⟨p, v, hp, hv, rfl⟩ := zip_get i u hu
    obtain ⟨p', hp', h1, h2⟩ := crashPages_get m.pages q i p2 hp2
    obtain rfl : p = p' := by rw [hp] at hp'; exact Option.some.inj hp'
    have ho := ((q8 i p v hp hv).fr hf (hne (by decide) (by decide) (q8 i p v hp hv))).mono (S' := Ext S w w') fun _ _ hk => .inl hk
    by_cases hw : p.ws = []
    · rw [h1 hw]
      simpa [syncV, hw] using ho
    · rw [h2 hw]
      refine ⟨⟨by simp, .inl ⟨by simp [syncV, hw], by simp⟩⟩, ?_⟩
      intro k hk
      simp [syncV, hw, Value.ownBlock] at hk
  · intro i j u u' k hij hu hu' h1 h2
    obtain ⟨p, v, hp, hv, rfl⟩ := zip_get i u hu
    obtain ⟨p', v', hp', hv', rfl⟩ := zip_get j u' hu'
    exact q9 i j v v' k hij hv hv' (own_syncV _ _ _ h1) (own_syncV _ _ _ h2)
theorem Ok_crash {m : DM} {kk : Nat} (ok : m.Ok kk) (q : List Int) : (m.crash q).Ok kk := by
  have hlen := crashPages_length m.pages q
  have hfl := ok.fl
  have ht := takeQ_lt (crashPages m.pages q).2 (m.log.length - m.flushed + 1) (by omega)
  have pg : ∀ (ps : List Pg) (q : List Int), (∀ p ∈ ps, p.safe.length = 512 ∧ (∀ s ∈ p.ws, s.length = 512) ∧ p.ws.length ≤ kk) → ∀ p ∈ (crashPages ps q).1, p.safe.length = 512 ∧ (∀ s ∈ p.ws, s.length = 512) ∧ p.ws.length ≤ kk := by
    intro ps
    induction ps with
    | nil => intro q _ p hp; simp [crashPages] at hp
    | cons p0 ps ih =>
      intro q h p hp
      have h0 := h p0 List.mem_cons_self
      have ih := fun q => ih q (fun p hp => h p (List.mem_cons_of_mem _ hp))
      unfold crashPages at hp
      split at hp
      · rcases List.mem_cons.1 hp with rfl | hp
        · exact h0
        · exact ih _ p hp
      · rcases List.mem_cons.1 hp with rfl | hp
        · exact ⟨crash_len p0 q h0.1 h0.2.1, by simp [Pg.crash], by simp [Pg.crash]⟩
        · exact ih _ p hp
  have pg := pg m.pages q (fun p hp => ⟨ok.safe p hp, ok.ws p hp, ok.few p hp⟩)
  refine ⟨by rw [show (m.crash q).pages.length = _ from hlen]; exact ok.np, fun p hp => (pg p hp).1, fun p hp => (pg p hp).2.1, fun p hp => (pg p hp).2.2, ?_, ?_⟩
  · have := ok.log
    simp only [DM.crash, List.length_take]
    omega
  · simp only [DM.crash, List.length_take]
    omega
