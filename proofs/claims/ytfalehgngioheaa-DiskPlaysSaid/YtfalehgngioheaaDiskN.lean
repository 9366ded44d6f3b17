import Derived.Test.YtfalehgngioheaaDiskL
import Derived.Test.YtfalehgngioheaaDiskI
set_option linter.unusedVariables false
namespace Go.Proofs.Ytfalehgngioheaa
open Go.RowKit Go.VB Go.VB.Disk
theorem pcs_sync (ps : List Pg) (wv : List Value) (h : wv.length = ps.length) : pcs (ps.map Pg.sync) (ps.zipWith syncV wv) = syncE ps wv := by
  apply List.ext_getElem?
  intro i
  simp only [pcs, syncE, List.getElem?_zipWith, List.getElem?_map]
  cases ps[i]? <;> cases wv[i]? <;> simp [Pg.sync]
theorem Sync_rep {S : Nat → Prop} {w : World} {d : Nat} {m : DM} {kk : Nat} (h : DRep S w d m) (ok : m.Ok kk) (hkk : kk ≤ 1000000) :
    Calls Try.prog 26 #[.pointer (some ⟨d, 0, none⟩)] w fun e w' => e = .returned (.int .i64 m.sync.2) ∧ Fr S w w' ∧ DRep (Ext S w w') w' d m.sync.1 := by
  have B1 := Blk.new w [.pointer (some ⟨d, 0, none⟩)] 24
  have F0 := (Fr.refl (fun _ => False) w).alloc (.cells [Value.pointer (some ⟨d, 0, none⟩)].toArray 24)
  have hd := h.fr F0 (by simp)
  have hlt := h.d_lt
  have key : Calls Try.prog 36 #[.pointer (some ⟨d, 0, none⟩), .func (.func 46) #[] #[], .func (.func 48) #[] #[.pointer (some ⟨w.heap.size, 0, none⟩)]] (w.alloc (.cells [Value.pointer (some ⟨d, 0, none⟩)].toArray 24))
      fun e w' => e = .returned (.int .i64 m.sync.2) ∧ Fr S w w' ∧ DRep (Ext S w w') w' d m.sync.1 := by
    refine (operate_rep hd 46 #[] (fun _ _ => rfl) 0 ((fine_any _).mono fun e w' h => ⟨h.1, 0, h.2.symm⟩) 48 _ (fun _ _ => rfl) (fun m => { m with pages := m.pages.map Pg.sync }) ?_).mono ?_
    · intro _ w1 hr hf hs
      obtain ⟨pb, lv, wv, q1, q2, q3, q4, q5, q6, q7, q8, q9⟩ := hr
      dsimp only at q4 q5 q6 q7 q8 q9
      refine (Sync1_go w1 w.heap.size d pb m.pages wv lv _ _ _ _ (B1.fr hf (by omega)) q4 q5 q6 ok.safe ok.ws ok.np (fun p hp => Nat.le_trans (ok.few p hp) hkk) (fun i p v hp hv => (q8 i p v hp hv).1)).mono ?_
      rintro e w' ⟨rfl, hf', hb'⟩
      have hdpb := q4.ne_of_type q5 (by decide)
      have own_syncV : ∀ (p : Pg) (v : Value) (k : Nat), (syncV p v).ownBlock = some k → v.ownBlock = some k := by
        intro p v k hk
        unfold syncV at hk
        split at hk
        · exact hk
        · simp [Value.ownBlock] at hk
      have zip_get : ∀ (i : Nat) (u : Value), (m.pages.zipWith syncV wv)[i]? = some u → ∃ p v, m.pages[i]? = some p ∧ wv[i]? = some v ∧ u = syncV p v := by
        intro i u hu
        rw [List.getElem?_zipWith] at hu
        cases hp : m.pages[i]? with
        | none => simp [hp] at hu
        | some p =>
          cases hv : wv[i]? with
          | none => simp [hp, hv] at hu
          | some v => exact ⟨p, v, rfl, rfl, by simpa [hp, hv] using hu.symm⟩
      refine ⟨rfl, hf'.mono (fun k hk _ => by rw [hk]; exact q2), pb, lv, m.pages.zipWith syncV wv, .inl q1, .inl q2, fun k hk => hk.elim (fun h => Nat.lt_of_lt_of_le (q3 k h) hf'.size) (·.2), ?_, ?_, by simp [q6], ?_, ?_, ?_⟩
      · simpa using q4.fr hf' hdpb
      · have := pcs_sync m.pages wv q6
        dsimp only
        rw [this]
        exact hb'
      · exact (q7.fr hf' (own_ne q5 (by decide) q7)).mono fun _ _ hk => .inl hk
      · intro i p2 u hp2 hu
        obtain ⟨p, v, hp, hv, rfl⟩ := zip_get i u hu
        simp only [List.getElem?_map, hp, Option.map_some, Option.some.injEq] at hp2
        subst hp2
        have ho := ((q8 i p v hp hv).fr hf' (own_ne q5 (by decide) (q8 i p v hp hv))).mono (S' := Ext S w1 w') fun _ _ hk => .inl hk
        by_cases hw : p.ws = []
        · simpa [syncV, hw, Pg.sync] using ho
        · refine ⟨⟨by simp [Pg.sync], .inl ⟨by simp [syncV, hw], by simp [Pg.sync]⟩⟩, ?_⟩
          intro k hk
          simp [syncV, hw, Value.ownBlock] at hk
      · intro i j u u' k hij hu hu' h1 h2
        obtain ⟨p, v, hp, hv, rfl⟩ := zip_get i u hu
        obtain ⟨p', v', hp', hv', rfl⟩ := zip_get j u' hu'
        exact q9 i j v v' k hij hv hv' (own_syncV _ _ _ h1) (own_syncV _ _ _ h2)
    · rintro e w' ⟨rfl, hf, hr⟩
      exact ⟨rfl, (F0.mono (by simp)).trans hf (fun i hi _ => hi), hr.wider F0.size⟩
  have H := hid key
  clear key hd B1 F0 hlt h ok
  go_enter Try.func26, Try.ntmps26
  go_wp2_with (first | (go_at_call 36; refine H.out.mono ?_; rintro e w' ⟨rfl, hf, hr⟩))
  go_ret
  exact ⟨rfl, hf, hr⟩
