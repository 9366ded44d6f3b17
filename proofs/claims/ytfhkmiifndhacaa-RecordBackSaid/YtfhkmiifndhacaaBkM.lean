import Derived.Test.YtfhkmiifndhacaaRdN
/- What was read, written again, is what it was read from (plain Lean). -/
set_option linter.unusedVariables false
namespace Go.VB.Rec
open Go.VB.Oct Go.Proofs.Ytfhkmiifndhacaa
theorem be8_int8 {l : List UInt8} (h : l.length = 8) : be8 (word (int8 l)) = l := by
  have e : be8 (word (int8 l)) = be 8 (word (int8 l)) := by simp [be]
  have hl := num_lt l
  rw [h] at hl
  have : word (int8 l) = num l := by
    unfold word int8
    rw [IntKind.wrap_i64]
    omega
  rw [e, this, be_num h (by omega)]
theorem readOne_back {s t : List UInt8} {v : V} (h : readOne s = .ok (v, t)) : s = v.bytes ++ t ∧ v.right = true ∧ v.plain = v := by
  unfold readOne at h
  cases s with
  | nil => cases h
  | cons k s =>
    dsimp only at h
    split at h
    · rename_i hk
      cases h
      subst hk
      exact ⟨rfl, rfl, rfl⟩
    · split at h
      · rename_i hk
        subst hk
        split at h
        · cases h
        · rename_i hl
          cases h
          refine ⟨?_, rfl, rfl⟩
          have e : V.bytes ⟨1, int8 (s.take 8), []⟩ = 1 :: be8 (word (int8 (s.take 8))) := rfl
          rw [e, be8_int8 (by rw [List.length_take]; omega), List.cons_append, List.take_append_drop]
      · split at h
        · rename_i hk
          subst hk
          cases s with
          | nil => cases h
          | cons m s =>
            dsimp only at h
            split at h
            · cases h
            · rename_i h40
              split at h
              · cases h
              · rename_i hl
                cases h
                have hlen : (s.take m.toNat).length = m.toNat := by rw [List.length_take]; omega
                have e : V.bytes ⟨2, 0, s.take m.toNat⟩ = 2 :: UInt8.ofNat (s.take m.toNat).length :: s.take m.toNat := rfl
                refine ⟨?_, ?_, rfl⟩
                · rw [e, hlen, UInt8.ofNat_toNat, List.cons_append, List.cons_append, List.take_append_drop]
                · unfold V.right
                  dsimp only
                  rw [hlen]
                  simp
                  omega
        · cases h
theorem readN_back : ∀ (n : Nat) (s t : List UInt8) (l : List V), readN n s = .ok (l, t) → s = l.flatMap V.bytes ++ t ∧ l.length = n ∧ ∀ v ∈ l, v.right = true ∧ v.plain = v
  | 0, s, t, l, h => by
    cases h
    exact ⟨rfl, rfl, by simp⟩
  | n + 1, s, t, l, h => by
    unfold readN at h
    split at h
    · cases h
    · rename_i v u h1
      split at h
      · cases h
      · rename_i l' u' h2
        cases h
        obtain ⟨e1, e2, e3⟩ := readOne_back h1
        obtain ⟨e4, e5, e6⟩ := readN_back n _ _ _ h2
        refine ⟨by rw [e1, e4, List.flatMap_cons, List.append_assoc], by rw [List.length_cons, e5], ?_⟩
        intro x hx
        rcases List.mem_cons.1 hx with rfl | hx
        · exact ⟨e2, e3⟩
        · exact e6 x hx
theorem readV_back {s : List UInt8} {l : List V} (h : readV s = (l, 0)) : rowBytes l = s ∧ row l = true ∧ ∀ v ∈ l, v.plain = v := by
  unfold readV at h
  cases s with
  | nil => cases h
  | cons n s =>
    dsimp only at h
    split at h
    · cases h
    · rename_i h6
      split at h
      · rename_i e he
        have : e = 0 := by simpa using congrArg Prod.snd h
        subst this
        exfalso
        -- an error is never 0
        have hno : ∀ (n : Nat) (s : List UInt8), readN n s ≠ .error 0 := by
          intro n
          induction n with
          | zero => intro s h; cases h
          | succ n ih =>
            intro s h
            unfold readN at h
            split at h
            · rename_i e h1
              have : e = 0 := by simpa using h
              subst this
              unfold readOne at h1
              cases s with
              | nil => cases h1
              | cons k s =>
                dsimp only at h1
                split at h1
                · cases h1
                · split at h1
                  · split at h1 <;> cases h1
                  · split at h1
                    · cases s with
                      | nil => cases h1
                      | cons m s =>
                        dsimp only at h1
                        split at h1
                        · cases h1
                        · split at h1 <;> cases h1
                    · cases h1
            · split at h
              · rename_i e h2
                have : e = 0 := by simpa using h
                subst this
                exact ih _ h2
              · cases h
        exact hno _ _ he
      · rename_i l' he
        have : l' = l := by simpa using congrArg Prod.fst h
        subst this
        obtain ⟨e1, e2, e3⟩ := readN_back _ _ _ _ he
        have hrow : row l' = true := by
          unfold row
          simp only [Bool.and_eq_true, decide_eq_true_eq, List.all_eq_true]
          exact ⟨by omega, fun v hv => (e3 v hv).1⟩
        refine ⟨?_, hrow, fun v hv => (e3 v hv).2⟩
        unfold rowBytes
        rw [if_pos hrow, e2, UInt8.ofNat_toNat, e1, List.append_nil]
      · cases h
theorem rowsM_fits {b : RM} {f : Bool} (h : (rowsM b f).2.1 = true) (hf : b.text.1.failed = false) : f = true ∧ (readV b.text.2).2 = 0 := by
  unfold rowsM at h
  rw [if_neg (by rw [hf]; simp)] at h
  simpa using h
theorem rowsM_reader (b : RM) (f : Bool) : (rowsM b f).1 = b.text.1 := by
  unfold rowsM
  split <;> rfl
theorem rowsM_back {b : RM} {t : List UInt8} {f : Bool} (h : b.Has t) (hf : (rowsM b f).1.failed = false) (hfit : (rowsM b f).2.1 = true) : f = true ∧ ∃ u, t = text (rowBytes (rowsM b f).2.2) ++ u ∧ (rowsM b f).1.Has u := by
  rw [rowsM_reader] at hf
  obtain ⟨h1, h2⟩ := rowsM_fits hfit hf
  obtain ⟨u, e1, e2, e3, e4⟩ := h.text_back hf
  refine ⟨h1, u, ?_, by rw [rowsM_reader]; exact e2⟩
  have : (rowsM b f).2.2 = (readV b.text.2).1 := by unfold rowsM; rw [if_neg (by rw [hf]; simp)]
  rw [this, (readV_back (Prod.ext rfl h2 : readV b.text.2 = ((readV b.text.2).1, 0))).1]
  exact e1
theorem editsAt_ok : ∀ (j : Nat) {b : RM}, (editsAt j b).1.failed = false → b.failed = false
  | 0, _, h => h
  | j + 1, _, h => editsAt_ok j (RM.failed_num (RM.failed_num (RM.failed_text h)))
theorem editsAt_back {b : RM} {t : List UInt8} (h : b.Has t) : ∀ j, (editsAt j b).1.failed = false → ∃ u, t = (editsAt j b).2.flatMap E.bytes ++ u ∧ (editsAt j b).1.Has u
  | 0, _ => ⟨t, rfl, h⟩
  | j + 1, hf => by
    have f3 : ((((editsAt j b).1.num 2).1.num 1).1.text).1.failed = false := hf
    have f2 := RM.failed_text f3
    have f1 := RM.failed_num f2
    have f0 := RM.failed_num f1
    obtain ⟨u0, e0, h0⟩ := editsAt_back h j f0
    obtain ⟨u1, e1, h1, _, _, l1⟩ := h0.num_back 2 (by omega) f1
    obtain ⟨u2, e2, h2, _, _, l2⟩ := h1.num_back 1 (by omega) f2
    obtain ⟨u3, e3, h3, _, l3⟩ := h2.text_back f3
    refine ⟨u3, ?_, h3⟩
    have hd : (editsAt (j + 1) b).2 = (editsAt j b).2 ++ [⟨((editsAt j b).1.num 2).2, (((editsAt j b).1.num 2).1.num 1).2 - 1, (((editsAt j b).1.num 2).1.num 1).1.text.2⟩] := rfl
    rw [hd, List.flatMap_append, e0, e1, e2, e3]
    simp only [List.flatMap_cons, List.flatMap_nil, List.append_nil]
    unfold E.bytes
    dsimp only
    have c1 : ((((((editsAt j b).1.num 2).1.num 1).2 : Nat) : Int) - 1 + 1).toNat = (((editsAt j b).1.num 2).1.num 1).2 := by omega
    rw [c1, Int.toNat_natCast]
    simp only [List.append_assoc]
theorem xidsAt_back {b : RM} {t : List UInt8} (h : b.Has t) : ∀ j, (xidsAt j b).1.failed = false → ∃ u, t = ((xidsAt j b).2.flatMap fun x => be 1 x.toNat) ++ u ∧ (xidsAt j b).1.Has u
  | 0, _ => ⟨t, rfl, h⟩
  | j + 1, hf => by
    have f1 : ((xidsAt j b).1.num 1).1.failed = false := hf
    have f0 := RM.failed_num f1
    obtain ⟨u0, e0, h0⟩ := xidsAt_back h j f0
    obtain ⟨u1, e1, h1, _, _, l1⟩ := h0.num_back 1 (by omega) f1
    refine ⟨u1, ?_, h1⟩
    have hd : (xidsAt (j + 1) b).2 = (xidsAt j b).2 ++ [(((xidsAt j b).1.num 1).2 : Int)] := rfl
    rw [hd, List.flatMap_append, e0, e1]
    simp only [List.flatMap_cons, List.flatMap_nil, List.append_nil, Int.toNat_natCast, List.append_assoc]
theorem xidsAt_ok : ∀ (j : Nat) {b : RM}, (xidsAt j b).1.failed = false → b.failed = false
  | 0, _, h => h
  | j + 1, _, h => xidsAt_ok j (RM.failed_num h)
theorem rowsM_ok {b : RM} {f : Bool} (h : (rowsM b f).1.failed = false) : b.failed = false := by
  rw [rowsM_reader] at h
  exact RM.failed_text h
/-- a record that was read, written again -/
theorem readR_back {s : List UInt8} {r : R} (h : readR s = (r, 0)) : r.bytes = s ∧ r.right = true := by
  unfold readR at h
  split at h
  · cases h
  · rename_i hf
    split at h
    · cases h
    · rename_i hc
      have hr : rdR s = r := by simpa using congrArg Prod.fst h
      have hf : (rdT s).1.failed = false := by simpa using hf
      simp only [Bool.or_eq_true, Bool.not_eq_true', decide_eq_true_eq, not_or, Bool.not_eq_false] at hc
      obtain ⟨⟨c1, c2⟩, c3⟩ := hc
      have fX : (rdX s).1.failed = false := RM.failed_text hf
      have fX0 := xidsAt_ok _ fX
      have fE := RM.failed_num fX0
      have fE0 := editsAt_ok _ fE
      have fN := RM.failed_num fE0
      have fO := rowsM_ok fN
      have f3 := rowsM_ok fO
      have f2 := RM.failed_num f3
      have f1 := RM.failed_num f2
      obtain ⟨u1, e1, h1, _, _, l1⟩ := (RM.Has.new s).num_back 1 (by omega) f1
      obtain ⟨u2, e2, h2, _, _, l2⟩ := h1.num_back 1 (by omega) f2
      obtain ⟨u3, e3, h3, _, _, l3⟩ := h2.num_back 2 (by omega) f3
      obtain ⟨u5, g5⟩ : ∃ u5, ∃ u4, u3 = text (rowBytes (rdO s).2.2) ++ u4 ∧ u4 = text (rowBytes (rdN s).2.2) ++ u5 ∧ (rdN s).1.Has u5 := by
        have hO : (rdO s).2.1 = true := by
          cases ht : (rdO s).2.1 with
          | true => rfl
          | false =>
            exfalso
            have : (rdN s).2.1 = false := by
              unfold rdN rowsM
              rw [ht]
              split <;> simp
            rw [this] at c1
            cases c1
        obtain ⟨-, u4, e4, h4⟩ := rowsM_back (f := true) h3 fO hO
        obtain ⟨-, u5, e5, h5⟩ := rowsM_back h4 fN c1
        exact ⟨u5, u4, e4, e5, h5⟩
      obtain ⟨u4, e4, e5, h5⟩ := g5
      obtain ⟨u6, e6, h6, _, _, l6⟩ := h5.num_back 1 (by omega) fE0
      obtain ⟨u7, e7, h7⟩ := editsAt_back h6 _ fE
      obtain ⟨u8, e8, h8, _, _, l8⟩ := h7.num_back 1 (by omega) fX0
      obtain ⟨u9, e9, h9⟩ := xidsAt_back h8 _ fX
      obtain ⟨u10, e10, h10, _, l10⟩ := h9.text_back hf
      have hu : u10 = [] := by
        have := h10.left
        have hz : (rdX s).1.text.1.left = 0 := by
          have : ¬ 0 < (rdT s).1.left := c2
          unfold rdT at this
          omega
        exact List.eq_nil_of_length_eq_zero (this.symm.trans hz)
      have hright : r.right = true := by rw [← hr]; exact c3
      refine ⟨?_, hright⟩
      unfold R.bytes
      rw [if_pos hright, ← hr]
      have lE : (rdE s).2.length = ((rdN s).1.num 1).2 := editsAt_len _ _
      have lX : (rdX s).2.length = ((rdE s).1.num 1).2 := xidsAt_len _ _
      have raw : R.raw (rdR s) = be 1 ((RM.new s).num 1).2 ++ (be 1 (((RM.new s).num 1).1.num 1).2 ++ (be 2 ((((RM.new s).num 1).1.num 1).1.num 2).2 ++ (text (rowBytes (rdO s).2.2) ++ (text (rowBytes (rdN s).2.2) ++ (be 1 (rdE s).2.length ++ ((rdE s).2.flatMap E.bytes ++ (be 1 (rdX s).2.length ++ (((rdX s).2.flatMap fun x => be 1 x.toNat) ++ text (rdT s).2)))))))) := by
        unfold R.raw rdR
        dsimp only
        simp only [Int.toNat_natCast, List.append_assoc]
      rw [raw, lE, lX]
      conv => rhs; rw [e1, e2, e3, e4, e5, e6, e7, e8, e9, e10, hu, List.append_nil]
      rfl
theorem raw_inj {a b : R} (ha : a.right = true) (hb : b.right = true) (pa : a.plain = a) (pb : b.plain = b) (ao : ∀ v ∈ a.old, v.In) (an : ∀ v ∈ a.new, v.In) (bo : ∀ v ∈ b.old, v.In) (bn : ∀ v ∈ b.new, v.In) (h : a.raw = b.raw) : a = b := by
  have h1 := readR_raw ha ao an
  have h2 := readR_raw hb bo bn
  rw [h, h2] at h1
  have := congrArg Prod.fst h1
  rw [← pa, ← pb]
  exact this.symm
end Go.VB.Rec
