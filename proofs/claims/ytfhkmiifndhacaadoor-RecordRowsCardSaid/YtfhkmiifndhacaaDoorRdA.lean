import Derived.Test.YtfhkmiifndhacaaDoorRecC
import Derived.Test.YtfhkmiifndhacaaDoorValD
import Derived.Test.YtfhkmiifndhacaaDoorLoad
import Derived.Test.YtfhkmiifndhacaaDoorRdM
/- record.Read: the closure that reads a row. -/
set_option linter.unusedVariables false
namespace Go.Proofs.YtfhkmiifndhacaaDoor
open Go.RowKit Go.VB Go.VB.Oct Go.VB.Rec
theorem OText_len {r : RM} (ok : r.Ok) : r.text.2.length ≤ 1099511627776 := by
  have h := RM.take_len (r.num 2).1 (r.num 2).2
  have h2 := RM.num_lt r 2
  have : r.text.2 = ((r.num 2).1.take (r.num 2).2).2 := rfl
  rw [this]
  omega
theorem decide_zero (e : Int) : (e == 0) = decide (e = 0) := by
  by_cases h : e = 0
  · simp [h]
  · rw [decide_eq_false h]; simpa using h
theorem rows_end {w w1 w3 : World} {p f : Nat} {r1 : RM} {fits x : Bool} (h1 : RdRep w1 p r1) (f1 : Fr (fun k => k = p) w w1) (f3 : Fr (fun _ => False) w1 w3) (b3 : Blk w3 f [.bool fits] 4) (npf : p ≠ f) :
    RdRep (w3.setCell ⟨f, 0, none⟩ (.bool x)) p r1 ∧ Blk (w3.setCell ⟨f, 0, none⟩ (.bool x)) f [.bool x] 4 ∧ Fr (fun k => k = p ∨ k = f) w (w3.setCell ⟨f, 0, none⟩ (.bool x)) ∧
      ∀ v n (xs : List Value), Row 50 3 w1.heap.size w3 v n xs → Row 50 3 w.heap.size (w3.setCell ⟨f, 0, none⟩ (.bool x)) v n xs := by
  have fs := (Fr.refl (fun k => k = f) w3).setCell ⟨f, 0, none⟩ (.bool x) (fun _ => rfl)
  exact ⟨(h1.fre f3).fr fs (fun h => npf h), b3.set 0 (.bool x), ((f1.mono (T := fun k => k = p ∨ k = f) (fun _ h _ => .inl h)).trans f3 (fun _ h _ => h.elim)).trans fs (fun _ h _ => .inr h), fun v n xs hr => (hr.low f1.size).fr fs (fun k hk => hr.ne b3 (by decide) k hk)⟩
set_option maxRecDepth 20000 in
theorem rows_go {w : World} {p q f : Nat} {rm : RM} {fits : Bool} (hq : Blk w q [.pointer (some ⟨p, 0, none⟩)] 51) (hf : Blk w f [.bool fits] 4) (hr : RdRep w p rm) (ok : rm.Ok) :
    Calls Tryd.prog 20 #[.pointer (some ⟨q, 0, none⟩), .pointer (some ⟨f, 0, none⟩)] w fun e w' => ∃ va, e = .returned va ∧ Row 50 3 w.heap.size w' va (rowsM rm fits).2.2.length ((rowsM rm fits).2.2.flatMap V.cells) ∧ RdRep w' p (rowsM rm fits).1 ∧ Blk w' f [.bool (rowsM rm fits).2.1] 4 ∧ Fr (fun k => k = p ∨ k = f) w w' := by
  have npq := hr.ne_of_type hq (by decide)
  have npf := hr.ne_of_type hf (by decide)
  have HT := hid (OText_go hr ok)
  have HQ := hid hq
  have HF := hid hf
  have c0 := hq.cell 0
  have hle := OText_len ok
  unfold rowsM
  generalize rm.text = t at *
  obtain ⟨r1, s1⟩ := t
  dsimp only at *
  have HRV := hid (fun w => VRead_go s1 hle w)
  have HRL := hid (readV_len s1)
  generalize readV s1 = rv1 at *
  obtain ⟨l, e1⟩ := rv1
  dsimp only at *
  clear hq hf
  have HS : ∀ w1, Fr (fun k => k = p) w w1 → Hid (Blk w1 q [.pointer (some ⟨p, 0, none⟩)] 51) := fun w1 f => hid (HQ.out.fr f (fun h => npq h.symm))
  cases hfl : r1.failed with
  | true =>
    go_enter Tryd.func20, Tryd.ntmps20
    go_wp2_with (first
      | (go_at_call 21; refine HT.out.mono ?_; rintro e w1 ⟨rfl, h1, f1⟩; have H1 := hid h1; have F1 := hid f1; have q1 := (HS w1 f1).out.cell 0; have b1 := hid (HF.out.fr f1 (fun h => npf h.symm)); clear h1 f1)
      | (go_at_call 22; refine (OFailed_go H1.out).mono ?_; rintro e w2 ⟨rfl, rfl⟩; rw [hfl]))
    go_ret
    exact ⟨_, rfl, Row.nil, H1.out, b1.out, F1.out.mono (fun _ h _ => .inl h)⟩
  | false =>
    obtain ⟨z, hz, hzl⟩ : ∃ z, ((l.length : Int) == 0) = z ∧ (z = true → l = []) := ⟨_, rfl, fun h => List.eq_nil_of_length_eq_zero (by have := eq_of_beq h; omega)⟩
    have HZL := hid hzl
    clear hzl
    have hdz := decide_zero e1
    cases fits <;> cases z
    all_goals
      go_enter Tryd.func20, Tryd.ntmps20
      go_wp2_with (first
        | (go_at_call 21; refine HT.out.mono ?_; rintro e w1 ⟨rfl, h1, f1⟩; have H1 := hid h1; have F1 := hid f1; have q1 := (HS w1 f1).out.cell 0; have b1 := hid (HF.out.fr f1 (fun h => npf h.symm)); clear h1 f1)
        | (go_at_call 22; refine (OFailed_go H1.out).mono ?_; rintro e w2 ⟨rfl, rfl⟩; rw [hfl])
        | (go_at_call 9; refine (HRV.out _).mono ?_; rintro e w3 ⟨va, rfl, hrow, f3⟩; have HROW := hid hrow; have F3 := hid f3; have b3 := hid (b1.out.fr f3 (fun h => h)); have c3 := b3.out.cell 0; have z3 := b3.out.frozen 0; clear hrow f3; obtain ⟨aa, cc, rfl, _⟩ := HROW.out.slice))
      go_ret
    all_goals
      obtain ⟨h4, h5, h6, h7⟩ := rows_end (x := _) H1.out F1.out F3.out b3.out npf
      first
        | exact ⟨_, rfl, h7 _ _ _ HROW.out, h4, h5, h6⟩
        | (obtain rfl := HZL.out trivial; exact ⟨_, rfl, Row.nil, h4, h5, h6⟩)
end Go.Proofs.YtfhkmiifndhacaaDoor
