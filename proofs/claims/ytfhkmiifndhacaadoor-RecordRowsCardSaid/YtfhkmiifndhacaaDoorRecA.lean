import Derived.Test.YtfhkmiifndhacaaDoorValA
/- slices.ContainsFunc, slices.IndexFunc: a test that only reads. -/
set_option linter.unusedVariables false
namespace Go.Proofs.YtfhkmiifndhacaaDoor
open Go.RowKit Go.VB Go.VB.Oct Go.VB.Rec
/-- the first place where p holds, or -1 -/
def firstAt {α : Type} (p : α → Bool) (l : List α) : Int := if l.any p then ((l.findIdx p : Nat) : Int) else -1
theorem firstAt_hit {α : Type} {p : α → Bool} {l : List α} {j : Nat} (hj : j < l.length) (h : ∀ i (hi : i < j), p (l[i]'(by omega)) = false) (hp : p l[j] = true) : firstAt p l = (j : Int) := by
  unfold firstAt
  rw [if_pos (List.any_eq_true.2 ⟨l[j], List.getElem_mem hj, hp⟩)]
  congr 1
  rw [List.findIdx_eq hj]
  exact ⟨hp, fun i hi => h i hi⟩
theorem firstAt_none {α : Type} {p : α → Bool} {l : List α} (h : ∀ i (hi : i < l.length), p l[i] = false) : firstAt p l = -1 := by
  unfold firstAt
  rw [if_neg]
  intro hh
  obtain ⟨x, hx, hp⟩ := List.any_eq_true.1 hh
  obtain ⟨i, hi, rfl⟩ := List.getElem_of_mem hx
  rw [h i hi] at hp
  cases hp
theorem firstAt_ge {α : Type} (p : α → Bool) (l : List α) : decide (0 ≤ firstAt p l) = l.any p := by
  unfold firstAt
  cases l.any p with
  | true => rw [if_pos rfl]; exact decide_eq_true (by omega)
  | false => rw [if_neg (by decide)]; rfl
def eagg (e : E) : Value := .agg e.cells.toArray
theorem ecells_len (e : E) : e.cells.length = 3 := rfl
theorem icell_len (x : Int) : (icell x).length = 1 := rfl
theorem flat1 {α : Type} (f : α → List Value) (hf : ∀ x, (f x).length = 1) : ∀ (L : List α) (j : Nat) (h : j < L.length), (L.flatMap f)[j]? = (f L[j])[0]?
  | x :: L, 0, _ => by simp [List.getElem?_append, hf]
  | x :: L, j + 1, h => by
    rw [List.flatMap_cons, List.getElem?_append_right (by rw [hf]; omega), hf, Nat.add_sub_cancel, flat1 f hf L j (by simpa using h)]
    rfl
theorem sl_cell1 {α : Type} {R : Nat → Prop} {w : World} {a : Option Addr} {c : Nat} {f : α → List Value} (hf : ∀ x, (f x).length = 1) {L : List α} (h : Sl R w (.slice a L.length c) L.length (L.flatMap f)) (hL : L ≠ []) :
    ∃ g o, a = some ⟨g, o, none⟩ ∧ R g ∧ ∀ j (hj : j < L.length), w.cell? ⟨g, o + j, none⟩ = (f L[j])[0]? := by
  obtain ⟨a', cap, he, hc, hx⟩ := h
  cases he
  obtain ⟨g, o, rfl, hR, hr⟩ := hx (by
    cases L with
    | nil => exact absurd rfl hL
    | cons x L => intro hh; have := congrArg List.length hh; simp [hf] at this)
  refine ⟨g, o, rfl, hR, fun j hj => ?_⟩
  have hfl := flat1 f hf L j hj
  cases hh : (f L[j])[0]? with
  | none => rw [List.getElem?_eq_none_iff, hf] at hh; omega
  | some u => rw [hh] at hfl; exact hr _ u hfl
/-- the three cells of element j -/
theorem sl_three {α : Type} {R : Nat → Prop} {w : World} {a : Option Addr} {c : Nat} {f : α → List Value} (hf : ∀ x, (f x).length = 3) {L : List α} (h : Sl R w (.slice a L.length c) L.length (L.flatMap f)) {j : Nat} (hj : j < L.length) :
    ∃ g o, a = some ⟨g, o, none⟩ ∧ R g ∧ w.cell? ⟨g, o + j * 3, none⟩ = (f L[j])[0]? ∧ w.cell? ⟨g, o + j * 3 + 1, none⟩ = (f L[j])[1]? ∧ w.cell? ⟨g, o + j * 3 + 2, none⟩ = (f L[j])[2]? := by
  obtain ⟨g, o, rfl, hg, hcell⟩ := sl_cell3 (f := f) hf h (fun h => by subst h; cases hj)
  exact ⟨g, o, rfl, hg, hcell j hj 0 (by omega), hcell j hj 1 (by omega), hcell j hj 2 (by omega)⟩
set_option maxRecDepth 20000 in
theorem IndexFunc_val {R : Nat → Prop} {w : World} {va : Value} {r : List V} {p : V → Bool} (h : Sl R w va r.length (r.flatMap V.cells)) (hR : ∀ k, R k → k < w.heap.size) (hn : r.length ≤ 1099511627776) (hf : ∀ x ∈ r, ∀ w, Calls Tryd.prog 68 #[vagg x] w fun e w' => e = .returned (.bool (p x)) ∧ Fr (fun _ => False) w w') :
    Calls Tryd.prog 75 #[va, .func (.func 68) #[] #[]] w fun e w' => e = .returned (.int .i64 (firstAt p r)) ∧ Fr (fun _ => False) w w' := by
  obtain ⟨a, c, rfl, hc, hx⟩ := h
  have HX := hid (show Sl R w (.slice a r.length c) r.length (r.flatMap V.cells) from ⟨a, c, rfl, hc, hx⟩)
  clear hx
  have HV := hid hf
  have F0 := hid (Fr.refl (fun _ => False) w)
  clear hf
  go_enter Tryd.func75, Tryd.ntmps75
  go_wp2_with (fail)
  go_loopw [8] (fun i wr => ∃ j : Nat, j ≤ r.length ∧ i = .int .i64 j ∧ (∀ i (hi : i < j) (hr : i < r.length), p r[i] = false) ∧ Fr (fun _ => False) w wr) (fun i _ => r.length - (intOf i).toNat)
  case atStart => exact ⟨0, by omega, rfl, fun i hi => by omega, F0.out⟩
  case round =>
    obtain ⟨j, hj, rfl, hall, fr⟩ := hrel
    by_cases hjl : j < r.length
    · obtain ⟨g, o, rfl, hg, q0, q1, q2⟩ := sl_three (f := V.cells) vcells_len (HX.out.fr fr (fun _ _ h => h)) hjl
      have HM := hid (HV.out r[j] (List.getElem_mem hjl))
      have FR := hid fr
      have HA := hid hall
      have i1 : (0 : Int) ≤ (j : Int) := by omega
      have i2 : (j : Int) < r.length := by omega
      simp only [V.cells, List.getElem?_cons_zero, List.getElem?_cons_succ] at q0 q1 q2
      have HP : ∀ b, p r[j] = b → Hid (p r[j] = b) := fun b h => hid h
      clear fr hall HX HV
      cases hr : p r[j] with
      | true =>
        have HR := HP _ hr
        rw [hr] at HM
        have hfa := hid (firstAt_hit hjl (fun i hi => HA.out i hi (by omega)) hr)
        clear hr HP HR
        go_wp2_with (go_at_call 68; refine (HM.out _).mono ?_; rintro e w1 ⟨rfl, f1⟩; have F1 := hid (FR.out.trans f1 (fun _ h _ => h)); clear f1)
        go_ret
        exact ⟨by rw [hfa.out]; exact ret_int (by go_num), F1.out⟩
      | false =>
        have HR := HP _ hr
        rw [hr] at HM
        clear hr HP
        go_wp2_with (go_at_call 68; refine (HM.out _).mono ?_; rintro e w1 ⟨rfl, f1⟩; have F1 := hid (FR.out.trans f1 (fun _ h _ => h)); clear f1)
        go_roundw
        case rel => exact ⟨j + 1, by omega, by go_num, fun i hi hr => by
          by_cases hij : i = j
          · subst hij; exact HR.out
          · exact HA.out i (by omega) hr, F1.out⟩
        case measure => simp [intOf]; omega
    · obtain rfl : j = r.length := by omega
      have FR := hid fr
      have hfa := hid (firstAt_none (p := p) (l := r) (fun i hi => hall i hi hi))
      clear HX HV fr hall
      go_wp2_with (fail)
      go_ret
      exact ⟨by rw [hfa.out]; rfl, FR.out⟩
theorem ContainsFunc_val {R : Nat → Prop} {w : World} {va : Value} {r : List V} {p : V → Bool} (h : Sl R w va r.length (r.flatMap V.cells)) (hR : ∀ k, R k → k < w.heap.size) (hn : r.length ≤ 1099511627776) (hf : ∀ x ∈ r, ∀ w, Calls Tryd.prog 68 #[vagg x] w fun e w' => e = .returned (.bool (p x)) ∧ Fr (fun _ => False) w w') :
    Calls Tryd.prog 67 #[va, .func (.func 68) #[] #[]] w fun e w' => e = .returned (.bool (r.any p)) ∧ Fr (fun _ => False) w w' := by
  have HI := hid (IndexFunc_val h hR hn hf)
  have HG := hid (firstAt_ge p r)
  clear h hR hn hf
  generalize firstAt p r = i at *
  generalize r.any p = b at *
  go_enter Tryd.func67, Tryd.ntmps67
  go_wp2_with (go_at_call 75; refine HI.out.mono ?_; rintro e w1 ⟨rfl, f1⟩)
  go_ret
  exact ⟨ret_bool HG.out, f1⟩
set_option maxRecDepth 20000 in
theorem IndexFunc_edit {R : Nat → Prop} {w : World} {va : Value} {r : List E} {p : E → Bool} (h : Sl R w va r.length (r.flatMap E.cells)) (hR : ∀ k, R k → k < w.heap.size) (hn : r.length ≤ 1099511627776) (hf : ∀ x ∈ r, ∀ w, Calls Tryd.prog 51 #[eagg x] w fun e w' => e = .returned (.bool (p x)) ∧ Fr (fun _ => False) w w') :
    Calls Tryd.prog 65 #[va, .func (.func 51) #[] #[]] w fun e w' => e = .returned (.int .i64 (firstAt p r)) ∧ Fr (fun _ => False) w w' := by
  obtain ⟨a, c, rfl, hc, hx⟩ := h
  have HX := hid (show Sl R w (.slice a r.length c) r.length (r.flatMap E.cells) from ⟨a, c, rfl, hc, hx⟩)
  clear hx
  have HV := hid hf
  have F0 := hid (Fr.refl (fun _ => False) w)
  clear hf
  go_enter Tryd.func65, Tryd.ntmps65
  go_wp2_with (fail)
  go_loopw [8] (fun i wr => ∃ j : Nat, j ≤ r.length ∧ i = .int .i64 j ∧ (∀ i (hi : i < j) (hr : i < r.length), p r[i] = false) ∧ Fr (fun _ => False) w wr) (fun i _ => r.length - (intOf i).toNat)
  case atStart => exact ⟨0, by omega, rfl, fun i hi => by omega, F0.out⟩
  case round =>
    obtain ⟨j, hj, rfl, hall, fr⟩ := hrel
    by_cases hjl : j < r.length
    · obtain ⟨g, o, rfl, hg, q0, q1, q2⟩ := sl_three (f := E.cells) ecells_len (HX.out.fr fr (fun _ _ h => h)) hjl
      have HM := hid (HV.out r[j] (List.getElem_mem hjl))
      have FR := hid fr
      have HA := hid hall
      have i1 : (0 : Int) ≤ (j : Int) := by omega
      have i2 : (j : Int) < r.length := by omega
      simp only [E.cells, List.getElem?_cons_zero, List.getElem?_cons_succ] at q0 q1 q2
      have HP : ∀ b, p r[j] = b → Hid (p r[j] = b) := fun b h => hid h
      clear fr hall HX HV
      cases hr : p r[j] with
      | true =>
        have HR := HP _ hr
        rw [hr] at HM
        have hfa := hid (firstAt_hit hjl (fun i hi => HA.out i hi (by omega)) hr)
        clear hr HP HR
        go_wp2_with (go_at_call 51; refine (HM.out _).mono ?_; rintro e w1 ⟨rfl, f1⟩; have F1 := hid (FR.out.trans f1 (fun _ h _ => h)); clear f1)
        go_ret
        exact ⟨by rw [hfa.out]; exact ret_int (by go_num), F1.out⟩
      | false =>
        have HR := HP _ hr
        rw [hr] at HM
        clear hr HP
        go_wp2_with (go_at_call 51; refine (HM.out _).mono ?_; rintro e w1 ⟨rfl, f1⟩; have F1 := hid (FR.out.trans f1 (fun _ h _ => h)); clear f1)
        go_roundw
        case rel => exact ⟨j + 1, by omega, by go_num, fun i hi hr => by
          by_cases hij : i = j
          · subst hij; exact HR.out
          · exact HA.out i (by omega) hr, F1.out⟩
        case measure => simp [intOf]; omega
    · obtain rfl : j = r.length := by omega
      have FR := hid fr
      have hfa := hid (firstAt_none (p := p) (l := r) (fun i hi => hall i hi hi))
      clear HX HV fr hall
      go_wp2_with (fail)
      go_ret
      exact ⟨by rw [hfa.out]; rfl, FR.out⟩
theorem ContainsFunc_edit {R : Nat → Prop} {w : World} {va : Value} {r : List E} {p : E → Bool} (h : Sl R w va r.length (r.flatMap E.cells)) (hR : ∀ k, R k → k < w.heap.size) (hn : r.length ≤ 1099511627776) (hf : ∀ x ∈ r, ∀ w, Calls Tryd.prog 51 #[eagg x] w fun e w' => e = .returned (.bool (p x)) ∧ Fr (fun _ => False) w w') :
    Calls Tryd.prog 50 #[va, .func (.func 51) #[] #[]] w fun e w' => e = .returned (.bool (r.any p)) ∧ Fr (fun _ => False) w w' := by
  have HI := hid (IndexFunc_edit h hR hn hf)
  have HG := hid (firstAt_ge p r)
  clear h hR hn hf
  generalize firstAt p r = i at *
  generalize r.any p = b at *
  go_enter Tryd.func50, Tryd.ntmps50
  go_wp2_with (go_at_call 65; refine HI.out.mono ?_; rintro e w1 ⟨rfl, f1⟩)
  go_ret
  exact ⟨ret_bool HG.out, f1⟩
set_option maxRecDepth 20000 in
theorem IndexFunc_int {R : Nat → Prop} {w : World} {va : Value} {r : List Int} {p : Int → Bool} (h : Sl R w va r.length (r.flatMap icell)) (hR : ∀ k, R k → k < w.heap.size) (hn : r.length ≤ 1099511627776) (hf : ∀ x ∈ r, ∀ w, Calls Tryd.prog 54 #[.int .i64 x] w fun e w' => e = .returned (.bool (p x)) ∧ Fr (fun _ => False) w w') :
    Calls Tryd.prog 66 #[va, .func (.func 54) #[] #[]] w fun e w' => e = .returned (.int .i64 (firstAt p r)) ∧ Fr (fun _ => False) w w' := by
  obtain ⟨a, c, rfl, hc, hx⟩ := h
  have HX := hid (show Sl R w (.slice a r.length c) r.length (r.flatMap icell) from ⟨a, c, rfl, hc, hx⟩)
  clear hx
  have HV := hid hf
  have F0 := hid (Fr.refl (fun _ => False) w)
  clear hf
  go_enter Tryd.func66, Tryd.ntmps66
  go_wp2_with (fail)
  go_loopw [8] (fun i wr => ∃ j : Nat, j ≤ r.length ∧ i = .int .i64 j ∧ (∀ i (hi : i < j) (hr : i < r.length), p r[i] = false) ∧ Fr (fun _ => False) w wr) (fun i _ => r.length - (intOf i).toNat)
  case atStart => exact ⟨0, by omega, rfl, fun i hi => by omega, F0.out⟩
  case round =>
    obtain ⟨j, hj, rfl, hall, fr⟩ := hrel
    by_cases hjl : j < r.length
    · obtain ⟨g, o, rfl, hg, hcell⟩ := sl_cell1 (f := icell) icell_len (HX.out.fr fr (fun _ _ h => h)) (fun h => by subst h; cases hjl)
      have q0 := hcell j hjl
      have HM := hid (HV.out r[j] (List.getElem_mem hjl))
      have FR := hid fr
      have HA := hid hall
      have i1 : (0 : Int) ≤ (j : Int) := by omega
      have i2 : (j : Int) < r.length := by omega
      simp only [icell, List.getElem?_cons_zero] at q0
      have HP : ∀ b, p r[j] = b → Hid (p r[j] = b) := fun b h => hid h
      clear fr hall HX HV hcell
      cases hr : p r[j] with
      | true =>
        have HR := HP _ hr
        rw [hr] at HM
        have hfa := hid (firstAt_hit hjl (fun i hi => HA.out i hi (by omega)) hr)
        clear hr HP HR
        go_wp2_with (go_at_call 54; refine (HM.out _).mono ?_; rintro e w1 ⟨rfl, f1⟩; have F1 := hid (FR.out.trans f1 (fun _ h _ => h)); clear f1)
        go_ret
        exact ⟨by rw [hfa.out]; exact ret_int (by go_num), F1.out⟩
      | false =>
        have HR := HP _ hr
        rw [hr] at HM
        clear hr HP
        go_wp2_with (go_at_call 54; refine (HM.out _).mono ?_; rintro e w1 ⟨rfl, f1⟩; have F1 := hid (FR.out.trans f1 (fun _ h _ => h)); clear f1)
        go_roundw
        case rel => exact ⟨j + 1, by omega, by go_num, fun i hi hr => by
          by_cases hij : i = j
          · subst hij; exact HR.out
          · exact HA.out i (by omega) hr, F1.out⟩
        case measure => simp [intOf]; omega
    · obtain rfl : j = r.length := by omega
      have FR := hid fr
      have hfa := hid (firstAt_none (p := p) (l := r) (fun i hi => hall i hi hi))
      clear HX HV fr hall
      go_wp2_with (fail)
      go_ret
      exact ⟨by rw [hfa.out]; rfl, FR.out⟩
theorem ContainsFunc_int {R : Nat → Prop} {w : World} {va : Value} {r : List Int} {p : Int → Bool} (h : Sl R w va r.length (r.flatMap icell)) (hR : ∀ k, R k → k < w.heap.size) (hn : r.length ≤ 1099511627776) (hf : ∀ x ∈ r, ∀ w, Calls Tryd.prog 54 #[.int .i64 x] w fun e w' => e = .returned (.bool (p x)) ∧ Fr (fun _ => False) w w') :
    Calls Tryd.prog 53 #[va, .func (.func 54) #[] #[]] w fun e w' => e = .returned (.bool (r.any p)) ∧ Fr (fun _ => False) w w' := by
  have HI := hid (IndexFunc_int h hR hn hf)
  have HG := hid (firstAt_ge p r)
  clear h hR hn hf
  generalize firstAt p r = i at *
  generalize r.any p = b at *
  go_enter Tryd.func53, Tryd.ntmps53
  go_wp2_with (go_at_call 66; refine HI.out.mono ?_; rintro e w1 ⟨rfl, f1⟩)
  go_ret
  exact ⟨ret_bool HG.out, f1⟩
end Go.Proofs.YtfhkmiifndhacaaDoor
