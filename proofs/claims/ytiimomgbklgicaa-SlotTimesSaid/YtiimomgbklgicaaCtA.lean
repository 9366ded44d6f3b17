import Derived.Test.YtiimomgbklgicaaCtO
import Derived.Test.YtiimomgbklgicaaCpV
/- Tables in memory; slices.IndexFunc, ContainsFunc. -/
set_option linter.unusedVariables false
namespace Go.VB.Cat
open Go.VB Go.VB.Oct
/-- an index with the value of its columns -/
structure IxV where
  x : Ix
  v : Value
/-- a table with the values of its slices -/
structure TabV where
  t : Tab
  vc : Value
  vi : Value
  ix : List IxV
def Col.cells (c : Col) : List Value := [.string (bs c.name), .int .i64 c.kind]
def IxV.cells (x : IxV) : List Value := [.string (bs x.x.name), x.v, .int .i64 x.x.root]
def TabV.cells (t : TabV) : List Value := [.int .i64 t.t.id, .string (bs t.t.name), t.vc, t.vi]
def scell (s : Bs) : List Value := [.string (bs s)]
def Col.agg (c : Col) : Value := .agg c.cells.toArray
def IxV.agg (x : IxV) : Value := .agg x.cells.toArray
def TabV.agg (t : TabV) : Value := .agg t.cells.toArray
def sval (s : Bs) : Value := .string (bs s)
theorem col_len (c : Col) : c.cells.length = 2 := rfl
theorem ix_len (x : IxV) : x.cells.length = 3 := rfl
theorem tab_len (t : TabV) : t.cells.length = 4 := rfl
theorem scell_len (s : Bs) : (scell s).length = 1 := rfl
/-- cell i of element j, k cells an element -/
theorem flatK {α : Type} {k : Nat} (f : α → List Value) (hf : ∀ x, (f x).length = k) : ∀ (L : List α) (j : Nat) (h : j < L.length) (i : Nat), i < k → (L.flatMap f)[j * k + i]? = (f L[j])[i]?
  | x :: L, 0, _, i, hi => by simp [List.getElem?_append, hf, hi]
  | x :: L, j + 1, h, i, hi => by
    rw [List.flatMap_cons, List.getElem?_append_right (by rw [hf, Nat.succ_mul]; omega), hf, show (j + 1) * k + i - k = j * k + i by rw [Nat.succ_mul]; omega, flatK f hf L j (by simpa using h) i hi]
    rfl
theorem slK {α : Type} {k : Nat} {R : Nat → Prop} {w : World} {a : Option Addr} {c : Nat} {f : α → List Value} (hk : 0 < k) (hf : ∀ x, (f x).length = k) {L : List α} (h : Sl R w (.slice a L.length c) L.length (L.flatMap f)) {j : Nat} (hj : j < L.length) :
    ∃ g o, a = some ⟨g, o, none⟩ ∧ R g ∧ ∀ i, i < k → w.cell? ⟨g, o + j * k + i, none⟩ = (f L[j])[i]? := by
  obtain ⟨a', cap, he, hc, hx⟩ := h
  cases he
  obtain ⟨g, o, rfl, hR, hr⟩ := hx (by
    intro e
    have hl := congrArg List.length e
    cases L with
    | nil => cases hj
    | cons x L => simp [hf] at hl; omega)
  refine ⟨g, o, rfl, hR, fun i hi => ?_⟩
  have hfl := flatK f hf L j hj i hi
  cases hh : (f L[j])[i]? with
  | none => rw [List.getElem?_eq_none_iff, hf] at hh; omega
  | some u => rw [hh] at hfl; rw [Nat.add_assoc]; exact hr _ u hfl
theorem pos_ge {α : Type} (p : α → Bool) (l : List α) : decide (0 ≤ pos p l) = l.any p := by
  rcases pos_cases p l with ⟨h1, h2⟩ | ⟨i, hi, h1, h2, _⟩
  · rw [h1, List.any_eq_false.2 (fun x hx => by rw [h2 x hx]; decide)]; rfl
  · rw [h1, List.any_eq_true.2 ⟨l[i], List.getElem_mem hi, h2⟩]; exact decide_eq_true (by omega)
end Go.VB.Cat
namespace Go.Proofs.Ytiimomgbklgicaa
open Go.RowKit Go.VB Go.VB.Oct Go.VB.Cat
set_option maxRecDepth 20000 in
theorem IndexFunc_find {R : Nat → Prop} {w : World} {va cv : Value} {r : List TabV} {p : TabV → Bool} (h : Sl R w va r.length (r.flatMap TabV.cells)) (hn : r.length ≤ 1099511627776) (hf : ∀ x ∈ r, ∀ w', Fr (fun _ => False) w w' → Calls Try.prog 103 #[TabV.agg x, cv] w' fun e w'' => e = .returned (.bool (p x)) ∧ Fr (fun _ => False) w' w'') :
    Calls Try.prog 102 #[va, .func (.func 103) #[] #[cv]] w fun e w' => e = .returned (.int .i64 (pos p r)) ∧ Fr (fun _ => False) w w' := by
  obtain ⟨a, c, rfl, hc, hx⟩ := h
  have HX := hid (show Sl R w (.slice a r.length c) r.length (r.flatMap TabV.cells) from ⟨a, c, rfl, hc, hx⟩)
  clear hx
  have HV := hid hf
  have F0 := hid (Fr.refl (fun _ => False) w)
  clear hf
  go_enter Try.func102, Try.ntmps102
  go_wp2_with (fail)
  go_loopw [8] (fun i wr => ∃ j : Nat, j ≤ r.length ∧ i = .int .i64 j ∧ (∀ i (hi : i < j) (hr : i < r.length), p r[i] = false) ∧ Fr (fun _ => False) w wr) (fun i _ => r.length - (intOf i).toNat)
  case atStart => exact ⟨0, by omega, rfl, fun i hi => by omega, F0.out⟩
  case round =>
    obtain ⟨j, hj, rfl, hall, fr⟩ := hrel
    by_cases hjl : j < r.length
    · obtain ⟨g, o, rfl, hg, q⟩ := slK (k := 4) (f := TabV.cells) (by decide) tab_len (HX.out.fr fr (fun _ _ h => h)) hjl
      have HQ := hid q
      have HM := hid (HV.out r[j] (List.getElem_mem hjl))
      have FR := hid fr
      have HA := hid hall
      have i1 : (0 : Int) ≤ (j : Int) := by omega
      have i2 : (j : Int) < r.length := by omega
      have HP : ∀ b, p r[j] = b → Hid (p r[j] = b) := fun b h => hid h
      have q0 := HQ.out 0 (by decide); have q1 := HQ.out 1 (by decide); have q2 := HQ.out 2 (by decide); have q3 := HQ.out 3 (by decide)
      clear fr hall HX HV q
      cases hr : p r[j] with
      | true =>
        have HR := HP _ hr
        rw [hr] at HM
        have hfa := hid (pos_at hjl hr (fun i hi => HA.out i hi (by omega)))
        clear hr HP HR HQ
        generalize r[j] = x at *
        simp only [TabV.cells, Nat.add_zero, List.getElem?_cons_zero, List.getElem?_cons_succ] at q0 q1 q2 q3
        go_wp2_with (go_at_call 103; refine (HM.out _ FR.out).mono ?_; rintro e w1 ⟨rfl, f1⟩; have F1 := hid (FR.out.trans f1 (fun _ h _ => h)); clear f1)
        go_ret
        exact ⟨by rw [hfa.out]; exact ret_int (by go_num), F1.out⟩
      | false =>
        have HR := HP _ hr
        rw [hr] at HM
        clear hr HP HQ
        obtain ⟨x, hx⟩ : ∃ x, x = r[j] := ⟨_, rfl⟩
        rw [← hx] at q0 q1 q2 q3 HM
        clear hx
        simp only [TabV.cells, Nat.add_zero, List.getElem?_cons_zero, List.getElem?_cons_succ] at q0 q1 q2 q3
        go_wp2_with (go_at_call 103; refine (HM.out _ FR.out).mono ?_; rintro e w1 ⟨rfl, f1⟩; have F1 := hid (FR.out.trans f1 (fun _ h _ => h)); clear f1)
        go_roundw
        case rel => exact ⟨j + 1, by omega, by go_num, fun i hi hr => by
          by_cases hij : i = j
          · subst hij; exact HR.out
          · exact HA.out i (by omega) hr, F1.out⟩
        case measure => simp [intOf]; omega
    · obtain rfl : j = r.length := by omega
      have FR := hid fr
      have hfa := hid (pos_none (p := p) (l := r) (fun x hx => by obtain ⟨i, hi, rfl⟩ := List.getElem_of_mem hx; exact hall i hi hi))
      clear HX HV fr hall
      go_wp2_with (fail)
      go_ret
      exact ⟨by rw [hfa.out]; rfl, FR.out⟩
theorem ContainsFunc_find {R : Nat → Prop} {w : World} {va cv : Value} {r : List TabV} {p : TabV → Bool} (h : Sl R w va r.length (r.flatMap TabV.cells)) (hn : r.length ≤ 1099511627776) (hf : ∀ x ∈ r, ∀ w', Fr (fun _ => False) w w' → Calls Try.prog 103 #[TabV.agg x, cv] w' fun e w'' => e = .returned (.bool (p x)) ∧ Fr (fun _ => False) w' w'') :
    Calls Try.prog 89 #[va, .func (.func 103) #[] #[cv]] w fun e w' => e = .returned (.bool (r.any p)) ∧ Fr (fun _ => False) w w' := by
  have HI := hid (IndexFunc_find (cv := cv) h hn hf)
  have HG := hid (pos_ge p r)
  clear h hn hf
  generalize pos p r = i at *
  generalize r.any p = b at *
  go_enter Try.func89, Try.ntmps89
  go_wp2_with (go_at_call 102; refine HI.out.mono ?_; rintro e w1 ⟨rfl, f1⟩)
  go_ret
  exact ⟨ret_bool HG.out, f1⟩
set_option maxRecDepth 20000 in
theorem IndexFunc_has {R : Nat → Prop} {w : World} {va cv : Value} {r : List TabV} {p : TabV → Bool} (h : Sl R w va r.length (r.flatMap TabV.cells)) (hn : r.length ≤ 1099511627776) (hf : ∀ x ∈ r, ∀ w', Fr (fun _ => False) w w' → Calls Try.prog 90 #[TabV.agg x, cv] w' fun e w'' => e = .returned (.bool (p x)) ∧ Fr (fun _ => False) w' w'') :
    Calls Try.prog 102 #[va, .func (.func 90) #[] #[cv]] w fun e w' => e = .returned (.int .i64 (pos p r)) ∧ Fr (fun _ => False) w w' := by
  obtain ⟨a, c, rfl, hc, hx⟩ := h
  have HX := hid (show Sl R w (.slice a r.length c) r.length (r.flatMap TabV.cells) from ⟨a, c, rfl, hc, hx⟩)
  clear hx
  have HV := hid hf
  have F0 := hid (Fr.refl (fun _ => False) w)
  clear hf
  go_enter Try.func102, Try.ntmps102
  go_wp2_with (fail)
  go_loopw [8] (fun i wr => ∃ j : Nat, j ≤ r.length ∧ i = .int .i64 j ∧ (∀ i (hi : i < j) (hr : i < r.length), p r[i] = false) ∧ Fr (fun _ => False) w wr) (fun i _ => r.length - (intOf i).toNat)
  case atStart => exact ⟨0, by omega, rfl, fun i hi => by omega, F0.out⟩
  case round =>
    obtain ⟨j, hj, rfl, hall, fr⟩ := hrel
    by_cases hjl : j < r.length
    · obtain ⟨g, o, rfl, hg, q⟩ := slK (k := 4) (f := TabV.cells) (by decide) tab_len (HX.out.fr fr (fun _ _ h => h)) hjl
      have HQ := hid q
      have HM := hid (HV.out r[j] (List.getElem_mem hjl))
      have FR := hid fr
      have HA := hid hall
      have i1 : (0 : Int) ≤ (j : Int) := by omega
      have i2 : (j : Int) < r.length := by omega
      have HP : ∀ b, p r[j] = b → Hid (p r[j] = b) := fun b h => hid h
      have q0 := HQ.out 0 (by decide); have q1 := HQ.out 1 (by decide); have q2 := HQ.out 2 (by decide); have q3 := HQ.out 3 (by decide)
      clear fr hall HX HV q
      cases hr : p r[j] with
      | true =>
        have HR := HP _ hr
        rw [hr] at HM
        have hfa := hid (pos_at hjl hr (fun i hi => HA.out i hi (by omega)))
        clear hr HP HR HQ
        generalize r[j] = x at *
        simp only [TabV.cells, Nat.add_zero, List.getElem?_cons_zero, List.getElem?_cons_succ] at q0 q1 q2 q3
        go_wp2_with (go_at_call 90; refine (HM.out _ FR.out).mono ?_; rintro e w1 ⟨rfl, f1⟩; have F1 := hid (FR.out.trans f1 (fun _ h _ => h)); clear f1)
        go_ret
        exact ⟨by rw [hfa.out]; exact ret_int (by go_num), F1.out⟩
      | false =>
        have HR := HP _ hr
        rw [hr] at HM
        clear hr HP HQ
        obtain ⟨x, hx⟩ : ∃ x, x = r[j] := ⟨_, rfl⟩
        rw [← hx] at q0 q1 q2 q3 HM
        clear hx
        simp only [TabV.cells, Nat.add_zero, List.getElem?_cons_zero, List.getElem?_cons_succ] at q0 q1 q2 q3
        go_wp2_with (go_at_call 90; refine (HM.out _ FR.out).mono ?_; rintro e w1 ⟨rfl, f1⟩; have F1 := hid (FR.out.trans f1 (fun _ h _ => h)); clear f1)
        go_roundw
        case rel => exact ⟨j + 1, by omega, by go_num, fun i hi hr => by
          by_cases hij : i = j
          · subst hij; exact HR.out
          · exact HA.out i (by omega) hr, F1.out⟩
        case measure => simp [intOf]; omega
    · obtain rfl : j = r.length := by omega
      have FR := hid fr
      have hfa := hid (pos_none (p := p) (l := r) (fun x hx => by obtain ⟨i, hi, rfl⟩ := List.getElem_of_mem hx; exact hall i hi hi))
      clear HX HV fr hall
      go_wp2_with (fail)
      go_ret
      exact ⟨by rw [hfa.out]; rfl, FR.out⟩
theorem ContainsFunc_has {R : Nat → Prop} {w : World} {va cv : Value} {r : List TabV} {p : TabV → Bool} (h : Sl R w va r.length (r.flatMap TabV.cells)) (hn : r.length ≤ 1099511627776) (hf : ∀ x ∈ r, ∀ w', Fr (fun _ => False) w w' → Calls Try.prog 90 #[TabV.agg x, cv] w' fun e w'' => e = .returned (.bool (p x)) ∧ Fr (fun _ => False) w' w'') :
    Calls Try.prog 89 #[va, .func (.func 90) #[] #[cv]] w fun e w' => e = .returned (.bool (r.any p)) ∧ Fr (fun _ => False) w w' := by
  have HI := hid (IndexFunc_has (cv := cv) h hn hf)
  have HG := hid (pos_ge p r)
  clear h hn hf
  generalize pos p r = i at *
  generalize r.any p = b at *
  go_enter Try.func89, Try.ntmps89
  go_wp2_with (go_at_call 102; refine HI.out.mono ?_; rintro e w1 ⟨rfl, f1⟩)
  go_ret
  exact ⟨ret_bool HG.out, f1⟩
set_option maxRecDepth 20000 in
theorem IndexFunc_ix {R : Nat → Prop} {w : World} {va cv : Value} {r : List IxV} {p : IxV → Bool} (h : Sl R w va r.length (r.flatMap IxV.cells)) (hn : r.length ≤ 1099511627776) (hf : ∀ x ∈ r, ∀ w', Fr (fun _ => False) w w' → Calls Try.prog 87 #[IxV.agg x, cv] w' fun e w'' => e = .returned (.bool (p x)) ∧ Fr (fun _ => False) w' w'') :
    Calls Try.prog 106 #[va, .func (.func 87) #[] #[cv]] w fun e w' => e = .returned (.int .i64 (pos p r)) ∧ Fr (fun _ => False) w w' := by
  obtain ⟨a, c, rfl, hc, hx⟩ := h
  have HX := hid (show Sl R w (.slice a r.length c) r.length (r.flatMap IxV.cells) from ⟨a, c, rfl, hc, hx⟩)
  clear hx
  have HV := hid hf
  have F0 := hid (Fr.refl (fun _ => False) w)
  clear hf
  go_enter Try.func106, Try.ntmps106
  go_wp2_with (fail)
  go_loopw [8] (fun i wr => ∃ j : Nat, j ≤ r.length ∧ i = .int .i64 j ∧ (∀ i (hi : i < j) (hr : i < r.length), p r[i] = false) ∧ Fr (fun _ => False) w wr) (fun i _ => r.length - (intOf i).toNat)
  case atStart => exact ⟨0, by omega, rfl, fun i hi => by omega, F0.out⟩
  case round =>
    obtain ⟨j, hj, rfl, hall, fr⟩ := hrel
    by_cases hjl : j < r.length
    · obtain ⟨g, o, rfl, hg, q⟩ := slK (k := 3) (f := IxV.cells) (by decide) ix_len (HX.out.fr fr (fun _ _ h => h)) hjl
      have HQ := hid q
      have HM := hid (HV.out r[j] (List.getElem_mem hjl))
      have FR := hid fr
      have HA := hid hall
      have i1 : (0 : Int) ≤ (j : Int) := by omega
      have i2 : (j : Int) < r.length := by omega
      have HP : ∀ b, p r[j] = b → Hid (p r[j] = b) := fun b h => hid h
      have q0 := HQ.out 0 (by decide); have q1 := HQ.out 1 (by decide); have q2 := HQ.out 2 (by decide)
      clear fr hall HX HV q
      cases hr : p r[j] with
      | true =>
        have HR := HP _ hr
        rw [hr] at HM
        have hfa := hid (pos_at hjl hr (fun i hi => HA.out i hi (by omega)))
        clear hr HP HR HQ
        generalize r[j] = x at *
        simp only [IxV.cells, Nat.add_zero, List.getElem?_cons_zero, List.getElem?_cons_succ] at q0 q1 q2
        go_wp2_with (go_at_call 87; refine (HM.out _ FR.out).mono ?_; rintro e w1 ⟨rfl, f1⟩; have F1 := hid (FR.out.trans f1 (fun _ h _ => h)); clear f1)
        go_ret
        exact ⟨by rw [hfa.out]; exact ret_int (by go_num), F1.out⟩
      | false =>
        have HR := HP _ hr
        rw [hr] at HM
        clear hr HP HQ
        obtain ⟨x, hx⟩ : ∃ x, x = r[j] := ⟨_, rfl⟩
        rw [← hx] at q0 q1 q2 HM
        clear hx
        simp only [IxV.cells, Nat.add_zero, List.getElem?_cons_zero, List.getElem?_cons_succ] at q0 q1 q2
        go_wp2_with (go_at_call 87; refine (HM.out _ FR.out).mono ?_; rintro e w1 ⟨rfl, f1⟩; have F1 := hid (FR.out.trans f1 (fun _ h _ => h)); clear f1)
        go_roundw
        case rel => exact ⟨j + 1, by omega, by go_num, fun i hi hr => by
          by_cases hij : i = j
          · subst hij; exact HR.out
          · exact HA.out i (by omega) hr, F1.out⟩
        case measure => simp [intOf]; omega
    · obtain rfl : j = r.length := by omega
      have FR := hid fr
      have hfa := hid (pos_none (p := p) (l := r) (fun x hx => by obtain ⟨i, hi, rfl⟩ := List.getElem_of_mem hx; exact hall i hi hi))
      clear HX HV fr hall
      go_wp2_with (fail)
      go_ret
      exact ⟨by rw [hfa.out]; rfl, FR.out⟩
theorem ContainsFunc_ix {R : Nat → Prop} {w : World} {va cv : Value} {r : List IxV} {p : IxV → Bool} (h : Sl R w va r.length (r.flatMap IxV.cells)) (hn : r.length ≤ 1099511627776) (hf : ∀ x ∈ r, ∀ w', Fr (fun _ => False) w w' → Calls Try.prog 87 #[IxV.agg x, cv] w' fun e w'' => e = .returned (.bool (p x)) ∧ Fr (fun _ => False) w' w'') :
    Calls Try.prog 91 #[va, .func (.func 87) #[] #[cv]] w fun e w' => e = .returned (.bool (r.any p)) ∧ Fr (fun _ => False) w w' := by
  have HI := hid (IndexFunc_ix (cv := cv) h hn hf)
  have HG := hid (pos_ge p r)
  clear h hn hf
  generalize pos p r = i at *
  generalize r.any p = b at *
  go_enter Try.func91, Try.ntmps91
  go_wp2_with (go_at_call 106; refine HI.out.mono ?_; rintro e w1 ⟨rfl, f1⟩)
  go_ret
  exact ⟨ret_bool HG.out, f1⟩
set_option maxRecDepth 20000 in
theorem IndexFunc_named {R : Nat → Prop} {w : World} {va cv : Value} {r : List Bs} {p : Bs → Bool} (h : Sl R w va r.length (r.flatMap scell)) (hn : r.length ≤ 1099511627776) (hf : ∀ x ∈ r, ∀ w', Fr (fun _ => False) w w' → Calls Try.prog 80 #[sval x] w' fun e w'' => e = .returned (.bool (p x)) ∧ Fr (fun _ => False) w' w'') :
    Calls Try.prog 100 #[va, .func (.func 80) #[] #[]] w fun e w' => e = .returned (.int .i64 (pos p r)) ∧ Fr (fun _ => False) w w' := by
  obtain ⟨a, c, rfl, hc, hx⟩ := h
  have HX := hid (show Sl R w (.slice a r.length c) r.length (r.flatMap scell) from ⟨a, c, rfl, hc, hx⟩)
  clear hx
  have HV := hid hf
  have F0 := hid (Fr.refl (fun _ => False) w)
  clear hf
  go_enter Try.func100, Try.ntmps100
  go_wp2_with (fail)
  go_loopw [8] (fun i wr => ∃ j : Nat, j ≤ r.length ∧ i = .int .i64 j ∧ (∀ i (hi : i < j) (hr : i < r.length), p r[i] = false) ∧ Fr (fun _ => False) w wr) (fun i _ => r.length - (intOf i).toNat)
  case atStart => exact ⟨0, by omega, rfl, fun i hi => by omega, F0.out⟩
  case round =>
    obtain ⟨j, hj, rfl, hall, fr⟩ := hrel
    by_cases hjl : j < r.length
    · obtain ⟨g, o, rfl, hg, q⟩ := slK (k := 1) (f := scell) (by decide) scell_len (HX.out.fr fr (fun _ _ h => h)) hjl
      have HQ := hid q
      have HM := hid (HV.out r[j] (List.getElem_mem hjl))
      have FR := hid fr
      have HA := hid hall
      have i1 : (0 : Int) ≤ (j : Int) := by omega
      have i2 : (j : Int) < r.length := by omega
      have HP : ∀ b, p r[j] = b → Hid (p r[j] = b) := fun b h => hid h
      have q0 := HQ.out 0 (by decide)
      clear fr hall HX HV q
      cases hr : p r[j] with
      | true =>
        have HR := HP _ hr
        rw [hr] at HM
        have hfa := hid (pos_at hjl hr (fun i hi => HA.out i hi (by omega)))
        clear hr HP HR HQ
        generalize r[j] = x at *
        simp only [scell, Nat.add_zero, Nat.mul_one, List.getElem?_cons_zero] at q0
        go_wp2_with (go_at_call 80; refine (HM.out _ FR.out).mono ?_; rintro e w1 ⟨rfl, f1⟩; have F1 := hid (FR.out.trans f1 (fun _ h _ => h)); clear f1)
        go_ret
        exact ⟨by rw [hfa.out]; exact ret_int (by go_num), F1.out⟩
      | false =>
        have HR := HP _ hr
        rw [hr] at HM
        clear hr HP HQ
        obtain ⟨x, hx⟩ : ∃ x, x = r[j] := ⟨_, rfl⟩
        rw [← hx] at q0 HM
        clear hx
        simp only [scell, Nat.add_zero, Nat.mul_one, List.getElem?_cons_zero] at q0
        go_wp2_with (go_at_call 80; refine (HM.out _ FR.out).mono ?_; rintro e w1 ⟨rfl, f1⟩; have F1 := hid (FR.out.trans f1 (fun _ h _ => h)); clear f1)
        go_roundw
        case rel => exact ⟨j + 1, by omega, by go_num, fun i hi hr => by
          by_cases hij : i = j
          · subst hij; exact HR.out
          · exact HA.out i (by omega) hr, F1.out⟩
        case measure => simp [intOf]; omega
    · obtain rfl : j = r.length := by omega
      have FR := hid fr
      have hfa := hid (pos_none (p := p) (l := r) (fun x hx => by obtain ⟨i, hi, rfl⟩ := List.getElem_of_mem hx; exact hall i hi hi))
      clear HX HV fr hall
      go_wp2_with (fail)
      go_ret
      exact ⟨by rw [hfa.out]; rfl, FR.out⟩
theorem ContainsFunc_named {R : Nat → Prop} {w : World} {va cv : Value} {r : List Bs} {p : Bs → Bool} (h : Sl R w va r.length (r.flatMap scell)) (hn : r.length ≤ 1099511627776) (hf : ∀ x ∈ r, ∀ w', Fr (fun _ => False) w w' → Calls Try.prog 80 #[sval x] w' fun e w'' => e = .returned (.bool (p x)) ∧ Fr (fun _ => False) w' w'') :
    Calls Try.prog 79 #[va, .func (.func 80) #[] #[]] w fun e w' => e = .returned (.bool (r.any p)) ∧ Fr (fun _ => False) w w' := by
  have HI := hid (IndexFunc_named (cv := cv) h hn hf)
  have HG := hid (pos_ge p r)
  clear h hn hf
  generalize pos p r = i at *
  generalize r.any p = b at *
  go_enter Try.func79, Try.ntmps79
  go_wp2_with (go_at_call 100; refine HI.out.mono ?_; rintro e w1 ⟨rfl, f1⟩)
  go_ret
  exact ⟨ret_bool HG.out, f1⟩
set_option maxRecDepth 20000 in
theorem IndexFunc_kind {R : Nat → Prop} {w : World} {va cv : Value} {r : List Col} {p : Col → Bool} (h : Sl R w va r.length (r.flatMap Col.cells)) (hn : r.length ≤ 1099511627776) (hf : ∀ x ∈ r, ∀ w', Fr (fun _ => False) w w' → Calls Try.prog 82 #[Col.agg x] w' fun e w'' => e = .returned (.bool (p x)) ∧ Fr (fun _ => False) w' w'') :
    Calls Try.prog 101 #[va, .func (.func 82) #[] #[]] w fun e w' => e = .returned (.int .i64 (pos p r)) ∧ Fr (fun _ => False) w w' := by
  obtain ⟨a, c, rfl, hc, hx⟩ := h
  have HX := hid (show Sl R w (.slice a r.length c) r.length (r.flatMap Col.cells) from ⟨a, c, rfl, hc, hx⟩)
  clear hx
  have HV := hid hf
  have F0 := hid (Fr.refl (fun _ => False) w)
  clear hf
  go_enter Try.func101, Try.ntmps101
  go_wp2_with (fail)
  go_loopw [8] (fun i wr => ∃ j : Nat, j ≤ r.length ∧ i = .int .i64 j ∧ (∀ i (hi : i < j) (hr : i < r.length), p r[i] = false) ∧ Fr (fun _ => False) w wr) (fun i _ => r.length - (intOf i).toNat)
  case atStart => exact ⟨0, by omega, rfl, fun i hi => by omega, F0.out⟩
  case round =>
    obtain ⟨j, hj, rfl, hall, fr⟩ := hrel
    by_cases hjl : j < r.length
    · obtain ⟨g, o, rfl, hg, q⟩ := slK (k := 2) (f := Col.cells) (by decide) col_len (HX.out.fr fr (fun _ _ h => h)) hjl
      have HQ := hid q
      have HM := hid (HV.out r[j] (List.getElem_mem hjl))
      have FR := hid fr
      have HA := hid hall
      have i1 : (0 : Int) ≤ (j : Int) := by omega
      have i2 : (j : Int) < r.length := by omega
      have HP : ∀ b, p r[j] = b → Hid (p r[j] = b) := fun b h => hid h
      have q0 := HQ.out 0 (by decide); have q1 := HQ.out 1 (by decide)
      clear fr hall HX HV q
      cases hr : p r[j] with
      | true =>
        have HR := HP _ hr
        rw [hr] at HM
        have hfa := hid (pos_at hjl hr (fun i hi => HA.out i hi (by omega)))
        clear hr HP HR HQ
        generalize r[j] = x at *
        simp only [Col.cells, Nat.add_zero, List.getElem?_cons_zero, List.getElem?_cons_succ] at q0 q1
        go_wp2_with (go_at_call 82; refine (HM.out _ FR.out).mono ?_; rintro e w1 ⟨rfl, f1⟩; have F1 := hid (FR.out.trans f1 (fun _ h _ => h)); clear f1)
        go_ret
        exact ⟨by rw [hfa.out]; exact ret_int (by go_num), F1.out⟩
      | false =>
        have HR := HP _ hr
        rw [hr] at HM
        clear hr HP HQ
        obtain ⟨x, hx⟩ : ∃ x, x = r[j] := ⟨_, rfl⟩
        rw [← hx] at q0 q1 HM
        clear hx
        simp only [Col.cells, Nat.add_zero, List.getElem?_cons_zero, List.getElem?_cons_succ] at q0 q1
        go_wp2_with (go_at_call 82; refine (HM.out _ FR.out).mono ?_; rintro e w1 ⟨rfl, f1⟩; have F1 := hid (FR.out.trans f1 (fun _ h _ => h)); clear f1)
        go_roundw
        case rel => exact ⟨j + 1, by omega, by go_num, fun i hi hr => by
          by_cases hij : i = j
          · subst hij; exact HR.out
          · exact HA.out i (by omega) hr, F1.out⟩
        case measure => simp [intOf]; omega
    · obtain rfl : j = r.length := by omega
      have FR := hid fr
      have hfa := hid (pos_none (p := p) (l := r) (fun x hx => by obtain ⟨i, hi, rfl⟩ := List.getElem_of_mem hx; exact hall i hi hi))
      clear HX HV fr hall
      go_wp2_with (fail)
      go_ret
      exact ⟨by rw [hfa.out]; rfl, FR.out⟩
theorem ContainsFunc_kind {R : Nat → Prop} {w : World} {va cv : Value} {r : List Col} {p : Col → Bool} (h : Sl R w va r.length (r.flatMap Col.cells)) (hn : r.length ≤ 1099511627776) (hf : ∀ x ∈ r, ∀ w', Fr (fun _ => False) w w' → Calls Try.prog 82 #[Col.agg x] w' fun e w'' => e = .returned (.bool (p x)) ∧ Fr (fun _ => False) w' w'') :
    Calls Try.prog 81 #[va, .func (.func 82) #[] #[]] w fun e w' => e = .returned (.bool (r.any p)) ∧ Fr (fun _ => False) w w' := by
  have HI := hid (IndexFunc_kind (cv := cv) h hn hf)
  have HG := hid (pos_ge p r)
  clear h hn hf
  generalize pos p r = i at *
  generalize r.any p = b at *
  go_enter Try.func81, Try.ntmps81
  go_wp2_with (go_at_call 101; refine HI.out.mono ?_; rintro e w1 ⟨rfl, f1⟩)
  go_ret
  exact ⟨ret_bool HG.out, f1⟩
end Go.Proofs.Ytiimomgbklgicaa
