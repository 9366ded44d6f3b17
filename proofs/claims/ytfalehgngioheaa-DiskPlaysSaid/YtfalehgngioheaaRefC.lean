import Derived.Test.YtfalehgngioheaaRefB
import Derived.Test.YtfalehgngioheaaDiskFew
/- The reference's disk: Read, Safe. -/
set_option linter.unusedVariables false
namespace Go.Proofs.Ytfalehgngioheaa
open Go.RowKit Go.VB Go.VB.Disk
variable {S : Nat → Prop} {w : World} {d : Nat} {m : DM} {pv : Value} {wv : List Value}
theorem Try.size_page : (Try.prog.info? 89).map (·.size) = some 2 := by kernel_rfl
theorem Try.size_got : (Try.prog.info? 62).map (·.size) = some 2 := by kernel_rfl
theorem rcells_at (ps : List Pg) (wv : List Value) (hl : wv.length = ps.length) (k : Nat) (hk : k < ps.length) (j : Nat) (hj : j < 2) : (rcells ps wv)[k * 2 + j]? = [Value.string (bs ps[k].safe), wv[k]'(by omega)][j]? := by
  unfold rcells
  rw [flatMap_at _ 2 (fun _ => rfl) (ps.zip wv) k (by simp; omega) j hj]
  simp
theorem RRep.page (h : RRep S w d m pv wv) {k : Nat} (hk : k < m.pages.length) : ∃ g c, pv = .slice (some ⟨g, 0, none⟩) m.pages.length c ∧ S g ∧ w.cell? ⟨g, k * 2, none⟩ = some (.string (bs m.pages[k].safe)) ∧ w.cell? ⟨g, k * 2 + 1, none⟩ = some (wv[k]'(by rw [h.len]; exact hk)) := by
  rcases h.own.2 with ⟨rfl, h0⟩ | ⟨g, cap, cur, rfl, hb, hgg, h1, h2, h3, h4⟩
  · omega
  · have hs := own_sl (R := fun k => k = g) h.own (fun k hk => by simpa [Value.ownBlock] using hk.symm)
    obtain ⟨a, c, hv, -, hr⟩ := hs
    obtain ⟨rfl, rfl⟩ : some (⟨g, 0, none⟩ : Addr) = a ∧ cap = c := by simpa using hv
    have hne : rcells m.pages wv ≠ [] := by
      intro e
      have := rcells_at m.pages wv h.len k hk 0 (by omega)
      rw [e] at this
      simp at this
    obtain ⟨g', o', he, -, hr⟩ := hr hne
    obtain ⟨rfl, rfl⟩ : g = g' ∧ 0 = o' := by simpa using he
    refine ⟨g, cap, rfl, h.reg g rfl, ?_, ?_⟩
    · have := hr (k * 2 + 0) _ (by rw [rcells_at m.pages wv h.len k hk 0 (by omega)]; rfl)
      simpa using this
    · have := hr (k * 2 + 1) _ (by rw [rcells_at m.pages wv h.len k hk 1 (by omega)]; rfl)
      simpa using this
theorem RRep.write (h : RRep S w d m pv wv) {k : Nat} (hk : k < m.pages.length) : w.ownsRow 0 9 1 (wv[k]'(by rw [h.len]; exact hk)) m.pages[k].ws.length (sv m.pages[k].ws) :=
  (h.ws k _ _ (List.getElem?_eq_getElem hk) (List.getElem?_eq_getElem (by rw [h.len]; exact hk))).1
set_option maxHeartbeats 1000000 in
theorem Safe_ref (h : RRep S w d m pv wv) (n : Int) (hlen : m.pages.length ≤ 400) :
    Calls Try.prog 56 #[.pointer (some ⟨d, 0, none⟩), .int .i64 n] w fun e w' => e = .returned (.agg #[.string (bs (m.safeOf n).1), .int .i64 (m.safeOf n).2]) ∧ Fr (fun _ => False) w w' := by
  have fa := fun c => (Fr.refl (fun _ => False) w).alloc (.cells c 62)
  have hI := fun w' (f : Fr (fun _ => False) w w') => is_ref (h.fr f (fun _ _ h => h)) n
  have HI := hid hI
  have HF := hid fa
  clear hI fa
  cases hi : m.is n with
  | false =>
    have hr : m.safeOf n = ([], 22) := by unfold DM.safeOf; rw [hi]; rfl
    have HB := hid hi
    rw [hr]
    have he : bs [] = ⟨#[]⟩ := rfl
    rw [he]
    clear hr hi he h
    go_enter Try.func56, Try.ntmps56
    go_wp2_with (go_at_call 61; refine (HI.out _ (HF.out _)).mono ?_; rintro e w' ⟨rfl, rfl⟩; rw [HB.out])
    exact bodyPost_ret (v := .agg #[.string ⟨#[]⟩, .int .i64 22]) (by simp [results, Try.results56, go_sem]) rfl ⟨rfl, HF.out _⟩
  | true =>
    have hn : 0 ≤ n ∧ n < (m.pages.length : Int) := by simpa [DM.is] using hi
    obtain ⟨k, rfl⟩ : ∃ k : Nat, n = k := ⟨n.toNat, by omega⟩
    have hk : k < m.pages.length := by omega
    have hr : m.safeOf k = (m.pages[k].safe, 0) := by
      unfold DM.safeOf
      rw [hi]
      simp [hk]
    have HB := hid hi
    rw [hr]
    obtain ⟨g, c, rfl, -, k0, k1⟩ := h.page hk
    have c0 : w.cell? ⟨d, 0, none⟩ = some (.slice (some ⟨g, 0, none⟩) m.pages.length c) := h.b.cell 0
    have ld := lt_of_cell c0
    have lg := lt_of_cell k0
    generalize bs m.pages[k].safe = sf at *
    clear hr hi h hn k1
    go_enter Try.func56, Try.ntmps56
    go_wp2_with (go_at_call 61; refine (HI.out _ (HF.out _)).mono ?_; rintro e w' ⟨rfl, rfl⟩; rw [HB.out])
    exact bodyPost_ret (v := .agg #[.string sf, .int .i64 0]) (by simp [results, Try.results56, go_sem]) rfl ⟨rfl, HF.out _⟩
theorem getLastD_eq {l : List Bytes} {a : Bytes} (h : l ≠ []) : l.getLastD a = l[l.length - 1]'(by cases l with | nil => exact absurd rfl h | cons => simp) := by
  rw [List.getLastD_eq_getLast?, List.getLast?_eq_getElem?, List.getElem?_eq_getElem (by cases l with | nil => exact absurd rfl h | cons => simp)]
  rfl
set_option maxHeartbeats 1000000 in
theorem Read_ref (h : RRep S w d m pv wv) (n : Int) (hlen : m.pages.length ≤ 400) {kk : Nat} (ok : m.Ok kk) (hkk : kk ≤ 1000000) :
    Calls Try.prog 55 #[.pointer (some ⟨d, 0, none⟩), .int .i64 n] w fun e w' => e = .returned (.agg #[.string (bs (m.read n).1), .int .i64 (m.read n).2]) ∧ Fr (fun _ => False) w w' := by
  have c3 : w.cell? ⟨d, 3, none⟩ = some (.bool (!m.off)) := h.b.cell 3
  have ld := lt_of_cell c3
  have fa := fun c => (Fr.refl (fun _ => False) w).alloc (.cells c 62)
  have hI := fun w' (f : Fr (fun _ => False) w w') => is_ref (h.fr f (fun _ _ h => h)) n
  have HI := hid hI
  have HF := hid fa
  clear hI fa
  cases ho : m.off with
  | true =>
    have hr : m.read n = ([], 24) := by unfold DM.read; rw [if_pos ho]
    rw [ho] at c3
    rw [hr]
    have he : bs [] = ⟨#[]⟩ := rfl
    rw [he]
    clear hr he h ho
    go_enter Try.func55, Try.ntmps55
    go_wp2
    exact bodyPost_ret (v := .agg #[.string ⟨#[]⟩, .int .i64 24]) (by simp [results, Try.results55, go_sem]) rfl ⟨rfl, HF.out _⟩
  | false =>
    rw [ho] at c3
    cases hi : m.is n with
    | false =>
      have hr : m.read n = ([], 22) := by unfold DM.read; rw [ho, hi]; rfl
      have HB := hid hi
      rw [hr]
      have he : bs [] = ⟨#[]⟩ := rfl
      rw [he]
      clear hr hi he h ho
      go_enter Try.func55, Try.ntmps55
      go_wp2_with (go_at_call 61; refine (HI.out _ (HF.out _)).mono ?_; rintro e w' ⟨rfl, rfl⟩; rw [HB.out])
      exact bodyPost_ret (v := .agg #[.string ⟨#[]⟩, .int .i64 22]) (by simp [results, Try.results55, go_sem]) rfl ⟨rfl, HF.out _⟩
    | true =>
      have hn : 0 ≤ n ∧ n < (m.pages.length : Int) := by simpa [DM.is] using hi
      obtain ⟨k, rfl⟩ : ∃ k : Nat, n = k := ⟨n.toNat, by omega⟩
      have hk : k < m.pages.length := by omega
      have hr : m.read k = (m.pages[k].cur, 0) := by
        unfold DM.read
        rw [ho, hi]
        simp [hk]
      have HB := hid hi
      rw [hr]
      obtain ⟨g, c, rfl, -, k0, k1⟩ := h.page hk
      have hw := h.write hk
      have c0 : w.cell? ⟨d, 0, none⟩ = some (.slice (some ⟨g, 0, none⟩) m.pages.length c) := h.b.cell 0
      have lg := lt_of_cell k0
      have few := ok.few _ (List.getElem_mem hk)
      have hrow : w.rangeAt g (k * 2) [.string (bs m.pages[k].safe), wv[k]'(by rw [h.len]; exact hk)] := by
        intro j u hj
        rcases (show j = 0 ∨ j = 1 by have := (List.getElem?_eq_some_iff.1 hj).1; simp at this; omega) with rfl | rfl
        · simpa using k0.trans hj
        · simpa using k1.trans hj
      generalize wv[k]'(by rw [h.len]; exact hk) = v at *
      generalize m.pages[k] = p at *
      have F2 := fun c1 c2 => (HF.out c1).alloc (.cells c2 89)
      have HF2 := hid F2
      clear F2 hr hi hn ho k1 h k0
      by_cases hws : p.ws = []
      · have hcur : p.cur = p.safe := by unfold Pg.cur; rw [hws]; rfl
        rw [hcur]
        rw [hws] at hw
        obtain ⟨av, cv, rfl, -⟩ := own_slice hw
        have hrow2 := fun w' (f : Fr (fun _ => False) w w') => range_fr hrow f (fun h => h)
        have HR := hid hrow2
        generalize bs p.safe = sf at *
        clear hcur hws hw few hrow hrow2
        go_enter Try.func55, Try.ntmps55
        go_wp2_with (first
          | (go_at_call 61; refine (HI.out _ (HF.out _)).mono ?_; rintro e w' ⟨rfl, rfl⟩; rw [HB.out])
          | (refine wpList_load_mid rfl 89 _ rfl g _ rfl _ _ (HR.out _ (HF.out _)) Try.underlying89 rfl Try.size_page ?_))
        exact bodyPost_ret (v := .agg #[.string sf, .int .i64 0]) (by simp [results, Try.results55, go_sem]) rfl ⟨rfl, HF2.out _ _⟩
      · have hlw : 0 < p.ws.length := List.length_pos_iff.2 hws
        have hcur : p.cur = p.ws[p.ws.length - 1] := getLastD_eq hws
        rw [hcur]
        obtain ⟨av, cv, rfl, hcv, hr⟩ := own_sl (R := fun _ => True) hw (fun _ _ => trivial)
        obtain ⟨gw, ow, rfl, -, hr⟩ := hr (by simpa [sv] using hws)
        have cw : w.cell? ⟨gw, ow + (p.ws.length - 1), none⟩ = some (.string (bs p.ws[p.ws.length - 1])) := hr _ _ (sv_at (List.getElem?_eq_getElem _))
        have lgw := lt_of_cell cw
        have hrow2 := fun w' (f : Fr (fun _ => False) w w') => range_fr hrow f (fun h => h)
        have HR := hid hrow2
        obtain ⟨q, hq⟩ : ∃ q, p.ws.length = q + 1 := ⟨p.ws.length - 1, by omega⟩
        generalize hx : p.ws[p.ws.length - 1] = x at *
        have hq1 : p.ws.length - 1 = q := by omega
        rw [hq1] at cw
        rw [hq] at HR hcv few
        generalize bs x = bx at *
        generalize bs p.safe = sf at *
        clear hcur hws hw hrow hrow2 hr hx hq1 hq hlw
        go_enter Try.func55, Try.ntmps55
        go_wp2_with (first
          | (go_at_call 61; refine (HI.out _ (HF.out _)).mono ?_; rintro e w' ⟨rfl, rfl⟩; rw [HB.out])
          | (refine wpList_load_mid rfl 89 _ rfl g _ rfl _ _ (HR.out _ (HF.out _)) Try.underlying89 rfl Try.size_page ?_))
        exact bodyPost_ret (v := .agg #[.string bx, .int .i64 0]) (by simp [results, Try.results55, go_sem]) rfl ⟨rfl, HF2.out _ _⟩
