import Derived.Test.YtfalehgngioheaaRefD
import Derived.IntWalk
/- The reference's disk: a page is laid anew; Sync. -/
set_option linter.unusedVariables false
namespace Go.Proofs.Ytfalehgngioheaa
open Go.RowKit Go.VB Go.VB.Disk
theorem rcells_put (ps : List Pg) (wv : List Value) (hl : wv.length = ps.length) (k : Nat) (hk : k < ps.length) (s : Bytes) : ((rcells ps wv).set (k * 2) (.string (bs s))).set (k * 2 + 1) (.slice none 0 0) = rcells (ps.set k ⟨s, []⟩) (wv.set k (.slice none 0 0)) := by
  refine rcells_ext (by simpa using hl) (by rw [List.length_set, List.length_set, rcells_length ps wv hl]; simp) fun i hi => ?_
  have hi' : i < ps.length := by simpa using hi
  have a0 := rcells_at ps wv hl i hi' 0 (by omega)
  have a1 := rcells_at ps wv hl i hi' 1 (by omega)
  have hr := rcells_length ps wv hl
  rw [Nat.add_zero] at a0
  by_cases e : k = i
  · subst e
    refine ⟨?_, ?_⟩
    · rw [List.getElem?_set_ne (by omega), List.getElem?_set_self (by omega)]
      simp
    · rw [List.getElem?_set_self (by rw [List.length_set]; omega)]
      simp
  · refine ⟨?_, ?_⟩
    · rw [List.getElem?_set_ne (by omega), List.getElem?_set_ne (by omega), a0]
      simp [e]
    · rw [List.getElem?_set_ne (by omega), List.getElem?_set_ne (by omega), a1]
      simp [e]
variable {S : Nat → Prop} {w : World} {d : Nat} {m : DM} {pv : Value} {wv : List Value}
theorem RRep.put {g c : Nat} (h : RRep S w d m (.slice (some ⟨g, 0, none⟩) m.pages.length c) wv) {k : Nat} (hk : k < m.pages.length) (s : Bytes) :
    RRep S (w.setCells g (k * 2) [.string (bs s), .slice none 0 0]) d { m with pages := m.pages.set k ⟨s, []⟩ } (.slice (some ⟨g, 0, none⟩) m.pages.length c) (wv.set k (.slice none 0 0)) ∧ Fr (fun j => j = g) w (w.setCells g (k * 2) [.string (bs s), .slice none 0 0]) := by
  have e : w.setCells g (k * 2) [.string (bs s), .slice none 0 0] = (w.setCell ⟨g, k * 2, none⟩ (.string (bs s))).setCell ⟨g, k * 2 + 1, none⟩ (.slice none 0 0) := rfl
  rw [e]
  have f := ((Fr.refl (fun j => j = g) w).setCell ⟨g, k * 2, none⟩ (.string (bs s)) (fun _ => rfl)).setCell ⟨g, k * 2 + 1, none⟩ (.slice none 0 0) (fun _ => rfl)
  have dg : d ≠ g := fun e => ownsRow_ne h.b (by decide) h.own g rfl e.symm
  have vg : ∀ (n : Nat) (v : Value) (xs : List Value), w.ownsRow 0 9 1 v n xs → ∀ j, v.ownBlock = some j → j ≠ g := by
    intro n v xs hw j hj e
    subst e
    rcases h.own.2 with ⟨hn, _⟩ | ⟨g', cap, cur, hn, -, hgg, -⟩
    · cases hn
    · obtain ⟨rfl, rfl⟩ : j = g' ∧ c = cap := by simpa using hn
      exact ownsRow_ne (show Blk w j cur.toList 89 by unfold Blk; simpa using hgg) (by decide) hw j hj rfl
  have own2 := own_set (own_set h.own (k * 2) (.string (bs s)) (by rw [rcells_length _ _ h.len]; omega)) (k * 2 + 1) (.slice none 0 0) (by rw [List.length_set, rcells_length _ _ h.len]; omega)
  rw [rcells_put m.pages wv h.len k hk s] at own2
  refine ⟨⟨h.sd, fun j hj => Nat.lt_of_lt_of_le (h.lt j hj) f.size, h.b.fr f dg, by simpa using own2, h.reg, by simpa using h.len, fun i p v hp hv => ?_, fun i j v1 v2 b hij hv1 hv2 hb1 hb2 => ?_⟩, f⟩
  · rw [List.getElem?_set] at hp hv
    by_cases e : k = i
    · subst e
      rw [if_pos rfl, if_pos hk] at hp
      rw [if_pos rfl, if_pos (by rw [h.len]; exact hk)] at hv
      obtain rfl := Option.some.inj hp
      obtain rfl := Option.some.inj hv
      exact ⟨own_nil, fun j hj => by simp [Value.ownBlock] at hj⟩
    · rw [if_neg e] at hp hv
      obtain ⟨q1, q2⟩ := h.ws i p v hp hv
      exact ⟨own_fr q1 f (vg _ _ _ q1), q2⟩
  · rw [List.getElem?_set] at hv1 hv2
    split at hv1
    · split at hv1
      · obtain rfl := Option.some.inj hv1
        simp [Value.ownBlock] at hb1
      · cases hv1
    · split at hv2
      · split at hv2
        · obtain rfl := Option.some.inj hv2
          simp [Value.ownBlock] at hb2
        · cases hv2
      · exact h.ne _ _ _ _ b hij hv1 hv2 hb1 hb2
/-- the first k pages are stable -/
def syncN (ps : List Pg) (k : Nat) : List Pg := (ps.take k).map Pg.sync ++ ps.drop k
theorem syncN_length (ps : List Pg) (k : Nat) : (syncN ps k).length = ps.length := by simp [syncN]; omega
theorem syncN_at (ps : List Pg) (k : Nat) (hk : k < ps.length) : (syncN ps k)[k]'(by rw [syncN_length]; exact hk) = ps[k] := by
  simp [syncN, List.getElem_append_right, Nat.min_eq_left (Nat.le_of_lt hk)]
theorem syncN_get (ps : List Pg) (k : Nat) (hk : k ≤ ps.length) (i : Nat) : (syncN ps k)[i]? = if i < k then (ps[i]?).map Pg.sync else ps[i]? := by
  unfold syncN
  by_cases h : i < k
  · rw [if_pos h, List.getElem?_append_left (by simp; omega)]
    simp [h]
  · rw [if_neg h, List.getElem?_append_right (by simp; omega), List.getElem?_drop]
    congr 1
    simp
    omega
theorem syncN_succ (ps : List Pg) (k : Nat) (hk : k < ps.length) : syncN ps (k + 1) = (syncN ps k).set k ps[k].sync := by
  apply List.ext_getElem?
  intro i
  rw [syncN_get ps (k + 1) hk]
  by_cases h2 : k = i
  · subst h2
    rw [List.getElem?_set_self (by rw [syncN_length]; exact hk), if_pos (by omega), List.getElem?_eq_getElem hk]
    rfl
  · rw [List.getElem?_set_ne h2, syncN_get ps k (by omega)]
    by_cases h1 : i < k
    · rw [if_pos (by omega), if_pos h1]
    · rw [if_neg (by omega), if_neg h1]
theorem sync_calm {p : Pg} (h : p.ws = []) : p.sync = p := by
  obtain ⟨s, ws⟩ := p
  dsimp only at h
  subst h
  rfl
set_option maxHeartbeats 2000000 in
theorem Sync_ref (h : RRep S w d m pv wv) (hlen : m.pages.length ≤ 400) {kk : Nat} (ok : m.Ok kk) (hkk : kk ≤ 1000000) :
    Calls Try.prog 52 #[.pointer (some ⟨d, 0, none⟩)] w fun e w' => e = .returned (.int .i64 m.sync.2) ∧ ROut S w w' d m.sync.1 := by
  have c3 : w.cell? ⟨d, 3, none⟩ = some (.bool (!m.off)) := h.b.cell 3
  cases ho : m.off with
  | true =>
    have hr : m.sync = (m, 24) := operate_off' ho
    rw [ho] at c3
    rw [hr]
    have hH := hid h
    clear hr ho h
    go_enter Try.func52, Try.ntmps52
    go_wp2
    go_ret
    exact ⟨rfl, ROut.same hH.out (Fr.refl _ _)⟩
  | false =>
    have hm := may_rep h ho
    rw [ho] at c3
    have hr : m.sync = if m.armed && decide (m.left ≤ 0) then (mayM m, 24) else ({ mayM m with pages := m.pages.map Pg.sync }, 0) := by
      unfold DM.sync
      rw [operate_may m 0 _ ho rfl]
      split
      · rfl
      · rename_i hc
        rw [may_on m (by simpa using hc)]
    cases hb : (m.armed && decide (m.left ≤ 0)) with
    | true =>
      rw [hb] at hm hr
      rw [if_pos rfl] at hr
      rw [hr]
      have hM := hid hm
      clear h ho hr hb hm
      go_enter Try.func52, Try.ntmps52
      go_wp2_with (go_at_call 62; refine hM.out.mono ?_; rintro e w1 ⟨rfl, h1, f1⟩)
      go_ret
      exact ⟨rfl, ROut.of h1 f1⟩
    | false =>
      rw [hb] at hm hr
      rw [if_neg (by simp)] at hr
      have hpg : (mayM m).pages = m.pages := by rw [may_on m hb]
      rw [hr]
      have hM := hid hm
      have HP := hid hpg
      have OK := hid ok
      clear h ho hr hb hm hpg ok
      go_enter Try.func52, Try.ntmps52
      go_wp2_with (first
        | (go_at_call 62; refine hM.out.mono ?_; rintro e w1 ⟨rfl, h1, f1⟩)
        | fail)
      generalize hm1 : mayM m = m1 at *
      have HM1 := hid hm1
      clear hm1 hM c3
      obtain ⟨M, hMM⟩ : ∃ M : Nat → DM, M = fun j => { m1 with pages := syncN m.pages j } := ⟨_, rfl⟩
      have hMp : ∀ j, (M j).pages = syncN m.pages j := fun j => by rw [hMM]
      have hMl : ∀ j, (M j).pages.length = m.pages.length := fun j => by rw [hMp, syncN_length]
      have hMs : ∀ j (hj : j < m.pages.length), M (j + 1) = { M j with pages := (M j).pages.set j m.pages[j].sync } := fun j hj => by
        rw [hMM]
        simp only [syncN_succ m.pages j hj]
      have hM0 : M 0 = m1 := by
        rw [hMM]
        simp [syncN, ← HP.out]
      have hME : M m.pages.length = { m1 with pages := m.pages.map Pg.sync } := by
        rw [hMM]
        simp [syncN]
      have HMP := hid hMp
      have HML := hid hMl
      have HMS := hid hMs
      have HME := hid hME
      have INV0 := hid (show RRep S w1 d (M 0) pv wv by rw [hM0]; exact h1)
      clear h1 hMM hMp hMl hMs hM0 hME
      go_loopw [4] (fun i wr => ∃ (j : Nat) (wvj : List Value), j ≤ m.pages.length ∧ i = .int .i64 j ∧ RRep S wr d (M j) pv wvj ∧ Fr S w1 wr) (fun i _ => m.pages.length - (intOf i).toNat)
      case atStart => exact ⟨0, _, by omega, rfl, INV0.out, Fr.refl _ _⟩
      case round =>
        obtain ⟨j, wvj, hj, rfl, hR, fR⟩ := hrel
        clear INV0
        have c0 : wr.cell? ⟨d, 0, none⟩ = some pv := hR.b.cell 0
        have hln := HML.out j
        by_cases hjl : j < m.pages.length
        · have hjl2 : j < (M j).pages.length := by rw [hln]; exact hjl
          obtain ⟨g, c, rfl, hSg, k0, k1⟩ := hR.page hjl2
          have hw := hR.write hjl2
          have hpj : (M j).pages[j] = m.pages[j] := by
            have := syncN_at m.pages j hjl
            simp only [HMP.out]
            exact this
          rw [hpj] at hw
          have few := OK.out.few _ (List.getElem_mem hjl)
          have hsucc := HMS.out j hjl
          rw [hln] at c0
          have hlw : j < wvj.length := by rw [hR.len]; exact hjl2
          replace k1 : wr.cell? ⟨g, j * 2 + 1, none⟩ = some (wvj[j]'hlw) := k1
          replace hw : wr.ownsRow 0 9 1 (wvj[j]'hlw) m.pages[j].ws.length (sv m.pages[j].ws) := hw
          generalize wvj[j]'hlw = v at *
          have hRR := hid hR
          have hPJ := hid hpj
          have hLN := hid hln
          clear hR hpj hln k0
          have hTh : wr.drew.there g (j * 2) 2 := by
            have hR := hRR.out
            rcases hR.own.2 with ⟨hn, _⟩ | ⟨g', cap, cur, hn, -, hgg, h1, h2, h3, h4⟩
            · cases hn
            · obtain ⟨rfl, rfl⟩ : g = g' ∧ c = cap := by simpa using hn
              refine (show Blk wr g cur.toList 89 by unfold Blk; simpa using hgg).drew.there (j * 2) 2 ?_
              rw [Array.length_toList, h3]
              have := hLN.out
              omega
          by_cases hws : m.pages[j].ws = []
          · have hsame : M (j + 1) = M j := by
              rw [hsucc, sync_calm hws, ← hPJ.out, List.set_getElem_self]
            have hl0 : m.pages[j].ws.length = 0 := by rw [hws]; rfl
            rw [hl0] at hw
            obtain ⟨va, vc, rfl, -⟩ := own_slice hw
            have HS := hid hsame
            clear hws hw hsucc hsame few hTh hl0
            go_wp2
            go_roundw
            case rel => exact ⟨j + 1, wvj, by omega, by go_num, by rw [HS.out]; exact hRR.out, fR⟩
            case measure => simp [intOf]; omega
          · obtain ⟨q, hq⟩ : ∃ q, m.pages[j].ws.length = q + 1 := ⟨m.pages[j].ws.length - 1, by have := List.length_pos_iff.2 hws; omega⟩
            have hcur : m.pages[j].sync = ⟨m.pages[j].ws[q]'(by omega), []⟩ := by
              unfold Pg.sync Pg.cur
              rw [getLastD_eq hws]
              congr 2
              omega
            obtain ⟨va, vc, rfl, hvc, hr⟩ := own_sl (R := fun _ => True) hw (fun _ _ => trivial)
            obtain ⟨gw, ow, rfl, -, hr⟩ := hr (by simpa [sv] using hws)
            have cw : wr.cell? ⟨gw, ow + q, none⟩ = some (.string (bs (m.pages[j].ws[q]'(by omega)))) := hr _ _ (sv_at (List.getElem?_eq_getElem _))
            generalize m.pages[j].ws[q]'(by omega) = x at *
            rw [hq] at k1 hvc few
            rw [hcur] at hsucc
            have HS := hid hsucc
            have hput := (hRR.out.fr (Fr.refl (fun _ => False) wr).drew (fun _ _ h => h)).put hjl2 x
            have HPUT := hid hput
            clear hws hw hcur hr hq hsucc hput
            have hwq : IntKind.i64.wrap (q : Int) = q := IntWalk.i64_in _ (by omega)
            have hqq : (q : Int) < (q : Int) + 1 := by omega
            go_wp2_with (fail)
            refine wp_region_script [(true, 0), (true, 1), (true, 2), (true, 3), (true, 4), (true, 5), (true, 6), (true, 7), (true, 8), (true, 9), (true, 10), (true, 11), (true, 12), (true, 13), (true, 14), (true, 15), (true, 16), (false, 17), (true, 18), (false, 19)] (fun kz w => (kz ≤ 19 → w.cell? ⟨d, 0, none⟩ = some (.slice (some ⟨g, 0, none⟩) m.pages.length c) ∧ w.cell? ⟨g, j * 2 + 1, none⟩ = some (.slice (some ⟨gw, ow, none⟩) (q + 1) vc) ∧ w.cell? ⟨gw, ow + q, none⟩ = some (.string (bs x))) ∧ True) (by kernel_rfl) (by kernel_rfl) (by intro c a d v w h; cases d <;> exact h) ?_
            repeat
              first
              | (refine wpS_pure rfl rfl rfl ?_; apply Exists.intro; refine ⟨?_, ?_⟩; intro w; ((go_simp <;> rfl)); simp only [Act.put, List.setIfInBounds_toArray, List.set_cons_zero, List.set_cons_succ])
              | (refine wpS_take 19 rfl rfl (by decide +kernel) ⟨fun _ => ⟨c0, k1, cw⟩, trivial⟩ ?_; apply Exists.intro; refine ⟨?_, ?_⟩; intro w hw; (have qa := (hw rfl).1 (Nat.le_refl _); have qb := (hw rfl).2); ((go_simp <;> rfl)); simp only [Act.put, List.setIfInBounds_toArray, List.set_cons_zero, List.set_cons_succ])
              | (refine wpS_skip rfl rfl ?_; simp only [Act.put, List.setIfInBounds_toArray, List.set_cons_zero, List.set_cons_succ])
            refine wpS_op rfl ?_
            go_wp2_with (fail)
            (refine ⟨?_, ?_⟩; focus (intro kz hk hk2; rintro ⟨qa, qb⟩; first | (exfalso; simp at hk2; omega) | exact ⟨qa, qb⟩ | (refine ⟨fun h => absurd h (by omega), ?_⟩; first | exact qb | (exact qa)) | (refine ⟨fun h => ?_, ?_⟩; (have qa := qa h); all_goals (first | exact qa | exact qb | (exact qa)))))
            repeat
              first
              | (refine wpS_pure rfl rfl rfl ?_; apply Exists.intro; refine ⟨?_, ?_⟩; intro w; ((go_simp <;> rfl)); simp only [Act.put, List.setIfInBounds_toArray, List.set_cons_zero, List.set_cons_succ])
              | (refine wpS_take 19 rfl rfl (by decide +kernel) ⟨fun _ => ⟨c0, k1, cw⟩, trivial⟩ ?_; apply Exists.intro; refine ⟨?_, ?_⟩; intro w hw; (have qa := (hw rfl).1 (Nat.le_refl _); have qb := (hw rfl).2); ((go_simp <;> rfl)); simp only [Act.put, List.setIfInBounds_toArray, List.set_cons_zero, List.set_cons_succ])
              | (refine wpS_skip rfl rfl ?_; simp only [Act.put, List.setIfInBounds_toArray, List.set_cons_zero, List.set_cons_succ])
            refine wpS_op rfl ?_
            refine wpList_store_mid rfl 89 _ _ rfl g (j * 2) _ rfl rfl hTh Try.size_page (by simp [Value.oneCell']) ?_
            rw [List.toList_toArray]
            go_wp2
            refine ⟨fun kz h1 h2 _ => by exfalso; simp at h2; omega, ?_⟩
            refine wpS_nil ?_
            obtain ⟨h3, f3⟩ := HPUT.out
            have fg : Fr S wr (wr.drew.setCells g (j * 2) [.string (bs x), .slice none 0 0]) := ((Fr.refl S wr).drew).trans (f3.mono (fun i hi _ => hi ▸ hSg)) (fun _ h _ => h)
            have h4 : RRep S (wr.drew.setCells g (j * 2) [.string (bs x), .slice none 0 0]) d (M (j + 1)) (.slice (some ⟨g, 0, none⟩) (M j).pages.length c) (wvj.set j (.slice none 0 0)) := by
              rw [HS.out]; exact h3
            have F4 := fR.trans fg (fun _ h _ => h)
            have H4 := hid h4
            clear h3 f3 fg h4 HPUT hTh
            go_wp2
            go_roundw
            case rel => exact ⟨j + 1, wvj.set j (.slice none 0 0), by omega, by go_num, H4.out, F4⟩
            case measure => simp [intOf]; omega
        · obtain rfl : j = m.pages.length := by omega
          obtain ⟨pa, pc, rfl, hpc⟩ := own_slice hR.own
          rw [hln] at c0
          have F9 := (f1.mono (fun i hi _ => hi ▸ hR.sd)).trans fR (fun _ h _ => h)
          have hE : RRep S wr d { m1 with pages := m.pages.map Pg.sync } _ wvj := HME.out ▸ hR
          have H9 := hid (show ROut S w wr d { m1 with pages := m.pages.map Pg.sync } from ⟨⟨_, _, hE.ext⟩, F9⟩)
          clear hE F9 hR fR hln hpc
          go_wp2
          go_ret
          rw [HM1.out]
          exact ⟨rfl, H9.out⟩
