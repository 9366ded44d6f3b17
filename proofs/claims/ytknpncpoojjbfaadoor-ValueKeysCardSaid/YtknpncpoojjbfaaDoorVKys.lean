/- Proved: for every two rows the law ValueKeys of chapter 02 returns true, and its arguments read afterwards as before. Conditions: none beyond the given statement, a tied card. -/
import Derived.Test.YtknpncpoojjbfaaDoorVF2
import Derived.Test.YtknpncpoojjbfaaDoorVKp
import Derived.Test.YtknpncpoojjbfaaDoorVH
import Derived.Test.YtknpncpoojjbfaaDoorVK
import Derived.Test.YtknpncpoojjbfaaDoorVR
import Derived.Test.YtknpncpoojjbfaaDoorCards
import Derived.Test.YtknpncpoojjbfaaDoorTie
import Derived.SevenTiedAt
set_option linter.unusedVariables false
namespace Go.VB.Rec
theorem rightRow_in {l : List V} (h : ∀ x ∈ l, V.In2 x) : ∀ v ∈ rightRow l, v.In := by
  intro v hv
  unfold rightRow mayRow at hv
  obtain ⟨x, hx, rfl⟩ := List.mem_map.1 hv
  obtain ⟨y, hy, rfl⟩ := List.mem_map.1 hx
  have := (h y (List.mem_of_mem_take hy)).2
  unfold V.may V.plain V.In
  unfold in64 at this
  dsimp only
  split <;> omega
theorem rightRow_vrow {l : List V} (h : ∀ x ∈ l, V.In2 x) : VRow (rightRow l) := ⟨rightRow_row l, rightRow_in h, rightRow_plain l⟩
/-- all values are valid and plain -/
structure VAll (a : List V) : Prop where
  right : ∀ v ∈ a, v.right = true
  in_ : ∀ v ∈ a, v.In
  plain : ∀ v ∈ a, v.plain = v
theorem VRow.all {a : List V} (h : VRow a) : VAll a := ⟨row_all h.row, h.in_, h.plain⟩
theorem VAll.row {a : List V} (h : VAll a) (hl : a.length ≤ 6) : VRow a := ⟨by unfold Rec.row; simp only [Bool.and_eq_true, decide_eq_true_eq, List.all_eq_true]; exact ⟨hl, h.right⟩, h.in_, h.plain⟩
theorem VAll.snoc {a : List V} (h : VAll a) {b : List V} (k : VAll b) {j : Nat} (hj : j < b.length) : VAll (a ++ [b[j]]) := by
  have hm := List.getElem_mem hj
  refine ⟨fun v hv => ?_, fun v hv => ?_, fun v hv => ?_⟩ <;> rcases List.mem_append.1 hv with g | g
  · exact h.right v g
  · rw [List.mem_singleton.1 g]; exact k.right _ hm
  · exact h.in_ v g
  · rw [List.mem_singleton.1 g]; exact k.in_ _ hm
  · exact h.plain v g
  · rw [List.mem_singleton.1 g]; exact k.plain _ hm
theorem VAll.take {a : List V} (h : VAll a) (n : Nat) : VAll (a.take n) := ⟨fun v hv => h.right v (List.mem_of_mem_take hv), fun v hv => h.in_ v (List.mem_of_mem_take hv), fun v hv => h.plain v (List.mem_of_mem_take hv)⟩
theorem vcells_take (l : List V) (n : Nat) : (l.flatMap V.cells).take (n * 3) = (l.take n).flatMap V.cells := by
  induction l generalizing n with
  | nil => simp
  | cons x l ih =>
    cases n with
    | zero => simp
    | succ n =>
      rw [List.flatMap_cons, List.take_succ_cons, List.flatMap_cons, ← ih n, show (n + 1) * 3 = (V.cells x).length + n * 3 by simp [V.cells]; omega, List.take_length_add_append]
theorem row_len {a : List V} (h : row a = true) : a.length ≤ 6 := by
  unfold row at h
  simp only [Bool.and_eq_true, decide_eq_true_eq] at h
  exact h.1
theorem rowKey_le {a : List V} (h : VRow a) : (rowKey a).length ≤ 600 := by
  rw [rowKey_eq h.row]
  have hl := row_len h.row
  have hk : ∀ v ∈ a, v.key.length ≤ 100 := fun v hv => by
    have hr := row_all h.row v hv
    unfold V.right at hr
    simp only [Bool.and_eq_true, Bool.or_eq_true, decide_eq_true_eq] at hr
    have := esc_len 0 [0, 255] (by simp) v.s
    unfold V.key
    by_cases h1 : v.k = 1
    · rw [if_pos h1, be8_eq]; simp
    · rw [if_neg h1]
      by_cases h2 : v.k = 2
      · rw [if_pos h2, List.length_cons, List.length_append]
        rcases hr.2 with g | g
        · exact absurd h2 g
        · simp only [List.length_cons, List.length_nil]; omega
      · rw [if_neg h2]; simp
  clear h
  have : ∀ l : List V, (∀ v ∈ l, v.key.length ≤ 100) → (l.flatMap V.key).length ≤ 100 * l.length := by
    intro l
    induction l with
    | nil => intro _; simp
    | cons x l ih =>
      intro hh
      rw [List.flatMap_cons, List.length_append, List.length_cons]
      have := hh x (List.mem_cons_self ..)
      have := ih (fun v hv => hh v (List.mem_cons_of_mem _ hv))
      omega
  have := this a hk
  omega
end Go.VB.Rec
namespace Go.Proofs.YtknpncpoojjbfaaDoor
open Go.RowKit Go.VB Go.VB.Oct Go.VB.Rec
theorem lbytes_go (a b : List UInt8) (ha : a.length ≤ 1099511627776) (hb : b.length ≤ 1099511627776) (w : World) : Calls Tryd.prog 31 #[.string (bs a), .string (bs b)] w fun e w' => e = .returned (.int .i64 (Lib.compareBytes a b)) ∧ Fr (fun _ => False) w w' := by
  have H := hid (Texts_go a b ha hb)
  go_enter Tryd.func31, Tryd.ntmps31
  go_wp2_with (go_at_call 41; refine (H.out _).mono ?_; rintro e w1 ⟨rfl, f⟩; have F1 := hid f; clear f)
  go_ret
  exact ⟨rfl, F1.out⟩
/-- two rows in variables -/
structure KS (w0 W : World) (va vb : Value) (ra rb : List V) : Prop where
  a : Sl (fun k => k < W.heap.size) W va ra.length (ra.flatMap V.cells)
  b : Sl (fun k => k < W.heap.size) W vb rb.length (rb.flatMap V.cells)
  gv : Gv W
  fr : Fr (fun _ => False) w0 W
theorem KS.fre {w0 W W' : World} {va vb : Value} {ra rb : List V} (h : KS w0 W va vb ra rb) (f : Fr (fun _ => False) W W') : KS w0 W' va vb ra rb :=
  ⟨(h.a.fr f (fun _ _ h => h)).mono (fun k hk => Nat.lt_of_lt_of_le hk f.size), (h.b.fr f (fun _ _ h => h)).mono (fun k hk => Nat.lt_of_lt_of_le hk f.size), h.gv.fre f, h.fr.trans f (fun _ h _ => h)⟩
theorem bs_take (l : List UInt8) (n : Nat) : (bs l).extract 0 n = bs (l.take n) := by
  apply ByteArray.ext; simp [bs]
def slen : Value → Nat
  | .slice _ n _ => n
  | _ => 0
set_option maxRecDepth 20000 in
set_option maxHeartbeats 4000000 in
theorem Keys_walk {P : Nat → Prop} {w : World} (G : Gv w) {va vb : Value} {a b : List V} (ha : Sl P w va a.length (a.flatMap V.cells)) (hb : Sl P w vb b.length (b.flatMap V.cells)) (la : a.length ≤ 9223372036854775807) (lb : b.length ≤ 9223372036854775807) (ia : ∀ x ∈ a, V.In2 x) (ib : ∀ x ∈ b, V.In2 x) :
    Calls Tryd.prog 7 #[va, vb] w fun e w' => e = .returned (.bool true) ∧ Fr (fun _ => False) w w' := by
  have HG := hid G
  have HSA := hid (sanity_go G)
  have HFA := hid (fun w' (f : Fr (fun _ => False) w w') => right2_go (ha.fr f (fun _ _ h => h)) la)
  have HFB := hid (fun w' (f : Fr (fun _ => False) w w') => right2_go (hb.fr f (fun _ _ h => h)) lb)
  have hla := rightRow_len a
  have hlb := rightRow_len b
  have HVA := hid (rightRow_vrow ia)
  have HVB := hid (rightRow_vrow ib)
  obtain ⟨ax, cx, rfl, -⟩ := ha
  obtain ⟨ay, cy, rfl, -⟩ := hb
  clear G la lb ia ib
  generalize rightRow a = ra at *
  generalize rightRow b = rb at *
  go_enter Tryd.func7, Tryd.ntmps7
  go_wp2_with (fail)
  refine HSA.out.mono ?_
  rintro e w1 ⟨rfl, f⟩
  have F1 := hid f
  clear f HSA
  go_wp2_with (fail)
  refine (HFA.out _ F1.out).mono ?_
  rintro e w2 ⟨a1, c1, rfl, hr, f⟩
  have F2 := hid (F1.out.trans f (fun _ h _ => h))
  have R1 := hid (own_sl hr.own (fun k hk => hr.lt hk) : Sl (fun k => k < w2.heap.size) w2 _ _ _)
  clear f HFA F1 hr
  go_wp2_with (fail)
  refine (HFB.out _ F2.out).mono ?_
  rintro e w3 ⟨a2, c2, rfl, hr, f⟩
  have F3 := hid (F2.out.trans f (fun _ h _ => h))
  have R2 := hid hr
  replace R1 := hid (R1.out.fr f (fun _ _ h => h))
  have hB := f.size
  have HB := hid hB
  have HW := hid F2.out.size
  clear f HFB F2 hr hB
  have F30 := hid (Fr.refl (fun _ => False) w3)
  go_wp2_with (fail)
  go_loopw [1] (fun v1 wr => ∃ l : List V, VAll l ∧ l.length ≤ 6 ∧ Row 28 3 w2.heap.size wr v1 l.length (l.flatMap V.cells) ∧ Fr (fun k => w2.heap.size ≤ k) w3 wr) (fun v1 _ => 6 - slen v1)
  case atStart => exact ⟨rb, HVB.out.all, hlb, R2.out, F30.out.mono (fun _ h _ => h.elim)⟩
  case round =>
    obtain ⟨l, hal, hl6, hrow, fr⟩ := hrel
    have HALL := hid hal
    have HROW := hid hrow
    have FR := hid fr
    have RA := hid (R1.out.fr fr (fun k hk hs => by omega))
    obtain ⟨vx, cc, rfl, hcc⟩ := hrow.slice
    clear hal hrow fr
    by_cases hc : l.length < ra.length
    · obtain ⟨g, o, rfl, hg, q0, q1, q2⟩ := sl_three (f := V.cells) vcells_len RA.out hc
      have HSN := hid (HALL.out.snoc HVA.out.all hc)
      obtain ⟨x, hx⟩ : ∃ x, x = ra[l.length] := ⟨_, rfl⟩
      rw [← hx] at q0 q1 q2 HSN
      clear hx
      obtain ⟨k, n, s⟩ := x
      simp only [V.cells, List.getElem?_cons_zero, List.getElem?_cons_succ] at q0 q1 q2
      have i1 : (0 : Int) ≤ (l.length : Int) := by omega
      have i2 : (l.length : Int) < ra.length := by omega
      have HSZ := hid (Nat.le_trans HB.out FR.out.size)
      go_wp2_with (at_builtin; refine wpList_app1 rfl (s := .tmp 21) (x := .tmp 27) (t := 23) rfl Tryd.underlying23 info_val val_cells rfl rfl HROW.out HSZ.out rfl (by simp [Value.oneCell']) (by omega) (by omega) ?_; intro ab ac wg APP; have HGG := hid (show Row 28 3 w2.heap.size wg (.slice ab (l.length + 1) ac) (l ++ [(⟨k, n, s⟩ : V)]).length ((l ++ [(⟨k, n, s⟩ : V)]).flatMap V.cells) ∧ Fr (fun k => w2.heap.size ≤ k) w3 wg from ⟨APP.row.cast (by rw [List.length_append]; rfl) (by rw [List.flatMap_append]; rfl), FR.out.trans APP.fr (fun k hk hl => HROW.out.new k hk)⟩); clear APP)
      go_roundw
      case rel => exact ⟨l ++ [(⟨k, n, s⟩ : V)], HSN.out, by simp; omega, HGG.out.1, HGG.out.2⟩
      case measure => simp [slen]; omega
    · have hle : ra.length ≤ l.length := by omega
      have hlen : (l.take ra.length).length = ra.length := by rw [List.length_take]; omega
      have HS := hid (show KS w wr (.slice a1 ra.length c1) (.slice vx ra.length cc) ra (l.take ra.length) from
        ⟨RA.out.mono (fun k hk => by have := HB.out; have := FR.out.size; omega), by
          have := Sl.take (R := fun k => k < wr.heap.size) (own_sl HROW.out.own (fun k hk => HROW.out.lt hk)) hle HROW.out.length
          rw [vcells_take] at this
          rw [hlen]; exact this, HG.out.fre (F3.out.trans FR.out (fun k hk hl => by have := HW.out; omega)), F3.out.trans FR.out (fun k hk hl => by have := HW.out; omega)⟩)
      have hvb := (HALL.out.take ra.length).row (by omega)
      have hlt := hcc
      generalize l.take ra.length = rb' at *
      clear HROW FR RA HALL R1 R2 F3 F30 HB HW HG
      have hk1 := rowKey_le HVA.out
      have hk2 := rowKey_le hvb
      obtain ⟨l1, l2, l3, l4⟩ := keys_law HVA.out hvb hlen.symm
      have hcut := cut_cmp (rowKey ra) (rowKey rb')
      have HKA := hid (fun W (h : KS w W (.slice a1 ra.length c1) (.slice vx ra.length cc) ra rb') => VKey_go h.a (fun _ h => h) (by omega) h.gv.ml)
      have HKB := hid (fun W (h : KS w W (.slice a1 ra.length c1) (.slice vx ra.length cc) ra rb') => VKey_go h.b (fun _ h => h) (by omega) h.gv.ml)
      have HRW := hid (fun W (h : KS w W (.slice a1 ra.length c1) (.slice vx ra.length cc) ra rb') => VRows_go h.a h.b (by omega) (by omega) h.gv.kn)
      have HBA := hid (fun W (h : KS w W (.slice a1 ra.length c1) (.slice vx ra.length cc) ra rb') => VBytes_go h.a (fun _ h => h) (by omega))
      have HBB := hid (fun W (h : KS w W (.slice a1 ra.length c1) (.slice vx ra.length cc) ra rb') => VBytes_go h.b (fun _ h => h) (by omega))
      clear HVA hvb hlen HVB hlb
      generalize rowKey ra = K at *
      generalize rowKey rb' = L at *
      generalize rowBytes ra = X at *
      generalize rowBytes rb' = Y at *
      generalize rowsCmp ra rb' = c at *
      have HCA := hid (VCut_go K (by omega))
      have HCB := hid (VCut_go L (by omega))
      have HCC := hid (lbytes_go (K.take 16) (L.take 16) (by rw [List.length_take]; omega) (by rw [List.length_take]; omega))
      have HCD := hid (lbytes_go K L (by omega) (by omega))
      rw [l1] at HCD hcut
      generalize Lib.compareBytes (K.take 16) (L.take 16) = cz at *
      generalize K.take 16 = kc at *
      generalize L.take 16 = lc at *
      have HL := hid (And.intro l2 (And.intro l3 (And.intro l4 hcut)))
      clear l1 l2 l3 l4 hcut
      go_wp2_with (fail)
      refine (HKA.out _ HS.out).mono ?_
      rintro e w4 ⟨rfl, f⟩
      replace HS := hid (HS.out.fre f)
      clear f HKA
      go_wp2_with (fail)
      refine (HKB.out _ HS.out).mono ?_
      rintro e w5 ⟨rfl, f⟩
      replace HS := hid (HS.out.fre f)
      clear f HKB
      go_wp2_with (fail)
      refine (HRW.out _ HS.out).mono ?_
      rintro e w6 ⟨rfl, f⟩
      replace HS := hid (HS.out.fre f)
      clear f HRW
      go_wp2_with (fail)
      refine (HCA.out _).mono ?_
      rintro e w7 ⟨rfl, f⟩
      replace HS := hid (HS.out.fre f)
      clear f HCA
      go_wp2_with (fail)
      refine (HCB.out _).mono ?_
      rintro e w8 ⟨rfl, f⟩
      replace HS := hid (HS.out.fre f)
      clear f HCB
      go_wp2_with (fail)
      refine (HCC.out _).mono ?_
      rintro e w9 ⟨rfl, f⟩
      replace HS := hid (HS.out.fre f)
      clear f HCC
      have e1 := bs_size K
      have e2 := bs_size L
      have e3 := bs_take L K.length
      have i1 : (0 : Int) ≤ (K.length : Int) := by omega
      by_cases c0 : c = 0
      · obtain ⟨h2, h3, h4, h5⟩ := HL.out
        obtain rfl := h3.2 c0
        obtain rfl := h4.2 c0
        subst c0
        have hz : cz = 0 := by rcases h5 with h | h <;> exact h
        subst hz
        clear HL h2 h3 h4 h5
        go_wp2_with (fail)
        refine (HCD.out _).mono ?_
        rintro e wa ⟨rfl, f⟩
        replace HS := hid (HS.out.fre f)
        clear f HCD
        go_wp2_with (fail)
        refine (HBA.out _ HS.out).mono ?_
        rintro e wb ⟨rfl, f⟩
        replace HS := hid (HS.out.fre f)
        clear f HBA
        go_wp2_with (fail)
        refine (HBB.out _ HS.out).mono ?_
        rintro e wc ⟨rfl, f⟩
        replace HS := hid (HS.out.fre f)
        clear f HBB
        go_wp2_with (fail)
        go_ret
        exact ⟨rfl, HS.out.fr⟩
      · obtain ⟨h2, h3, h4, h5⟩ := HL.out
        have hc0 : (c == 0) = false := by simpa using c0
        have hkl : ((bs K).toList == (bs L).toList) = false := by rw [beq_dec, decide_eq_false (fun h => c0 (h3.1 h))]
        have hxy : ((bs X).toList == (bs Y).toList) = false := by rw [beq_dec, decide_eq_false (fun h => c0 (h4.1 h))]
        by_cases hle2 : K.length ≤ L.length
        · have hbe : ((bs (L.take K.length)).toList == (bs K).toList) = false := by rw [beq_dec, decide_eq_false (fun h => c0 (h2.1 ⟨hle2, h⟩))]
          have i2 : (K.length : Int) ≤ (L.length : Int) := by omega
          clear HL h2 h3 h4
          generalize L.take K.length = M at *
          rcases h5 with rfl | rfl
          all_goals
            go_wp2_with (fail)
            refine (HCD.out _).mono ?_
            rintro e wa ⟨rfl, f⟩
            replace HS := hid (HS.out.fre f)
            clear f HCD
            go_wp2_with (fail)
            refine (HBA.out _ HS.out).mono ?_
            rintro e wb ⟨rfl, f⟩
            replace HS := hid (HS.out.fre f)
            clear f HBA
            go_wp2_with (fail)
            refine (HBB.out _ HS.out).mono ?_
            rintro e wc ⟨rfl, f⟩
            replace HS := hid (HS.out.fre f)
            clear f HBB
            go_wp2_with (fail)
            go_ret
            exact ⟨rfl, HS.out.fr⟩
        · have i2 : (L.length : Int) < (K.length : Int) := by omega
          clear HL h2 h3 h4 e3
          rcases h5 with rfl | rfl
          all_goals
            go_wp2_with (fail)
            refine (HCD.out _).mono ?_
            rintro e wa ⟨rfl, f⟩
            replace HS := hid (HS.out.fre f)
            clear f HCD
            go_wp2_with (fail)
            refine (HBA.out _ HS.out).mono ?_
            rintro e wb ⟨rfl, f⟩
            replace HS := hid (HS.out.fre f)
            clear f HBA
            go_wp2_with (fail)
            refine (HBB.out _ HS.out).mono ?_
            rintro e wc ⟨rfl, f⟩
            replace HS := hid (HS.out.fre f)
            clear f HBB
            go_wp2_with (fail)
            go_ret
            exact ⟨rfl, HS.out.fr⟩
end Go.Proofs.YtknpncpoojjbfaaDoor
namespace Go.Proofs.YtknpncpoojjbfaaDoor.valueKeys
open Go.ChangeShapes Go.WideShapes Go.ChangeAt Go.ChangeMaps Go.RowKit Go.VB Go.VB.Rec
set_option maxHeartbeats 400000 in
set_option maxRecDepth 100000 in
theorem lifted (os : Os) (started : os.Started) (H : Type) (enc : TypeId × Value → H) :
    ReturnsInHanded {} Tryd.checked os 7 .any (fun w args => (Rows.valueKeysSpec.pre enc Tryd.prog Tryd.f7 Rows.valueKeysRow.domain false w args ∧ laidMetH Tryd.prog Rows.valueKeysRow.laid w) ∧ sizedMet enc Tryd.prog Tryd.f7 (OpenSpec.ofChange Rows.valueKeysSpec) false w args) (Rows.valueKeysSpec.post enc Tryd.prog Tryd.f7 false true false false) := by
  refine handed_and_shaped (C := Tryd.checked) (X := fun w _ => laidMetH Tryd.prog Rows.valueKeysRow.laid w) (fun _ _ _ hh h => h.of_heap hh) own started (by kernel_rfl) Tryd.func7
    (ChangeSpec.witness_shaped (enc := enc) (C := Tryd.checked) (os := os) (X := fun w _ => laidMetH Tryd.prog Rows.valueKeysRow.laid w) false (startW os) #[.slice none 0 0, .slice none 0 0] 8 rfl (start_shaped os _) (by kernel_rfl) (by kernel_rfl) (by kernel_rfl) (start_met os _)) ?_
  intro W base args ds gs before hval0 hW hL hsh
  have GV : Hid (Gv W) := hid (gv_of hL hsh)
  clear hL hsh
  have hval : ∀ (j : Nat) t v, Tryd.f7.params[j]? = some t → args[j]? = some v → Value.okWide Tryd.prog W .any base t v := hval0
  have hW' := hW
  obtain ⟨p, q, hA0, hV, rfl, hfz, hnd⟩ := hW
  have hA : DataW.TrodAll enc Tryd.prog W 0 (fun _ => true) true Tryd.f7.params.toList args.toList ds p := hA0
  rw [Tryd.params7] at hA hval
  obtain ⟨v0, vs0, d0, ds0, p0, q0, hargs, rfl, rfl, h0, r0⟩ := trodAll_cons hA
  obtain ⟨v1, vs1, d1, ds1, p1, q1, rfl, rfl, rfl, h1, r1⟩ := trodAll_cons r0
  obtain ⟨rfl, rfl, rfl⟩ := trodAll_nil r1
  obtain rfl : args = #[v0, v1] := by cases args; simp_all
  obtain ⟨rfl, rfl⟩ := trodVars_none hV
  clear hA0 hval0
  refine Calls.mono (R := fun e w' => e = .returned (.bool true) ∧ Fr (fun _ => False) W w') ?_ fun e W' ⟨he, hf⟩ => ⟨_, he, post_law sound (by decide +kernel) rfl rfl (ht := Tryd.underlying4) (by rfl) hW' hf⟩
  obtain ⟨a, sa, ia, la⟩ := open_row (hval 0 23 v0 rfl rfl) h0
  obtain ⟨b, sb, ib, lb⟩ := open_row (hval 1 23 v1 rfl rfl) h1
  exact Keys_walk GV.out sa sb (Nat.le_trans la (by decide)) (Nat.le_trans lb (by decide)) ia ib
theorem row_holds : Rows.ValueKeysSaid :=
  OpenClaim.holds_of_wide 7 Tryd.f7 rfl rfl rfl rfl rfl rfl rfl ⟨rfl, rfl, rfl, rfl, rfl⟩ rfl rfl rfl rfl rfl (by kernel_rfl) Tryd.func7 (by kernel_rfl)
    (of_decide_eq_true (by kernel_rfl)) (by unfold Func.isWrapper; first | (rw [if_pos (by decide +kernel)]; kernel_rfl) | (rw [if_neg (by decide +kernel)]; exact ⟨rfl, rfl⟩))
    (fun os started H enc _ => lifted os started H enc)
theorem proved : Rows.ValueKeysCardSaid :=
  Claim7.holds_tied_plain_at .later [] Rows.valueKeysCard.laidKinds true Rows.valueKeysCard.stood.harness true row_holds (fun _ h => by cases h) (by kernel_rfl) (fun _ h => by cases h) valueKeys_row_tie rfl ⟨rfl, rfl⟩ (by kernel_rfl) rfl
    (fun f fn hf hfn => by
      obtain rfl : f = 7 := Option.some.inj ((show Tryd.prog.funcNamed "vintner/vintnerlaw02.ValueKeys" = some 7 by kernel_rfl).symm.trans hf) |>.symm
      obtain rfl : fn = Tryd.f7 := (Option.some.inj (Tryd.func7.symm.trans hfn)).symm
      exact ⟨by kernel_rfl, fun j t ht => by
        rw [Tryd.params7] at ht
        have hm : t ∈ [23] := by simpa using Array.mem_of_getElem? ht
        have hall : ([23].all fun u => !Tryd.prog.wantsStandIn u) = true := by kernel_rfl
        exact (show Tryd.prog.wantsStandIn t = false by simpa using List.all_eq_true.1 hall t hm)⟩)
    (by kernel_rfl)
end Go.Proofs.YtknpncpoojjbfaaDoor.valueKeys
