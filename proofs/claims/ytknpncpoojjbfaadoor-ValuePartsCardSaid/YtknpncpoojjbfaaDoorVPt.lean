import Derived.Test.YtknpncpoojjbfaaDoorVF2
import Derived.Test.YtknpncpoojjbfaaDoorVIp
import Derived.Test.YtknpncpoojjbfaaDoorVH
import Derived.Test.YtknpncpoojjbfaaDoorVK
import Derived.Test.YtknpncpoojjbfaaDoorVR
/- The walk of ValueParts. -/
set_option linter.unusedVariables false
namespace Go.VB.Rec
theorem vcells_take (l : List V) (n : Nat) : (l.flatMap V.cells).take (n * 3) = (l.take n).flatMap V.cells := by
  induction l generalizing n with
  | nil => simp
  | cons x l ih =>
    cases n with
    | zero => simp
    | succ n =>
      rw [List.flatMap_cons, List.take_succ_cons, List.flatMap_cons, ← ih n, show (n + 1) * 3 = (V.cells x).length + n * 3 by simp [V.cells]; omega, List.take_length_add_append]
theorem vcells_length (l : List V) : (l.flatMap V.cells).length = l.length * 3 := by
  induction l with
  | nil => rfl
  | cons x l ih => rw [List.flatMap_cons, List.length_append, ih, List.length_cons]; simp [V.cells]; omega
theorem vcells_one (l : List V) : ∀ u ∈ l.flatMap V.cells, u.oneCell' = true := by
  intro u hu
  obtain ⟨v, _, hv⟩ := List.mem_flatMap.1 hu
  simp only [V.cells, List.mem_cons, List.not_mem_nil, or_false] at hv
  rcases hv with rfl | rfl | rfl <;> rfl
theorem row_len {a : List V} (h : row a = true) : a.length ≤ 6 := by
  unfold row at h
  simp only [Bool.and_eq_true, decide_eq_true_eq] at h
  exact h.1
theorem rowBytes_parts {a : List V} (h : row a = true) : rowBytes a = UInt8.ofNat a.length :: a.flatMap V.bytes := by unfold rowBytes; rw [if_pos h]
theorem key_le {v : V} (hr : v.right = true) : v.key.length ≤ 100 := by
  unfold V.right at hr
  simp only [Bool.and_eq_true, Bool.or_eq_true, decide_eq_true_eq] at hr
  have := esc_len 0 [0, 255] (by simp) v.s
  unfold V.key
  by_cases h1 : v.k = 1
  · rw [if_pos h1, be8_eq]; simp
  · rw [if_neg h1]
    by_cases h2 : v.k = 2
    · rw [if_pos h2, List.length_cons, List.length_append]
      rcases hr.2 with g | g
      · exact absurd h2 g
      · simp only [List.length_cons, List.length_nil]; omega
    · rw [if_neg h2]; simp
theorem bytes_le {v : V} (hr : v.right = true) : v.bytes.length ≤ 100 := by
  unfold V.right at hr
  simp only [Bool.and_eq_true, Bool.or_eq_true, decide_eq_true_eq] at hr
  unfold V.bytes
  by_cases h1 : v.k = 1
  · rw [if_pos h1, be8_eq]; simp
  · rw [if_neg h1]
    by_cases h2 : v.k = 2
    · rw [if_pos h2]
      rcases hr.2 with g | g
      · exact absurd h2 g
      · simp only [List.length_cons]; omega
    · rw [if_neg h2]; simp
theorem flat_le {f : V → List UInt8} {l : List V} (h : ∀ v ∈ l, (f v).length ≤ 100) : (l.flatMap f).length ≤ 100 * l.length := by
  induction l with
  | nil => simp
  | cons x l ih =>
    rw [List.flatMap_cons, List.length_append, List.length_cons]
    have := h x (List.mem_cons_self ..)
    have := ih (fun v hv => h v (List.mem_cons_of_mem _ hv))
    omega
end Go.VB.Rec
namespace Go.Proofs.YtknpncpoojjbfaaDoor
open Go.RowKit Go.VB Go.VB.Oct Go.VB.Rec
theorem lbytes_go (a b : List UInt8) (ha : a.length ≤ 1099511627776) (hb : b.length ≤ 1099511627776) (w : World) : Calls Tryd.prog 31 #[.string (bs a), .string (bs b)] w fun e w' => e = .returned (.int .i64 (Lib.compareBytes a b)) ∧ Fr (fun _ => False) w w' := by
  have H := hid (Texts_go a b ha hb)
  go_enter Tryd.func31, Tryd.ntmps31
  go_wp2_with (go_at_call 41; refine (H.out _).mono ?_; rintro e w1 ⟨rfl, f⟩; have F1 := hid f; clear f)
  go_ret
  exact ⟨rfl, F1.out⟩
/-- three rows in variables -/
structure PS (w0 W : World) (va vb vc : Value) (ra rb rc : List V) : Prop where
  a : Sl (fun k => k < W.heap.size) W va ra.length (ra.flatMap V.cells)
  b : Sl (fun k => k < W.heap.size) W vb rb.length (rb.flatMap V.cells)
  c : Sl (fun k => k < W.heap.size) W vc rc.length (rc.flatMap V.cells)
  gv : Gv W
  fr : Fr (fun _ => False) w0 W
theorem PS.fre {w0 W W' : World} {va vb vc : Value} {ra rb rc : List V} (h : PS w0 W va vb vc ra rb rc) (f : Fr (fun _ => False) W W') : PS w0 W' va vb vc ra rb rc :=
  ⟨(h.a.fr f (fun _ _ h => h)).mono (fun k hk => Nat.lt_of_lt_of_le hk f.size), (h.b.fr f (fun _ _ h => h)).mono (fun k hk => Nat.lt_of_lt_of_le hk f.size), (h.c.fr f (fun _ _ h => h)).mono (fun k hk => Nat.lt_of_lt_of_le hk f.size), h.gv.fre f, h.fr.trans f (fun _ h _ => h)⟩
/-- a row's value as a row -/
theorem part_sl {W : World} {a : Option Addr} {c : Nat} {l : List V} (h : Sl (fun k => k < W.heap.size) W (.slice a l.length c) l.length (l.flatMap V.cells)) {j : Nat} (hj : j < l.length) :
    ∃ g o, a = some ⟨g, o, none⟩ ∧ ∀ c', 1 ≤ c' → Sl (fun k => k < W.heap.size) W (.slice (some ⟨g, o + j * 3, none⟩) 1 c') [l[j]].length ([l[j]].flatMap V.cells) := by
  obtain ⟨g, o, rfl, hg, q0, q1, q2⟩ := sl_three (f := V.cells) vcells_len h hj
  refine ⟨g, o, rfl, fun c' hc => ⟨_, c', rfl, hc, fun _ => ⟨g, o + j * 3, rfl, hg, ?_⟩⟩⟩
  intro i u hu
  match i with
  | 0 => rw [Nat.add_zero, q0]; simpa using hu
  | 1 => rw [q1]; simpa using hu
  | 2 => rw [q2]; simpa using hu
  | i + 3 => simp [V.cells] at hu
set_option maxRecDepth 20000 in
set_option maxHeartbeats 4000000 in
theorem Parts_walk {P : Nat → Prop} {w : World} (G : Gv w) {va vb : Value} {a b : List V} (ha : Sl P w va a.length (a.flatMap V.cells)) (hb : Sl P w vb b.length (b.flatMap V.cells)) (la : a.length ≤ 9223372036854775807) (lb : b.length ≤ 9223372036854775807) :
    Calls Tryd.prog 12 #[va, vb] w fun e w' => e = .returned (.bool true) ∧ Fr (fun _ => False) w w' := by
  have HG := hid G
  have HSA := hid (sanity_go G)
  have HFA := hid (fun w' (f : Fr (fun _ => False) w w') => right2_go (ha.fr f (fun _ _ h => h)) la)
  have HFB := hid (fun w' (f : Fr (fun _ => False) w w') => right2_go (hb.fr f (fun _ _ h => h)) lb)
  have hla := rightRow_len a
  have hlb := rightRow_len b
  have HVA := hid (rightRow_row a)
  have HVB := hid (rightRow_row b)
  obtain ⟨ax, cx, rfl, -⟩ := ha
  obtain ⟨ay, cy, rfl, -⟩ := hb
  clear G la lb
  generalize rightRow a = ra at *
  generalize rightRow b = rb at *
  go_enter Tryd.func12, Tryd.ntmps12
  go_wp2_with (fail)
  refine HSA.out.mono ?_
  rintro e w1 ⟨rfl, f⟩
  have F1 := hid f
  clear f HSA
  go_wp2_with (fail)
  refine (HFA.out _ F1.out).mono ?_
  rintro e w2 ⟨a1, c1, rfl, hr, f⟩
  have F2 := hid (F1.out.trans f (fun _ h _ => h))
  have R1 := hid (own_sl hr.own (fun k hk => hr.lt hk) : Sl (fun k => k < w2.heap.size) w2 _ _ _)
  clear f HFA F1 hr
  go_wp2_with (fail)
  refine (HFB.out _ F2.out).mono ?_
  rintro e w3 ⟨a2, c2, rfl, hr, f⟩
  have F3 := hid (F2.out.trans f (fun _ h _ => h))
  obtain ⟨q, hq⟩ : ∃ q : Nat, q = min rb.length (6 - ra.length) := ⟨_, rfl⟩
  have hq1 : q ≤ rb.length := by omega
  have hq2 : ra.length + q ≤ 6 := by omega
  have hm1 : min (rb.length : Int) (6 - (ra.length : Int)) = (q : Int) := by omega
  have hm2 : (if 6 - (ra.length : Int) < (rb.length : Int) then 6 - (ra.length : Int) else (rb.length : Int)) = (q : Int) := by split <;> omega
  have hqc : (q : Int) ≤ (c2 : Int) := by
    obtain ⟨_, _, h1, h2⟩ := hr.slice
    cases h1
    omega
  have hlen : (rb.take q).length = q := by rw [List.length_take]; omega
  have R2 := hid (show Sl (fun k => k < w3.heap.size) w3 (.slice a2 q c2) (rb.take q).length ((rb.take q).flatMap V.cells) from by
    have := Sl.take (R := fun k => k < w3.heap.size) (own_sl hr.own (fun k hk => hr.lt hk)) hq1 hr.own.1
    rw [vcells_take] at this
    rw [hlen]; exact this)
  replace R1 := hid ((R1.out.fr f (fun _ _ h => h)).mono (fun k hk => Nat.lt_of_lt_of_le hk f.size) : Sl (fun k => k < w3.heap.size) w3 _ _ _)
  have HVB2 := hid (row_take HVB.out q)
  clear f HFB F2 hr hq HVB
  go_upto_region 5 with fail
  generalize rb.take q = rb' at *
  subst hlen
  clear hm1 hm2 hq1 hlb
  have F3a := F3.out.alloc (.cells #[] 28)
  have R0 := hid (Row.built (e := 28) (n := 0) (size := 3) (B := w3.heap.size) w3 (l := []) rfl (by decide) (Nat.le_refl _))
  have fa := (Fr.refl (fun _ => False) w3).alloc (.cells #[] 28)
  have S1 := hid (Sl.src (P := Tryd.prog) (R1.out.fr fa (fun _ _ h => h)) (vcells_length ra) (by decide) (vcells_one ra))
  have hzz : w3.heap.size ≤ (w3.alloc (.cells #[] 28)).heap.size := fa.size
  have HFA := hid fa
  clear F3a fa
  go_upto_region 7 with (first
    | (refine wpList_appS rfl (s := .tmp 25) (x := .tmp 26) (t := 23) (tx := 23) rfl Tryd.underlying23 Tryd.underlying23 (.inr ⟨_, rfl⟩) info_val val_cells rfl rfl R0.out hzz S1.out (by omega) (by omega) ?_; intro ab ac wg APP; simp only [Nat.zero_add] at APP ⊢; have HG1 := hid (APP.frB R0.out HFA.out (Nat.le_refl _)); have HR1 := hid (APP.row.cast (m := ra.length) (ys := ra.flatMap V.cells) (Nat.zero_add _) (by simp)); have S2 := hid (Sl.src (P := Tryd.prog) (R2.out.fr HG1.out (fun _ _ h => h)) (vcells_length rb') (by decide) (vcells_one rb')); have hzg := HG1.out.size; clear APP)
    | (refine wpList_appS rfl (s := .tmp 27) (x := .tmp 28) (t := 23) (tx := 23) rfl Tryd.underlying23 Tryd.underlying23 (.inr ⟨_, rfl⟩) info_val val_cells rfl rfl HR1.out hzg S2.out (by omega) (by omega) ?_; intro ab2 ac2 wg2 APP; have HG2 := hid (APP.frB HR1.out HG1.out (Nat.le_refl _)); have HR2 := hid (APP.row.cast (m := (ra ++ rb').length) (ys := (ra ++ rb').flatMap V.cells) (by rw [List.length_append]) (by rw [List.flatMap_append])); clear APP))
  have HF4 := hid (F3.out.trans HG2.out (fun _ h _ => h))
  have HA := hid ((R1.out.fr HG2.out (fun _ _ h => h)).mono (fun k hk => Nat.lt_of_lt_of_le hk HG2.out.size) : Sl (fun k => k < wg2.heap.size) wg2 _ _ _)
  have HB := hid ((R2.out.fr HG2.out (fun _ _ h => h)).mono (fun k hk => Nat.lt_of_lt_of_le hk HG2.out.size) : Sl (fun k => k < wg2.heap.size) wg2 _ _ _)
  have HAB := hid (own_sl HR2.out.own (fun k hk => HR2.out.lt hk) : Sl (fun k => k < wg2.heap.size) wg2 _ _ _)
  have HGG := hid (HG.out.fre HF4.out)
  clear F3 R1 R2 R0 S1 hzz HFA HG1 HR1 S2 hzg HR2 HG2 HG
  obtain ⟨n, hn⟩ : ∃ n, n = ra.length + rb'.length := ⟨_, rfl⟩
  have hn2 : (ra.length : Int) + (rb'.length : Int) = (n : Int) := by omega
  rw [← hn] at HAB ⊢
  have hn6 : n ≤ 6 := by omega
  have hnb : (ra ++ rb').length = n := by rw [List.length_append]; omega
  have hcv : ∀ w : World, (convert 42 9 (.slice (some ⟨w.heap.size, 0, none⟩) 1 1)).run Tryd.prog (w.alloc (.cells #[.int .u8 (n : Int)] 5)) = .ok (.string (bs [UInt8.ofNat n])) (w.alloc (.cells #[.int .u8 (n : Int)] 5)) := fun w => by
    have e : (UInt8.ofNat n).toNat = n := by simp; omega
    have hb := (Blk.new w (bv [UInt8.ofNat n]) 5).all
    have e2 : (bv [UInt8.ofNat n]).toArray = #[.int .u8 (n : Int)] := by simp only [bv, List.map_cons, List.map_nil, e]
    rw [e2] at hb
    exact run_bytes_string hb Tryd.underlying42 Tryd.underlying5 Tryd.underlying9 1 1 rfl
  clear hn
  go_upto_region 8 with fail
  have HS := hid (show PS w (wg2.alloc (.cells #[.int .u8 (n : Int)] 5)) (.slice a1 ra.length c1) (.slice a2 rb'.length c2) (.slice ab2 n ac2) ra rb' (ra ++ rb') from
    (show PS w wg2 (.slice a1 ra.length c1) (.slice a2 rb'.length c2) (.slice ab2 n ac2) ra rb' (ra ++ rb') from ⟨HA.out, HB.out, HAB.out, HGG.out, HF4.out⟩).fre ((Fr.refl _ wg2).alloc _))
  have HRC := hid (row_app HVA.out HVB2.out hq2)
  have hkk := hid (parts_key HVA.out HVB2.out hq2)
  have hmo := hid (rows_more ra rb')
  have hkm := hid (keys_more HRC.out HVA.out)
  clear HA HB HAB HGG HF4 hcv hn2 HVA HVB2
  generalize wg2.alloc _ = W1 at *
  generalize ra ++ rb' = rc at *
  subst hnb
  have hcap : (rc.length : Int) ≤ (ac2 : Int) := by
    obtain ⟨_, _, h1, h2, _⟩ := HS.out.c
    cases h1
    omega
  go_wp2_with (fail)
  go_loopw [7, 8, 9] (fun v7 v8 v9 wr => ∃ j : Nat, j ≤ rc.length ∧ v9 = .int .i64 j ∧ v7 = .string (bs ((rc.take j).flatMap V.key)) ∧ v8 = .string (bs (UInt8.ofNat rc.length :: (rc.take j).flatMap V.bytes)) ∧ PS w wr (.slice a1 ra.length c1) (.slice a2 rb'.length c2) (.slice ab2 rc.length ac2) ra rb' rc) (fun _ _ i _ => rc.length - (intOf i).toNat)
  case atStart => exact ⟨0, by omega, rfl, rfl, rfl, HS.out⟩
  case round =>
    obtain ⟨j, hj, rfl, rfl, rfl, hs⟩ := hrel
    clear HS
    have HS := hid hs
    clear hs
    by_cases hjl : j < rc.length
    · have i1 : (0 : Int) ≤ (j : Int) := by omega
      have i2 : (j : Int) < rc.length := by omega
      have i3 : (j : Int) + 1 ≤ (ac2 : Int) := by omega
      obtain ⟨g, o, rfl, HP⟩ := part_sl HS.out.c hjl
      have hr := Rec.row_all HRC.out rc[j] (List.getElem_mem hjl)
      have hlk := Rec.flat_le (f := V.key) (l := rc.take j) (fun v hv => key_le (Rec.row_all HRC.out v (List.mem_of_mem_take hv)))
      have hlb := Rec.flat_le (f := V.bytes) (l := rc.take j) (fun v hv => bytes_le (Rec.row_all HRC.out v (List.mem_of_mem_take hv)))
      have hk1 := key_le hr
      have hb1 := bytes_le hr
      have hr1 := row_one HRC.out (List.getElem_mem hjl)
      have htl : (rc.take j).length ≤ 6 := by rw [List.length_take]; omega
      have HTK := hid (take_flat rc V.key j hjl)
      have HTB := hid (take_flat rc V.bytes j hjl)
      have HKK := hid (fun (W : World) (h : PS w W (.slice a1 ra.length c1) (.slice a2 rb'.length c2) (.slice (some ⟨g, o, none⟩) rc.length ac2) ra rb' rc) => by
        obtain ⟨g', o', h1, h2⟩ := part_sl h.c hjl
        cases h1
        exact VKey_go (h2 (ac2 - j) (by omega)) (fun _ h => h) (Nat.le_of_ble_eq_true rfl) h.gv.ml)
      have HBB := hid (fun (W : World) (h : PS w W (.slice a1 ra.length c1) (.slice a2 rb'.length c2) (.slice (some ⟨g, o, none⟩) rc.length ac2) ra rb' rc) => by
        obtain ⟨g', o', h1, h2⟩ := part_sl h.c hjl
        cases h1
        exact VBytes_go (h2 (ac2 - j) (by omega)) (fun _ h => h) (Nat.le_of_ble_eq_true rfl))
      clear HP
      rw [one_key hr1] at HKK
      rw [one_bytes hr1] at HBB
      obtain ⟨M1, hM1, hL1, hadd1⟩ := add_is ((rc.take j).flatMap V.key) (rc[j].key) (by omega)
      obtain ⟨M2, hM2, hL2, hadd2⟩ := add_is (UInt8.ofNat rc.length :: (rc.take j).flatMap V.bytes) (rc[j].bytes) (by rw [List.length_cons]; omega)
      have hbp := bytes_pos rc[j]
      clear hr hr1 hlk hlb hk1 hb1 hL1 hL2
      generalize rc[j].key = kj at *
      generalize rc[j].bytes = bj at *
      generalize List.flatMap V.key (rc.take j) = ks at *
      obtain ⟨bsj, hbsj⟩ : ∃ x, x = UInt8.ofNat rc.length :: List.flatMap V.bytes (rc.take j) := ⟨_, rfl⟩
      have HBS := hid hbsj
      rw [← hbsj] at hM2 hadd2 ⊢
      clear hbsj
      have HTB2 : Hid (M2 = UInt8.ofNat rc.length :: (rc.take (j + 1)).flatMap V.bytes) := hid (by rw [hM2.out, HTB.out, HBS.out]; rfl)
      clear HTB HBS hM2
      have es : ((bs (1 :: bj)).size : Int) = (bj.length : Int) + 1 := by rw [bs_size]; simp
      have es2 : (bs (1 :: bj)).size = bj.length + 1 := by rw [bs_size]; simp
      have ee : (bs (1 :: bj)).extract 1 (bj.length + 1) = bs bj := by apply ByteArray.ext; simp [bs]
      have ib : (2 : Int) ≤ (bj.length : Int) + 1 := by omega
      generalize bs (1 :: bj) = ob at *
      go_wp2_with (fail)
      refine (HKK.out _ HS.out).mono ?_
      rintro e w4 ⟨rfl, f⟩
      replace HS := hid (HS.out.fre f)
      clear f HKK
      go_wp2_with (fail)
      refine (HBB.out _ HS.out).mono ?_
      rintro e w5 ⟨rfl, f⟩
      replace HS := hid (HS.out.fre f)
      clear f HBB
      go_wp2_with (fail)
      go_roundw
      case rel => exact ⟨j + 1, by omega, by go_num, by rw [HTK.out, hM1.out], by rw [HTB2.out], HS.out⟩
      case measure => simp [intOf]; omega
    · obtain rfl : j = rc.length := by omega
      rw [List.take_length, ← rowKey_eq HRC.out, ← rowBytes_parts HRC.out]
      have hk6 : (rowKey rc).length ≤ 600 := by
        have := Rec.flat_le (f := V.key) (l := rc) (fun v hv => key_le (Rec.row_all HRC.out v hv))
        rw [rowKey_eq HRC.out]
        omega
      have hk7 : (rowKey ra).length + (rowKey rb').length ≤ 600 := by rw [← List.length_append, hkk.out]; exact hk6
      have hadd := fun w => run_add_bs (P := Tryd.prog) w (rowKey ra) (rowKey rb') (by omega)
      rw [hkk.out] at hadd
      have HKA := hid (fun (W : World) (h : PS w W (.slice a1 ra.length c1) (.slice a2 rb'.length c2) (.slice ab2 rc.length ac2) ra rb' rc) => VKey_go h.a (fun _ h => h) (by omega) h.gv.ml)
      have HKB := hid (fun (W : World) (h : PS w W (.slice a1 ra.length c1) (.slice a2 rb'.length c2) (.slice ab2 rc.length ac2) ra rb' rc) => VKey_go h.b (fun _ h => h) (by omega) h.gv.ml)
      have HKC := hid (fun (W : World) (h : PS w W (.slice a1 ra.length c1) (.slice a2 rb'.length c2) (.slice ab2 rc.length ac2) ra rb' rc) => VKey_go h.c (fun _ h => h) (by omega) h.gv.ml)
      have HBC := hid (fun (W : World) (h : PS w W (.slice a1 ra.length c1) (.slice a2 rb'.length c2) (.slice ab2 rc.length ac2) ra rb' rc) => VBytes_go h.c (fun _ h => h) (by omega))
      have HRW := hid (fun (W : World) (h : PS w W (.slice a1 ra.length c1) (.slice a2 rb'.length c2) (.slice ab2 rc.length ac2) ra rb' rc) => VRows_go h.c h.a (by omega) (by omega) h.gv.kn)
      have HLB := hid (lbytes_go (rowKey rc) (rowKey ra) (by omega) (by omega))
      rw [hmo.out] at HRW
      rw [hkm.out] at HLB
      clear hmo hkm hkk hk6 hk7 HRC
      generalize rowKey rc = K3 at *
      generalize rowKey ra = KA at *
      generalize rowKey rb' = KB at *
      generalize rowBytes rc = X3 at *
      by_cases hb0 : rb'.length = 0
      · rw [if_pos hb0] at HRW HLB
        have hb1 : ¬ (0 : Int) < (rb'.length : Int) := by omega
        clear hb0
        go_wp2_with (fail)
        refine (HKC.out _ HS.out).mono ?_
        rintro e w4 ⟨rfl, f⟩
        replace HS := hid (HS.out.fre f)
        clear f
        go_wp2_with (fail)
        refine (HKA.out _ HS.out).mono ?_
        rintro e w5 ⟨rfl, f⟩
        replace HS := hid (HS.out.fre f)
        clear f
        go_wp2_with (fail)
        refine (HKB.out _ HS.out).mono ?_
        rintro e w6 ⟨rfl, f⟩
        replace HS := hid (HS.out.fre f)
        clear f
        go_wp2_with (fail)
        refine (HBC.out _ HS.out).mono ?_
        rintro e w7 ⟨rfl, f⟩
        replace HS := hid (HS.out.fre f)
        clear f
        go_wp2_with (fail)
        refine (HRW.out _ HS.out).mono ?_
        rintro e w8 ⟨rfl, f⟩
        replace HS := hid (HS.out.fre f)
        clear f
        go_wp2_with (fail)
        refine (HKC.out _ HS.out).mono ?_
        rintro e w9 ⟨rfl, f⟩
        replace HS := hid (HS.out.fre f)
        clear f
        go_wp2_with (fail)
        refine (HKA.out _ HS.out).mono ?_
        rintro e w10 ⟨rfl, f⟩
        replace HS := hid (HS.out.fre f)
        clear f
        go_wp2_with (fail)
        refine (HLB.out _).mono ?_
        rintro e w11 ⟨rfl, f⟩
        replace HS := hid (HS.out.fre f)
        clear f
        go_wp2_with (fail)
        go_ret
        exact ⟨rfl, HS.out.fr⟩
      · rw [if_neg hb0] at HRW HLB
        have hb1 : (0 : Int) < (rb'.length : Int) := by omega
        clear hb0
        go_wp2_with (fail)
        refine (HKC.out _ HS.out).mono ?_
        rintro e w4 ⟨rfl, f⟩
        replace HS := hid (HS.out.fre f)
        clear f
        go_wp2_with (fail)
        refine (HKA.out _ HS.out).mono ?_
        rintro e w5 ⟨rfl, f⟩
        replace HS := hid (HS.out.fre f)
        clear f
        go_wp2_with (fail)
        refine (HKB.out _ HS.out).mono ?_
        rintro e w6 ⟨rfl, f⟩
        replace HS := hid (HS.out.fre f)
        clear f
        go_wp2_with (fail)
        refine (HBC.out _ HS.out).mono ?_
        rintro e w7 ⟨rfl, f⟩
        replace HS := hid (HS.out.fre f)
        clear f
        go_wp2_with (fail)
        refine (HRW.out _ HS.out).mono ?_
        rintro e w8 ⟨rfl, f⟩
        replace HS := hid (HS.out.fre f)
        clear f
        go_wp2_with (fail)
        refine (HKC.out _ HS.out).mono ?_
        rintro e w9 ⟨rfl, f⟩
        replace HS := hid (HS.out.fre f)
        clear f
        go_wp2_with (fail)
        refine (HKA.out _ HS.out).mono ?_
        rintro e w10 ⟨rfl, f⟩
        replace HS := hid (HS.out.fre f)
        clear f
        go_wp2_with (fail)
        refine (HLB.out _).mono ?_
        rintro e w11 ⟨rfl, f⟩
        replace HS := hid (HS.out.fre f)
        clear f
        go_wp2_with (fail)
        go_ret
        exact ⟨rfl, HS.out.fr⟩
end Go.Proofs.YtknpncpoojjbfaaDoor
