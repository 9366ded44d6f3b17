import Derived.Test.YtfhkmiifndhacaaDoorValC
/- value.Read, whole. -/
set_option linter.unusedVariables false
namespace Go.Proofs.YtfhkmiifndhacaaDoor
open Go.RowKit Go.VB Go.VB.Oct Go.VB.Rec
set_option maxRecDepth 20000 in
set_option maxHeartbeats 4000000 in
theorem VRead_go (s : List UInt8) (hs : s.length ≤ 1099511627776) (w : World) : Calls Tryd.prog 9 #[.string (bs s)] w fun e w' => ∃ va, e = .returned (.tuple #[va, .int .i64 (readV s).2]) ∧ Row 50 3 w.heap.size w' va (readV s).1.length ((readV s).1.flatMap V.cells) ∧ Fr (fun _ => False) w w' := by
  have hmf : ∀ (fn : Fn) (first cap : Array Value) (w : World), (Instr.makeFunc fn first cap).run Tryd.prog w = .ok (.func fn first cap) w := fun _ _ _ _ => rfl
  have hsf : ∀ (a : Addr) (fn : Fn) (x y : Array Value) (w : World), (store a (.func fn x y)).run Tryd.prog w = stored Tryd.prog w a (.func fn x y) .plain := fun a fn x y w => run_store Tryd.prog w a _ .plain rfl
  have HV := hid (vread_start w s)
  go_enter_defers Tryd.func9, Tryd.ntmps9
  cases s with
  | nil =>
    have HO := hid HV.out.one_bad
    go_wp2_with (go_at_call 32; refine HO.out.mono ?_; rintro e w1 ⟨rfl, rfl⟩)
    exact vread_panic HV.out 10 rfl rfl (fun W' f => ⟨_, rfl, Row.nil, f⟩)
  | cons c s =>
    have HO := hid (HV.out.one (by simp at hs; omega))
    have hc := c.toNat_lt
    by_cases h6 : c.toNat ≤ 6
    · have h6' : decide ((c.toNat : Int) ≤ 6) = true := decide_eq_true (by omega)
      have HM := hid (fun w => h6' ▸ must_true 2 w)
      clear h6'
      go_wp2_with (first
        | (go_at_call 32; refine HO.out.mono ?_; rintro e w1 ⟨rfl, hv1, f1⟩; have HV1 := hid hv1; clear hv1 f1 HV HO)
        | (go_at_call 31; refine (HM.out _).mono ?_; rintro e w2 ⟨rfl, rfl⟩))
      have hrv : readV (c :: s) = (match readN c.toNat s with | .error e => ([], e) | .ok (l, []) => (l, 0) | .ok (_, _ :: _) => ([], 11)) := by unfold readV; dsimp only; rw [if_neg (Nat.not_lt.2 h6)] <;> rfl
      have HRV := hid hrv
      clear hrv
      generalize c.toNat = n at *
      have hs' : s.length ≤ 1099511627776 := by simp at hs; omega
      generalize hda : w.heap.size = a at *
      have HDA := hid hda
      clear hda hs hc HM
      go_loopw [20] (fun i wr => ∃ (j : Nat) (t : List UInt8) (va : Value) (acc : List V), j ≤ n ∧ i = .int .i64 j ∧ VR w wr a t va acc ∧ acc.length = j ∧ more acc (readN (n - j) t) = readN n s ∧ t.length ≤ 1099511627776) (fun i _ => n - (intOf i).toNat)
      case atStart => exact ⟨0, s, _, [], by omega, rfl, HV1.out, rfl, more_nil _, hs'⟩
      case round =>
        obtain ⟨j, t, va, acc, hj, rfl, hv, hal, hmore, ht⟩ := hrel
        have HVR := hid hv
        have HMO := hid hmore
        have HAL := hid hal
        clear hv hmore hal
        by_cases hjn : j < n
        · have hsub : n - j = (n - (j + 1)) + 1 := by omega
          cases t with
          | nil =>
            have HO := hid HVR.out.one_bad
            go_wp2_with (go_at_call 32; refine HO.out.mono ?_; rintro e w2 ⟨rfl, rfl⟩)
            have hx : readN n s = .error 10 := by rw [← HMO.out, hsub]; exact more_err rfl
            refine vread_panic HVR.out 10 rfl rfl (fun W' f => ?_)
            rw [HRV.out, hx]
            exact ⟨_, rfl, Row.nil, f⟩
          | cons k t =>
            have HO := hid (HVR.out.one (by simp at ht; omega))
            have hk := k.toNat_lt
            have HKN := hid (fun w => known_go k.toNat w)
            have HMK := hid (fun (w : World) (h : (decide (0 ≤ (k.toNat : Int)) && decide ((k.toNat : Int) ≤ 2)) = true) => h ▸ must_true 11 w)
            have HMK2 := hid (fun (w : World) (h : (decide (0 ≤ (k.toNat : Int)) && decide ((k.toNat : Int) ≤ 2)) = false) => h ▸ must_false 11 w)
            by_cases hk2 : k.toNat ≤ 2
            · have hkf : (decide (0 ≤ (k.toNat : Int)) && decide ((k.toNat : Int) ≤ 2)) = true := by rw [decide_eq_true (p := (k.toNat : Int) ≤ 2) (by omega), Bool.and_true]; exact decide_eq_true (by omega)
              have HKF := hid hkf
              clear hkf
              have h3 : k = 0 ∨ k = 1 ∨ k = 2 := by
                have : k.toNat = 0 ∨ k.toNat = 1 ∨ k.toNat = 2 := by omega
                rcases this with h | h | h
                · exact .inl (UInt8.toNat_inj.1 h)
                · exact .inr (.inl (UInt8.toNat_inj.1 h))
                · exact .inr (.inr (UInt8.toNat_inj.1 h))
              rcases h3 with rfl | rfl | rfl
              · have HR1 := hid (show readOne (0 :: t) = .ok (⟨0, 0, []⟩, t) from rfl)
                go_wp2_with (first
                  | (go_at_call 32; refine HO.out.mono ?_; rintro e w2 ⟨rfl, hv2, f2⟩; have HV2 := hid hv2; have HV3 := hid (hv2.fr' ((Fr.refl (fun _ => False) w2).alloc (.cells #[.int .i64 0, .int .i64 0, .string ⟨#[]⟩] 50))); have cr := HV3.out.row.cell 0; have hsz := HV3.out.fr.size; clear hv2 f2 HO)
                  | (go_at_call 33; refine (HKN.out _).mono ?_; rintro e w3 ⟨rfl, rfl⟩)
                  | (go_at_call 31; refine (HMK.out _ HKF.out).mono ?_; rintro e w4 ⟨rfl, rfl⟩)
                  | (at_builtin; refine wpList_app1 rfl (s := .tmp 60) (x := .tmp 62) (t := 23) rfl Tryd.underlying23 info_val val_cells rfl (by rw [World.size_alloc]; rfl) HV3.out.own hsz rfl (by simp [Value.oneCell']) (by rw [HAL.out]; omega) (by rw [HAL.out]; omega) ?_; intro ab ac wg APP; have gr := HV3.out.row.fr APP.fr (fun hk => HV3.out.own.ne HV3.out.row (by decide) _ hk rfl); have cg := gr.cell 0; have zg := gr.frozen 0; clear gr))
                go_roundw
                case rel => exact ⟨j + 1, t, _, acc ++ [⟨0, 0, []⟩], by omega, by go_num, HV3.out.add ⟨0, 0, []⟩ APP, by simp [HAL.out], by rw [← HMO.out, hsub]; exact (more_step HR1.out).symm, by simp at ht; omega⟩
                case measure => simp [intOf]; omega
              · by_cases h8 : t.length < 8
                · have HR1 := hid (show readOne (1 :: t) = .error 10 by simp [readOne, h8])
                  go_wp2_with (first
                    | (go_at_call 32; refine HO.out.mono ?_; rintro e w2 ⟨rfl, hv2, f2⟩; have HV3 := hid (hv2.fr' ((Fr.refl (fun _ => False) w2).alloc (.cells #[.int .i64 1, .int .i64 0, .string ⟨#[]⟩] 50))); have c3 := HV3.out.fn.cell 0; have HT3 := hid (take_bad HV3.out.str 8 h8); clear hv2 f2 HO)
                    | (go_at_call 33; refine (HKN.out _).mono ?_; rintro e w3 ⟨rfl, rfl⟩)
                    | (go_at_call 30; refine HT3.out.mono ?_; rintro e w6 ⟨rfl, rfl⟩)
                    | (go_at_call 31; refine (HMK.out _ HKF.out).mono ?_; rintro e w4 ⟨rfl, rfl⟩))
                  have hx : readN n s = .error 10 := by rw [← HMO.out, hsub]; exact more_err HR1.out
                  refine vread_panic HV3.out 10 rfl rfl (fun W' f => ?_)
                  rw [HRV.out, hx]
                  exact ⟨_, rfl, Row.nil, f⟩
                · have HR1 := hid (show readOne (1 :: t) = .ok (⟨1, int8 (t.take 8), []⟩, t.drop 8) by simp [readOne, h8])
                  have HT8 := hid (show (t.take 8).length = 8 by rw [List.length_take]; omega)
                  have htl : t.length ≤ 1099511627776 := by simp at ht; omega
                  have h8' : 8 ≤ t.length := by omega
                  have HTD := hid (show (t.drop 8).length ≤ 1099511627776 by rw [List.length_drop]; omega)
                  have HTK := hid (fun (w0 w : World) (a : Nat) (va : Value) (l : List V) (h : VR w0 w a t va l) => h.take htl 8 h8')
                  generalize t.take 8 = l at *
                  generalize t.drop 8 = u at *
                  clear htl h8 h8' ht
                  go_wp2_with (first
                    | (go_at_call 32; refine HO.out.mono ?_; rintro e w2 ⟨rfl, hv2, f2⟩; have HN2 := hid hv2.new; have HF2 := hid hv2.far; have HD3 := hid (Blk.new w2 [.int .i64 1, .int .i64 0, .string ⟨#[]⟩] 50); have HV3 := hid (hv2.fr' ((Fr.refl (fun _ => False) w2).alloc (.cells #[.int .i64 1, .int .i64 0, .string ⟨#[]⟩] 50))); have c3 := HV3.out.fn.cell 0; have HT3 := hid (HTK.out _ _ _ _ _ HV3.out); clear hv2 f2 HO HTK)
                    | (go_at_call 33; refine (HKN.out _).mono ?_; rintro e w3 ⟨rfl, rfl⟩)
                    | (go_at_call 30; refine HT3.out.mono ?_; rintro e w5 ⟨rfl, hv5, f5⟩; have HV5 := hid hv5; have D5 := hid (HD3.out.fr f5 (fun h => by have := HF2.out; omega)); clear hv5 f5)
                    | (go_at_call 31; refine (HMK.out _ HKF.out).mono ?_; rintro e w4 ⟨rfl, rfl⟩)
                    | (refine wpList_str_bytes rfl rfl Tryd.underlying9 Tryd.underlying64 Tryd.underlying5 rfl ?_; intro c w6 hb; have HC := hid hb.cap; have HBK := hid hb.blk; have HV6 := hid (HV5.out.fr' hb.fr); have D6 := hid (D5.out.fr hb.fr (fun h => h)); have HDB := hid (show w2.heap.size ≠ w5.heap.size from fun h => by have := D5.out.lt; omega); clear hb))
                  generalize w2.heap.size = d at *
                  generalize w5.heap.size = b at *
                  clear HT3 c3 HD3 HV3 D5 HV5
                  have HSN := hid (fun i (h : i < l.length) => show Go.VB.Oct.num (l.take (i + 1)) = Go.VB.Oct.num (l.take i) * 256 + l[i].toNat from by
                    rw [List.take_add_one, List.getElem?_eq_getElem h]; exact num_snoc _ _)
                  go_loopw [37] (fun i wr => ∃ j2 : Nat, j2 ≤ l.length ∧ i = .int .i64 j2 ∧ VR w wr a u va acc ∧ Blk wr d [.int .i64 1, .int .i64 (IntKind.i64.wrap (Go.VB.Oct.num (l.take j2))), .string ⟨#[]⟩] 50 ∧ SBlk wr b (bv l ++ List.replicate (c - l.length) (.int .u8 0)) 5) (fun i _ => l.length - (intOf i).toNat)
                  case atStart => exact ⟨0, by omega, rfl, HV6.out, D6.out, HBK.out⟩
                  case round =>
                    obtain ⟨j2, hj2, rfl, hv7, hd7, hb7⟩ := hrel
                    have HV7 := hid hv7
                    have HD7 := hid hd7
                    have HB7 := hid hb7
                    by_cases hjl : j2 < l.length
                    · have hc : wr.cell? ⟨b, j2, none⟩ = some (.int .u8 ((l[j2]).toNat : Int)) := by
                        rw [hb7.cell, List.getElem?_append_left (by rw [bv_length]; exact hjl)]; simp [bv, hjl]
                      have hsn := HSN.out j2 hjl
                      have i1 : (0 : Int) ≤ (j2 : Int) := by omega
                      have i2 : (j2 : Int) < l.length := by omega
                      have hlt : Go.VB.Oct.num (l.take j2) < 256 ^ 7 := by
                        refine Nat.lt_of_lt_of_le (Go.VB.Oct.num_lt _) (Nat.pow_le_pow_right (by omega) ?_)
                        have := HT8.out
                        rw [List.length_take]; omega
                      have hx := l[j2].toNat_lt
                      rw [show IntKind.i64.wrap (Go.VB.Oct.num (l.take j2) : Int) = (Go.VB.Oct.num (l.take j2) : Int) from IntWalk.i64_in _ (by omega)] at hd7
                      generalize l[j2].toNat = x at *
                      generalize Go.VB.Oct.num (l.take j2) = y at *
                      have HOR := hid (show bits .or .i64 (wrap64 ((y : Int) * 256)) (x : Int) = IntKind.i64.wrap ((y * 256 + x : Nat) : Int) from IntWalk.i64_left ((y : Int) * 256) ▸ or_i64w y x hlt (by omega))
                      have hl8 : l.length ≤ 8 := Nat.le_of_eq HT8.out
                      have x1 : (0 : Int) ≤ x := by omega
                      have x2 : (x : Int) < 256 := by omega
                      have y1 : (0 : Int) ≤ y := by omega
                      have y2 : (y : Int) < 72057594037927936 := by omega
                      have q1 := hd7.cell 1
                      have z1 := hd7.frozen 1
                      clear hlt hx
                      have HSS := hid hsn
                      have HBN := hid (hb7.fr ((Fr.refl (fun k => k = d) wr).setCell ⟨d, 1, none⟩ (.int .i64 (bits .or .i64 (wrap64 ((y : Int) * 256)) (x : Int))) (fun _ => rfl)) (fun h => HDB.out h.symm))
                      have HDN := hid (hd7.set 1 (.int .i64 (bits .or .i64 (wrap64 ((y : Int) * 256)) (x : Int))))
                      have HVN := hid (hv7.put (o := 1) (u := .int .i64 (bits .or .i64 (wrap64 ((y : Int) * 256)) (x : Int))) HF2.out HN2.out)
                      clear hsn hv7 hd7 hb7 HSN HRV HMO HAL
                      go_wp2_with (fail)
                      go_roundw
                      case rel => exact ⟨j2 + 1, by omega, by go_num, HVN.out, by rw [HSS.out, ← HOR.out]; exact HDN.out, HBN.out⟩
                      case measure => simp [intOf]; omega
                    · obtain rfl : j2 = l.length := by omega
                      rw [List.take_length, show IntKind.i64.wrap (Go.VB.Oct.num l : Int) = int8 l from rfl] at hd7 HD7
                      have m0 := hd7.cell 0
                      have m1 := hd7.cell 1
                      have m2 := hd7.cell 2
                      have cr := hv7.row.cell 0
                      have hsz := HV7.out.fr.size
                      clear hv7 hd7 hb7 HB7
                      go_wp2_with (first
                        | (at_builtin; refine wpList_app1 rfl (s := .tmp 60) (x := .tmp 62) (t := 23) rfl Tryd.underlying23 info_val val_cells rfl (by rfl) HV7.out.own hsz rfl (by simp [Value.oneCell']) (by rw [HAL.out]; omega) (by rw [HAL.out]; omega) ?_; intro ab ac wg APP; have gr := HV7.out.row.fr APP.fr (fun hk => HV7.out.own.ne HV7.out.row (by decide) _ hk rfl); have cg := gr.cell 0; have zg := gr.frozen 0; clear gr))
                      go_roundw
                      case rel => exact ⟨j + 1, _, _, acc ++ [⟨1, int8 l, []⟩], by omega, by go_num, HV7.out.add ⟨1, int8 l, []⟩ APP, by simp [HAL.out], by rw [← HMO.out, hsub]; exact (more_step HR1.out).symm, HTD.out⟩
                      case measure => simp [intOf]; omega
              · have hkn : ∀ x : Int, x = (UInt8.toNat 2 : Int) → x = 2 := fun x h => h
                cases t with
                | nil =>
                  have HR1 := hid (show readOne (2 :: []) = .error 10 from rfl)
                  go_wp2_with (first
                    | (go_at_call 32; refine HO3.out.mono ?_; rintro e w5 ⟨rfl, rfl⟩)
                    | (go_at_call 32; refine HO.out.mono ?_; rintro e w2 ⟨rfl, hv2, f2⟩; have HV3 := hid (hv2.fr' ((Fr.refl (fun _ => False) w2).alloc (.cells #[.int .i64 2, .int .i64 0, .string ⟨#[]⟩] 50))); have HO3 := hid HV3.out.one_bad; clear hv2 f2 HO)
                    | (go_at_call 33; refine (HKN.out _).mono ?_; rintro e w3 ⟨rfl, rfl⟩)
                    | (go_at_call 31; refine (HMK.out _ HKF.out).mono ?_; rintro e w4 ⟨rfl, rfl⟩))
                  have hx : readN n s = .error 10 := by rw [← HMO.out, hsub]; exact more_err HR1.out
                  refine vread_panic HV3.out 10 rfl rfl (fun W' f => ?_)
                  rw [HRV.out, hx]
                  exact ⟨_, rfl, Row.nil, f⟩
                | cons m u =>
                  have hm := m.toNat_lt
                  by_cases h40 : m.toNat ≤ 40
                  · have h6' : decide ((m.toNat : Int) ≤ 40) = true := decide_eq_true (by omega)
                    have HM4 := hid (fun w => (h6' ▸ must_true 2 w : Calls Tryd.prog 31 #[.bool (decide ((m.toNat : Int) ≤ 40)), .int .i64 2] w fun x w' => x = .returned (.tuple #[]) ∧ w = w'))
                    clear h6'
                    by_cases hmu : m.toNat ≤ u.length
                    · have HR1 := hid (show readOne (2 :: m :: u) = .ok (⟨2, 0, u.take m.toNat⟩, u.drop m.toNat) by simp [readOne, Nat.not_lt.2 h40, Nat.not_lt.2 hmu])
                      have hul : u.length ≤ 1099511627776 := by simp at ht; omega
                      go_wp2_with (first
                        | (go_at_call 32; refine HO3.out.mono ?_; rintro e w5 ⟨rfl, hv5, f5⟩; have HV5 := hid hv5; have c5 := hv5.fn.cell 0; have HT5 := hid (hv5.take hul m.toNat hmu); have D5 := hid (HD3.out.fr f5 (fun h => by have := HF2.out; omega)); clear hv5 f5)
                        | (go_at_call 32; refine HO.out.mono ?_; rintro e w2 ⟨rfl, hv2, f2⟩; have HN2 := hid hv2.new; have HF2 := hid hv2.far; have HD3 := hid (Blk.new w2 [.int .i64 2, .int .i64 0, .string ⟨#[]⟩] 50); have HV3 := hid (hv2.fr' ((Fr.refl (fun _ => False) w2).alloc (.cells #[.int .i64 2, .int .i64 0, .string ⟨#[]⟩] 50))); have HO3 := hid (HV3.out.one (by simp at ht; omega)); clear hv2 f2 HO)
                        | (go_at_call 33; refine (HKN.out _).mono ?_; rintro e w3 ⟨rfl, rfl⟩)
                        | (go_at_call 30; refine HT5.out.mono ?_; rintro e w6 ⟨rfl, hv6, f6⟩; have D6 := hid (D5.out.fr f6 (fun h => by have := HF2.out; omega)); have k2 := D6.out.cell 2; have z2 := D6.out.frozen 2; have D7 := hid (D6.out.set 2 (.string (bs (u.take m.toNat)))); have HV7 := hid (hv6.put (o := 2) (u := .string (bs (u.take m.toNat))) HF2.out HN2.out); have cr := HV7.out.row.cell 0; have m0 := D7.out.cell 0; have m1 := D7.out.cell 1; have m2 := D7.out.cell 2; have hsz := HV7.out.fr.size; have HSZ := hid (show (w6.setCell ⟨w2.heap.size, 2, none⟩ (.string (bs (u.take m.toNat)))).heap.size = w6.heap.size by simp); clear hv6 f6)
                        | (go_at_call 31; refine (HM4.out _).mono ?_; rintro e w4 ⟨rfl, rfl⟩)
                        | (go_at_call 31; refine (HMK.out _ HKF.out).mono ?_; rintro e w4 ⟨rfl, rfl⟩)
                        | (at_builtin; refine wpList_app1 rfl (s := .tmp 60) (x := .tmp 62) (t := 23) rfl Tryd.underlying23 info_val val_cells rfl (by rw [HSZ.out]; rfl) HV7.out.own hsz rfl (by simp [Value.oneCell']) (by rw [HAL.out]; omega) (by rw [HAL.out]; omega) ?_; intro ab ac wg APP; have gr := HV7.out.row.fr APP.fr (fun hk => HV7.out.own.ne HV7.out.row (by decide) _ hk rfl); have cg := gr.cell 0; have zg := gr.frozen 0; clear gr))
                      go_roundw
                      case rel => exact ⟨j + 1, _, _, acc ++ [⟨2, 0, u.take m.toNat⟩], by omega, by go_num, HV7.out.add ⟨2, 0, u.take m.toNat⟩ APP, by simp [HAL.out], by rw [← HMO.out, hsub]; exact (more_step HR1.out).symm, by simp at ht; rw [List.length_drop]; omega⟩
                      case measure => simp [intOf]; omega
                    · have HR1 := hid (show readOne (2 :: m :: u) = .error 10 by simp [readOne, Nat.not_lt.2 h40, Nat.lt_of_not_le hmu])
                      go_wp2_with (first
                        | (go_at_call 32; refine HO3.out.mono ?_; rintro e w5 ⟨rfl, hv5, f5⟩; have HV5 := hid hv5; have c5 := hv5.fn.cell 0; have HT5 := hid (take_bad hv5.str m.toNat (Nat.lt_of_not_le hmu)); clear hv5 f5)
                        | (go_at_call 32; refine HO.out.mono ?_; rintro e w2 ⟨rfl, hv2, f2⟩; have HV3 := hid (hv2.fr' ((Fr.refl (fun _ => False) w2).alloc (.cells #[.int .i64 2, .int .i64 0, .string ⟨#[]⟩] 50))); have HO3 := hid (HV3.out.one (by simp at ht; omega)); clear hv2 f2 HO)
                        | (go_at_call 33; refine (HKN.out _).mono ?_; rintro e w3 ⟨rfl, rfl⟩)
                        | (go_at_call 30; refine HT5.out.mono ?_; rintro e w6 ⟨rfl, rfl⟩)
                        | (go_at_call 31; refine (HM4.out _).mono ?_; rintro e w4 ⟨rfl, rfl⟩)
                        | (go_at_call 31; refine (HMK.out _ HKF.out).mono ?_; rintro e w4 ⟨rfl, rfl⟩))
                      have hx : readN n s = .error 10 := by rw [← HMO.out, hsub]; exact more_err HR1.out
                      refine vread_panic HV5.out 10 rfl rfl (fun W' f => ?_)
                      rw [HRV.out, hx]
                      exact ⟨_, rfl, Row.nil, f⟩
                  · have h6' : decide ((m.toNat : Int) ≤ 40) = false := decide_eq_false (by omega)
                    have HM4 := hid (fun w => (h6' ▸ must_false 2 w : Calls Tryd.prog 31 #[.bool (decide ((m.toNat : Int) ≤ 40)), .int .i64 2] w fun x w' => x = .panicked [trouble 2] ∧ w = w'))
                    clear h6'
                    have HR1 := hid (show readOne (2 :: m :: u) = .error 2 by simp [readOne, Nat.lt_of_not_le h40])
                    go_wp2_with (first
                      | (go_at_call 32; refine HO3.out.mono ?_; rintro e w5 ⟨rfl, hv5, f5⟩; have HV5 := hid hv5; clear hv5 f5)
                      | (go_at_call 32; refine HO.out.mono ?_; rintro e w2 ⟨rfl, hv2, f2⟩; have HV3 := hid (hv2.fr' ((Fr.refl (fun _ => False) w2).alloc (.cells #[.int .i64 2, .int .i64 0, .string ⟨#[]⟩] 50))); have HO3 := hid (HV3.out.one (by simp at ht; omega)); clear hv2 f2 HO)
                      | (go_at_call 33; refine (HKN.out _).mono ?_; rintro e w3 ⟨rfl, rfl⟩)
                      | (go_at_call 31; refine (HM4.out _).mono ?_; rintro e w4 ⟨rfl, rfl⟩)
                      | (go_at_call 31; refine (HMK.out _ HKF.out).mono ?_; rintro e w4 ⟨rfl, rfl⟩))
                    have hx : readN n s = .error 2 := by rw [← HMO.out, hsub]; exact more_err HR1.out
                    refine vread_panic HV5.out 2 rfl rfl (fun W' f => ?_)
                    rw [HRV.out, hx]
                    exact ⟨_, rfl, Row.nil, f⟩
            · have hkf : (decide (0 ≤ (k.toNat : Int)) && decide ((k.toNat : Int) ≤ 2)) = false := by rw [decide_eq_false (p := (k.toNat : Int) ≤ 2) (by omega), Bool.and_false]
              have HKF := hid hkf
              clear hkf
              go_wp2_with (first
                | (go_at_call 32; refine HO.out.mono ?_; rintro e w2 ⟨rfl, hv2, f2⟩; have HV2 := hid hv2; clear hv2 f2 HO)
                | (go_at_call 33; refine (HKN.out _).mono ?_; rintro e w3 ⟨rfl, rfl⟩)
                | (go_at_call 31; refine (HMK2.out _ HKF.out).mono ?_; rintro e w4 ⟨rfl, rfl⟩))
              have hx : readN n s = .error 11 := by
                rw [← HMO.out, hsub]
                refine more_err ?_
                have k0 : k ≠ 0 := fun h => by subst h; exact hk2 (by decide)
                have k1 : k ≠ 1 := fun h => by subst h; exact hk2 (by decide)
                have k2 : k ≠ 2 := fun h => by subst h; exact hk2 (by decide)
                simp [readOne, k0, k1, k2]
              refine vread_panic (HV2.out.fr' ((Fr.refl (fun _ => False) w2).alloc _)) 11 rfl rfl (fun W' f => ?_)
              rw [HRV.out, hx]
              exact ⟨_, rfl, Row.nil, f⟩
        · obtain rfl : j = n := by omega
          have hx : readN j s = .ok (acc, t) := by rw [← HMO.out, Nat.sub_self]; simp [readN, more]
          have HX := hid hx
          clear hx HMO
          cases t with
          | nil =>
            obtain ⟨aa, cc, rfl, _⟩ := HVR.out.own.slice
            have cs := HVR.out.str.cell 0
            have cr := HVR.out.row.cell 0
            have ce := HVR.out.err.cell 0
            have zr := HVR.out.row.frozen 0
            have ze := HVR.out.err.frozen 0
            have HM := hid (fun w => (bs_empty []) ▸ must_true 11 w : ∀ w, Calls Tryd.prog 31 #[.bool (bs []).toList.isEmpty, .int .i64 11] w fun x w' => x = .returned (.tuple #[]) ∧ w = w')
            go_wp2_with (first | (go_at_call 31; refine (HM.out _).mono ?_; rintro e w2 ⟨rfl, rfl⟩))
            have F1 := (Fr.refl (fun k => k = a + 1 ∨ k = a + 1 + 1) wr).setCell ⟨a + 1, 0, none⟩ (.slice aa acc.length cc) (fun _ => .inl rfl)
            have F2 := F1.setCell ⟨a + 1 + 1, 0, none⟩ (.int .i64 0) (fun _ => .inr rfl)
            have n1 := HVR.out.own.ne HVR.out.row (by decide)
            have n2 := HVR.out.own.ne HVR.out.err (by decide)
            have hat := HVR.out.at_
            refine vread_ret (((HVR.out.row.set 0 (.slice aa acc.length cc)).set_ne ⟨a + 1 + 1, 0, none⟩ (.int .i64 0) (by show a + 1 ≠ a + 1 + 1; omega)).cell 0) (((HVR.out.err.set_ne ⟨a + 1, 0, none⟩ (.slice aa acc.length cc) (by show a + 1 + 1 ≠ a + 1; omega)).set 0 (.int .i64 0)).cell 0) rfl rfl ?_
            rw [HRV.out, HX.out]
            exact ⟨_, rfl, HVR.out.own.fr F2 (fun k hk h => h.elim (n1 k hk) (n2 k hk)), HVR.out.fr.trans F2 (fun k hk hl => by omega)⟩
          | cons k t =>
            have cs := HVR.out.str.cell 0
            have HM := hid (fun w => (bs_empty (k :: t)) ▸ must_false 11 w : ∀ w, Calls Tryd.prog 31 #[.bool (bs (k :: t)).toList.isEmpty, .int .i64 11] w fun x w' => x = .panicked [trouble 11] ∧ w = w')
            go_wp2_with (first | (go_at_call 31; refine (HM.out _).mono ?_; rintro e w2 ⟨rfl, rfl⟩))
            refine vread_panic HVR.out 11 rfl rfl (fun W' f => ?_)
            rw [HRV.out, HX.out]
            exact ⟨_, rfl, Row.nil, f⟩
    · have h6' : decide ((c.toNat : Int) ≤ 6) = false := decide_eq_false (by omega)
      have HM := hid (fun w => h6' ▸ must_false 2 w)
      clear h6'
      go_wp2_with (first
        | (go_at_call 32; refine HO.out.mono ?_; rintro e w1 ⟨rfl, hv1, f1⟩; have HV1 := hid hv1; clear hv1 f1 HV HO)
        | (go_at_call 31; refine (HM.out _).mono ?_; rintro e w2 ⟨rfl, rfl⟩))
      have hr : readV (c :: s) = ([], 2) := by simp [readV, Nat.lt_of_not_le h6]
      refine vread_panic HV1.out 2 rfl rfl (fun W' f => ?_)
      rw [hr]
      exact ⟨_, rfl, Row.nil, f⟩
end Go.Proofs.YtfhkmiifndhacaaDoor
