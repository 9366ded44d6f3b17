/- Proved: for every slice of pairs of integers the law DiskApart of chapter 05 returns true, and its argument reads afterwards as before. Conditions: none beyond the given statement. -/
import Derived.Test.YtfalehgngioheaaDiskApartM
import Derived.Test.YtfalehgngioheaaFin
set_option linter.unusedVariables false
namespace Go.Proofs.Ytfalehgngioheaa
open Go.RowKit Go.VB Go.VB.Disk
def pcells2 (p : Int × Int) : List Value := [.int .i64 p.1, .int .i64 p.2]
theorem flatMap_at2 {α : Type} (f : α → List Value) (k : Nat) (hf : ∀ x, (f x).length = k) : ∀ (L : List α) (i : Nat) (hi : i < L.length) (j : Nat), j < k → (L.flatMap f)[i * k + j]? = (f L[i])[j]?
  | [], i, hi, _, _ => by simp at hi
  | x :: L, 0, _, j, hj => by
    rw [List.flatMap_cons, Nat.zero_mul, Nat.zero_add, List.getElem?_append_left (by rw [hf]; exact hj)]
    rfl
  | x :: L, i + 1, hi, j, hj => by
    have := flatMap_at2 f k hf L i (by simpa using hi) j hj
    rw [List.flatMap_cons, List.getElem?_append_right (by rw [hf, Nat.succ_mul]; omega), hf, Nat.succ_mul, show i * k + k + j - k = i * k + j by omega, this]
    rfl
theorem conv_one (w : World) (x : Int) (h0 : 0 ≤ x) (h1 : x < 256) : (convert 37 9 (.slice (some ⟨w.heap.size, 0, none⟩) 1 1)).run Try.prog (w.alloc (.cells #[.int .u8 x] 5)) = .ok (.string (bs [UInt8.ofNat x.toNat])) (w.alloc (.cells #[.int .u8 x] 5)) := by
  have e : Value.int .u8 x = .int .u8 ((UInt8.ofNat x.toNat).toNat : Int) := by
    congr 1
    rw [UInt8.toNat_ofNat']
    omega
  have B := Blk.new w (bv [UInt8.ofNat x.toNat]) 5
  have hb : (bv [UInt8.ofNat x.toNat]).toArray = #[Value.int .u8 x] := by rw [e]; rfl
  rw [hb] at B
  have R := B
  generalize w.alloc (.cells #[.int .u8 x] 5) = w1 at *
  exact run_bytes_string (P := Try.prog) R.all (src := 37) (dst := 9) (e := 5) Try.underlying37 Try.underlying5 Try.underlying9 1 1 rfl
theorem fill_one {x : Int} (h0 : 97 ≤ x) (h1 : x < 123) : (fill [UInt8.ofNat x.toNat]).length = 512 := by
  refine fill_length _ ?_
  simp only [List.getLast?_singleton, ne_eq, Option.some.injEq]
  intro h
  have := congrArg UInt8.toNat h
  rw [UInt8.toNat_ofNat'] at this
  have e : (33 : UInt8).toNat = 33 := rfl
  rw [e] at this
  omega
theorem zero_str (w : World) : (zeroValue 9).run Try.prog w = .ok (.string ⟨#[]⟩) w := by kernel_rfl
theorem wf5 {n : Nat} (h : n < 5) : (Lit.int .i64 (n : Int)).wf = true := by
  rcases (show n = 0 ∨ n = 1 ∨ n = 2 ∨ n = 3 ∨ n = 4 by omega) with rfl | rfl | rfl | rfl | rfl <;> rfl
structure ApInv (d bm : Nat) (X : Nat → Prop) (w wr : World) (k : Nat) (m : DM) (ls : Int → Bytes) (f : Lit → Value) : Prop where
  g : G X wr d m
  m : ApM m ls k
  map : MapF Try.prog 3 wr bm k (.string ⟨#[]⟩) f
  at_ : ∀ x : Int, f (.int .i64 x) = .string (bs (ls x))
  fr : Fr (fun _ => False) w wr
set_option maxHeartbeats 2000000 in
theorem DiskApart_walk (L : List (Int × Int)) (hLl : L.length ≤ maxLen) (w : World) (v : Value) (hv : Sl (fun k => k < w.heap.size) w v L.length (L.flatMap pcells2)) :
    Calls Try.prog 6 #[v] w fun e w' => e = .returned (.bool true) ∧ Fr (fun _ => False) w w' := by
  unfold maxLen at hLl
  obtain ⟨a, cap, rfl, hcap, hc⟩ := hv
  have HC := hid hc
  have HLl := hid hLl
  clear hc hLl
  have hmm := @run_makeMap Try.prog
  go_enter Try.func6, Try.ntmps6
  go_wp2_with (fail)
  refine (sanity_go _).mono ?_
  rintro e w1 ⟨rfl, f1⟩
  go_wp2_with (fail)
  refine (New_G _ _).mono ?_
  rintro e w2 ⟨rfl, g2, f2⟩
  have F2 := f1.trans f2 (fun _ h _ => h)
  have s1 := f1.size
  generalize hd : w1.heap.size + 1 = d at *
  clear f2 f1 hd
  have g2 : G (fun j => j < w1.heap.size) w2 d (DM.new 5) := g2
  go_wp2
  have h0 : ∃ X, ApInv d w2.heap.size X w (w2.alloc (.map #[] 0)) 0 (DM.new 5) (fun _ => []) (fun _ => .string ⟨#[]⟩) ∧ (∀ j, j < w.heap.size → X j) ∧ X w2.heap.size := by
    have f3 := (Fr.refl (fun j => j < w1.heap.size) w2).alloc (.map #[] 0)
    exact ⟨_, ⟨g2.own f3, ap_new, MapF.new _ _ _ _, fun x => rfl, F2.alloc _⟩, fun j hj => .inl (by omega), .inr ⟨Nat.le_refl _, by simp⟩⟩
  have hbw : w.heap.size ≤ w2.heap.size := F2.size
  obtain ⟨X, h0, hx, hxb⟩ := h0
  have HX := hid hx
  have H0 := hid h0
  clear h0 hx g2 F2 s1 hmm
  obtain ⟨W, hW⟩ : ∃ W, W = w2.alloc (.map #[] 0) := ⟨_, rfl⟩
  rw [← hW] at H0 ⊢
  clear hW
  generalize w2.heap.size = bm at *
  have z0 : (bs []).toList = [] := by rw [Lib.toList_data]; rfl
  go_loopw [6] (fun i wr => ∃ (k : Nat) (m : DM) (ls : Int → Bytes) (f : Lit → Value), k ≤ 30 ∧ k ≤ L.length ∧ i = .int .i64 k ∧ ApInv d bm X w wr k m ls f ∧ ∀ x, ls x = [] ∨ (ls x).length = 512) (fun i _ => 30 - (intOf i).toNat)
  case atStart => exact ⟨0, _, _, _, by omega, by omega, rfl, H0.out, fun _ => .inl rfl⟩
  case round =>
    obtain ⟨k, m, ls, f, hk3, hkl, rfl, inv, hls⟩ := hrel
    clear H0
    have HLl2 := HLl.out
    by_cases hc : k < L.length ∧ k < 30
    · obtain ⟨hk, h30⟩ := hc
      obtain ⟨g0, o0, rfl, hlt, hr⟩ := HC.out (by cases L with | nil => simp at hk | cons p L => simp [pcells2])
      have c0 : wr.cell? ⟨g0, o0 + k * 2, none⟩ = some (.int .i64 L[k].1) := cell_fr (hr (k * 2) _ (by have := flatMap_at2 pcells2 2 (fun _ => rfl) L k hk 0 (by omega); simpa [pcells2] using this)) inv.fr (fun h => h)
      have c1 : wr.cell? ⟨g0, o0 + k * 2 + 1, none⟩ = some (.int .i64 L[k].2) := cell_fr (hr (k * 2 + 1) _ (by have := flatMap_at2 pcells2 2 (fun _ => rfl) L k hk 1 (by omega); simpa [pcells2] using this)) inv.fr (fun h => h)
      generalize L[k] = p at *
      obtain ⟨n, hn, hn5⟩ : ∃ n : Nat, p.1 % 5 = n ∧ n < 5 := ⟨(p.1 % 5).toNat, by omega, by omega⟩
      obtain ⟨r, hr26, hr0⟩ : ∃ r : Nat, p.2 % 26 = r ∧ r < 26 := ⟨(p.2 % 26).toNat, by omega, by omega⟩
      obtain ⟨r7, hr7, hr70⟩ : ∃ r : Nat, p.2 % 7 = r ∧ r < 7 := ⟨(p.2 % 7).toNat, by omega, by omega⟩
      have EN := hid hn
      have ER := hid hr26
      have E7 := hid hr7
      have cv := conv_one wr (97 + (r : Int)) (by omega) (by omega)
      have hz := fill_one (x := 97 + (r : Int)) (by omega) (by omega)
      have HFl := hid (fun w => Fill_go w [UInt8.ofNat (97 + (r : Int)).toNat] (by simp))
      generalize bs [UInt8.ofNat (97 + (r : Int)).toNat] = cs at *
      generalize fill [UInt8.ofNat (97 + (r : Int)).toNat] = z at *
      clear hn hr26 hr7 hr HC
      have f5 := (Fr.refl (fun _ => False) wr).alloc (.cells #[Value.int .u8 (97 + (r : Int))] 5)
      obtain ⟨m', hm', am'⟩ := ap_write inv.m hn5 hz
      go_wp2_with (first
        | (go_at_call 18; refine (rest_any _ _ _ (by omega) (by omega)).mono ?_; rintro e w' ⟨rfl, rfl⟩; first | rw [EN.out] | rw [ER.out] | rw [E7.out])
        | (go_at_call 16; refine (HFl.out _).mono ?_; rintro e w5 ⟨rfl, ff⟩)
        | fail)
      have F5 := f5.trans ff (fun _ h _ => h)
      have hW := Write_G (inv.g.fr F5 (fun _ h => h.elim)) inv.m.ok (by omega) n z
      rw [hm'] at hW
      refine hW.mono ?_
      rintro e w6 ⟨rfl, g6, f6⟩
      have map6 := (inv.map.fr F5 (fun h => h)).fr f6 (fun h => h hxb)
      have c6 := cell_fr (cell_fr c1 F5 (fun h => h)) f6 (fun h => h (HX.out _ hlt))
      have F6 := (inv.fr.trans F5 (fun _ h _ => h)).trans f6 (fun j hj hlt => hj (HX.out j hlt))
      have kl : keyOf Try.prog 3 (.int .i64 (n : Int)) = some (.int .i64 n) := Go.Maps.keyOf_int_mk Try.underlying3 (wf5 hn5)
      have hat : ∀ x : Int, upd f (.int .i64 n) (.string (bs z)) (.int .i64 x) = .string (bs (if x = n then z else ls x)) := by
        intro x
        by_cases e : x = n
        · subst e; rw [upd_same, if_pos rfl]
        · rw [upd_ne _ _ (by intro h; exact e (by simpa using h)), if_neg e]
          exact inv.at_ x
      have hls' : ∀ x : Int, (if x = (n : Int) then z else ls x) = [] ∨ (if x = (n : Int) then z else ls x).length = 512 := by
        intro x
        split
        · exact .inr hz
        · exact hls x
      have HAT := hid hat
      have HLS := hid hls'
      clear hW f6 f5 ff cv c1 c0 inv hm' hz F5 hat hls hls'
      have hk30 : k < maxLen := by unfold maxLen; omega
      by_cases h73 : r7 = 3
      · have hb : ((r7 : Int) == 3) = true := by rw [h73]; rfl
        obtain ⟨m2, hm2, am2⟩ := ap_sync am'
        clear h73
        go_wp2_with (first
          | (refine wpList_update_F rfl (m := .tmp 50) (x := .tmp 51) (v := .tmp 52) rfl rfl map6 (Go.Maps.int_keyed Try.underlying3) Try.underlying43 hk30 rfl rfl kl trivial ?_; intro w7 map7 f7; have c7 := cell_fr c6 f7 (fun h => by omega))
          | (go_at_call 18; refine (rest_any _ _ _ (by omega) (by omega)).mono ?_; rintro e w' ⟨rfl, rfl⟩; first | rw [EN.out] | rw [ER.out] | rw [E7.out])
          | (go_at_call 26; refine (Sync_G (g6.fr f7 (fun j hj => hj ▸ hxb)) am'.ok (by omega)).mono ?_; rintro e w8 ⟨rfl, g8, f8⟩))
        rw [hm2] at g8
        have inv' : ApInv d bm X w w8 (k + 1) m2 (fun x => if x = n then z else ls x) (upd f (.int .i64 n) (.string (bs z))) := ⟨g8, am2, map7.fr f8 (fun h => h hxb), HAT.out, (F6.trans f7 (fun j hj hlt => by omega)).trans f8 (fun j hj hlt => hj (HX.out j hlt))⟩
        go_roundw
        case rel => exact ⟨k + 1, _, _, _, by omega, by omega, by go_num, inv', HLS.out⟩
        case measure => simp [intOf]; omega
      · have hb : ((r7 : Int) == 3) = false := by rw [beq_eq_false_iff_ne]; omega
        clear h73
        go_wp2_with (first
          | (refine wpList_update_F rfl (m := .tmp 50) (x := .tmp 51) (v := .tmp 52) rfl rfl map6 (Go.Maps.int_keyed Try.underlying3) Try.underlying43 hk30 rfl rfl kl trivial ?_; intro w7 map7 f7; have c7 := cell_fr c6 f7 (fun h => by omega))
          | (go_at_call 18; refine (rest_any _ _ _ (by omega) (by omega)).mono ?_; rintro e w' ⟨rfl, rfl⟩; first | rw [EN.out] | rw [ER.out] | rw [E7.out]))
        have inv' : ApInv d bm X w w7 (k + 1) m' (fun x => if x = n then z else ls x) (upd f (.int .i64 n) (.string (bs z))) := ⟨g6.fr f7 (fun j hj => hj ▸ hxb), am', map7, HAT.out, F6.trans f7 (fun j hj hlt => by omega)⟩
        go_roundw
        case rel => exact ⟨k + 1, _, _, _, by omega, by omega, by go_num, inv', HLS.out⟩
        case measure => simp [intOf]; omega
    · obtain ⟨hg, hm, hmap, hat, hfr⟩ := inv
      have HAT := hid hat
      have HLS := hid hls
      clear hat hls HC
      by_cases hk : k < L.length
      all_goals
        go_wp2
        go_loopw [10] (fun i wz => ∃ k2 : Nat, k2 ≤ 5 ∧ i = .int .i64 k2 ∧ Fr (fun _ => False) wr wz) (fun i _ => 5 - (intOf i).toNat)
        case atStart => exact ⟨0, by omega, rfl, Fr.refl _ _⟩
        case round =>
          obtain ⟨k2, hk2, rfl, fz⟩ := hrel
          rename_i wz _
          by_cases hk5 : k2 < 5
          · have kl : keyOf Try.prog 3 (.int .i64 (k2 : Int)) = some (.int .i64 k2) := Go.Maps.keyOf_int_mk Try.underlying3 (wf5 hk5)
            have hrd := hm.read k2 hk5
            have hat := HAT.out (k2 : Int)
            obtain ⟨bk, hbk⟩ : ∃ b, b = bs Disk.blank := ⟨_, rfl⟩
            have HB := hid hbk
            clear hbk
            rcases HLS.out (k2 : Int) with hl | hl
            · rw [if_pos hl] at hrd
              rw [hl] at hat
              have hat : f (.int .i64 k2) = .string ⟨#[]⟩ := hat
              have HA := hid hat
              have HRD := hid hrd
              clear hat hrd hl
              go_wp2_with (first
                | (go_at_call 15; refine (Blank_go _).mono ?_; rintro e w8 ⟨rfl, f8⟩; rw [← HB.out]; have F8 := fz.trans f8 (fun _ h _ => h); have map8 := hmap.fr F8 (fun h => h))
                | (refine wpList_lookup_F rfl (m := .tmp 67) (x := .tmp 68) rfl rfl map8 (Go.Maps.int_keyed Try.underlying3) Try.underlying43 (zero_str _) rfl kl trivial ?_; rw [HA.out])
                | fail)
              have hR := Read_G (hg.fr F8 (fun _ h => h.elim)) hm.ok (by omega) k2
              rw [HRD.out] at hR
              rw [← HB.out] at hR
              go_wp2_with (first
                | (go_at_call 20; refine hR.mono ?_; rintro e w9 ⟨rfl, g9, f9⟩))
              have F9 := fz.trans (f8.trans f9 (fun _ h _ => h)) (fun _ h _ => h)
              go_roundw
              case rel => exact ⟨k2 + 1, by omega, by go_num, F9⟩
              case measure => simp [intOf]; omega
            · have hne : ls k2 ≠ [] := by intro e; rw [e] at hl; cases hl
              rw [if_neg hne] at hrd
              have hem : (bs (ls k2)).toList.isEmpty = false := by rw [bs_empty]; cases h : ls k2 with | nil => exact absurd h hne | cons => rfl
              generalize hbl : bs (ls k2) = bl at *
              have HA := hid hat
              have HRD := hid hrd
              have HBL := hid hbl
              clear hat hrd hl hne hbl
              go_wp2_with (first
                | (go_at_call 15; refine (Blank_go _).mono ?_; rintro e w8 ⟨rfl, f8⟩; rw [← HB.out]; have F8 := fz.trans f8 (fun _ h _ => h); have map8 := hmap.fr F8 (fun h => h))
                | (refine wpList_lookup_F rfl (m := .tmp 67) (x := .tmp 68) rfl rfl map8 (Go.Maps.int_keyed Try.underlying3) Try.underlying43 (zero_str _) rfl kl trivial ?_; rw [HA.out])
                | (refine wpList_lookup_F rfl (m := .tmp 71) (x := .tmp 72) rfl rfl map8 (Go.Maps.int_keyed Try.underlying3) Try.underlying43 (zero_str _) rfl kl trivial ?_; rw [HA.out])
                | fail)
              have hR := Read_G (hg.fr F8 (fun _ h => h.elim)) hm.ok (by omega) k2
              rw [HRD.out] at hR
              rw [HBL.out] at hR
              go_wp2_with (first
                | (go_at_call 20; refine hR.mono ?_; rintro e w9 ⟨rfl, g9, f9⟩))
              have F9 := fz.trans (f8.trans f9 (fun _ h _ => h)) (fun _ h _ => h)
              go_roundw
              case rel => exact ⟨k2 + 1, by omega, by go_num, F9⟩
              case measure => simp [intOf]; omega
          · obtain rfl : k2 = 5 := by omega
            have FF := hfr.trans fz (fun _ h _ => h)
            go_wp2
            go_ret
            exact ⟨rfl, FF⟩
end Go.Proofs.Ytfalehgngioheaa
namespace Go.Proofs.Ytfalehgngioheaa.diskApart
open Go.ChangeShapes Go.WideShapes Go.ChangeAt Go.RowKit Go.VB Go.VB.Disk
theorem cells_int : Try.prog.cellsOf 3 = 1 := by kernel_rfl
theorem cells_pair : Try.prog.cellsOf 44 = 2 := by kernel_rfl
theorem elem_pair {H : Type} {enc : TypeId × Value → H} {w : World} {base : Nat} {sp : Nat → Bool} {held : Bool} : ∀ fuel cs (r : DataW H × List MemPlace), cs.length = 2 → DataW.trod enc Try.prog w base sp held fuel 44 cs = some r → ∃ p : Int × Int, cs = pcells2 p ∧ True := by
  intro fuel cs r hl h
  match cs, hl with
  | [a, b], _ =>
    cases fuel with
    | zero => simp [DataW.trod] at h
    | succ m =>
      unfold DataW.trod at h
      rw [Try.underlying44] at h
      dsimp only at h
      rw [if_pos (by rw [cells_pair]; rfl)] at h
      simp only [Option.map_eq_some_iff, List.range_succ, List.range_zero, List.nil_append, List.cons_append, List.mapM_cons, List.mapM_nil, Option.bind_eq_bind, Option.bind_eq_some_iff, Option.pure_def, Option.some.injEq, cells_int] at h
      obtain ⟨xs, ⟨y0, h0, x1, ⟨y1, h1, -⟩, -⟩, -⟩ := h
      obtain ⟨i0, e0, -⟩ := elem_int Try.underlying3 _ _ _ h0
      obtain ⟨i1, e1, -⟩ := elem_int Try.underlying3 _ _ _ h1
      obtain rfl : a = .int .i64 i0 := by simpa using e0
      obtain rfl : b = .int .i64 i1 := by simpa using e1
      exact ⟨(i0, i1), rfl, trivial⟩
set_option maxHeartbeats 400000 in
set_option maxRecDepth 100000 in
theorem lifted (os : Os) (started : os.Started) (H : Type) (enc : TypeId × Value → H) :
    ReturnsInHanded {} Try.checked os 6 .any (Rows.diskApartSpec.pre6 enc Try.prog Try.f6 Rows.diskApartRow.domain false) (Rows.diskApartSpec.post enc Try.prog Try.f6 false true false false) := by
  refine returnsInHanded_of_change (C := Try.checked) own started (by kernel_rfl) Try.func6
    (ChangeSpec.witness6 (enc := enc) (C := Try.checked) false ⟨#[], #[.slice none 0 0], []⟩ 8 (by kernel_rfl) (by kernel_rfl) (by kernel_rfl) (by kernel_rfl)) ?_
  intro W base args ds gs before hval0 hW hcnd _
  have hval : ∀ (j : Nat) t v, Try.f6.params[j]? = some t → args[j]? = some v → Value.okWide Try.prog W .any base t v := hval0
  have hW' := hW
  obtain ⟨p, q, hA0, hV, rfl, hfz, hnd⟩ := hW
  have hA : DataW.TrodAll enc Try.prog W 0 (fun _ => true) true Try.f6.params.toList args.toList ds p := hA0
  rw [Try.params6] at hA hval
  obtain ⟨v0, vs0, d0, ds0, p0, q0, hargs, rfl, rfl, h0, r0⟩ := trodAll_cons hA
  obtain ⟨rfl, rfl, rfl⟩ := trodAll_nil r0
  obtain rfl : args = #[v0] := by cases args; simp_all
  obtain ⟨rfl, rfl⟩ := trodVars_none hV
  clear hA0 hval0
  refine Calls.mono (R := fun e w' => e = .returned (.bool true) ∧ Fr (fun _ => False) W w') ?_ fun e W' ⟨he, hf⟩ => ⟨_, he, post_law sound (by decide +kernel) rfl rfl (ht := Try.underlying4) (by rfl) hW' hf⟩
  obtain ⟨L, hs, -, hl⟩ := open_sl Try.underlying42 (k := 2) cells_pair (by omega) (hval 0 42 v0 rfl rfl) h0 pcells2 (fun _ => True) (fun _ => rfl) (fun fuel cs r hcs h => elem_pair fuel cs r hcs h)
  exact DiskApart_walk L hl W v0 hs
theorem proved : Rows.DiskApartSaid :=
  OpenClaim.holds_of_wide 6 Try.f6 rfl rfl rfl rfl rfl rfl rfl ⟨rfl, rfl, rfl, rfl, rfl⟩ rfl rfl rfl rfl rfl (by kernel_rfl) Try.func6 (by kernel_rfl)
    (of_decide_eq_true (by kernel_rfl)) (by unfold Func.isWrapper; first | (rw [if_pos (by decide +kernel)]; kernel_rfl) | (rw [if_neg (by decide +kernel)]; exact ⟨rfl, rfl⟩))
    (fun os started H enc _ => lifted os started H enc)
end Go.Proofs.Ytfalehgngioheaa.diskApart
