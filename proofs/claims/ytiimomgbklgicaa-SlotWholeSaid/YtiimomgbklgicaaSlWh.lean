/- Proved: for every list of numbers of changes and every list of ends the law SlotWhole of chapter 16 returns true, and its arguments read afterwards as before. Conditions: none beyond the given statement. -/
import Derived.Test.YtiimomgbklgicaaSlWhM
import Derived.Test.YtiimomgbklgicaaSlY
set_option linter.unusedVariables false
namespace Go.Proofs.Ytiimomgbklgicaa
open Go.RowKit Go.VB Go.VB.Oct Go.VB.Cat Go.VB.Rec Go.VB.Slt
def bcell (b : Bool) : List Value := [.bool b]
def wcell (j : Nat) : List Value := [.int .i64 (j : Int)]
theorem info_int2 : (Try.prog.info? 3).map (fun i => (i.zero, i.size, i.bytes)) = some (some (.int .i64 0), 1, 8) := by kernel_rfl
/-- the law's state ahead of round i -/
structure WS (L : List Int) (w W : World) (s i : Nat) (lsn : Int) (want : List Nat) (X : Nat → Prop) (m : Slt) (N : Nat) (a : Option Addr) (c : Nat) : Prop where
  h : SH X W s m N
  n : N ≤ 1 + 42 * i
  x : ∀ k, X k → w.heap.size ≤ k
  r : Row 3 1 w.heap.size W (.slice a want.length c) want.length (want.flatMap wcell)
  o : ∀ k, (Value.slice a want.length c).ownBlock = some k → ¬ X k
  f : Fr (fun _ => False) w W
theorem WS.grow {L : List Int} {w W W' : World} {s i i' : Nat} {lsn lsn' : Int} {want : List Nat} {X X' : Nat → Prop} {m m' : Slt} {N : Nat} {a : Option Addr} {c : Nat} (h : WS L w W s i lsn want X m N a c) {B : Nat} (hB : W.heap.size ≤ B) (h1 : SH X' W' s m' (N + 1)) (h2 : ∀ k, X' k → X k ∨ B ≤ k) (f : Fr X W W') (hn : N + 1 ≤ 1 + 42 * i') : WS L w W' s i' lsn' want X' m' (N + 1) a c :=
  ⟨h1, hn, fun k hk => (h2 k hk).elim (h.x k) (fun g => by have := h.f.size; omega), h.r.fr f h.o, fun k hk hx => (h2 k hx).elim (h.o k hk) (fun g => by have := h.r.lt hk; omega), h.f.trans f (fun k hk hl => by have := h.x k hk; omega)⟩
set_option maxRecDepth 20000 in
set_option maxHeartbeats 8000000 in
theorem SlotWhole_walk (L : List Int) (E : List Bool) (vL vE : Value) (w : World) (hL : Sl (fun k => k < w.heap.size) w vL L.length (L.flatMap icell)) (hE : Sl (fun k => k < w.heap.size) w vE E.length (E.flatMap bcell)) :
    Calls Try.prog 5 #[vL, vE] w fun e w' => e = .returned (.bool true) ∧ Fr (fun _ => False) w w' := by
  have HL := hid hL
  have HE := hid hE
  obtain ⟨aL, cL, rfl, -, -⟩ := hL
  obtain ⟨aE, cE, rfl, -, -⟩ := hE
  have HS := hid (sanity_go w)
  have eb : bs [115] = ⟨#[115]⟩ := rfl
  go_enter Try.func5, Try.ntmps5
  go_upto_region 2 with (go_at_call 8; refine HS.out.mono ?_; rintro e w1 ⟨rfl, f⟩; have F1 := hid f; clear f)
  have HN := hid (SH.new_ [115] 0 w1)
  rw [eb] at HN
  go_upto_region 3 with (go_at_call 9; refine HN.out.mono ?_; rintro e w2 ⟨s, rfl, h, f⟩; obtain ⟨X0, h, hx⟩ : ∃ X0 : Nat → Prop, SH X0 w2 s (newM [115] 0 []) 1 ∧ ∀ k, X0 k → w.heap.size ≤ k := ⟨_, h, fun k hk => Nat.le_trans F1.out.size hk.1⟩; have W0 := hid (show WS L w w2 s 0 0 [] X0 (newM [115] 0 []) 1 none 0 from ⟨h, by omega, hx, Row.nil, fun k hk => (own_none hk).elim, F1.out.trans f (fun _ h _ => h)⟩); clear h hx f)
  clear HN HS F1 eb
  go_upto_block 0 with fail
  go_cut [8] (fun s8 wx => ∃ (i : Nat) (lsn : Int) (want : List Nat) (X : Nat → Prop) (m : Slt) (N : Nat) (a : Option Addr) (c : Nat), s8 = .slice a want.length c ∧ i ≤ 40 ∧ i ≤ L.length ∧ Wh L i lsn want m ∧ WS L w wx s i lsn want X m N a c)
  case first =>
    go_wp2_with (fail)
    go_loopw [7, 8, 9] (fun s7 s8 s9 wr => ∃ (i : Nat) (lsn : Int) (want : List Nat) (X : Nat → Prop) (m : Slt) (N : Nat) (a : Option Addr) (c : Nat), i ≤ 40 ∧ i ≤ L.length ∧ s9 = .int .i64 i ∧ s7 = .int .i64 lsn ∧ s8 = .slice a want.length c ∧ Wh L i lsn want m ∧ WS L w wr s i lsn want X m N a c) (fun _ _ s9 _ => 40 - (intOf s9).toNat)
    case atStart => exact ⟨0, 0, [], X0, _, 1, none, 0, by omega, by omega, rfl, rfl, rfl, Wh.new L, W0.out⟩
    case round =>
      obtain ⟨i, lsn, want, X, m, N, a, c, hi40, hiL, rfl, rfl, rfl, hw, hs⟩ := hrel
      have HW := hid hw
      have HWS := hid hs
      clear hw hs W0
      rename World => WR
      by_cases hc : i < L.length ∧ i < 40
      · obtain ⟨hil, hi4⟩ := hc
        have i1 : (i : Int) < (L.length : Int) := by omega
        have i2 : (i : Int) < 40 := by omega
        have i3 : (0 : Int) ≤ (i : Int) := by omega
        have HNI := hid (show L[i] % 41 = (nn L i : Int) from by have := nn_int L i; rwa [List.getD_eq_getElem?_getD, List.getElem?_eq_getElem hil, Option.getD_some] at this)
        obtain ⟨gL, oL, rfl, -, qL⟩ := slK (k := 1) (f := icell) (by decide) icell_len (HL.out.fr HWS.out.f (fun _ _ h => h)) hil
        have q0 := qL 0 (by decide)
        simp only [Nat.add_zero, Nat.mul_one, icell, List.getElem?_cons_zero] at q0
        have HR := hid (rest_any WR L[i] 41 (by omega) (by omega))
        rw [HNI.out] at HR
        clear qL HNI
        generalize L[i] = li at *
        have HN40 := hid (nn_le L i)
        obtain ⟨n, hn⟩ : ∃ n, n = nn L i := ⟨_, rfl⟩
        rw [← hn] at HR HN40
        have HNE := hid hn
        have hn40 : n ≤ 40 := HN40.out
        clear hn
        go_upto_block 2 with (go_at_call 10; refine HR.out.mono ?_; rintro e w3 ⟨rfl, rfl⟩)
        clear q0 HR
        go_cut [7] (fun s7 wx => ∃ (lsn' : Int) (X' : Nat → Prop) (m' : Slt) (N' : Nat), s7 = .int .i64 lsn' ∧ Wm L i n lsn' want m' ∧ WS L w wx s (i + 1) lsn' want X' m' N' a c ∧ N' ≤ 1 + 42 * i + n)
        case first =>
          go_wp2_with (fail)
          go_loopw [7, 11] (fun s7 s11 wr => ∃ (k : Nat) (lsn' : Int) (X' : Nat → Prop) (m' : Slt) (N' : Nat), k ≤ n ∧ s11 = .int .i64 k ∧ s7 = .int .i64 lsn' ∧ Wm L i k lsn' want m' ∧ WS L w wr s (i + 1) lsn' want X' m' N' a c ∧ N' ≤ 1 + 42 * i + k) (fun _ s11 _ => n - (intOf s11).toNat)
          case atStart => exact ⟨0, lsn, X, m, N, by omega, rfl, rfl, HW.out.start, ⟨HWS.out.h, by have := HWS.out.n; omega, HWS.out.x, HWS.out.r, HWS.out.o, HWS.out.f⟩, by have := HWS.out.n; omega⟩
          case round =>
            obtain ⟨k, lsn', X', m', N', hk, rfl, rfl, hw, hs, hn⟩ := hrel
            have HW1 := hid hw
            have HS1 := hid hs
            have HNN := hid hn
            clear hw hs hn HW HWS
            rename World => WK
            by_cases hkn : k < n
            · have k1 : (k : Int) < (n : Int) := by omega
              have hpos := HW1.out.q.pos
              have hle := HW1.out.le
              have w1 : IntKind.i64.wrap (lsn' + 1) = lsn' + 1 := IntWalk.i64_in _ (by omega)
              have w2 : IntKind.i64.wrap (10 + (i : Int)) = 10 + (i : Int) := IntWalk.i64_in _ (by omega)
              have w3 : IntKind.i64.wrap (100 * (i : Int)) = 100 * (i : Int) := IntWalk.i64_in _ (by omega)
              have w4 : IntKind.i64.wrap (100 * (i : Int) + (k : Int)) = 100 * (i : Int) + (k : Int) := IntWalk.i64_in _ (by omega)
              have w5 : IntKind.i64.wrap ((k : Int) + 1) = (k : Int) + 1 := IntWalk.i64_in _ (by omega)
              have HF := hid (SH.feedRow HS1.out.h (by have := HNN.out; omega) (100 * (i : Int) + (k : Int)) (lsn' + 1) 2 (10 + (i : Int)) ⟨by omega, by omega⟩)
              have HE1 := hid (show (100 * (i : Int) + (k : Int)) = ((100 * i + k : Nat) : Int) from by push_cast; rfl)
              clear hpos hle
              go_wp2_with (go_at_call 12; refine HF.out.mono ?_; rintro e w4 ⟨rfl, X2, h2, hx2, f2⟩; have HS2 := hid (HS1.out.grow (i' := i + 1) (lsn' := lsn' + 1) (Nat.le_refl _) h2 hx2 f2 (by have := HNN.out; omega)); clear h2 hx2 f2)
              go_roundw
              case rel => exact ⟨k + 1, lsn' + 1, X2, _, N' + 1, by omega, by go_num, rfl, by rw [HE1.out]; exact HW1.out.step, HS2.out, by have := HNN.out; omega⟩
              case measure => simp [intOf]; omega
            · obtain rfl : k = n := by omega
              have k1 : ¬ ((k : Int) < (k : Int)) := by omega
              go_wp2_with (fail)
              go_meet
              exact ⟨lsn', X', m', N', rfl, HW1.out, HS1.out, HNN.out⟩
        case rest =>
          obtain ⟨lsn', X', m', N', rfl, hw, hs, hn⟩ := hcut
          generalize wc = WB at *
          have HW1 := hid hw
          have HS1 := hid hs
          have HNN := hid hn
          clear hw hs hn HW HWS
          have HSP := hid (SH.spilled HS1.out.h (by have := HNN.out; omega))
          have hsp := HW1.out.spilled
          have w1 : IntKind.i64.wrap ((n : Int) - 16) = (n : Int) - 16 := IntWalk.i64_in _ (by omega)
          have hsl : ¬ ((splM m' : Nat) : Int) < (n : Int) - 16 := by omega
          clear hsp
          generalize splM m' = sp at *
          by_cases hi0 : i = 0
          · subst hi0
            have w2 : IntKind.i64.wrap ((0 : Nat) + 1 : Int) = ((0 : Nat) + 1 : Int) := IntWalk.i64_in _ (by omega)
            go_wp2_with (go_at_call 15; refine HSP.out.mono ?_; rintro e w4 ⟨rfl, f⟩; have F4 := hid f; clear f)
            go_roundw
            case rel => exact ⟨1, lsn', want, X', m', N', a, c, by omega, by omega, by go_num, rfl, rfl, Wm.first (by rw [← HNE.out]; exact HW1.out), ⟨HS1.out.h.fre F4.out, by have := HS1.out.n; omega, HS1.out.x, HS1.out.r.fre F4.out, HS1.out.o, HS1.out.f.trans F4.out (fun _ h _ => h)⟩⟩
            case measure => simp [intOf]
          · obtain ⟨j, hj⟩ : ∃ j, i = j + 1 := ⟨i - 1, by omega⟩
            have HJ := hid hj
            have hjl : j < L.length := by omega
            have b1 : ((i : Int) == 0) = false := beq_eq_false_iff_ne.2 (by omega)
            have HRJ := hid (show L[j] % 41 = (nn L j : Int) from by have := nn_int L j; rwa [List.getD_eq_getElem?_getD, List.getElem?_eq_getElem hjl, Option.getD_some] at this)
            have hpos := HW1.out.q.pos
            have hle := HW1.out.le
            have w3 : IntKind.i64.wrap ((i : Int) - 1) = (j : Int) := (IntWalk.i64_in _ (by omega)).trans (by omega)
            have w4 : IntKind.i64.wrap (lsn' + 1) = lsn' + 1 := IntWalk.i64_in _ (by omega)
            have w5 : IntKind.i64.wrap (10 + (i : Int)) = 10 + (i : Int) := IntWalk.i64_in _ (by omega)
            have w6 : IntKind.i64.wrap (10 + (i : Int) - 1) = 10 + (j : Int) := (IntWalk.i64_in _ (by omega)).trans (by omega)
            have w7 : IntKind.i64.wrap ((i : Int) + 1) = (i : Int) + 1 := IntWalk.i64_in _ (by omega)
            have j1 : (0 : Int) ≤ (j : Int) := by omega
            have j2 : (j : Int) < (L.length : Int) := by omega
            have HXI := hid (show I64 (10 + (j : Int)) from ⟨by omega, by omega⟩)
            obtain ⟨g', o', e', rJ⟩ := sl_at (k := 1) (by decide) icell_len HL.out hjl
            cases e'
            have HQJ := hid (show w.cell? ⟨gL, oL + j, none⟩ = some (.int .i64 L[j]) from by have := rJ 0 (.int .i64 L[j]) rfl; simpa using this)
            clear hj hpos hle rJ
            go_upto_region 16 with (go_at_call 15; refine HSP.out.mono ?_; rintro e w4 ⟨rfl, f⟩; have HS4 := hid (show WS L w w4 s (i + 1) lsn' want X' m' N' a c from ⟨HS1.out.h.fre f, HS1.out.n, HS1.out.x, HS1.out.r.fre f, HS1.out.o, HS1.out.f.trans f (fun _ h _ => h)⟩); clear f)
            clear HSP hsl HS1 w1
            have HOK := hid HS4.out.h.ok
            have qJ := cell_fr HQJ.out HS4.out.f (fun h => h)
            have HRR := hid (fun W => rest_any W L[j] 41 (by omega) (by omega))
            rw [HRJ.out] at HRR
            clear HRJ HQJ
            generalize L[j] = lj at *
            by_cases he : ∃ h : i < E.length, E[i] = true
            · obtain ⟨hel, heb⟩ := he
              have i4 : (i : Int) < (E.length : Int) := by omega
              obtain ⟨gE, oE, rfl, rE⟩ := sl_at (k := 1) (by decide) (fun _ => rfl) HE.out hel
              have qE : w4.cell? ⟨gE, oE + i, none⟩ = some (.bool true) := cell_fr (show w.cell? ⟨gE, oE + i, none⟩ = some (.bool true) from by have := rE 0 (.bool E[i]) rfl; rw [heb] at this; simpa using this) HS4.out.f (fun h => h)
              clear rE heb
              by_cases hz : nn L j = 0
              · have HZ := hid hz
                rw [hz] at HRR
                have HF := hid (SH.feedX0 HS4.out.h (by have := HNN.out; omega) (lsn' + 1) 5 (10 + (j : Int)) 0 HXI.out ⟨by omega, by omega⟩)
                go_wp2_with (first
                  | (go_at_call 10; refine (HRR.out _).mono ?_; rintro e w5 ⟨rfl, rfl⟩; clear qJ qE)
                  | (go_at_call 12; refine HF.out.mono ?_; rintro e w6 ⟨rfl, X2, h2, hx2, f2⟩; have HS6 := hid (HS4.out.grow (i' := i + 1) (lsn' := lsn' + 1) (Nat.le_refl _) h2 hx2 f2 (by have := HNN.out; omega)); clear h2 hx2 f2))
                go_roundw
                case rel =>
                  have hj := HJ.out
                  subst hj
                  have hfin := Wm.fin (by rw [← HNE.out]; exact HW1.out) HOK.out (kind := 5) (.inl rfl)
                  rw [if_neg (fun h => by have := HZ.out; omega)] at hfin
                  exact ⟨j + 2, lsn' + 1, want, X2, _, N' + 1, a, c, by omega, by omega, by go_num, rfl, rfl, hfin, HS6.out⟩
                case measure => simp [intOf]; omega
              · have HZ := hid hz
                have hz1 : (0 : Int) < (nn L j : Int) := by omega
                clear hz
                have HF := hid (fun (W : World) (c2 : Nat) (a2 : Option Addr) (h : WS L w W s (i + 1) lsn' (want ++ [j]) X' m' N' a2 c2) => SH.feedX0 h.h (by have := HNN.out; omega) (lsn' + 1) 5 (10 + (j : Int)) 0 HXI.out ⟨by omega, by omega⟩)
                have HWL := hid HW1.out.wl
                have HSZ := hid HS4.out.f.size
                generalize hnj : nn L j = nj at HRR hz1
                have HNJ := hid hnj
                clear hnj
                go_wp2_with (first
                  | (go_at_call 10; refine (HRR.out _).mono ?_; rintro e w5 ⟨rfl, rfl⟩; clear qJ qE)
                  | (at_builtin; refine wpList_app1 rfl (s := .tmp 77) (x := .tmp 80) (t := 22) rfl Try.underlying22 info_int2 rfl rfl rfl HS4.out.r HSZ.out rfl (by simp [Value.oneCell']) (by have := HWL.out; omega) (by have := HWL.out; omega) ?_; intro ab ac wg APP; have HS5 := hid (show WS L w wg s (i + 1) lsn' (want ++ [j]) X' m' N' ab ac from ⟨HS4.out.h.fr APP.fr (fun k hk hu => HS4.out.o k hu hk), HS4.out.n, HS4.out.x, (by rw [List.length_append]; exact APP.row.cast rfl (by rw [List.flatMap_append]; rfl)), (fun k hk hx => by rw [List.length_append] at hk; exact (APP.at_ k hk).elim (fun h => HS4.out.o k h hx) (fun h => by have := HS4.out.h.lt hx; omega)), HS4.out.f.trans APP.fr (fun k hk hl => by have := HS4.out.r.new k hk; omega)⟩); clear APP)
                  | (go_at_call 12; refine (HF.out _ _ _ HS5.out).mono ?_; rintro e w6 ⟨rfl, X2, h2, hx2, f2⟩; have HS6 := hid (HS5.out.grow (i' := i + 1) (lsn' := lsn' + 1) (Nat.le_refl _) h2 hx2 f2 (by have := HNN.out; omega)); clear h2 hx2 f2))
                go_roundw
                case rel =>
                  have hj := HJ.out
                  subst hj
                  have hfin := Wm.fin (by rw [← HNE.out]; exact HW1.out) HOK.out (kind := 5) (.inl rfl)
                  rw [if_pos ⟨rfl, by have := HZ.out; omega⟩] at hfin
                  exact ⟨j + 2, lsn' + 1, want ++ [j], X2, _, N' + 1, ab, ac, by omega, by omega, by go_num, rfl, by rw [List.length_append]; rfl, hfin, HS6.out⟩
                case measure => simp [intOf]; omega
            · have HF := hid (SH.feedX0 HS4.out.h (by have := HNN.out; omega) (lsn' + 1) 6 (10 + (j : Int)) 0 HXI.out ⟨by omega, by omega⟩)
              by_cases hel : i < E.length
              · have i4 : (i : Int) < (E.length : Int) := by omega
                have heb : E[i] = false := by
                  cases hb : E[i] with
                  | false => rfl
                  | true => exact absurd ⟨hel, hb⟩ he
                obtain ⟨gE, oE, rfl, rE⟩ := sl_at (k := 1) (by decide) (fun _ => rfl) HE.out hel
                have qE : w4.cell? ⟨gE, oE + i, none⟩ = some (.bool false) := cell_fr (show w.cell? ⟨gE, oE + i, none⟩ = some (.bool false) from by have := rE 0 (.bool E[i]) rfl; rw [heb] at this; simpa using this) HS4.out.f (fun h => h)
                clear rE heb he qJ HRR
                go_wp2_with (go_at_call 12; refine HF.out.mono ?_; rintro e w6 ⟨rfl, X2, h2, hx2, f2⟩; have HS6 := hid (HS4.out.grow (i' := i + 1) (lsn' := lsn' + 1) (Nat.le_refl _) h2 hx2 f2 (by have := HNN.out; omega)); clear h2 hx2 f2)
                go_roundw
                case rel =>
                  have hj := HJ.out
                  subst hj
                  have hfin := Wm.fin (by rw [← HNE.out]; exact HW1.out) HOK.out (kind := 6) (.inr rfl)
                  rw [if_neg (fun h => absurd h.1 (by decide))] at hfin
                  exact ⟨j + 2, lsn' + 1, want, X2, _, N' + 1, a, c, by omega, by omega, by go_num, rfl, rfl, hfin, HS6.out⟩
                case measure => simp [intOf]; omega
              · have i4 : ¬ (i : Int) < (E.length : Int) := by omega
                clear he qJ HRR
                go_wp2_with (go_at_call 12; refine HF.out.mono ?_; rintro e w6 ⟨rfl, X2, h2, hx2, f2⟩; have HS6 := hid (HS4.out.grow (i' := i + 1) (lsn' := lsn' + 1) (Nat.le_refl _) h2 hx2 f2 (by have := HNN.out; omega)); clear h2 hx2 f2)
                go_roundw
                case rel =>
                  have hj := HJ.out
                  subst hj
                  have hfin := Wm.fin (by rw [← HNE.out]; exact HW1.out) HOK.out (kind := 6) (.inr rfl)
                  rw [if_neg (fun h => absurd h.1 (by decide))] at hfin
                  exact ⟨j + 2, lsn' + 1, want, X2, _, N' + 1, a, c, by omega, by omega, by go_num, rfl, rfl, hfin, HS6.out⟩
                case measure => simp [intOf]; omega
      · by_cases hil : i < L.length
        · have i1 : (i : Int) < (L.length : Int) := by omega
          have i2 : ¬ (i : Int) < 40 := by omega
          go_wp2_with (fail)
          go_meet
          exact ⟨i, lsn, want, X, m, N, a, c, rfl, hi40, hiL, HW.out, HWS.out⟩
        · have i1 : ¬ (i : Int) < (L.length : Int) := by omega
          go_wp2_with (fail)
          go_meet
          exact ⟨i, lsn, want, X, m, N, a, c, rfl, hi40, hiL, HW.out, HWS.out⟩
  case rest =>
    obtain ⟨i, lsn, want, X, m, N, a, c, rfl, hi40, hiL, hw, hs⟩ := hcut
    generalize wc = WB at *
    have HW := hid hw
    have HS1 := hid hs
    clear hw hs W0
    have HWL := hid HW.out.wl
    have HQN := hid (show m.told.take (qn 100 m.queue.length) = m.told from by
      have h1 := HW.out.told_len
      have h2 := HWL.out
      have h3 : qn 100 m.queue.length = m.queue.length := by unfold qn; omega
      rw [h3]
      exact List.take_of_length_le (by unfold Slt.told; rw [List.length_map]; exact Nat.le_refl _))
    have HTL := hid (show m.told.length = want.length from by unfold Slt.told; rw [List.length_map]; exact HW.out.told_len)
    have HQ := hid (SH.queued HS1.out.h (by have := HS1.out.n; omega) 100)
    rw [HQN.out] at HQ
    go_upto_region 25 with (go_at_call 11; refine HQ.out.mono ?_; rintro e w4 ⟨u, xs, rfl, hx, ht, f⟩; obtain ⟨au, cu, eu, -⟩ := ht.r.slice; have hxl : xs.length = want.length := (by have h1 := congrArg List.length hx; rw [List.length_map] at h1; exact h1.trans HTL.out); rw [hxl] at eu; subst eu; have HXL := hid hxl; have HXS := hid hx; have HT := hid ht; have F4 := hid (HS1.out.f.trans f (fun _ h _ => h)); have RW4 := hid (HS1.out.r.fre f); clear hx ht f hxl)
    clear HQ
    have HWI := hid (fun (t : Nat) (ht : t < want.length) => Nat.lt_of_lt_of_le (HW.out.wj _ (List.getElem_mem ht)) hiL)
    have HTA := hid (fun (t : Nat) (ht : t < want.length) => HW.out.told_at ht)
    have HWB := hid (fun (t : Nat) (ht : t < want.length) => Nat.lt_of_lt_of_le (HW.out.wj _ (List.getElem_mem ht)) hi40)
    obtain ⟨n, hn⟩ : ∃ n, n = want.length := ⟨_, rfl⟩
    rw [← hn] at HWL RW4 HXL HT ⊢
    have HNE := hid hn
    have hn40 : n ≤ 40 := by have := HWL.out; omega
    clear hn HW HS1 HTL HQN HWL hi40 hiL
    go_wp2_with (fail)
    go_loopw [14] (fun s14 wr => ∃ t : Nat, t ≤ n ∧ s14 = .int .i64 t ∧ Fr (fun _ => False) w4 wr) (fun s14 _ => n - (intOf s14).toNat)
    case atStart => exact ⟨0, by omega, rfl, Fr.refl _ _⟩
    case round =>
      obtain ⟨t, ht, rfl, hf⟩ := hrel
      have FR := hid hf
      clear hf
      rename World => WR
      by_cases htn : t < n
      · have htw : t < want.length := by rw [← HNE.out]; exact htn
        have htx : t < xs.length := by rw [HXL.out]; exact htn
        obtain ⟨l, e1, hless⟩ := HTA.out t htw
        have HX1 := hid (show TxnV.t xs[t] = (l, whC want[t] (nn L want[t])) from by
          rw [← HXS.out, List.getElem?_map, List.getElem?_eq_getElem htx, Option.map_some, Option.some.injEq] at e1
          exact e1)
        have HLS := hid (show ∀ p (hp : p < t), (xs[p]'(by omega)).lsn < l from fun p hp => by
          obtain ⟨l', e2, h2⟩ := hless p hp
          rw [← HXS.out, List.getElem?_map, List.getElem?_eq_getElem (by omega), Option.map_some, Option.map_some, Option.some.injEq] at e2
          rw [← e2] at h2
          exact h2)
        have hjL := HWI.out t htw
        have HJW := hid (HWB.out t htw)
        have HJ40 := hid (nn_le L want[t])
        obtain ⟨gw, ow, rfl, rw_⟩ := sl_at (k := 1) (by decide) (fun _ => rfl) (RW4.out.cast HNE.out rfl).sl htw
        have HP0 := hid (show w4.cell? ⟨gw, ow + t, none⟩ = some (.int .i64 (want[t] : Int)) from by have := rw_ 0 (.int .i64 (want[t] : Int)) rfl; simpa using this)
        have p0 : WR.cell? ⟨gw, ow + t, none⟩ = some (.int .i64 (want[t] : Int)) := cell_fr HP0.out FR.out (fun h => h)
        have HRJ := hid (show L[want[t]] % 41 = (nn L want[t] : Int) from by have := nn_int L want[t]; rwa [List.getD_eq_getElem?_getD, List.getElem?_eq_getElem hjL, Option.getD_some] at this)
        obtain ⟨gL, oL, rfl, rL⟩ := sl_at (k := 1) (by decide) icell_len (HL.out.fr (F4.out.trans FR.out (fun _ h _ => h)) (fun _ _ h => h)) hjL
        have p1 : WR.cell? ⟨gL, oL + want[t], none⟩ = some (.int .i64 L[want[t]]) := by have := rL 0 (.int .i64 L[want[t]]) rfl; simpa using this
        have HTX := hid (HT.out.t _ (List.getElem_mem htx))
        have HSX := hid (show Sl (fun _ => True) w4 (.slice au n cu) xs.length (xs.flatMap TxnV.cells) from (HT.out.r.sl' (fun _ _ => trivial)))
        obtain ⟨gu, ou, rfl, ru⟩ := sl_at (k := 2) (by decide) (fun _ => rfl) HSX.out htx
        generalize L[want[t]] = lj at *
        generalize want[t] = jw at *
        have i1 : (0 : Int) ≤ (t : Int) := by omega
        have i2 : (t : Int) < (n : Int) := by omega
        have i3 : (0 : Int) ≤ (jw : Int) := by omega
        have i4 : (jw : Int) < (L.length : Int) := by omega
        have w1 : IntKind.i64.wrap ((t : Int) + 1) = (t : Int) + 1 := IntWalk.i64_in _ (by omega)
        obtain ⟨ax, cx, ex, -⟩ := HTX.out.r.slice
        have HXD := hid (show xs[t].lsn = l ∧ xs[t].cs.map ChgV.c = whC jw (nn L jw) from by have h := HX1.out; unfold TxnV.t at h; exact ⟨(Prod.mk.inj h).1, (Prod.mk.inj h).2⟩)
        have HCL := hid (show xs[t].cs.length = nn L jw from by have := congrArg List.length HXD.out.2; rwa [List.length_map, whC_len] at this)
        rw [HCL.out] at ex
        have p2 : WR.cell? ⟨gu, ou + t * 2, none⟩ = some (.int .i64 l) := cell_fr (show w4.cell? ⟨gu, ou + t * 2, none⟩ = some (.int .i64 l) from by have := ru 0 (.int .i64 xs[t].lsn) rfl; rw [HXD.out.1] at this; simpa using this) FR.out (fun h => h)
        have HP3 := hid (show w4.cell? ⟨gu, ou + t * 2 + 1, none⟩ = some (.slice ax (nn L jw) cx) from ru 1 (.slice ax (nn L jw) cx) (by show some xs[t].v = _; rw [ex]))
        have p3 : WR.cell? ⟨gu, ou + t * 2 + 1, none⟩ = some (.slice ax (nn L jw) cx) := cell_fr HP3.out FR.out (fun h => h)
        have HEX := hid ex
        generalize hnj : nn L jw = nj at *
        have HRR := hid (fun W => (rest_any W lj 41 (by omega) (by omega)).mono (fun e w' (h : e = .returned (.int .i64 (lj % 41)) ∧ W = w') => (⟨by rw [h.1, HRJ.out], h.2.symm⟩ : e = .returned (.int .i64 (nj : Int)) ∧ w' = W)))
        clear HX1 ru rL rw_ hless e1 hnj HTA HWI
        go_upto_region 30 with fail
        go_cut [137] (fun s137 wx => s137 = .bool false ∧ Fr (fun _ => False) w4 wx)
        case first =>
          by_cases ht0 : t = 0
          · have hd : ¬ 0 < t := by omega
            clear ht0
            go_quiet ((go_at_call 10; refine Calls.quiet_of_same (HRR.out _)))
            go_wp2_with (fail)
            go_meet
            exact ⟨rfl, FR.out.drewN _⟩
          · obtain ⟨p, hp⟩ : ∃ p, t = p + 1 := ⟨t - 1, by omega⟩
            have hd : 0 < t := by omega
            have w2 : IntKind.i64.wrap ((t : Int) - 1) = (p : Int) := (IntWalk.i64_in _ (by omega)).trans (by omega)
            have hpx : p < xs.length := by omega
            obtain ⟨gp, op_, ep, rp⟩ := sl_at (k := 2) (by decide) (fun _ => rfl) HSX.out hpx
            cases ep
            have p4 : WR.cell? ⟨gu, ou + p * 2, none⟩ = some (.int .i64 xs[p].lsn) := cell_fr (show w4.cell? ⟨gu, ou + p * 2, none⟩ = some (.int .i64 xs[p].lsn) from by have := rp 0 (.int .i64 xs[p].lsn) rfl; simpa using this) FR.out (fun h => h)
            have hlt := HLS.out p (by omega)
            have hl2 : decide (l ≤ xs[p].lsn) = false := by simp; omega
            have j1 : (0 : Int) ≤ (p : Int) := by omega
            have j2 : (p : Int) < (n : Int) := by omega
            clear rp hlt hp
            generalize xs[p].lsn = lp at *
            go_quiet ((go_at_call 10; refine Calls.quiet_of_same (HRR.out _)))
            go_wp2_with (fail)
            go_meet
            exact ⟨rfl, FR.out.drewN _⟩
        case rest =>
          obtain ⟨rfl, hf⟩ := hcut
          generalize wc = WC at *
          have FC := hid hf
          have HJB := hid (show jw < 1000000000 from by have := HJW.out; omega)
          clear hf p0 p1 p2 p3 HRR HRJ HLS FR
          go_wp2_with (fail)
          go_loopw [15] (fun s15 wr => ∃ k : Nat, k ≤ nj ∧ s15 = .int .i64 k ∧ Fr (fun _ => False) w4 wr) (fun s15 _ => nj - (intOf s15).toNat)
          case atStart => exact ⟨0, by omega, rfl, FC.out⟩
          case round =>
            obtain ⟨k, hk, rfl, hf⟩ := hrel
            have FK := hid hf
            clear hf FC
            rename World => WK
            have p3 := cell_fr HP3.out FK.out (fun h => h)
            by_cases hkn : k < nj
            · have hkc : k < xs[t].cs.length := by rw [HCL.out]; exact hkn
              have HRY := hid HTX.out.r
              rw [HEX.out, HCL.out] at HRY
              obtain ⟨gx, ox, rfl, ry⟩ := sl_at (k := 5) (by decide) (fun _ => rfl) (HRY.out.cast HCL.out.symm rfl).sl hkc
              have HCY := hid (HTX.out.c _ (List.getElem_mem hkc))
              have HYC := hid (show xs[t].cs[k].c = rowC ((100 * jw + k : Nat) : Int) from by
                have e := congrArg (fun l => l[k]?) HXD.out.2
                unfold whC at e
                simp only [List.getElem?_map, List.getElem?_eq_getElem hkc, Option.map_some] at e
                rw [List.getElem?_range (by exact hkn), Option.map_some, Option.some.injEq] at e
                exact e)
              obtain ⟨y, hy⟩ : ∃ y, y = xs[t].cs[k] := ⟨_, rfl⟩
              rw [← hy] at HCY HYC ry
              clear hy HRY
              obtain ⟨yc, vn, vo, vw⟩ := y
              have hyc := HYC.out
              dsimp only at hyc
              subst hyc
              obtain ⟨a1, c1, e1, -⟩ := HCY.out.n.slice
              obtain ⟨a2, c2, e2, -⟩ := HCY.out.o.slice
              have hrw := HCY.out.w
              obtain ⟨a3, c3, e3, -⟩ := hrw.slice
              rw [e3] at hrw
              obtain ⟨gn, en, -, hcn⟩ := row_cells hrw (by simp [rowC, V.cells])
              dsimp only [rowC] at e1 e2 e3
              subst en
              subst e1 e2 e3
              have HNW := hid (hcn 1 (.int .i64 ((100 * jw + k : Nat) : Int)) rfl)
              have q0 : WK.cell? ⟨gx, ox + k * 5, none⟩ = some (.int .i64 2) := cell_fr (show w4.cell? ⟨gx, ox + k * 5, none⟩ = some (.int .i64 2) from by have := ry 0 (.int .i64 2) rfl; simpa using this) FK.out (fun h => h)
              have q1 : WK.cell? ⟨gx, ox + k * 5 + 1, none⟩ = some (.string ⟨#[]⟩) := cell_fr (ry 1 (.string ⟨#[]⟩) rfl) FK.out (fun h => h)
              have q2 : WK.cell? ⟨gx, ox + k * 5 + 2, none⟩ = some (.slice a1 0 c1) := cell_fr (ry 2 (.slice a1 0 c1) rfl) FK.out (fun h => h)
              have q3 : WK.cell? ⟨gx, ox + k * 5 + 3, none⟩ = some (.slice a2 0 c2) := cell_fr (ry 3 (.slice a2 0 c2) rfl) FK.out (fun h => h)
              have q4 : WK.cell? ⟨gx, ox + k * 5 + 4, none⟩ = some (.slice (some ⟨gn, 0, none⟩) 1 c3) := cell_fr (ry 4 (.slice (some ⟨gn, 0, none⟩) 1 c3) rfl) FK.out (fun h => h)
              have j1 : (0 : Int) ≤ (k : Int) := by omega
              have j2 : (k : Int) < (nj : Int) := by omega
              have fa := (Fr.refl (fun _ => False) WK).alloc (.cells #[.int .i64 2, .string ⟨#[]⟩, .slice a1 0 c1, .slice a2 0 c2, .slice (some ⟨gn, 0, none⟩) 1 c3] 48)
              have D6 := hid (Blk.new WK [.int .i64 2, .string ⟨#[]⟩, .slice a1 0 c1, .slice a2 0 c2, .slice (some ⟨gn, 0, none⟩) 1 c3] 48)
              have F6 := hid (FK.out.trans fa (fun _ h _ => h))
              clear fa ry hcn hrw HCY
              go_upto_region 36 with fail
              clear q0 q1 q2 q3 q4 p3
              generalize WK.heap.size = dl at *
              generalize WK.alloc _ = W6 at *
              have r0 := cell_fr HP0.out F6.out (fun h => h)
              have r1 : W6.cell? ⟨dl, 4, none⟩ = some (.slice (some ⟨gn, 0, none⟩) 1 c3) := D6.out.cell 4
              have r2 := cell_fr HNW.out F6.out (fun h => h)
              have w2 : IntKind.i64.wrap (100 * (jw : Int)) = 100 * (jw : Int) := IntWalk.i64_in _ (by have := HJB.out; omega)
              have w3 : IntKind.i64.wrap (100 * (jw : Int) + (k : Int)) = 100 * (jw : Int) + (k : Int) := IntWalk.i64_in _ (by have := HJB.out; have := HJ40.out; omega)
              have w4' : IntKind.i64.wrap ((k : Int) + 1) = (k : Int) + 1 := IntWalk.i64_in _ (by have := HJ40.out; omega)
              rw [show (((100 * jw + k : Nat)) : Int) = 100 * (jw : Int) + (k : Int) from by push_cast; rfl] at r2
              go_quiet (fail)
              clear r0 r1 r2
              go_wp2_with (fail)
              go_roundw
              case rel => exact ⟨k + 1, by omega, by go_num, F6.out.drewN _⟩
              case measure => simp [intOf]; omega
            · obtain rfl : k = nj := by omega
              have j2 : ¬ ((k : Int) < (k : Int)) := by omega
              go_wp2_with (fail)
              go_roundw
              case rel => exact ⟨t + 1, by omega, by go_num, FK.out⟩
              case measure => simp [intOf]; omega
      · obtain rfl : t = n := by omega
        have j2 : ¬ ((t : Int) < (t : Int)) := by omega
        go_wp2_with (fail)
        go_ret
        exact ⟨rfl, F4.out.trans FR.out (fun _ h _ => h)⟩
end Go.Proofs.Ytiimomgbklgicaa
namespace Go.Proofs.Ytiimomgbklgicaa.slotWhole
open Go.ChangeShapes Go.WideShapes Go.ChangeAt Go.RowKit Go.VB
set_option maxHeartbeats 400000 in
set_option maxRecDepth 100000 in
theorem lifted (os : Os) (started : os.Started) (H : Type) (enc : TypeId × Value → H) :
    ReturnsInHanded {} Try.checked os 5 .any (Rows.slotWholeSpec.pre6 enc Try.prog Try.f5 Rows.slotWholeRow.domain false) (Rows.slotWholeSpec.post enc Try.prog Try.f5 false true false false) := by
  refine returnsInHanded_of_change (C := Try.checked) own started (by kernel_rfl) Try.func5
    (ChangeSpec.witness6 (enc := enc) (C := Try.checked) false ⟨#[], #[.slice none 0 0, .slice none 0 0], []⟩ 8 (by kernel_rfl) (by kernel_rfl) (by kernel_rfl) (by kernel_rfl)) ?_
  intro W base args ds gs before hval0 hW hcnd _
  have hval : ∀ (j : Nat) t v, Try.f5.params[j]? = some t → args[j]? = some v → Value.okWide Try.prog W .any base t v := hval0
  have hW' := hW
  obtain ⟨p, q, hA0, hV, rfl, hfz, hnd⟩ := hW
  have hA : DataW.TrodAll enc Try.prog W 0 (fun _ => true) true Try.f5.params.toList args.toList ds p := hA0
  rw [Try.params5] at hA hval
  obtain ⟨v0, vs0, d0, ds0, p0, q0, hargs, rfl, rfl, h0, r0⟩ := trodAll_cons hA
  obtain ⟨v1, vs1, d1, ds1, p1, q1, rfl, rfl, rfl, h1, r1⟩ := trodAll_cons r0
  obtain ⟨rfl, rfl, rfl⟩ := trodAll_nil r1
  obtain rfl : args = #[v0, v1] := by cases args; simp_all
  obtain ⟨rfl, rfl⟩ := trodVars_none hV
  clear hA0 hval0
  refine Calls.mono (R := fun e w' => e = .returned (.bool true) ∧ Fr (fun _ => False) W w') ?_ fun e W' ⟨he, hf⟩ => ⟨_, he, post_law sound (by decide +kernel) rfl rfl (ht := Try.underlying4) (by rfl) hW' hf⟩
  obtain ⟨q, hq, -, hql⟩ := open_sl Try.underlying22 (k := 1) (by kernel_rfl) (by omega) (hval 0 22 v0 rfl rfl) h0 (fun x => [Value.int .i64 x]) (fun x => True) (fun _ => rfl) (fun fuel cs r _ h => by obtain ⟨x, h1, _⟩ := elem_int Try.underlying3 fuel cs r h; exact ⟨x, h1, trivial⟩)
  obtain ⟨E, hE, -, hel⟩ := open_sl Try.underlying42 (k := 1) (by kernel_rfl) (by omega) (hval 1 42 v1 rfl rfl) h1 (fun b => [Value.bool b]) (fun _ => True) (fun _ => rfl) (fun fuel cs r _ h => by obtain ⟨x, h1⟩ := elem_bool Try.underlying4 fuel cs r h; exact ⟨x, h1, trivial⟩)
  exact SlotWhole_walk q E v0 v1 W hq hE
theorem proved : Rows.SlotWholeSaid :=
  OpenClaim.holds_of_wide 5 Try.f5 rfl rfl rfl rfl rfl rfl rfl ⟨rfl, rfl, rfl, rfl, rfl⟩ rfl rfl rfl rfl rfl (by kernel_rfl) Try.func5 (by kernel_rfl)
    (of_decide_eq_true (by kernel_rfl)) (by unfold Func.isWrapper; first | (rw [if_pos (by decide +kernel)]; kernel_rfl) | (rw [if_neg (by decide +kernel)]; exact ⟨rfl, rfl⟩))
    (fun os started H enc _ => lifted os started H enc)
end Go.Proofs.Ytiimomgbklgicaa.slotWhole
