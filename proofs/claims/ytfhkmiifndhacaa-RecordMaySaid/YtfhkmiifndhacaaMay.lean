/- Proved: for every two integers the law RecordMay of chapter 04 returns true, and its arguments read afterwards as before. Conditions: none beyond the given statement. -/
import Derived.Test.YtfhkmiifndhacaaSan
import Derived.Test.YtfhkmiifndhacaaFin
import Derived.Test.YtfhkmiifndhacaaRfA
import Derived.Test.YtfhkmiifndhacaaMk
import Derived.Test.YtfhkmiifndhacaaMayM
import Derived.Test.YtfhkmiifndhacaaLaw
import Derived.Deep.CutBlock
set_option linter.unusedVariables false
namespace Go.Proofs.Ytfhkmiifndhacaa
open Go.RowKit Go.VB Go.VB.Oct Go.VB.Rec
structure MayS (w0 W : World) (d : Nat) (r : R) (ve vx : Value) : Prop where
  b : Blk W d (rv r nilS nilS ve vx) 27
  e : Row 55 3 w0.heap.size W ve r.edits.length (r.edits.flatMap E.cells)
  x : Row 3 1 w0.heap.size W vx r.xids.length (r.xids.flatMap icell)
  fr : Fr (fun _ => False) w0 W
  gd : w0.heap.size ≤ d
theorem mayS_rv {w0 W : World} {d : Nat} {r : R} {ve vx : Value} (h : MayS w0 W d r ve vx) (ho : r.old = []) (hn : r.new = []) (le : r.edits.length ≤ 1099511627776) (lx : r.xids.length ≤ 1099511627776) : RV (fun k => k < W.heap.size) W r nilS nilS ve vx :=
  ⟨by rw [ho]; exact ⟨none, 0, rfl, Nat.le_refl _, fun h => absurd rfl h⟩, by rw [hn]; exact ⟨none, 0, rfl, Nat.le_refl _, fun h => absurd rfl h⟩, own_sl h.e.own (fun k hk => h.e.lt hk), own_sl h.x.own (fun k hk => h.x.lt hk), by rw [ho]; simp, by rw [hn]; simp, le, lx, fun _ h => h⟩
theorem MayS.fre {w0 W W' : World} {d : Nat} {r : R} {ve vx : Value} (h : MayS w0 W d r ve vx) (f : Fr (fun _ => False) W W') : MayS w0 W' d r ve vx :=
  ⟨Blk.fr h.b f (fun h => h), h.e.fre f, h.x.fre f, h.fr.trans f (fun _ h _ => h), h.gd⟩
theorem MayS.putE {w0 W : World} {d : Nat} {r : R} {ve vx ve' : Value} (h : MayS w0 W d r ve vx) (es : List E) (e : Row 55 3 w0.heap.size W ve' es.length (es.flatMap E.cells)) : MayS w0 (W.setCell ⟨d, 5, none⟩ ve') d { r with edits := es } ve' vx := by
  have fs := (Fr.refl (fun k => k = d) W).setCell ⟨d, 5, none⟩ ve' (fun _ => rfl)
  exact ⟨h.b.set 5 ve', e.fr fs (fun k hk => e.ne h.b (by decide) k hk), h.x.fr fs (fun k hk => h.x.ne h.b (by decide) k hk), h.fr.trans fs (fun k hk hl => by have := h.gd; omega), h.gd⟩
theorem MayS.putN {w0 W : World} {d : Nat} {r : R} {ve vx : Value} (h : MayS w0 W d r ve vx) (s : List UInt8) : MayS w0 (W.setCell ⟨d, 7, none⟩ (.string (bs s))) d { r with note := s } ve vx := by
  have fs := (Fr.refl (fun k => k = d) W).setCell ⟨d, 7, none⟩ (.string (bs s)) (fun _ => rfl)
  exact ⟨h.b.set 7 (.string (bs s)), h.e.fr fs (fun k hk => h.e.ne h.b (by decide) k hk), h.x.fr fs (fun k hk => h.x.ne h.b (by decide) k hk), h.fr.trans fs (fun k hk hl => by have := h.gd; omega), h.gd⟩
theorem MayS.growX {w0 W wg : World} {d : Nat} {r : R} {ve vx v' : Value} (h : MayS w0 W d r ve vx) {x : Int} (hg : App 3 1 w0.heap.size W wg vx v' r.xids.length (r.xids.flatMap icell) (icell x)) : MayS w0 (wg.setCell ⟨d, 6, none⟩ v') d { r with xids := r.xids ++ [x] } ve v' := by
  have b' := h.b.fr hg.fr (fun hk => h.x.ne h.b (by decide) _ hk rfl)
  have fs := (Fr.refl (fun k => k = d) wg).setCell ⟨d, 6, none⟩ v' (fun _ => rfl)
  have e' := h.e.fr hg.fr (fun k hk => row_apart h.e h.x (by decide) k hk)
  have x' : Row 3 1 w0.heap.size wg v' (r.xids ++ [x]).length ((r.xids ++ [x]).flatMap icell) := hg.row.cast (by simp) (by simp)
  exact ⟨b'.set 6 v', e'.fr fs (fun k hk => e'.ne b' (by decide) k hk), x'.fr fs (fun k hk => x'.ne b' (by decide) k hk), (h.fr.trans hg.fr (fun k hk hl => by have := h.x.new k hk; omega)).trans fs (fun k hk hl => by have := h.gd; omega), h.gd⟩
theorem flat_reps (m : Nat) : (List.replicate m [Value.int .i64 0, .int .i64 0, .string .empty]).flatten = (List.replicate m (⟨0, 0, []⟩ : E)).flatMap E.cells := by
  rw [List.flatMap_def, List.map_replicate]; rfl
theorem info_u8z : (Try.prog.info? 5).map (fun i => (i.zero, i.size, i.bytes)) = some (some (.int .u8 0), 1, 1) := by kernel_rfl
theorem flat_zero (m : Nat) : (List.replicate m [Value.int .u8 0]).flatten = bv (List.replicate m 0) := by
  rw [flat_rep1]; simp [bv]
theorem nil_read : readR [] = (R.zero, 10) := by decide +kernel
set_option maxRecDepth 20000 in
set_option maxHeartbeats 8000000 in
theorem May_walk (n k : Int) (w : World) : Calls Try.prog 10 #[.int .i64 n, .int .i64 k] w fun e w' => e = .returned (.bool true) ∧ Fr (fun _ => False) w w' := by
  obtain ⟨a, ha, ha2, -⟩ := and_16 n
  obtain ⟨b, hb, hb2, -⟩ := and_16 k
  have HSA := hid (fun w => sanity_go w)
  go_enter Try.func10, Try.ntmps10
  go_upto_region 4 with (go_at_call 12; refine (HSA.out _).mono ?_; rintro e w1 ⟨rfl, f1⟩; have F1 := hid f1; clear f1)
  have M0 : Hid (MayS w (w1.alloc (.cells #[.int .i64 1, .int .i64 0, .int .i64 0, .slice none 0 0, .slice none 0 0, .slice none 0 0, .slice none 0 0, .string ⟨#[]⟩] 27)) w1.heap.size ⟨1, 0, 0, [], [], [], [], []⟩ nilS nilS) :=
    hid ⟨Blk.new w1 (rv ⟨1, 0, 0, [], [], [], [], []⟩ nilS nilS nilS nilS) _, Row.nil, Row.nil, F1.out.alloc _, F1.out.size⟩
  clear F1 HSA
  generalize w1.alloc _ = W1 at *
  generalize w1.heap.size = d at *
  obtain ⟨q, hq, hq6⟩ : ∃ q : Int, (b : Int).tmod 6 = q ∧ 0 ≤ q ∧ q < 6 := ⟨(b : Int) % 6, by rw [Int.tmod_eq_emod_of_nonneg (by omega)], by omega, by omega⟩
  go_upto_block 0 with fail
  go_cut [0, 7] (fun v0 v7 wx => ∃ (m kk : Nat) (ve vx : Value), v0 = .int .i64 m ∧ v7 = .int .i64 (mayL kk) ∧ m ≤ 61000 ∧ (kk = 1 → m ≤ 60) ∧ MayS w wx d (mayR kk m) ve vx ∧ (mayR kk m).edits.length ≤ 100 ∧ (mayR kk m).xids.length ≤ 100)
  case first =>
    have c5 : ∀ o, (W1.alloc o).cell? ⟨d, 5, none⟩ = some (.slice none 0 0) := fun o => (M0.out.b.alloc o).cell 5
    have z5 : ∀ o, (W1.alloc o).frozen? ⟨d, 5, none⟩ = false := fun o => (M0.out.b.alloc o).frozen 5
    rcases (by omega : q = 0 ∨ q = 1 ∨ q = 2 ∨ q = 3 ∨ q = 4 ∨ q = 5) with rfl | rfl | rfl | rfl | rfl | rfl
    focus
      go_upto_region 11 with fail
      have hmm : ((a : Int) % 80) = ((a % 80 : Nat) : Int) := by omega
      have hm : a % 80 < 80 := Nat.mod_lt _ (by omega)
      rw [hmm]
      clear hmm
      generalize a % 80 = m at *
      have hk := run_make_rows W1 (t := 24) (z := [.int .i64 0, .int .i64 0, .string .empty]) Try.underlying24 info_edit rfl rfl m (by omega) (by omega) (by omega)
      rw [flat_reps] at hk
      have RB := hid (Row.built (e := 55) (n := m) (size := 3) (B := w.heap.size) W1 (l := (List.replicate m (⟨0, 0, []⟩ : E)).flatMap E.cells) (by rw [← flat_reps]; simp) (by unfold maxLen; omega) M0.out.fr.size)
      have M1 := hid (M0.out.fre ((Fr.refl (fun _ => False) W1).alloc (.cells ((List.replicate m (⟨0, 0, []⟩ : E)).flatMap E.cells).toArray 55)))
      generalize hcl : (List.replicate m (⟨0, 0, []⟩ : E)).flatMap E.cells = cl at *
      have HCL := hid hcl
      clear hcl
      go_wp2_with (refine wpList_makeSlice rfl (t := 24) (lo := .tmp 29) (co := .tmp 29) rfl (v := .slice (some ⟨W1.heap.size, 0, none⟩) m m) (by exact hk) ?_)
      go_meet
      exact ⟨m, 0, _, _, rfl, rfl, by omega, by omega, M1.out.putE (List.replicate m ⟨0, 0, []⟩) (RB.out.cast (by simp) HCL.out.symm), by simp [mayR]; omega, by simp [mayR]⟩
    focus
      go_upto_region 16 with fail
      have hmm : ((a : Int) % 50) = ((a % 50 : Nat) : Int) := by omega
      have hm : a % 50 < 50 := Nat.mod_lt _ (by omega)
      rw [hmm]
      clear hmm
      generalize a % 50 = m at *
      clear c5 z5
      go_loopw [8] (fun i wr => ∃ (j : Nat) (vx : Value), j ≤ m ∧ i = .int .i64 j ∧ MayS w wr d (mayR 1 j) nilS vx) (fun i _ => m - (intOf i).toNat)
      case atStart => exact ⟨0, nilS, by omega, rfl, M0.out⟩
      case round =>
        obtain ⟨j, vx, hj, rfl, hS⟩ := hrel
        by_cases hjm : j < m
        · have HS := hid hS
          obtain ⟨ax, cx, hvx, _⟩ := hS.x.slice
          clear hS
          have hxl : (mayR 1 j).xids.length = j := by simp [mayR]
          rw [hxl] at hvx
          subst hvx
          have HXL := hid hxl
          clear hxl
          have c6 : wr.cell? ⟨d, 6, none⟩ = some (.slice ax j cx) := HS.out.b.cell 6
          go_wp2_with (at_builtin; refine wpList_app1 rfl (s := .tmp 43) (x := .tmp 46) (t := 25) rfl Try.underlying25 info_int rfl rfl rfl (HS.out.x.cast HXL.out rfl) HS.out.fr.size rfl (by simp [Value.oneCell']) (by omega) (by omega) ?_; intro ab ac wg APP; have HG := hid (HS.out.growX (x := 3 + (j : Int)) (v' := .slice ab (j + 1) ac) (by rw [HXL.out]; exact APP)); have gb := HS.out.b.fr APP.fr (fun hk => HS.out.x.ne HS.out.b (by decide) _ hk rfl); have c6 : wg.cell? ⟨d, 6, none⟩ = some (.slice ax j cx) := gb.cell 6; have z6 : wg.frozen? ⟨d, 6, none⟩ = false := gb.frozen 6; clear gb APP)
          go_roundw
          case rel =>
            refine ⟨j + 1, .slice ab (j + 1) ac, by omega, by simp, ?_⟩
            rw [show mayR 1 (j + 1) = { mayR 1 j with xids := (mayR 1 j).xids ++ [3 + (j : Int)] } by simp [mayR, List.range_succ]]
            exact HG.out
          case measure => simp [intOf]; omega
        · obtain rfl : j = m := by omega
          go_wp2_with (fail)
          go_meet
          exact ⟨j, 1, _, _, rfl, rfl, by omega, fun _ => by omega, hS, by simp [mayR], by simp [mayR]; omega⟩
    focus
      go_upto_region 22 with fail
      have hmm : ((a : Int) % 500) = ((a % 500 : Nat) : Int) := by omega
      have hm : a % 500 < 500 := Nat.mod_lt _ (by omega)
      rw [hmm]
      clear hmm
      generalize a % 500 = m at *
      have hk := run_make_rows W1 (t := 35) (z := [.int .u8 0]) Try.underlying35 info_u8z rfl rfl m (by omega) (by omega) (by omega)
      rw [flat_zero] at hk
      have hcv := run_bytes_string (P := Try.prog) (w := W1.alloc (.cells (bv (List.replicate m 0)).toArray 5)) (l := List.replicate m 0) (Blk.all _ (Blk.new W1 (bv (List.replicate m 0)) 5)) (src := 35) (dst := 9) Try.underlying35 Try.underlying5 Try.underlying9 m m (by simp)
      have hce := (Fr.refl (fun _ => False) W1).alloc (.cells (bv (List.replicate m 0)).toArray 5)
      have M1 := hid (M0.out.fre hce)
      clear hce
      have LL := hid (show (List.replicate m (0 : UInt8)).length = m by simp)
      generalize hzz : List.replicate m (0 : UInt8) = zz at *
      have HZ := hid hzz
      clear hzz
      generalize hW2 : W1.alloc (.cells (bv zz).toArray 5) = W2 at *
      have c6 : ∀ o, (W2.alloc o).cell? ⟨d, 5, none⟩ = some (.slice none 0 0) := fun o => (M1.out.b.alloc o).cell 5
      have z6 : ∀ o, (W2.alloc o).frozen? ⟨d, 5, none⟩ = false := fun o => (M1.out.b.alloc o).frozen 5
      have c7 : W2.cell? ⟨d, 7, none⟩ = some (.string (bs [])) := M1.out.b.cell 7
      have z7 : W2.frozen? ⟨d, 7, none⟩ = false := M1.out.b.frozen 7
      go_wp2_with (refine wpList_makeSlice rfl (t := 35) (lo := .tmp 54) (co := .tmp 54) rfl (v := .slice (some ⟨W1.heap.size, 0, none⟩) m m) (by exact hk) ?_)
      go_meet
      have RB := Row.built (e := 55) (n := 1) (size := 3) (B := w.heap.size) W2 (l := [.int .i64 399, .int .i64 23, .string (bs zz)]) rfl (by decide) M1.out.fr.size
      have M2 := (M1.out.fre ((Fr.refl (fun _ => False) W2).alloc (.cells [Value.int .i64 399, .int .i64 23, .string (bs zz)].toArray 55))).putE [⟨399, 23, zz⟩] RB
      refine ⟨m, 2, .slice (some ⟨W2.heap.size, 0, none⟩) 1 1, nilS, rfl, rfl, by omega, by omega, ?_, by simp [mayR], by simp [mayR]⟩
      rw [show mayR 2 m = ⟨1, 0, 0, [], [], [⟨399, 23, zz⟩], [], []⟩ by rw [← HZ.out]; rfl]
      exact M2
    focus
      go_upto_region 26 with fail
      have hmm : (59000 + (a : Int) % 2000) = ((59000 + a % 2000 : Nat) : Int) := by omega
      have hm : 59000 + a % 2000 < 61000 := by omega
      rw [hmm]
      clear hmm
      generalize 59000 + a % 2000 = m at *
      have hk := run_make_rows W1 (t := 35) (z := [.int .u8 0]) Try.underlying35 info_u8z rfl rfl m (by omega) (by omega) (by omega)
      rw [flat_zero] at hk
      have hcv := run_bytes_string (P := Try.prog) (w := W1.alloc (.cells (bv (List.replicate m 0)).toArray 5)) (l := List.replicate m 0) (Blk.all _ (Blk.new W1 (bv (List.replicate m 0)) 5)) (src := 35) (dst := 9) Try.underlying35 Try.underlying5 Try.underlying9 m m (by simp)
      have hce := (Fr.refl (fun _ => False) W1).alloc (.cells (bv (List.replicate m 0)).toArray 5)
      have M1 := hid (M0.out.fre hce)
      clear hce
      have LL := hid (show (List.replicate m (0 : UInt8)).length = m by simp)
      generalize hzz : List.replicate m (0 : UInt8) = zz at *
      have HZ := hid hzz
      clear hzz
      generalize hW2 : W1.alloc (.cells (bv zz).toArray 5) = W2 at *
      have c6 : ∀ o, (W2.alloc o).cell? ⟨d, 5, none⟩ = some (.slice none 0 0) := fun o => (M1.out.b.alloc o).cell 5
      have z6 : ∀ o, (W2.alloc o).frozen? ⟨d, 5, none⟩ = false := fun o => (M1.out.b.alloc o).frozen 5
      have c7 : W2.cell? ⟨d, 7, none⟩ = some (.string (bs [])) := M1.out.b.cell 7
      have z7 : W2.frozen? ⟨d, 7, none⟩ = false := M1.out.b.frozen 7
      go_wp2_with (refine wpList_makeSlice rfl (t := 35) (lo := .tmp 66) (co := .tmp 66) rfl (v := .slice (some ⟨W1.heap.size, 0, none⟩) m m) (by exact hk) ?_)
      go_meet
      have M2 := M1.out.putN zz
      refine ⟨m, 3, nilS, nilS, rfl, rfl, by omega, by omega, ?_, by simp [mayR], by simp [mayR]⟩
      rw [show mayR 3 m = ⟨1, 0, 0, [], [], [], [], zz⟩ by rw [← HZ.out]; rfl]
      exact M2
    focus
      go_upto_region 30 with fail
      have hmm : ((a : Int) % 500) = ((a % 500 : Nat) : Int) := by omega
      have hm : a % 500 < 500 := Nat.mod_lt _ (by omega)
      rw [hmm]
      clear hmm
      generalize a % 500 = m at *
      go_wp2_with (fail)
      go_meet
      have RB := Row.built (e := 55) (n := 1) (size := 3) (B := w.heap.size) W1 (l := [.int .i64 m, .int .i64 (-1), .string (bs [2])]) rfl (by decide) M0.out.fr.size
      have M2 := (M0.out.fre ((Fr.refl (fun _ => False) W1).alloc (.cells [Value.int .i64 m, .int .i64 (-1), .string (bs [2])].toArray 55))).putE [⟨m, -1, [2]⟩] RB
      exact ⟨m, 4, _, _, rfl, rfl, by omega, by omega, M2, by simp [mayR], by simp [mayR]⟩
    focus
      go_upto_region 7 with fail
      have hmm : ((a : Int) % 50) = ((a % 50 : Nat) : Int) := by omega
      have hm : a % 50 < 50 := Nat.mod_lt _ (by omega)
      rw [hmm]
      clear hmm
      generalize a % 50 = m at *
      go_wp2_with (fail)
      go_meet
      have RB := Row.built (e := 55) (n := 1) (size := 3) (B := w.heap.size) W1 (l := [.int .i64 0, .int .i64 m, .string (bs [])]) rfl (by decide) M0.out.fr.size
      have M2 := (M0.out.fre ((Fr.refl (fun _ => False) W1).alloc (.cells [Value.int .i64 0, .int .i64 m, .string (bs [])].toArray 55))).putE [⟨0, m, []⟩] RB
      exact ⟨m, 5, _, _, rfl, rfl, by omega, by omega, M2, by simp [mayR], by simp [mayR]⟩
  case rest =>
  obtain ⟨m, kk, ve, vx, rfl, rfl, hm, hk1, hS, hel, hxl⟩ := hcut
  have HR := may_right kk m hk1
  obtain ⟨ho, hn⟩ := may_rows kk m
  have HRV := hid (fun w' (f : Fr (fun _ => False) wc w') => (mayS_rv (hS.fre f) ho hn (by omega) (by omega)))
  have HRD := hid (fun h => read_back (r := mayR kk m) h ho hn)
  obtain ⟨a3, c3, he, _⟩ := hS.e.slice
  obtain ⟨a4, c4, hx, _⟩ := hS.x.slice
  have M1 := hid hS
  generalize mayR kk m = r at *
  generalize mayL kk = L at *
  clear hS M0 hel hxl hk1
  obtain ⟨k1, x1, t1, o1, n1, ed, xs, nt⟩ := r
  dsimp only at ho hn he hx
  subst ho hn he hx
  obtain ⟨p0, p1, p2, p3, p4, p5, p6, p7⟩ := rec_cells M1.out.b
  obtain ⟨rr, hrt⟩ : ∃ rr, R.right ⟨k1, x1, t1, [], [], ed, xs, nt⟩ = rr := ⟨_, rfl⟩
  rw [hrt] at HR
  obtain ⟨B, hB⟩ : ∃ B, R.bytes ⟨k1, x1, t1, [], [], ed, xs, nt⟩ = B := ⟨_, rfl⟩
  obtain ⟨FM, hFM⟩ : ∃ F, frame ⟨k1, x1, t1, [], [], ed, xs, nt⟩ = F := ⟨_, rfl⟩
  rw [hB] at HRD
  have HB := hid hB
  have HFM := hid hFM
  have HRT := hid hrt
  have HRR := hid (fun w' f => hrt ▸ RRight_go (HRV.out w' f))
  have HBB := hid (fun w' f => hB ▸ RBytes_go (HRV.out w' f))
  have HFF := hid (fun w' f => hFM ▸ RFrame_go (HRV.out w' f))
  clear hrt hB hFM
  cases rr with
  | true =>
    have hmL : (m : Int) ≤ (L : Int) := by
      have := of_decide_eq_true HR.symm
      omega
    have HRI := hid (RRead_is (HRD.out HRT.out) (by rw [← HB.out]; unfold R.bytes; rw [if_pos HRT.out]; have := raw_le HRT.out; omega))
    clear HR
    go_upto_region 32 with (go_at_call 17; refine (HBB.out _ (Fr.refl _ _)).mono ?_; rintro e w2 ⟨rfl, f⟩; have F2 := hid f; clear f p0 p1 p2 p3 p4 p5 p6 p7)
    go_upto_region 33 with (go_at_call 22; refine (HRI.out _).mono ?_; rintro e w3 ⟨b1, b2, b3, b4, d1, d2, d3, d4, rfl, hv, f⟩; have V3 := hid hv; have F3 := hid (F2.out.trans f (fun _ h _ => h)); clear hv f)
    have F4 := hid (F3.out.trans ((Fr.refl (fun _ => False) w3).alloc (.cells #[.int .i64 k1, .int .i64 x1, .int .i64 t1, .slice b1 0 d1, .slice b2 0 d2, .slice b3 ed.length d3, .slice b4 xs.length d4, .string (bs nt)] 27)) (fun _ h _ => h))
    have B4 : Hid (Blk (w3.alloc (.cells #[.int .i64 k1, .int .i64 x1, .int .i64 t1, .slice b1 0 d1, .slice b2 0 d2, .slice b3 ed.length d3, .slice b4 xs.length d4, .string (bs nt)] 27)) w3.heap.size (rv ⟨k1, x1, t1, [], [], ed, xs, nt⟩ (.slice b1 0 d1) (.slice b2 0 d2) (.slice b3 ed.length d3) (.slice b4 xs.length d4)) 27) := hid (Blk.new w3 (rv ⟨k1, x1, t1, [], [], ed, xs, nt⟩ (.slice b1 0 d1) (.slice b2 0 d2) (.slice b3 ed.length d3) (.slice b4 xs.length d4)) 27)
    have V4 := hid ((V3.out.fre ((Fr.refl (fun _ => False) w3).alloc (.cells #[.int .i64 k1, .int .i64 x1, .int .i64 t1, .slice b1 0 d1, .slice b2 0 d2, .slice b3 ed.length d3, .slice b4 xs.length d4, .string (bs nt)] 27))).mono (P' := fun k => k < w3.heap.size) (fun k hk => hk.2) (fun k hk => by rw [World.size_alloc]; have : k < w3.heap.size := hk; omega))
    clear F2 F3 V3
    have M4 := hid (M1.out.fre F4.out)
    obtain ⟨p0, p1, p2, p3, p4, p5, p6, p7⟩ := rec_cells M4.out.b
    generalize hd3 : w3.heap.size = d3' at *
    have HD3 := hid hd3
    clear hd3
    generalize w3.alloc _ = W4 at *
    go_wp2_with (first
      | (go_at_call 15; refine (HRR.out _ F4.out).mono ?_; rintro e w5 ⟨rfl, f⟩; have F5 := hid (F4.out.trans f (fun _ h _ => h)); have B5 := hid (Blk.fr B4.out f (fun h => h)); have V5 := hid (V4.out.fre f); have M5 := hid (M4.out.fre f); clear f p0 p1 p2 p3 p4 p5 p6 p7; obtain ⟨p0, p1, p2, p3, p4, p5, p6, p7⟩ := rec_cells M5.out.b; obtain ⟨q0, q1, q2, q3, q4, q5, q6, q7⟩ := rec_cells B5.out)
      | (go_at_call 23; refine (RSame_go V5.out (HRV.out _ F5.out)).mono ?_; rw [decide_eq_true rfl]; rintro e w6 ⟨rfl, f⟩; have F6 := hid (F5.out.trans f (fun _ h _ => h)); have B6 := hid (Blk.fr B5.out f (fun h => h)); have V6 := hid (V5.out.fre f); clear f p0 p1 p2 p3 p4 p5 p6 p7 q0 q1 q2 q3 q4 q5 q6 q7; obtain ⟨q0, q1, q2, q3, q4, q5, q6, q7⟩ := rec_cells B6.out)
      | (go_at_call 29; refine (RightRow_go (r := []) V6.out.o (Nat.zero_le _)).mono ?_; rw [show row [] = true from rfl]; rintro e w7 ⟨rfl, f⟩; have F7 := hid (F6.out.trans f (fun _ h _ => h)); clear f))
    go_ret
    exact ⟨rfl, M1.out.fr.trans F7.out (fun _ h _ => h)⟩
  | false =>
    have hmL : (L : Int) < (m : Int) := by
      have := of_decide_eq_false HR.symm
      omega
    have hB0 : B = [] := by rw [← HB.out]; unfold R.bytes; rw [if_neg (by rw [HRT.out]; simp)]
    have hF0 : FM = [] := by rw [← HFM.out]; unfold frame; rw [if_neg (by rw [HRT.out]; simp)]
    subst hB0 hF0
    have HRI := hid (RRead_is nil_read (by decide))
    clear HR HB HFM
    go_upto_region 32 with (go_at_call 17; refine (HBB.out _ (Fr.refl _ _)).mono ?_; rintro e w2 ⟨rfl, f⟩; have F2 := hid f; clear f p0 p1 p2 p3 p4 p5 p6 p7)
    go_upto_region 33 with (go_at_call 22; refine (HRI.out _).mono ?_; rintro e w3 ⟨b1, b2, b3, b4, d1, d2, d3, d4, rfl, _, f⟩; have F3 := hid (F2.out.trans f (fun _ h _ => h)); clear f)
    have F4 := hid (F3.out.trans ((Fr.refl (fun _ => False) w3).alloc (.cells #[.int .i64 R.zero.kind, .int .i64 R.zero.xid, .int .i64 R.zero.table, .slice b1 R.zero.old.length d1, .slice b2 R.zero.new.length d2, .slice b3 R.zero.edits.length d3, .slice b4 R.zero.xids.length d4, .string (bs R.zero.note)] 27)) (fun _ h _ => h))
    clear F2 F3
    have M4 := hid (M1.out.fre F4.out)
    obtain ⟨p0, p1, p2, p3, p4, p5, p6, p7⟩ := rec_cells M4.out.b
    generalize w3.alloc _ = W4 at *
    have hem : (bs []).toList = [] := by rw [Lib.toList_data]; rfl
    go_wp2_with (first
      | (go_at_call 15; refine (HRR.out _ F4.out).mono ?_; rintro e w5 ⟨rfl, f⟩; have F5 := hid (F4.out.trans f (fun _ h _ => h)); have M5 := hid (M4.out.fre f); clear f p0 p1 p2 p3 p4 p5 p6 p7; obtain ⟨p0, p1, p2, p3, p4, p5, p6, p7⟩ := rec_cells M5.out.b)
      | (go_at_call 19; refine (HFF.out _ F5.out).mono ?_; rintro e w6 ⟨rfl, f⟩; have F6 := hid (F5.out.trans f (fun _ h _ => h)); clear f p0 p1 p2 p3 p4 p5 p6 p7))
    go_ret
    exact ⟨rfl, M1.out.fr.trans F6.out (fun _ h _ => h)⟩
end Go.Proofs.Ytfhkmiifndhacaa
namespace Go.Proofs.Ytfhkmiifndhacaa.recordMay
open Go.ChangeShapes Go.WideShapes Go.ChangeAt Go.RowKit Go.VB Go.VB.Rec
set_option maxHeartbeats 400000 in
set_option maxRecDepth 100000 in
theorem lifted (os : Os) (started : os.Started) (H : Type) (enc : TypeId × Value → H) :
    ReturnsInHanded {} Try.checked os 10 .any (Rows.recordMaySpec.pre6 enc Try.prog Try.f10 Rows.recordMayRow.domain false) (Rows.recordMaySpec.post enc Try.prog Try.f10 false true false false) := by
  refine returnsInHanded_of_change (C := Try.checked) own started (by kernel_rfl) Try.func10
    (ChangeSpec.witness6 (enc := enc) (C := Try.checked) false ⟨#[], #[.int .i64 0, .int .i64 0], []⟩ 8 (by kernel_rfl) (by kernel_rfl) (by kernel_rfl) (by kernel_rfl)) ?_
  intro W base args ds gs before hval0 hW hcnd _
  have hval : ∀ (j : Nat) t v, Try.f10.params[j]? = some t → args[j]? = some v → Value.okWide Try.prog W .any base t v := hval0
  have hW' := hW
  obtain ⟨p, q, hA0, hV, rfl, hfz, hnd⟩ := hW
  have hA : DataW.TrodAll enc Try.prog W 0 (fun _ => true) true Try.f10.params.toList args.toList ds p := hA0
  rw [Try.params10] at hA hval
  obtain ⟨v0, vs0, d0, ds0, p0, q0, hargs, rfl, rfl, h0, r0⟩ := trodAll_cons hA
  obtain ⟨v1, vs1, d1, ds1, p1, q1, rfl, rfl, rfl, h1, r1⟩ := trodAll_cons r0
  obtain ⟨rfl, rfl, rfl⟩ := trodAll_nil r1
  obtain rfl : args = #[v0, v1] := by cases args; simp_all
  obtain ⟨rfl, rfl⟩ := trodVars_none hV
  clear hA0 hval0
  refine Calls.mono (R := fun e w' => e = .returned (.bool true) ∧ Fr (fun _ => False) W w') ?_ fun e W' ⟨he, hf⟩ => ⟨_, he, post_law sound (by decide +kernel) rfl rfl (ht := Try.underlying4) (by rfl) hW' hf⟩
  obtain ⟨a0, rfl, -, -, w0⟩ := open_int Try.underlying3 (hval 0 3 v0 rfl rfl) h0
  obtain ⟨a1, rfl, -, -, w1⟩ := open_int Try.underlying3 (hval 1 3 v1 rfl rfl) h1
  exact May_walk a0 a1 W
theorem proved : Rows.RecordMaySaid :=
  OpenClaim.holds_of_wide 10 Try.f10 rfl rfl rfl rfl rfl rfl rfl ⟨rfl, rfl, rfl, rfl, rfl⟩ rfl rfl rfl rfl rfl (by kernel_rfl) Try.func10 (by kernel_rfl)
    (of_decide_eq_true (by kernel_rfl)) (by unfold Func.isWrapper; first | (rw [if_pos (by decide +kernel)]; kernel_rfl) | (rw [if_neg (by decide +kernel)]; exact ⟨rfl, rfl⟩))
    (fun os started H enc _ => lifted os started H enc)
end Go.Proofs.Ytfhkmiifndhacaa.recordMay
