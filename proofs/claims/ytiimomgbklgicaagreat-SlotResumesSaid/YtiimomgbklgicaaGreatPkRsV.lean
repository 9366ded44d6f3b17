import Derived.Test.YtiimomgbklgicaaGreatPkRsS
import Derived.Test.YtiimomgbklgicaaGreatPkRsU
set_option linter.unusedVariables false
namespace Go.VB.Slt
open Go.VB Go.VB.Oct Go.VB.Cat Go.VB.Rec
/-- a decoded transaction of the caller's own -/
structure TxnV where
  lsn : Int
  v : Value
  cs : List ChgV
def TxnV.t (x : TxnV) : Int × List Chg := (x.lsn, x.cs.map ChgV.c)
def TxnV.cells (x : TxnV) : List Value := [.int .i64 x.lsn, x.v]
end Go.VB.Slt
namespace Go.Proofs.YtiimomgbklgicaaGreat
open Go.RowKit Go.VB Go.VB.Oct Go.VB.Cat Go.VB.Rec Go.VB.Slt
/-- a decoded transaction in memory, its blocks at or above B -/
structure TxnO (B : Nat) (W : World) (x : TxnV) : Prop where
  r : Row 80 5 B W x.v x.cs.length (x.cs.flatMap ChgV.cells)
  c : ∀ c ∈ x.cs, ChgR B W c
theorem TxnO.fre {B : Nat} {W W' : World} {x : TxnV} (h : TxnO B W x) (f : Fr (fun _ => False) W W') : TxnO B W' x := ⟨h.r.fre f, fun c hc => (h.c c hc).fre f⟩
/-- the caller's decoded transactions -/
structure TxnsR (B : Nat) (W : World) (v : Value) (xs : List TxnV) : Prop where
  r : Row 53 2 B W v xs.length (xs.flatMap TxnV.cells)
  t : ∀ x ∈ xs, TxnO B W x
theorem TxnsR.fre {B : Nat} {W W' : World} {v : Value} {xs : List TxnV} (h : TxnsR B W v xs) (f : Fr (fun _ => False) W W') : TxnsR B W' v xs := ⟨h.r.fre f, fun x hx => (h.t x hx).fre f⟩
theorem dn_len (d : DnV) : d.cells.length = 3 := rfl
/-- how many Queued gives -/
def qn (k : Int) (n : Nat) : Nat := (max 0 (min k (n : Int))).toNat
theorem qn_le (k : Int) (n : Nat) : qn k n ≤ n := by unfold qn; omega
theorem info_chg : (Tryz.prog.info? 80).map (fun i => (i.zero, i.size, i.bytes)) = some (some (.agg #[.int .i64 0, .string .empty, .slice none 0 0, .slice none 0 0, .slice none 0 0]), 5, 96) := by kernel_rfl
theorem info_txn : (Tryz.prog.info? 53).map (fun i => (i.zero, i.size, i.bytes)) = some (some (.agg #[.int .i64 0, .slice none 0 0]), 2, 32) := by kernel_rfl
theorem ChgR.offRow {B B' n size : Nat} {e : TypeId} {W : World} {c : ChgV} {v : Value} {xs : List Value} (h : ChgR B W c) (r : Row e size B' W v n xs) (h1 : e ≠ 9) (h2 : e ≠ 85) : ∀ k, c.has k → v.ownBlock ≠ some k := fun k hk hk' => by
  obtain ⟨l, hb⟩ := row_blk r hk'
  exact h.ne hb h1 h2 hk
/-- changes of the call's own, in a slice of its own -/
structure ChgsR (B : Nat) (W : World) (v : Value) (cs : List ChgV) : Prop where
  r : Row 80 5 B W v cs.length (cs.flatMap ChgV.cells)
  c : ∀ c ∈ cs, ChgR B W c
theorem ChgsR.fre {B : Nat} {W W' : World} {v : Value} {cs : List ChgV} (h : ChgsR B W v cs) (f : Fr (fun _ => False) W W') : ChgsR B W' v cs := ⟨h.r.fre f, fun c hc => (h.c c hc).fre f⟩
theorem ChgsR.low {A B : Nat} {W : World} {v : Value} {cs : List ChgV} (h : ChgsR B W v cs) (hA : A ≤ B) : ChgsR A W v cs := ⟨h.r.low hA, fun c hc => (h.c c hc).low hA⟩
theorem ChgsR.off {B d : Nat} {W W' : World} {v : Value} {cs : List ChgV} {l : List Value} (h : ChgsR B W v cs) (hb : Blk W d l 53) (f : Fr (fun k => k = d) W W') : ChgsR B W' v cs :=
  ⟨h.r.fr f (fun k hk e => h.r.ne hb (by decide) k hk e), fun c hc => (h.c c hc).fr f (fun k hk e => (h.c c hc).ne hb (by decide) (by decide) (by rw [← e]; exact hk))⟩
theorem ChgsR.snoc {B : Nat} {wg wh : World} {v v' : Value} {cs : List ChgV} {c : ChgV} (h : ChgsR B wg v cs) (hc : ChgR B wg c) (a : App 80 5 B wg wh v v' cs.length (cs.flatMap ChgV.cells) c.cells) : ChgsR B wh v' (cs ++ [c]) := by
  refine ⟨a.row.cast (by simp) (by simp), fun x hx => ?_⟩
  rcases List.mem_append.1 hx with g | g
  · exact (h.c x g).fr a.fr ((h.c x g).offRow h.r (by decide) (by decide))
  · rw [List.mem_singleton.1 g]
    exact hc.fr a.fr (hc.offRow h.r (by decide) (by decide))
theorem TxnO.offRow {B B' n : Nat} {W W' : World} {x : TxnV} {v : Value} {xs : List Value} (h : TxnO B W x) (r : Row 53 2 B' W v n xs) (f : Fr (fun k => v.ownBlock = some k) W W') : TxnO B W' x :=
  ⟨h.r.fr f (rows_ne h.r r (by decide)), fun c hc => (h.c c hc).fr f ((h.c c hc).offRow r (by decide) (by decide))⟩
theorem TxnsR.snoc {B : Nat} {wg wh : World} {v v' : Value} {xs : List TxnV} {x : TxnV} (h : TxnsR B wg v xs) (hx : TxnO B wg x) (a : App 53 2 B wg wh v v' xs.length (xs.flatMap TxnV.cells) x.cells) : TxnsR B wh v' (xs ++ [x]) := by
  refine ⟨a.row.cast (by simp) (by simp), fun y hy => ?_⟩
  rcases List.mem_append.1 hy with g | g
  · exact (h.t y g).offRow h.r a.fr
  · rw [List.mem_singleton.1 g]
    exact hx.offRow h.r a.fr
theorem map_snoc {α β γ : Type} {f : α → γ} {g : β → γ} {xs : List α} {ys : List β} {x : α} {j : Nat} (h : xs.map f = (ys.take j).map g) (hj : j < ys.length) (e : f x = g ys[j]) : (xs ++ [x]).map f = (ys.take (j + 1)).map g := by
  rw [List.take_succ_eq_append_getElem hj, List.map_append, List.map_append, h]
  simp [e]
set_option maxRecDepth 20000 in
set_option maxHeartbeats 8000000 in
theorem Queued_go {S C : Nat → Prop} {w : World} {s : Nat} {v : SltV} (h : SlO S C w s v) (k : Int) (hq : v.qs.length ≤ 1048576) (hd : ∀ d ∈ v.qs, d.cs.length ≤ 1048576) :
    Calls Tryz.prog 18 #[.pointer (some ⟨s, 0, none⟩), .int .i64 k] w fun e w' => ∃ u xs, e = .returned u ∧ xs.map TxnV.t = (v.qs.take (qn k v.qs.length)).map (fun d => (d.lsn, d.cs.map ChgV.c)) ∧ TxnsR w.heap.size w' u xs ∧ Fr (fun _ => False) w w' := by
  have H0 := hid h
  have HQL := hid hq
  have HDL := hid hd
  obtain ⟨aq, cq, eq, hcq⟩ := h.q.slice
  have hle := qn_le k v.qs.length
  have hq0 := (h.q.sl' (R := fun _ => True) (fun _ _ => trivial))
  rw [eq] at hq0
  have HQS := hid hq0
  have HQC := hid (show w.cell? ⟨s, 5, none⟩ = some (.slice aq v.qs.length cq) from by rw [← eq]; exact h.b.cell 5)
  obtain ⟨p, hp1, hp2, hp3, hp4⟩ : ∃ p : Int, min k (v.qs.length : Int) = p ∧ (if (v.qs.length : Int) < k then (v.qs.length : Int) else k) = p ∧ max 0 p = (qn k v.qs.length : Int) ∧ (if 0 < p then p else 0) = (qn k v.qs.length : Int) := ⟨min k (v.qs.length : Int), rfl, by split <;> omega, by unfold qn; omega, by unfold qn; split <;> omega⟩
  have HN := hid hle
  have HP := hid (show (if p < 0 then 0 else p) = (qn k v.qs.length : Int) from by rw [← hp4]; split <;> split <;> omega)
  obtain ⟨Q, hQ⟩ : ∃ Q, Q = v.qs.length := ⟨_, rfl⟩
  obtain ⟨n, hn⟩ : ∃ n, n = qn k v.qs.length := ⟨_, rfl⟩
  rw [← hn] at hp3 hp4 HN HP hle ⊢
  rw [← hQ] at hp1 hp2 HQC HN hle hcq hq
  have HQE := hid hQ
  have HNE := hid hn
  have i1 : (0 : Int) ≤ (n : Int) := by omega
  have i2 : (n : Int) ≤ (cq : Int) := by omega
  clear h hd hq0 eq hQ hn
  go_enter Tryz.func18, Tryz.ntmps18
  go_upto_region 4 with fail
  have fd := (Fr.refl (fun _ => False) w).drew
  have F1 := hid fd
  have HQ1 := hid (cell_fr HQC.out fd (fun h => h))
  clear fd
  refine wp_region_scr (.take 0 (.take 1 (.take 2 (.take 3 (.take 4 (.take 5 (.take 6 (.take 7 (.take 8 (.take 9 (.take 10 (.take 11 (.take 12 (.take 13 (.take 14 .done))))))))))))))) (fun kz w => (kz ≤ 15 → w.cell? ⟨s, 5, none⟩ = some (.slice aq Q cq)) ∧ Hid True) (by kernel_rfl) (by kernel_rfl) (by intro c a d v w h; cases d <;> exact h) ?_
  repeat
    first
    | (refine wpT_pure rfl rfl rfl ?_; apply Exists.intro; refine ⟨?_, ?_⟩; intro w; (first | (first | exact hp1 | exact hp2 | exact hp3 | exact hp4 | exact HP.out | go_simp <;> rfl) | (go_simp <;> rfl)); simp only [Act.put, List.setIfInBounds_toArray, List.set_cons_zero, List.set_cons_succ])
    | (refine wpT_take 15 rfl rfl (by decide +kernel) ⟨fun _ => HQ1.out, hid trivial⟩ ?_; apply Exists.intro; refine ⟨?_, ?_⟩; intro w hw; (have qa := hw.1 (Nat.le_refl _); have qb := hw.2); (first | (first | exact hp1 | exact hp2 | exact hp3 | exact hp4 | exact HP.out | go_simp <;> rfl) | (go_simp <;> rfl)); simp only [Act.put, List.setIfInBounds_toArray, List.set_cons_zero, List.set_cons_succ])
    | (refine wpT_skip rfl rfl ?_; simp only [Act.put, List.setIfInBounds_toArray, List.set_cons_zero, List.set_cons_succ])
  refine wpT_nil ?_
  generalize w.drew = W1 at *
  clear HQ1 hp1 hp2 hp3 hp4 HQC
  go_wp2_with (fail)
  go_loopw [5, 27] (fun s5 s27 wr => ∃ (j : Nat) (xs : List TxnV) (ax : Option Addr) (cx : Nat), j ≤ n ∧ s27 = .int .i64 j ∧ s5 = .slice ax j cx ∧ xs.length = j ∧ xs.map TxnV.t = (v.qs.take j).map (fun d => (d.lsn, d.cs.map ChgV.c)) ∧ TxnsR w.heap.size wr (.slice ax j cx) xs ∧ Fr (fun _ => False) w wr) (fun _ s27 _ => n - (intOf s27).toNat)
  case atStart => exact ⟨0, [], none, 0, by omega, rfl, rfl, rfl, by simp, ⟨Row.nil, fun x hx => by simp at hx⟩, F1.out⟩
  case round =>
    obtain ⟨j, xs, ax, cx, hj, rfl, rfl, hxl, hxm, hxr, hf⟩ := hrel
    have HXM := hid hxm
    have HXL := hid hxl
    have XR := hid hxr
    have FR := hid hf
    clear hxl hxm hxr hf F1
    rename World => WR
    by_cases hjn : j < n
    · have j1 : (0 : Int) ≤ (j : Int) := by omega
      have j2 : (j : Int) < (n : Int) := by omega
      have hjq : j < v.qs.length := by rw [← HQE.out]; omega
      obtain ⟨g, o, rfl, -, q⟩ := slK (k := 3) (f := DnV.cells) (by decide) dn_len HQS.out hjq
      have HD := hid (H0.out.d _ (List.getElem_mem hjq))
      have HDC := hid (HDL.out _ (List.getElem_mem hjq))
      have HMS := hid (fun x (e : TxnV.t x = ((v.qs[j]).lsn, (v.qs[j]).cs.map ChgV.c)) => map_snoc (x := x) HXM.out hjq e)
      have p0 := cell_fr (q 0 (by decide)) FR.out (fun h => h)
      have p1 := cell_fr (q 1 (by decide)) FR.out (fun h => h)
      have p2 := cell_fr (q 2 (by decide)) FR.out (fun h => h)
      simp only [Nat.add_zero] at p0 p1 p2
      clear q HXM
      generalize v.qs[j] = dj at *
      obtain ⟨ad, cd, hdv, -⟩ := HD.out.r.slice
      obtain ⟨first, lsn, dv, cs⟩ := dj
      dsimp only at hdv p0 p1 p2 HMS HDC
      subst hdv
      have HJL := hid (show j ≤ 1048576 from by omega)
      have fa := (Fr.refl (fun _ => False) WR).alloc (.cells #[.int .i64 first, .int .i64 lsn, .slice ad cs.length cd] 133)
      have L7 := hid (Blk.new WR [.int .i64 first, .int .i64 lsn, .slice ad cs.length cd] 133)
      have X2 := hid (XR.out.fre fa)
      have F2 := hid (FR.out.trans fa (fun _ h _ => h))
      clear fa
      go_upto_region 7 with fail
      clear p0 p1 p2 XR FR
      generalize WR.heap.size = dl at *
      generalize WR.alloc _ = W7 at *
      have fb := (Fr.refl (fun _ => False) W7).alloc (.cells #[.int .i64 lsn, .slice none 0 0] 53)
      have D8 := hid (Blk.new W7 [.int .i64 lsn, .slice none 0 0] 53)
      have L8 := hid (Blk.fr L7.out fb (fun h => h))
      have F8 := hid fb
      have l1 := L7.out.cell 1
      simp only [List.getElem?_cons_zero, List.getElem?_cons_succ] at l1
      clear fb
      go_upto_region 8 with fail
      clear l1 L7
      have HDT := hid (Nat.le_refl W7.heap.size)
      generalize hdt : W7.heap.size = dt at *
      have HDTE := hid hdt
      clear hdt
      generalize W7.alloc _ = W8 at *
      have l2 := L8.out.cell 2
      simp only [List.getElem?_cons_zero, List.getElem?_cons_succ] at l2
      go_wp2_with (fail)
      clear l2 L8
      go_loopw [39] (fun s39 wr => ∃ (i : Nat) (ys : List ChgV) (ay : Option Addr) (cy : Nat), i ≤ cs.length ∧ s39 = .int .i64 i ∧ ys.length = i ∧ Blk wr dt [.int .i64 lsn, .slice ay i cy] 53 ∧ ys.map ChgV.c = (cs.take i).map ChgV.c ∧ ChgsR dt wr (.slice ay i cy) ys ∧ Fr (fun _ => False) W7 wr) (fun s39 _ => cs.length - (intOf s39).toNat)
      case atStart => exact ⟨0, [], none, 0, by omega, rfl, rfl, D8.out, by simp, ⟨Row.nil, fun x hx => by simp at hx⟩, F8.out⟩
      case round =>
        obtain ⟨i, ys, ay, cy, hi, rfl, hyl, hbd, hym, hyr, hf⟩ := hrel
        have HYL := hid hyl
        have HYM := hid hym
        have YR := hid hyr
        have BD := hid hbd
        have FZ := hid hf
        clear hyl hbd hym hyr hf D8 F8
        rename World => WZ
        by_cases hic : i < cs.length
        · have j3 : (0 : Int) ≤ (i : Int) := by omega
          have j4 : (i : Int) < (cs.length : Int) := by omega
          have FW := hid (F2.out.trans FZ.out (fun _ h _ => h))
          obtain ⟨gc, oc, rfl, -, q⟩ := slK (k := 5) (f := ChgV.cells) (by decide) chg_len (HD.out.r.sl' (R := fun _ => True) (fun _ _ => trivial)) hic
          have HC := hid (HD.out.c _ (List.getElem_mem hic))
          have HMC := hid (fun (x : ChgV) (e : x.c = (cs[i]).c) => map_snoc (x := x) HYM.out hic e)
          have p0 := cell_fr (q 0 (by decide)) FW.out (fun h => h)
          have p1 := cell_fr (q 1 (by decide)) FW.out (fun h => h)
          have p2 := cell_fr (q 2 (by decide)) FW.out (fun h => h)
          have p3 := cell_fr (q 3 (by decide)) FW.out (fun h => h)
          have p4 := cell_fr (q 4 (by decide)) FW.out (fun h => h)
          simp only [Nat.add_zero] at p0 p1 p2 p3 p4
          clear q HYM
          generalize cs[i] = ci at *
          obtain ⟨a1, c1, g1, -⟩ := HC.out.n.slice
          obtain ⟨a2, c2, g2, -⟩ := HC.out.o.slice
          obtain ⟨a3, c3, g3, -⟩ := HC.out.w.slice
          obtain ⟨⟨kind, table, names, old, new⟩, vn, vo, vw⟩ := ci
          dsimp only at g1 g2 g3 p0 p1 p2 p3 p4 HMC
          subst g1 g2 g3
          have HIL := hid (show i ≤ 1048576 from by have := HDC.out; omega)
          have fa := (Fr.refl (fun _ => False) WZ).alloc (.cells #[.int .i64 kind, .string (bs table), .slice a1 names.length c1, .slice a2 old.length c2, .slice a3 new.length c3] 80)
          have L10 := hid (Blk.new WZ [.int .i64 kind, .string (bs table), .slice a1 names.length c1, .slice a2 old.length c2, .slice a3 new.length c3] 80)
          have HKD := hid (fun k (hk : (Value.slice ay i cy).ownBlock = some k) => YR.out.r.lt hk)
          have Y3 := hid (YR.out.fre fa)
          have B3 := hid (Blk.fr BD.out fa (fun h => h))
          have F3 := hid (FZ.out.trans fa (fun _ h _ => h))
          clear fa
          go_upto_region 11 with fail
          clear p0 p1 p2 p3 p4 YR BD FZ FW
          generalize WZ.heap.size = dc at *
          generalize WZ.alloc _ = W10 at *
          have fd := (Fr.refl (fun _ => False) W10).drew
          have Y4 := hid (Y3.out.fre fd)
          have B4 := hid (Blk.fr B3.out fd (fun h => h))
          have L4 := hid (Blk.fr L10.out fd (fun h => h))
          have F4 := hid (F3.out.trans fd (fun _ h _ => h))
          clear fd Y3 B3 L10 F3
          refine wp_region_scr (.take 0 (.take 1 (.take 2 (.op 3 (.op 4 (.op 5 (.take 6 (.op 7 .done)))))))) (fun kz w => (kz ≤ 7 → w.cell? ⟨dt, 1, none⟩ = some (.slice ay i cy) ∧ w.rangeAt dc 0 [.int .i64 kind, .string (bs table), .slice a1 names.length c1, .slice a2 old.length c2, .slice a3 new.length c3]) ∧ Hid True) (by kernel_rfl) (by kernel_rfl) (by intro c a d v w h; cases d <;> exact h) ?_
          repeat
            first
            | (refine wpT_pure rfl rfl rfl ?_; apply Exists.intro; refine ⟨?_, ?_⟩; intro w; (first | (first | exact run_load_mid _ _ rfl dc _ rfl _ _ qa.2 Tryz.underlying80 rfl size_chg | (obtain ⟨qa1, qa2⟩ := qa; go_simp <;> rfl)) | (go_simp <;> rfl)); simp only [Act.put, List.setIfInBounds_toArray, List.set_cons_zero, List.set_cons_succ])
            | (refine wpT_take 7 rfl rfl (by decide +kernel) ⟨fun _ => ⟨B4.out.cell 1, L4.out.all⟩, hid trivial⟩ ?_; apply Exists.intro; refine ⟨?_, ?_⟩; intro w hw; (have qa := hw.1 (Nat.le_refl _); have qb := hw.2); (first | (first | exact run_load_mid _ _ rfl dc _ rfl _ _ qa.2 Tryz.underlying80 rfl size_chg | (obtain ⟨qa1, qa2⟩ := qa; go_simp <;> rfl)) | (go_simp <;> rfl)); simp only [Act.put, List.setIfInBounds_toArray, List.set_cons_zero, List.set_cons_succ])
            | (refine wpT_skip rfl rfl ?_; simp only [Act.put, List.setIfInBounds_toArray, List.set_cons_zero, List.set_cons_succ])
          generalize W10.drew = W11 at *
          have HOWN := hid (own_go (HC.out.fre (F2.out.trans F4.out (fun _ h _ => h))).s)
          unfold ChgV.cells at HOWN
          dsimp only at HOWN
          refine wpT_op rfl ?_
          go_wp2_with ((go_at_call 66; refine HOWN.out.mono ?_; rintro e w5 ⟨vn1, vo1, vw1, rfl, hr, f⟩; obtain ⟨o1, e1, h1, _⟩ := hr.n.slice; obtain ⟨o2, e2, h2, _⟩ := hr.o.slice; obtain ⟨o3, e3, h3, _⟩ := hr.w.slice; dsimp only at h1 h2 h3; subst h1 h2 h3; have Y5 := hid (Y4.out.fre f); have B5 := hid (Blk.fr B4.out f (fun h => h)); have L5 := hid (Blk.fr L4.out f (fun h => h)); have F5 := hid (F4.out.trans f (fun _ h _ => h)); have C5 := hid (hr.low (show dt ≤ W11.heap.size from by have := B4.out.lt; omega)); clear hr f))
          (refine ⟨?_, ?_⟩; focus (intro kz hk hk2 hh; first | (exfalso; simp at hk2; omega) | exact hh | exact (fun h => absurd h (by omega)) | obtain ⟨qa, qb⟩ := hh; first | exact ⟨qa, qb⟩ | (refine ⟨fun h => absurd h (by omega), ?_⟩; first | exact qb | (exact ⟨B5.out.cell 1, L5.out.all⟩)) | (refine ⟨fun h => ?_, ?_⟩; (have qa := qa h); all_goals (first | exact qa | exact qb | (exact ⟨B5.out.cell 1, L5.out.all⟩)))))
          clear HOWN Y4 B4 L4 F4
          have FA := hid (fun o => (Fr.refl (fun _ => False) w5).alloc o)
          refine wpT_op rfl ?_
          go_wp2_with (fail)
          (refine ⟨?_, ?_⟩; focus (intro kz hk hk2 hh; first | (exfalso; simp at hk2; omega) | exact hh | exact (fun h => absurd h (by omega)) | obtain ⟨qa, qb⟩ := hh; first | exact ⟨qa, qb⟩ | (refine ⟨fun h => absurd h (by omega), ?_⟩; first | exact qb | (exact ⟨(Blk.fr B5.out (FA.out _) (fun h => h)).cell 1, (Blk.fr L5.out (FA.out _) (fun h => h)).all⟩)) | (refine ⟨fun h => ?_, ?_⟩; (have qa := qa h); all_goals (first | exact qa | exact qb | (exact ⟨(Blk.fr B5.out (FA.out _) (fun h => h)).cell 1, (Blk.fr L5.out (FA.out _) (fun h => h)).all⟩)))))
          have HROW := hid (show Row 80 5 dt w5 (.slice ay i cy) i (ys.flatMap ChgV.cells) from by have := Y5.out.r; rw [HYL.out] at this; exact this)
          have HSZ := hid (show dt ≤ w5.heap.size from by have := B5.out.lt; omega)
          refine wpT_op rfl ?_
          go_wp2_with ((at_builtin; refine wpList_app1 rfl (s := .tmp 44) (x := .tmp 47) (t := 51) rfl Tryz.underlying51 info_chg rfl rfl rfl HROW.out HSZ.out rfl (by simp [Value.oneCell']) (by have := HIL.out; omega) (by have := HIL.out; omega) ?_; intro ab ac wg APP; have HAPP := hid (show App 80 5 dt w5 wg (.slice ay i cy) (.slice ab (i + 1) ac) i (ys.flatMap ChgV.cells) [.int .i64 kind, .string (bs table), .slice o1 names.length e1, .slice o2 old.length e2, .slice o3 new.length e3] from APP); have B6 := hid (Blk.fr B5.out APP.fr (fun hk => HROW.out.ne B5.out (by decide) _ hk rfl)); have F6 := hid (F5.out.trans APP.fr (fun k hk hl => by have := HROW.out.new k hk; have := HDTE.out; omega)); have L6 := hid (Blk.fr L5.out APP.fr (fun hk => Nat.lt_irrefl _ (HKD.out _ hk))); clear APP))
          (refine ⟨?_, ?_⟩; focus (intro kz hk hk2 hh; first | (exfalso; simp at hk2; omega) | exact hh | exact (fun h => absurd h (by omega)) | obtain ⟨qa, qb⟩ := hh; first | exact ⟨qa, qb⟩ | (refine ⟨fun h => absurd h (by omega), ?_⟩; first | exact qb | (exact ⟨B6.out.cell 1, L6.out.all⟩)) | (refine ⟨fun h => ?_, ?_⟩; (have qa := qa h); all_goals (first | exact qa | exact qb | (exact ⟨B6.out.cell 1, L6.out.all⟩)))))
          repeat
            first
            | (refine wpT_pure rfl rfl rfl ?_; apply Exists.intro; refine ⟨?_, ?_⟩; intro w; ((go_simp <;> rfl)); simp only [Act.put, List.setIfInBounds_toArray, List.set_cons_zero, List.set_cons_succ])
            | (refine wpT_take 7 rfl rfl (by decide +kernel) ⟨fun _ => ⟨B6.out.cell 1, L6.out.all⟩, hid trivial⟩ ?_; apply Exists.intro; refine ⟨?_, ?_⟩; intro w hw; (have qa := hw.1 (Nat.le_refl _); have qb := hw.2); ((go_simp <;> rfl)); simp only [Act.put, List.setIfInBounds_toArray, List.set_cons_zero, List.set_cons_succ])
            | (refine wpT_skip rfl rfl ?_; simp only [Act.put, List.setIfInBounds_toArray, List.set_cons_zero, List.set_cons_succ])
          have HY7 := hid (show ChgsR dt wg (.slice ab (i + 1) ac) (ys ++ [⟨⟨kind, table, names, old, new⟩, .slice o1 names.length e1, .slice o2 old.length e2, .slice o3 new.length e3⟩]) from by
            have a := HAPP.out
            have y := Y5.out
            rw [← HYL.out] at a y ⊢
            exact y.snoc C5.out a)
          have k5 : wg.cell? ⟨dt, 1, none⟩ = some (.slice ay i cy) := B6.out.cell 1
          have z5 : wg.frozen? ⟨dt, 1, none⟩ = false := B6.out.frozen 1
          refine wpT_op rfl ?_
          go_wp2_with (fail)
          (refine ⟨?_, ?_⟩; focus (intro kz hk hk2 hh; first | (exfalso; simp at hk2; omega) | exact hh | exact (fun h => absurd h (by omega)) | obtain ⟨qa, qb⟩ := hh; first | exact ⟨qa, qb⟩ | (refine ⟨fun h => absurd h (by omega), ?_⟩; first | exact qb | (exact hid trivial)) | (refine ⟨fun h => ?_, ?_⟩; (have qa := qa h); all_goals (first | exact qa | exact qb | (exact hid trivial)))))
          refine wpT_nil ?_
          have fs := (Fr.refl (fun k => k = dt) wg).setCell ⟨dt, 1, none⟩ (.slice ab (i + 1) ac) (fun _ => rfl)
          have B7 := hid (B6.out.set 1 (.slice ab (i + 1) ac))
          have Y7 := hid (HY7.out.off B6.out fs)
          have F7 := hid (F6.out.trans fs (fun k hk hl => by have := HDTE.out; omega))
          clear fs k5 z5 B6 F6 L6 HY7 HAPP HROW HKD Y5 B5 L5 F5 C5
          generalize wg.setCell ⟨dt, 1, none⟩ (.slice ab (i + 1) ac) = W12 at *
          have i9 : IntKind.i64.wrap ((i : Int) + 1) = (i : Int) + 1 := IntWalk.i64_in _ (by have := HIL.out; omega)
          go_wp2_with (fail)
          go_roundw
          case rel => exact ⟨i + 1, _, ab, ac, by omega, by go_num, by rw [List.length_append, HYL.out]; rfl, B7.out, HMC.out _ rfl, Y7.out, F7.out⟩
          case measure => simp [intOf]; omega
        · obtain rfl : i = cs.length := by omega
          have j4 : ¬ ((cs.length : Int) < (cs.length : Int)) := by omega
          have d0 := BD.out.cell 0
          have d1 := BD.out.cell 1
          simp only [List.getElem?_cons_zero, List.getElem?_cons_succ] at d0 d1
          have HROW := hid (show Row 53 2 w.heap.size WZ (.slice ax j cx) j (xs.flatMap TxnV.cells) from by have := (X2.out.fre FZ.out).r; rw [HXL.out] at this; exact this)
          have HSZ := hid (show w.heap.size ≤ WZ.heap.size from Nat.le_trans F2.out.size FZ.out.size)
          have HXO := hid (show TxnO w.heap.size WZ ⟨lsn, .slice ay cs.length cy, ys⟩ from by
            have := YR.out.low (A := w.heap.size) (by have := HDTE.out; have := F2.out.size; omega)
            exact ⟨this.r, this.c⟩)
          rw [List.take_length] at HYM
          go_wp2_with (at_builtin; refine wpList_app1 rfl (s := .tmp 51) (x := .tmp 53) (t := 42) rfl Tryz.underlying42 info_txn rfl rfl rfl HROW.out HSZ.out rfl (by simp [Value.oneCell']) (by have := HJL.out; omega) (by have := HJL.out; omega) ?_; intro ab ac wg APP; have HAPP := hid (show App 53 2 w.heap.size WZ wg (.slice ax j cx) (.slice ab (j + 1) ac) j (xs.flatMap TxnV.cells) [.int .i64 lsn, .slice ay cs.length cy] from APP); clear APP; clear d0 d1; have i9 : IntKind.i64.wrap ((j : Int) + 1) = (j : Int) + 1 := IntWalk.i64_in _ (by have := HJL.out; omega))
          go_roundw
          case rel =>
            refine ⟨j + 1, xs ++ [⟨lsn, .slice ay cs.length cy, ys⟩], ab, ac, by omega, by go_num, rfl, by rw [List.length_append, HXL.out]; rfl, HMS.out _ (by simp only [TxnV.t]; rw [HYM.out]), ?_, (F2.out.trans FZ.out (fun _ h _ => h)).trans HAPP.out.fr (fun k hk hl => by have := HROW.out.new k hk; omega)⟩
            have a := HAPP.out
            have x := X2.out.fre FZ.out
            rw [← HXL.out] at a x ⊢
            exact x.snoc HXO.out a
          case measure => simp [intOf]; omega
    · obtain rfl : j = n := by omega
      have j2 : ¬ ((j : Int) < (j : Int)) := by omega
      go_wp2_with (fail)
      go_ret
      exact ⟨_, rfl, xs, by rw [HXM.out, List.map_take], XR.out, FR.out⟩
end Go.Proofs.YtiimomgbklgicaaGreat
namespace Go.VB.Slt
open Go.VB Go.VB.Oct Go.VB.Cat Go.VB.Rec
/-- the queue beyond k -/
def keep (k : Int) (r : List DnV) : List DnV := r.filter fun d => !decide (d.lsn ≤ k)
theorem keep_take {k : Int} {r : List DnV} {j : Nat} (h : j < r.length) : keep k (r.take (j + 1)) = keep k (r.take j) ++ (if r[j].lsn ≤ k then [] else [r[j]]) := by
  unfold keep
  rw [List.take_succ_eq_append_getElem h, List.filter_append]
  congr 1
  by_cases hk : r[j].lsn ≤ k
  · rw [if_pos hk]; simp [hk]
  · rw [if_neg hk]; simp [hk]
theorem keep_all {k : Int} {r : List DnV} (h : ∀ x ∈ r, ¬ x.lsn ≤ k) : keep k r = r := List.filter_eq_self.2 (fun x hx => by simpa using h x hx)
theorem take_put {lg vs : List Value} {a b : Nat} (h : a ≤ lg.length) (hb : b = a + vs.length) : (lg.take a ++ vs ++ lg.drop (a + vs.length)).take b = lg.take a ++ vs := by
  subst hb
  rw [List.take_append_of_le_length (by rw [List.length_append, List.length_take]; omega), List.take_of_length_le (by rw [List.length_append, List.length_take]; omega)]
theorem take_put0 {lg vs : List Value} {a : Nat} (h : a ≤ lg.length) : (lg.take a ++ vs ++ lg.drop (a + vs.length)).take a = lg.take a := by
  rw [List.append_assoc, List.take_append_of_le_length (by rw [List.length_take]; omega), List.take_of_length_le (by rw [List.length_take]; omega)]
theorem put_get {lg vs : List Value} {a o : Nat} (h : a + vs.length ≤ lg.length) (ho : a + vs.length ≤ o) : (lg.take a ++ vs ++ lg.drop (a + vs.length))[o]? = lg[o]? := by
  rw [List.getElem?_append_right (by rw [List.length_append, List.length_take]; omega), List.getElem?_drop, List.length_append, List.length_take]
  congr 1
  omega
theorem put_len {lg vs : List Value} {a : Nat} (h : a + vs.length ≤ lg.length) : (lg.take a ++ vs ++ lg.drop (a + vs.length)).length = lg.length := by
  simp only [List.length_append, List.length_take, List.length_drop]
  omega
end Go.VB.Slt
namespace Go.Proofs.YtiimomgbklgicaaGreat
open Go.RowKit Go.VB Go.VB.Oct Go.VB.Cat Go.VB.Rec Go.VB.Slt
/-- 'clear' of a slice of structs -/
theorem run_clear_k {P : Program} (w : World) (t e ty : TypeId) (z : Value) (ht : P.underlying t = some (.slice e)) (hv : ∀ w, (zeroValue e).run P w = .ok z w) (h1 : ∀ v ∈ z.cells, v.oneCell' = true) (b o n c : Nat) (hn : 0 < n)
    (hc : ∀ j, j < n * z.cells.size → (w.cell? ⟨b, o + j, none⟩).isSome = true) (hf : ∀ j, j < n * z.cells.size → w.frozen? ⟨b, o + j, none⟩ = false) :
    (Builtin.clear_ #[t] ty #[.slice (some ⟨b, o, none⟩) n c]).run P w = .ok (.tuple #[]) (w.setCells b o (Builtin.zeroCells z.cells n).toList) := by
  have hl : (Builtin.zeroCells z.cells n).toList.length = n * z.cells.size := by simp [Builtin.zeroCells]
  have hst := run_storeCells_cells (P := P) b o (Builtin.zeroCells z.cells n).toList 0 w (by rw [hl]; simpa using hc) (by rw [hl]; simpa using hf) (by
    intro v hv'
    unfold Builtin.zeroCells at hv'
    rw [Array.toList_map, List.mem_map] at hv'
    obtain ⟨i, hi, rfl⟩ := hv'
    have hi : i < n * z.cells.size := by simpa using hi
    have hp : 0 < z.cells.size := Nat.pos_of_ne_zero fun h => by rw [h] at hi; omega
    have hm := Nat.mod_lt i hp
    rw [getElem!_pos z.cells _ hm]
    exact h1 _ (Array.getElem_mem hm))
  simp only [Nat.add_zero] at hst
  obtain ⟨m, rfl⟩ : ∃ m, n = m + 1 := ⟨n - 1, by omega⟩
  simp [Builtin.clear_, run_underlying ht, hv, hst]
theorem zero_dn (w : World) : (zeroValue 133).run Tryz.prog w = .ok (.agg #[.int .i64 0, .int .i64 0, .slice none 0 0]) w := by kernel_rfl
theorem size_dn : (Tryz.prog.info? 133).map (·.size) = some 3 := by kernel_rfl
/-- a row's array -/
theorem row_arr {e : TypeId} {size B n g c : Nat} {W : World} {xs : List Value} (h : Row e size B W (.slice (some ⟨g, 0, none⟩) n c) n xs) : ∃ lg, Blk W g lg e ∧ lg.length = c * size ∧ n ≤ c ∧ c ≤ maxLen ∧ lg.take (n * size) = xs := by
  rcases h.own.2 with ⟨h1, _⟩ | ⟨g', cap', cur, h1, hb, hgg, e2, e3, e4, e5⟩
  · cases h1
  · cases h1
    exact ⟨cur.toList, by unfold Blk; simpa using hgg, by rw [Array.length_toList]; exact e4, e2, e3, e5⟩
/-- an array's row -/
theorem arr_row {e : TypeId} {size B n g c : Nat} {W : World} {lg xs : List Value} (hg : B ≤ g) (hb : Blk W g lg e) (hl : lg.length = c * size) (hn : n ≤ c) (hc : c ≤ maxLen) (hx : lg.take (n * size) = xs) (hxl : xs.length = n * size) : Row e size B W (.slice (some ⟨g, 0, none⟩) n c) n xs :=
  ⟨⟨hxl, .inr ⟨g, c, lg.toArray, rfl, Nat.zero_le _, hb, hn, hc, by simpa using hl, by simpa using hx⟩⟩, fun k hk => by simp [Value.ownBlock] at hk; omega⟩
set_option maxRecDepth 20000 in
set_option maxHeartbeats 4000000 in
theorem DeleteDn_go {B b : Nat} {k : Int} {w : World} {va : Value} {r : List DnV} (h : Row 133 3 B w va r.length (r.flatMap DnV.cells)) (hn : r.length ≤ 1048576) (hv : ∀ d ∈ r, ∃ a n c, d.v = .slice a n c) (hc : w.cell? ⟨b, 0, none⟩ = some (.int .i64 k)) (hb : ∀ g, va.ownBlock = some g → g ≠ b) :
    Calls Tryz.prog 77 #[va, .func (.func 78) #[] #[.pointer (some ⟨b, 0, none⟩)]] w fun e w' => ∃ v', e = .returned v' ∧ Row 133 3 B w' v' (keep k r).length ((keep k r).flatMap DnV.cells) ∧ (∀ g, v'.ownBlock = some g → va.ownBlock = some g) ∧ Fr (fun g => va.ownBlock = some g) w w' := by
  have HI := hid (IndexFunc_dn (p := fun d => decide (d.lsn ≤ k)) h.sl (by omega) (fun x _ w' f => ack1_go x k b (cell_fr hc f (fun h => h))))
  have HH := hid h
  have HC := hid hc
  have HV := hid hv
  obtain ⟨a, cap, rfl, -⟩ := h.slice
  rcases pos_cases (fun d : DnV => decide (d.lsn ≤ k)) r with ⟨hp, hall⟩ | ⟨i0, hi0, hp, hat, hbf⟩
  · have HK := hid (keep_all (k := k) (fun x hx => by simpa using hall x hx))
    rw [hp] at HI
    clear hp hall h hc hv hb
    go_enter Tryz.func77, Tryz.ntmps77
    go_wp2_with (go_at_call 124; refine HI.out.mono ?_; rintro e w1 ⟨rfl, f⟩; have F1 := hid f; clear f)
    go_ret
    rw [HK.out]
    exact ⟨_, rfl, HH.out.fre F1.out, fun g h => h, F1.out.mono (fun _ h _ => h.elim)⟩
  · obtain ⟨g, rfl, hgB, -⟩ := row_range h (by
      cases r with
      | nil => simp at hi0
      | cons x l => simp [DnV.cells])
    have HGB := hid (hb g rfl)
    rw [hp] at HI
    obtain ⟨lg0, hlg0, hll0, hnc, hcm, hlt0⟩ := row_arr h
    have HK0 := hid (show keep k (r.take (i0 + 1)) = r.take i0 from by
      rw [keep_take hi0, if_pos (by simpa using hat), List.append_nil]
      exact keep_all (fun x hx => by
        obtain ⟨j, hj, rfl⟩ := List.getElem_of_mem hx
        have hj' : j < i0 := by rw [List.length_take] at hj; omega
        have := hbf j hj'
        rw [List.getElem_take]
        simpa using this))
    have HL0 := hid hlg0
    have HLL := hid hll0
    have HLT := hid hlt0
    have HCM := hid hcm
    obtain ⟨N, hN⟩ : ∃ N, N = r.length := ⟨_, rfl⟩
    rw [← hN] at HI hi0 hn hnc HLT ⊢
    have HNL := hid hN
    have HAT := hid (fun t (ht : t < r.length) => (fun q u hu => by
      have hq : q < 3 := (List.getElem?_eq_some_iff.1 hu).1
      rw [hlg0.cell]
      have e2 := flatK (k := 3) DnV.cells dn3_len r t ht q hq
      have hlt2 : t * 3 + q < r.length * 3 := by omega
      rw [← hlt0, List.getElem?_take, if_pos hlt2] at e2
      rw [e2]; exact hu : w.rangeAt g (t * 3) (DnV.cells r[t])))
    have w9 : IntKind.i64.wrap ((i0 : Int) + 1) = (i0 : Int) + 1 := IntWalk.i64_in _ (by omega)
    have hi1 : ((i0 : Int) == -1) = false := beq_eq_false_iff_ne.2 (by omega)
    have HGG := hid hgB
    clear hp hat hbf h hc hv hb hlg0 hll0 hlt0 hN hcm hgB
    go_enter Tryz.func77, Tryz.ntmps77
    go_upto_region 4 with (go_at_call 124; refine HI.out.mono ?_; rintro e w1 ⟨rfl, f⟩; have F1 := hid f; clear f)
    clear HI
    go_wp2_with (fail)
    go_loopw [5, 6] (fun s5 s6 wr => ∃ (i j : Nat) (lg : List Value), i < j ∧ j ≤ N ∧ s5 = .int .i64 i ∧ s6 = .int .i64 j ∧ (keep k (r.take j)).length = i ∧ Blk wr g lg 133 ∧ lg.length = cap * 3 ∧ lg.take (i * 3) = (keep k (r.take j)).flatMap DnV.cells ∧ (∀ t (ht : t < r.length), j ≤ t → wr.rangeAt g (t * 3) (DnV.cells r[t])) ∧ Fr (fun q => q = g) w wr) (fun _ s6 _ => N - (intOf s6).toNat)
    case atStart =>
      refine ⟨i0, i0 + 1, lg0, by omega, by omega, rfl, by go_num, by rw [HK0.out, List.length_take]; have := HNL.out; omega, Blk.fr HL0.out F1.out (fun h => h), HLL.out, ?_, fun t ht hj q u hu => cell_fr (HAT.out t ht q u hu) F1.out (fun h => h), F1.out.mono (fun _ h _ => h.elim)⟩
      rw [HK0.out]
      have e1 := HLT.out
      have e2 : (lg0.take (N * 3)).take (i0 * 3) = lg0.take (i0 * 3) := by rw [List.take_take]; congr 1; omega
      rw [← e2, e1]
      have hnl := HNL.out
      have e3 : r = r.take i0 ++ r.drop i0 := (List.take_append_drop i0 r).symm
      conv => lhs; rw [e3, List.flatMap_append]
      rw [List.take_append_of_le_length (by rw [flat_len dn3_len, List.length_take]; omega), List.take_of_length_le (by rw [flat_len dn3_len, List.length_take]; omega)]
    case round =>
      obtain ⟨i, j, lg, hij, hjN, rfl, rfl, hil, hlg, hlen, htk, hrest, fr⟩ := hrel
      have HIL := hid hil
      have HLG := hid hlg
      have HLEN := hid hlen
      have HTK := hid htk
      have HRS := hid hrest
      have FR := hid fr
      have HCW := hid (cell_fr HC.out fr (fun e => HGB.out e.symm))
      clear hil hlg hlen htk hrest fr HL0 HLL HLT HAT F1 HK0
      by_cases hjn : j < N
      · have hjr : j < r.length := by have := HNL.out; omega
        have HX := hid (HRS.out j hjr (Nat.le_refl _))
        have HKT := hid (keep_take (k := k) hjr)
        obtain ⟨xa, xn, xc, hxv⟩ := HV.out r[j] (List.getElem_mem hjr)
        obtain ⟨x, hx⟩ : ∃ x, x = r[j] := ⟨_, rfl⟩
        rw [← hx] at HX HKT hxv
        clear hx
        obtain ⟨first, lsn, v, cs⟩ := x
        dsimp only at hxv HKT
        subst hxv
        have i1 : (j : Int) < (N : Int) := by omega
        have i2 : (0 : Int) ≤ (j : Int) := by omega
        have q0 : wr.cell? ⟨g, j * 3, none⟩ = some (.int .i64 first) := by have := HX.out 0 (.int .i64 first) rfl; simpa using this
        have q1 : wr.cell? ⟨g, j * 3 + 1, none⟩ = some (.int .i64 lsn) := HX.out 1 (.int .i64 lsn) rfl
        have q2 : wr.cell? ⟨g, j * 3 + 2, none⟩ = some (.slice xa xn xc) := HX.out 2 (.slice xa xn xc) rfl
        go_upto_region 8 with fail
        clear q0 q1 q2 HX
        have fa := (Fr.refl (fun _ => False) wr).alloc (.cells #[.int .i64 first, .int .i64 lsn, .slice xa xn xc] 133)
        have D1 := hid (Blk.new wr [.int .i64 first, .int .i64 lsn, .slice xa xn xc] 133)
        have HDG := hid (show g ≠ wr.heap.size from fun e => by have := HLG.out.lt; omega)
        have HLG1 := hid (Blk.fr HLG.out fa (fun h => h))
        have HRS1 := hid (fun t (ht : t < r.length) (hj : j ≤ t) => (fun q u hu => cell_fr (HRS.out t ht hj q u hu) fa (fun h => h) : (wr.alloc (.cells #[.int .i64 first, .int .i64 lsn, .slice xa xn xc] 133)).rangeAt g (t * 3) (DnV.cells r[t])))
        have FR1 := hid (FR.out.trans fa (fun _ h _ => h.elim))
        have HCW1 := hid (cell_fr HCW.out fa (fun h => h))
        clear fa HLG HRS FR HCW
        generalize wr.heap.size = d at *
        generalize wr.alloc _ = W1 at *
        have HP := hid (ack1_go ⟨first, lsn, .slice xa xn xc, cs⟩ k b HCW1.out)
        have HDA := hid D1.out.all
        cases hd : decide (lsn ≤ k) with
        | true =>
          have hle : lsn ≤ k := by simpa using hd
          have HK2 := hid (show keep k (r.take (j + 1)) = keep k (r.take j) from by rw [HKT.out, if_pos hle, List.append_nil])
          dsimp only at HP
          rw [hd] at HP
          unfold DnV.agg DnV.cells at HP
          clear hd hle HKT
          go_wp2_with (first
            | (refine wpList_load_mid rfl 133 (.tmp 7) rfl d 0 rfl _ _ HDA.out Tryz.underlying133 rfl size_dn ?_)
            | (go_at_call 78; refine HP.out.mono ?_; rintro e w2 ⟨rfl, f⟩; have F2 := hid f; clear f))
          go_roundw
          case rel => exact ⟨i, j + 1, lg, by omega, by omega, rfl, by go_num, by rw [HK2.out]; exact HIL.out, Blk.fr HLG1.out F2.out (fun h => h), HLEN.out, by rw [HK2.out]; exact HTK.out, fun t ht hj q u hu => cell_fr (HRS1.out t ht (by omega) q u hu) F2.out (fun h => h), FR1.out.trans F2.out (fun _ h _ => h.elim)⟩
          case measure => simp [intOf]; omega
        | false =>
          have hle : ¬ lsn ≤ k := by simpa using hd
          have HK2 := hid (show keep k (r.take (j + 1)) = keep k (r.take j) ++ [⟨first, lsn, .slice xa xn xc, cs⟩] from by rw [HKT.out, if_neg hle])
          dsimp only at HP
          rw [hd] at HP
          unfold DnV.agg DnV.cells at HP
          clear hd hle HKT
          go_upto_region 9 with (first
            | (refine wpList_load_mid rfl 133 (.tmp 7) rfl d 0 rfl _ _ HDA.out Tryz.underlying133 rfl size_dn ?_)
            | (go_at_call 78; refine HP.out.mono ?_; rintro e w2 ⟨rfl, f⟩; have F2 := hid f; clear f))
          have D2 := hid (Blk.fr D1.out F2.out (fun h => h))
          have HLG2 := hid (Blk.fr HLG1.out F2.out (fun h => h))
          have HRS2 := hid (fun t (ht : t < r.length) (hj : j ≤ t) => (fun q u hu => cell_fr (HRS1.out t ht hj q u hu) F2.out (fun h => h) : w2.rangeAt g (t * 3) (DnV.cells r[t])))
          have FR2 := hid (FR1.out.trans F2.out (fun _ h _ => h.elim))
          have HDA2 := hid D2.out.all
          have hcap : j + 1 ≤ cap := by omega
          have hll : (i + 1) * 3 ≤ lg.length := by rw [HLEN.out]; omega
          have hth := HLG2.out.there (i * 3) 3 (by omega)
          have HLA := hid (show Blk (w2.setCells g (i * 3) [.int .i64 first, .int .i64 lsn, .slice xa xn xc]) g (lg.take (i * 3) ++ [Value.int .i64 first, .int .i64 lsn, .slice xa xn xc] ++ lg.drop (i * 3 + 3)) 133 from HLG2.out.put (i * 3) [.int .i64 first, .int .i64 lsn, .slice xa xn xc] (by simp; omega))
          have HLN := hid (show (lg.take (i * 3) ++ [Value.int .i64 first, .int .i64 lsn, .slice xa xn xc] ++ lg.drop (i * 3 + 3)).length = cap * 3 from by rw [← HLEN.out]; exact put_len (vs := [.int .i64 first, .int .i64 lsn, .slice xa xn xc]) (by simp; omega))
          have HTA := hid (show (lg.take (i * 3) ++ [Value.int .i64 first, .int .i64 lsn, .slice xa xn xc] ++ lg.drop (i * 3 + 3)).take ((i + 1) * 3) = (keep k (r.take (j + 1))).flatMap DnV.cells from by
            refine (take_put (lg := lg) (vs := [.int .i64 first, .int .i64 lsn, .slice xa xn xc]) (a := i * 3) (b := (i + 1) * 3) (by omega) (by simp; omega)).trans ?_
            rw [HTK.out, HK2.out, List.flatMap_append]
            rfl)
          have HRA := hid (fun t (ht : t < r.length) (hj : j + 1 ≤ t) => (fun q u hu => by
            have hq : q < 3 := (List.getElem?_eq_some_iff.1 hu).1
            rw [HLA.out.cell]
            refine (put_get (lg := lg) (vs := [.int .i64 first, .int .i64 lsn, .slice xa xn xc]) (a := i * 3) (o := t * 3 + q) (by simp; omega) (by simp; omega)).trans ?_
            rw [← HLG2.out.cell]
            exact HRS2.out t ht (by omega) q u hu : (w2.setCells g (i * 3) [.int .i64 first, .int .i64 lsn, .slice xa xn xc]).rangeAt g (t * 3) (DnV.cells r[t])))
          have FRA := hid (FR2.out.trans ((Fr.refl (fun k => k = g) w2).put g (i * 3) [.int .i64 first, .int .i64 lsn, .slice xa xn xc] (fun _ => rfl)) (fun _ h _ => h))
          have b6 : (i : Int) < (N : Int) := by omega
          have b7 : (0 : Int) ≤ (i : Int) := by omega
          have HTH := hid hth
          clear hth D1 HLG1 HRS1 FR1 F2 HDA
          go_wp2_with (first
            | (refine wpList_load_mid rfl 133 (.tmp 7) rfl d 0 rfl _ _ HDA2.out Tryz.underlying133 rfl size_dn ?_)
            | (refine wpList_store_mid rfl 133 (.tmp 33) (.tmp 32) rfl g (i * 3) #[.int .i64 first, .int .i64 lsn, .slice xa xn xc] rfl rfl HTH.out size_dn (by simp [Value.oneCell']) ?_))
          go_roundw
          case rel => exact ⟨i + 1, j + 1, _, by omega, by omega, by go_num, by go_num, by rw [HK2.out, List.length_append, HIL.out]; rfl, HLA.out, HLN.out, HTA.out, HRA.out, FRA.out⟩
          case measure => simp [intOf]; omega
      · obtain rfl : j = N := by omega
        have i1 : ¬ (j : Int) < (j : Int) := by omega
        have HKE := hid (show keep k (r.take j) = keep k r from by rw [List.take_of_length_le (by have := HNL.out; omega)])
        have hll : lg.length = cap * 3 := HLEN.out
        have hcl : ∀ ty, (Builtin.clear_ #[114] ty #[.slice (some ⟨g, i * 3, none⟩) (j - i) (cap - i)]).run Tryz.prog wr = .ok (.tuple #[]) (wr.setCells g (i * 3) (Builtin.zeroCells (Value.agg #[.int .i64 0, .int .i64 0, .slice none 0 0]).cells (j - i)).toList) :=
          fun ty => run_clear_k wr 114 133 ty _ Tryz.underlying114 zero_dn (by simp [Value.cells, Value.oneCell']) g (i * 3) _ _ (by omega)
            (fun q hq => by
              have hq : q < (j - i) * 3 := hq
              rw [HLG.out.cell, List.getElem?_eq_getElem (by omega)]; rfl) (fun q hq => HLG.out.frozen _)
        have HZL := hid (show (Builtin.zeroCells (Value.agg #[.int .i64 0, .int .i64 0, .slice none 0 0]).cells (j - i)).toList.length = (j - i) * 3 from by simp [Builtin.zeroCells, Value.cells])
        generalize (Builtin.zeroCells (Value.agg #[.int .i64 0, .int .i64 0, .slice none 0 0]).cells (j - i)).toList = Z at *
        have HLA := hid (HLG.out.put (i * 3) Z (by rw [HZL.out]; omega))
        have FRA := hid (FR.out.trans ((Fr.refl (fun k => k = g) wr).put g (i * 3) Z (fun _ => rfl)) (fun _ h _ => h))
        have HROW := hid (show Row 133 3 B (wr.setCells g (i * 3) Z) (.slice (some ⟨g, 0, none⟩) i cap) i ((keep k r).flatMap DnV.cells) from
          arr_row HGG.out HLA.out (by rw [put_len (by rw [HZL.out]; omega)]; exact hll) (by omega) HCM.out (by rw [take_put0 (by omega), HTK.out, HKE.out]) (by rw [flat_len dn3_len, ← HKE.out, HIL.out]))
        have b6 : (i : Int) ≤ (j : Int) := by omega
        have b7 : (0 : Int) ≤ (i : Int) := by omega
        have b8 : (i : Int) ≤ (cap : Int) := by omega
        go_wp2_with (fail)
        go_ret
        have e1 : (keep k r).length = i := by rw [← HKE.out]; exact HIL.out
        rw [e1]
        exact ⟨_, rfl, HROW.out, fun q h => h, FRA.out.mono (fun q hq _ => by rw [hq]; rfl)⟩
end Go.Proofs.YtiimomgbklgicaaGreat
