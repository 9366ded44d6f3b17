import Derived.Test.YtiimomgbklgicaaSlG
/- Queued: the first of the queue, each change the caller's own. -/
set_option linter.unusedVariables false
namespace Go.VB.Slt
open Go.VB Go.VB.Oct Go.VB.Cat Go.VB.Rec
/-- a decoded transaction of the caller's own -/
structure TxnV where
  lsn : Int
  v : Value
  cs : List ChgV
def TxnV.t (x : TxnV) : Int × List Chg := (x.lsn, x.cs.map ChgV.c)
def TxnV.cells (x : TxnV) : List Value := [.int .i64 x.lsn, x.v]
end Go.VB.Slt
namespace Go.Proofs.Ytiimomgbklgicaa
open Go.RowKit Go.VB Go.VB.Oct Go.VB.Cat Go.VB.Rec Go.VB.Slt
/-- a decoded transaction in memory, its blocks at or above B -/
structure TxnO (B : Nat) (W : World) (x : TxnV) : Prop where
  r : Row 48 5 B W x.v x.cs.length (x.cs.flatMap ChgV.cells)
  c : ∀ c ∈ x.cs, ChgR B W c
theorem TxnO.fre {B : Nat} {W W' : World} {x : TxnV} (h : TxnO B W x) (f : Fr (fun _ => False) W W') : TxnO B W' x := ⟨h.r.fre f, fun c hc => (h.c c hc).fre f⟩
/-- the caller's decoded transactions -/
structure TxnsR (B : Nat) (W : World) (v : Value) (xs : List TxnV) : Prop where
  r : Row 45 2 B W v xs.length (xs.flatMap TxnV.cells)
  t : ∀ x ∈ xs, TxnO B W x
theorem TxnsR.fre {B : Nat} {W W' : World} {v : Value} {xs : List TxnV} (h : TxnsR B W v xs) (f : Fr (fun _ => False) W W') : TxnsR B W' v xs := ⟨h.r.fre f, fun x hx => (h.t x hx).fre f⟩
theorem dn_len (d : DnV) : d.cells.length = 3 := rfl
/-- how many Queued gives -/
def qn (k : Int) (n : Nat) : Nat := (max 0 (min k (n : Int))).toNat
theorem qn_le (k : Int) (n : Nat) : qn k n ≤ n := by unfold qn; omega
theorem info_chg : (Try.prog.info? 48).map (fun i => (i.zero, i.size, i.bytes)) = some (some (.agg #[.int .i64 0, .string .empty, .slice none 0 0, .slice none 0 0, .slice none 0 0]), 5, 96) := by kernel_rfl
theorem info_txn : (Try.prog.info? 45).map (fun i => (i.zero, i.size, i.bytes)) = some (some (.agg #[.int .i64 0, .slice none 0 0]), 2, 32) := by kernel_rfl
theorem ChgR.offRow {B B' n size : Nat} {e : TypeId} {W : World} {c : ChgV} {v : Value} {xs : List Value} (h : ChgR B W c) (r : Row e size B' W v n xs) (h1 : e ≠ 9) (h2 : e ≠ 30) : ∀ k, c.has k → v.ownBlock ≠ some k := fun k hk hk' => by
  obtain ⟨l, hb⟩ := row_blk r hk'
  exact h.ne hb h1 h2 hk
/-- changes of the call's own, in a slice of its own -/
structure ChgsR (B : Nat) (W : World) (v : Value) (cs : List ChgV) : Prop where
  r : Row 48 5 B W v cs.length (cs.flatMap ChgV.cells)
  c : ∀ c ∈ cs, ChgR B W c
theorem ChgsR.fre {B : Nat} {W W' : World} {v : Value} {cs : List ChgV} (h : ChgsR B W v cs) (f : Fr (fun _ => False) W W') : ChgsR B W' v cs := ⟨h.r.fre f, fun c hc => (h.c c hc).fre f⟩
theorem ChgsR.low {A B : Nat} {W : World} {v : Value} {cs : List ChgV} (h : ChgsR B W v cs) (hA : A ≤ B) : ChgsR A W v cs := ⟨h.r.low hA, fun c hc => (h.c c hc).low hA⟩
theorem ChgsR.off {B d : Nat} {W W' : World} {v : Value} {cs : List ChgV} {l : List Value} (h : ChgsR B W v cs) (hb : Blk W d l 45) (f : Fr (fun k => k = d) W W') : ChgsR B W' v cs :=
  ⟨h.r.fr f (fun k hk e => h.r.ne hb (by decide) k hk e), fun c hc => (h.c c hc).fr f (fun k hk e => (h.c c hc).ne hb (by decide) (by decide) (by rw [← e]; exact hk))⟩
theorem ChgsR.snoc {B : Nat} {wg wh : World} {v v' : Value} {cs : List ChgV} {c : ChgV} (h : ChgsR B wg v cs) (hc : ChgR B wg c) (a : App 48 5 B wg wh v v' cs.length (cs.flatMap ChgV.cells) c.cells) : ChgsR B wh v' (cs ++ [c]) := by
  refine ⟨a.row.cast (by simp) (by simp), fun x hx => ?_⟩
  rcases List.mem_append.1 hx with g | g
  · exact (h.c x g).fr a.fr ((h.c x g).offRow h.r (by decide) (by decide))
  · rw [List.mem_singleton.1 g]
    exact hc.fr a.fr (hc.offRow h.r (by decide) (by decide))
theorem TxnO.offRow {B B' n : Nat} {W W' : World} {x : TxnV} {v : Value} {xs : List Value} (h : TxnO B W x) (r : Row 45 2 B' W v n xs) (f : Fr (fun k => v.ownBlock = some k) W W') : TxnO B W' x :=
  ⟨h.r.fr f (rows_ne h.r r (by decide)), fun c hc => (h.c c hc).fr f ((h.c c hc).offRow r (by decide) (by decide))⟩
theorem TxnsR.snoc {B : Nat} {wg wh : World} {v v' : Value} {xs : List TxnV} {x : TxnV} (h : TxnsR B wg v xs) (hx : TxnO B wg x) (a : App 45 2 B wg wh v v' xs.length (xs.flatMap TxnV.cells) x.cells) : TxnsR B wh v' (xs ++ [x]) := by
  refine ⟨a.row.cast (by simp) (by simp), fun y hy => ?_⟩
  rcases List.mem_append.1 hy with g | g
  · exact (h.t y g).offRow h.r a.fr
  · rw [List.mem_singleton.1 g]
    exact hx.offRow h.r a.fr
theorem map_snoc {α β γ : Type} {f : α → γ} {g : β → γ} {xs : List α} {ys : List β} {x : α} {j : Nat} (h : xs.map f = (ys.take j).map g) (hj : j < ys.length) (e : f x = g ys[j]) : (xs ++ [x]).map f = (ys.take (j + 1)).map g := by
  rw [List.take_succ_eq_append_getElem hj, List.map_append, List.map_append, h]
  simp [e]
set_option maxRecDepth 20000 in
set_option maxHeartbeats 8000000 in
theorem Queued_go {S C : Nat → Prop} {w : World} {s : Nat} {v : SltV} (h : SlO S C w s v) (k : Int) (hq : v.qs.length ≤ 1048576) (hd : ∀ d ∈ v.qs, d.cs.length ≤ 1048576) :
    Calls Try.prog 11 #[.pointer (some ⟨s, 0, none⟩), .int .i64 k] w fun e w' => ∃ u xs, e = .returned u ∧ xs.map TxnV.t = (v.qs.take (qn k v.qs.length)).map (fun d => (d.lsn, d.cs.map ChgV.c)) ∧ TxnsR w.heap.size w' u xs ∧ Fr (fun _ => False) w w' := by
  have H0 := hid h
  have HQL := hid hq
  have HDL := hid hd
  obtain ⟨aq, cq, eq, hcq⟩ := h.q.slice
  have hle := qn_le k v.qs.length
  have hq0 := (h.q.sl' (R := fun _ => True) (fun _ _ => trivial))
  rw [eq] at hq0
  have HQS := hid hq0
  have HQC := hid (show w.cell? ⟨s, 5, none⟩ = some (.slice aq v.qs.length cq) from by rw [← eq]; exact h.b.cell 5)
  obtain ⟨p, hp1, hp2, hp3, hp4⟩ : ∃ p : Int, min k (v.qs.length : Int) = p ∧ (if (v.qs.length : Int) < k then (v.qs.length : Int) else k) = p ∧ max 0 p = (qn k v.qs.length : Int) ∧ (if 0 < p then p else 0) = (qn k v.qs.length : Int) := ⟨min k (v.qs.length : Int), rfl, by split <;> omega, by unfold qn; omega, by unfold qn; split <;> omega⟩
  have HN := hid hle
  have HP := hid (show (if p < 0 then 0 else p) = (qn k v.qs.length : Int) from by rw [← hp4]; split <;> split <;> omega)
  obtain ⟨Q, hQ⟩ : ∃ Q, Q = v.qs.length := ⟨_, rfl⟩
  obtain ⟨n, hn⟩ : ∃ n, n = qn k v.qs.length := ⟨_, rfl⟩
  rw [← hn] at hp3 hp4 HN HP hle ⊢
  rw [← hQ] at hp1 hp2 HQC HN hle hcq hq
  have HQE := hid hQ
  have HNE := hid hn
  have i1 : (0 : Int) ≤ (n : Int) := by omega
  have i2 : (n : Int) ≤ (cq : Int) := by omega
  clear h hd hq0 eq hQ hn
  go_enter Try.func11, Try.ntmps11
  go_upto_region 4 with fail
  have fd := (Fr.refl (fun _ => False) w).drew
  have F1 := hid fd
  have HQ1 := hid (cell_fr HQC.out fd (fun h => h))
  clear fd
  refine wp_region_scr (.take 0 (.take 1 (.take 2 (.take 3 (.take 4 (.take 5 (.take 6 (.take 7 (.take 8 (.take 9 (.take 10 (.take 11 (.take 12 (.take 13 (.take 14 .done))))))))))))))) (fun kz w => (kz ≤ 15 → w.cell? ⟨s, 5, none⟩ = some (.slice aq Q cq)) ∧ Hid True) (by kernel_rfl) (by kernel_rfl) (by intro c a d v w h; cases d <;> exact h) ?_
  repeat
    first
    | (refine wpT_pure rfl rfl rfl ?_; apply Exists.intro; refine ⟨?_, ?_⟩; intro w; (first | (first | exact hp1 | exact hp2 | exact hp3 | exact hp4 | exact HP.out | go_simp <;> rfl) | (go_simp <;> rfl)); simp only [Act.put, List.setIfInBounds_toArray, List.set_cons_zero, List.set_cons_succ])
    | (refine wpT_take 15 rfl rfl (by decide +kernel) ⟨fun _ => HQ1.out, hid trivial⟩ ?_; apply Exists.intro; refine ⟨?_, ?_⟩; intro w hw; (have qa := hw.1 (Nat.le_refl _); have qb := hw.2); (first | (first | exact hp1 | exact hp2 | exact hp3 | exact hp4 | exact HP.out | go_simp <;> rfl) | (go_simp <;> rfl)); simp only [Act.put, List.setIfInBounds_toArray, List.set_cons_zero, List.set_cons_succ])
    | (refine wpT_skip rfl rfl ?_; simp only [Act.put, List.setIfInBounds_toArray, List.set_cons_zero, List.set_cons_succ])
  refine wpT_nil ?_
  generalize w.drew = W1 at *
  clear HQ1 hp1 hp2 hp3 hp4 HQC
  go_wp2_with (fail)
  go_loopw [5, 27] (fun s5 s27 wr => ∃ (j : Nat) (xs : List TxnV) (ax : Option Addr) (cx : Nat), j ≤ n ∧ s27 = .int .i64 j ∧ s5 = .slice ax j cx ∧ xs.length = j ∧ xs.map TxnV.t = (v.qs.take j).map (fun d => (d.lsn, d.cs.map ChgV.c)) ∧ TxnsR w.heap.size wr (.slice ax j cx) xs ∧ Fr (fun _ => False) w wr) (fun _ s27 _ => n - (intOf s27).toNat)
  case atStart => exact ⟨0, [], none, 0, by omega, rfl, rfl, rfl, by simp, ⟨Row.nil, fun x hx => by simp at hx⟩, F1.out⟩
  case round =>
    obtain ⟨j, xs, ax, cx, hj, rfl, rfl, hxl, hxm, hxr, hf⟩ := hrel
    have HXM := hid hxm
    have HXL := hid hxl
    have XR := hid hxr
    have FR := hid hf
    clear hxl hxm hxr hf F1
    rename World => WR
    by_cases hjn : j < n
    · have j1 : (0 : Int) ≤ (j : Int) := by omega
      have j2 : (j : Int) < (n : Int) := by omega
      have hjq : j < v.qs.length := by rw [← HQE.out]; omega
      obtain ⟨g, o, rfl, -, q⟩ := slK (k := 3) (f := DnV.cells) (by decide) dn_len HQS.out hjq
      have HD := hid (H0.out.d _ (List.getElem_mem hjq))
      have HDC := hid (HDL.out _ (List.getElem_mem hjq))
      have HMS := hid (fun x (e : TxnV.t x = ((v.qs[j]).lsn, (v.qs[j]).cs.map ChgV.c)) => map_snoc (x := x) HXM.out hjq e)
      have p0 := cell_fr (q 0 (by decide)) FR.out (fun h => h)
      have p1 := cell_fr (q 1 (by decide)) FR.out (fun h => h)
      have p2 := cell_fr (q 2 (by decide)) FR.out (fun h => h)
      simp only [Nat.add_zero] at p0 p1 p2
      clear q HXM
      generalize v.qs[j] = dj at *
      obtain ⟨ad, cd, hdv, -⟩ := HD.out.r.slice
      obtain ⟨first, lsn, dv, cs⟩ := dj
      dsimp only at hdv p0 p1 p2 HMS HDC
      subst hdv
      have HJL := hid (show j ≤ 1048576 from by omega)
      have fa := (Fr.refl (fun _ => False) WR).alloc (.cells #[.int .i64 first, .int .i64 lsn, .slice ad cs.length cd] 72)
      have L7 := hid (Blk.new WR [.int .i64 first, .int .i64 lsn, .slice ad cs.length cd] 72)
      have X2 := hid (XR.out.fre fa)
      have F2 := hid (FR.out.trans fa (fun _ h _ => h))
      clear fa
      go_upto_region 7 with fail
      clear p0 p1 p2 XR FR
      generalize WR.heap.size = dl at *
      generalize WR.alloc _ = W7 at *
      have fb := (Fr.refl (fun _ => False) W7).alloc (.cells #[.int .i64 lsn, .slice none 0 0] 45)
      have D8 := hid (Blk.new W7 [.int .i64 lsn, .slice none 0 0] 45)
      have L8 := hid (Blk.fr L7.out fb (fun h => h))
      have F8 := hid fb
      have l1 := L7.out.cell 1
      simp only [List.getElem?_cons_zero, List.getElem?_cons_succ] at l1
      clear fb
      go_upto_region 8 with fail
      clear l1 L7
      have HDT := hid (Nat.le_refl W7.heap.size)
      generalize hdt : W7.heap.size = dt at *
      have HDTE := hid hdt
      clear hdt
      generalize W7.alloc _ = W8 at *
      have l2 := L8.out.cell 2
      simp only [List.getElem?_cons_zero, List.getElem?_cons_succ] at l2
      go_wp2_with (fail)
      clear l2 L8
      go_loopw [39] (fun s39 wr => ∃ (i : Nat) (ys : List ChgV) (ay : Option Addr) (cy : Nat), i ≤ cs.length ∧ s39 = .int .i64 i ∧ ys.length = i ∧ Blk wr dt [.int .i64 lsn, .slice ay i cy] 45 ∧ ys.map ChgV.c = (cs.take i).map ChgV.c ∧ ChgsR dt wr (.slice ay i cy) ys ∧ Fr (fun _ => False) W7 wr) (fun s39 _ => cs.length - (intOf s39).toNat)
      case atStart => exact ⟨0, [], none, 0, by omega, rfl, rfl, D8.out, by simp, ⟨Row.nil, fun x hx => by simp at hx⟩, F8.out⟩
      case round =>
        obtain ⟨i, ys, ay, cy, hi, rfl, hyl, hbd, hym, hyr, hf⟩ := hrel
        have HYL := hid hyl
        have HYM := hid hym
        have YR := hid hyr
        have BD := hid hbd
        have FZ := hid hf
        clear hyl hbd hym hyr hf D8 F8
        rename World => WZ
        by_cases hic : i < cs.length
        · have j3 : (0 : Int) ≤ (i : Int) := by omega
          have j4 : (i : Int) < (cs.length : Int) := by omega
          have FW := hid (F2.out.trans FZ.out (fun _ h _ => h))
          obtain ⟨gc, oc, rfl, -, q⟩ := slK (k := 5) (f := ChgV.cells) (by decide) chg_len (HD.out.r.sl' (R := fun _ => True) (fun _ _ => trivial)) hic
          have HC := hid (HD.out.c _ (List.getElem_mem hic))
          have HMC := hid (fun (x : ChgV) (e : x.c = (cs[i]).c) => map_snoc (x := x) HYM.out hic e)
          have p0 := cell_fr (q 0 (by decide)) FW.out (fun h => h)
          have p1 := cell_fr (q 1 (by decide)) FW.out (fun h => h)
          have p2 := cell_fr (q 2 (by decide)) FW.out (fun h => h)
          have p3 := cell_fr (q 3 (by decide)) FW.out (fun h => h)
          have p4 := cell_fr (q 4 (by decide)) FW.out (fun h => h)
          simp only [Nat.add_zero] at p0 p1 p2 p3 p4
          clear q HYM
          generalize cs[i] = ci at *
          obtain ⟨a1, c1, g1, -⟩ := HC.out.n.slice
          obtain ⟨a2, c2, g2, -⟩ := HC.out.o.slice
          obtain ⟨a3, c3, g3, -⟩ := HC.out.w.slice
          obtain ⟨⟨kind, table, names, old, new⟩, vn, vo, vw⟩ := ci
          dsimp only at g1 g2 g3 p0 p1 p2 p3 p4 HMC
          subst g1 g2 g3
          have HIL := hid (show i ≤ 1048576 from by have := HDC.out; omega)
          have fa := (Fr.refl (fun _ => False) WZ).alloc (.cells #[.int .i64 kind, .string (bs table), .slice a1 names.length c1, .slice a2 old.length c2, .slice a3 new.length c3] 48)
          have L10 := hid (Blk.new WZ [.int .i64 kind, .string (bs table), .slice a1 names.length c1, .slice a2 old.length c2, .slice a3 new.length c3] 48)
          have HKD := hid (fun k (hk : (Value.slice ay i cy).ownBlock = some k) => YR.out.r.lt hk)
          have Y3 := hid (YR.out.fre fa)
          have B3 := hid (Blk.fr BD.out fa (fun h => h))
          have F3 := hid (FZ.out.trans fa (fun _ h _ => h))
          clear fa
          go_upto_region 11 with fail
          clear p0 p1 p2 p3 p4 YR BD FZ FW
          generalize WZ.heap.size = dc at *
          generalize WZ.alloc _ = W10 at *
          have fd := (Fr.refl (fun _ => False) W10).drew
          have Y4 := hid (Y3.out.fre fd)
          have B4 := hid (Blk.fr B3.out fd (fun h => h))
          have L4 := hid (Blk.fr L10.out fd (fun h => h))
          have F4 := hid (F3.out.trans fd (fun _ h _ => h))
          clear fd Y3 B3 L10 F3
          refine wp_region_scr (.take 0 (.take 1 (.take 2 (.op 3 (.op 4 (.op 5 (.take 6 (.op 7 .done)))))))) (fun kz w => (kz ≤ 7 → w.cell? ⟨dt, 1, none⟩ = some (.slice ay i cy) ∧ w.rangeAt dc 0 [.int .i64 kind, .string (bs table), .slice a1 names.length c1, .slice a2 old.length c2, .slice a3 new.length c3]) ∧ Hid True) (by kernel_rfl) (by kernel_rfl) (by intro c a d v w h; cases d <;> exact h) ?_
          repeat
            first
            | (refine wpT_pure rfl rfl rfl ?_; apply Exists.intro; refine ⟨?_, ?_⟩; intro w; (first | (first | exact run_load_mid _ _ rfl dc _ rfl _ _ qa.2 Try.underlying48 rfl size_chg | (obtain ⟨qa1, qa2⟩ := qa; go_simp <;> rfl)) | (go_simp <;> rfl)); simp only [Act.put, List.setIfInBounds_toArray, List.set_cons_zero, List.set_cons_succ])
            | (refine wpT_take 7 rfl rfl (by decide +kernel) ⟨fun _ => ⟨B4.out.cell 1, L4.out.all⟩, hid trivial⟩ ?_; apply Exists.intro; refine ⟨?_, ?_⟩; intro w hw; (have qa := hw.1 (Nat.le_refl _); have qb := hw.2); (first | (first | exact run_load_mid _ _ rfl dc _ rfl _ _ qa.2 Try.underlying48 rfl size_chg | (obtain ⟨qa1, qa2⟩ := qa; go_simp <;> rfl)) | (go_simp <;> rfl)); simp only [Act.put, List.setIfInBounds_toArray, List.set_cons_zero, List.set_cons_succ])
            | (refine wpT_skip rfl rfl ?_; simp only [Act.put, List.setIfInBounds_toArray, List.set_cons_zero, List.set_cons_succ])
          generalize W10.drew = W11 at *
          have HOWN := hid (own_go (HC.out.fre (F2.out.trans F4.out (fun _ h _ => h))).s)
          unfold ChgV.cells at HOWN
          dsimp only at HOWN
          refine wpT_op rfl ?_
          go_wp2_with ((go_at_call 25; refine HOWN.out.mono ?_; rintro e w5 ⟨vn1, vo1, vw1, rfl, hr, f⟩; obtain ⟨o1, e1, h1, _⟩ := hr.n.slice; obtain ⟨o2, e2, h2, _⟩ := hr.o.slice; obtain ⟨o3, e3, h3, _⟩ := hr.w.slice; dsimp only at h1 h2 h3; subst h1 h2 h3; have Y5 := hid (Y4.out.fre f); have B5 := hid (Blk.fr B4.out f (fun h => h)); have L5 := hid (Blk.fr L4.out f (fun h => h)); have F5 := hid (F4.out.trans f (fun _ h _ => h)); have C5 := hid (hr.low (show dt ≤ W11.heap.size from by have := B4.out.lt; omega)); clear hr f))
          (refine ⟨?_, ?_⟩; focus (intro kz hk hk2 hh; first | (exfalso; simp at hk2; omega) | exact hh | exact (fun h => absurd h (by omega)) | obtain ⟨qa, qb⟩ := hh; first | exact ⟨qa, qb⟩ | (refine ⟨fun h => absurd h (by omega), ?_⟩; first | exact qb | (exact ⟨B5.out.cell 1, L5.out.all⟩)) | (refine ⟨fun h => ?_, ?_⟩; (have qa := qa h); all_goals (first | exact qa | exact qb | (exact ⟨B5.out.cell 1, L5.out.all⟩)))))
          clear HOWN Y4 B4 L4 F4
          have FA := hid (fun o => (Fr.refl (fun _ => False) w5).alloc o)
          refine wpT_op rfl ?_
          go_wp2_with (fail)
          (refine ⟨?_, ?_⟩; focus (intro kz hk hk2 hh; first | (exfalso; simp at hk2; omega) | exact hh | exact (fun h => absurd h (by omega)) | obtain ⟨qa, qb⟩ := hh; first | exact ⟨qa, qb⟩ | (refine ⟨fun h => absurd h (by omega), ?_⟩; first | exact qb | (exact ⟨(Blk.fr B5.out (FA.out _) (fun h => h)).cell 1, (Blk.fr L5.out (FA.out _) (fun h => h)).all⟩)) | (refine ⟨fun h => ?_, ?_⟩; (have qa := qa h); all_goals (first | exact qa | exact qb | (exact ⟨(Blk.fr B5.out (FA.out _) (fun h => h)).cell 1, (Blk.fr L5.out (FA.out _) (fun h => h)).all⟩)))))
          have HROW := hid (show Row 48 5 dt w5 (.slice ay i cy) i (ys.flatMap ChgV.cells) from by have := Y5.out.r; rw [HYL.out] at this; exact this)
          have HSZ := hid (show dt ≤ w5.heap.size from by have := B5.out.lt; omega)
          refine wpT_op rfl ?_
          go_wp2_with ((at_builtin; refine wpList_app1 rfl (s := .tmp 44) (x := .tmp 47) (t := 43) rfl Try.underlying43 info_chg rfl rfl rfl HROW.out HSZ.out rfl (by simp [Value.oneCell']) (by have := HIL.out; omega) (by have := HIL.out; omega) ?_; intro ab ac wg APP; have HAPP := hid (show App 48 5 dt w5 wg (.slice ay i cy) (.slice ab (i + 1) ac) i (ys.flatMap ChgV.cells) [.int .i64 kind, .string (bs table), .slice o1 names.length e1, .slice o2 old.length e2, .slice o3 new.length e3] from APP); have B6 := hid (Blk.fr B5.out APP.fr (fun hk => HROW.out.ne B5.out (by decide) _ hk rfl)); have F6 := hid (F5.out.trans APP.fr (fun k hk hl => by have := HROW.out.new k hk; have := HDTE.out; omega)); have L6 := hid (Blk.fr L5.out APP.fr (fun hk => Nat.lt_irrefl _ (HKD.out _ hk))); clear APP))
          (refine ⟨?_, ?_⟩; focus (intro kz hk hk2 hh; first | (exfalso; simp at hk2; omega) | exact hh | exact (fun h => absurd h (by omega)) | obtain ⟨qa, qb⟩ := hh; first | exact ⟨qa, qb⟩ | (refine ⟨fun h => absurd h (by omega), ?_⟩; first | exact qb | (exact ⟨B6.out.cell 1, L6.out.all⟩)) | (refine ⟨fun h => ?_, ?_⟩; (have qa := qa h); all_goals (first | exact qa | exact qb | (exact ⟨B6.out.cell 1, L6.out.all⟩)))))
          repeat
            first
            | (refine wpT_pure rfl rfl rfl ?_; apply Exists.intro; refine ⟨?_, ?_⟩; intro w; ((go_simp <;> rfl)); simp only [Act.put, List.setIfInBounds_toArray, List.set_cons_zero, List.set_cons_succ])
            | (refine wpT_take 7 rfl rfl (by decide +kernel) ⟨fun _ => ⟨B6.out.cell 1, L6.out.all⟩, hid trivial⟩ ?_; apply Exists.intro; refine ⟨?_, ?_⟩; intro w hw; (have qa := hw.1 (Nat.le_refl _); have qb := hw.2); ((go_simp <;> rfl)); simp only [Act.put, List.setIfInBounds_toArray, List.set_cons_zero, List.set_cons_succ])
            | (refine wpT_skip rfl rfl ?_; simp only [Act.put, List.setIfInBounds_toArray, List.set_cons_zero, List.set_cons_succ])
          have HY7 := hid (show ChgsR dt wg (.slice ab (i + 1) ac) (ys ++ [⟨⟨kind, table, names, old, new⟩, .slice o1 names.length e1, .slice o2 old.length e2, .slice o3 new.length e3⟩]) from by
            have a := HAPP.out
            have y := Y5.out
            rw [← HYL.out] at a y ⊢
            exact y.snoc C5.out a)
          have k5 : wg.cell? ⟨dt, 1, none⟩ = some (.slice ay i cy) := B6.out.cell 1
          have z5 : wg.frozen? ⟨dt, 1, none⟩ = false := B6.out.frozen 1
          refine wpT_op rfl ?_
          go_wp2_with (fail)
          (refine ⟨?_, ?_⟩; focus (intro kz hk hk2 hh; first | (exfalso; simp at hk2; omega) | exact hh | exact (fun h => absurd h (by omega)) | obtain ⟨qa, qb⟩ := hh; first | exact ⟨qa, qb⟩ | (refine ⟨fun h => absurd h (by omega), ?_⟩; first | exact qb | (exact hid trivial)) | (refine ⟨fun h => ?_, ?_⟩; (have qa := qa h); all_goals (first | exact qa | exact qb | (exact hid trivial)))))
          refine wpT_nil ?_
          have fs := (Fr.refl (fun k => k = dt) wg).setCell ⟨dt, 1, none⟩ (.slice ab (i + 1) ac) (fun _ => rfl)
          have B7 := hid (B6.out.set 1 (.slice ab (i + 1) ac))
          have Y7 := hid (HY7.out.off B6.out fs)
          have F7 := hid (F6.out.trans fs (fun k hk hl => by have := HDTE.out; omega))
          clear fs k5 z5 B6 F6 L6 HY7 HAPP HROW HKD Y5 B5 L5 F5 C5
          generalize wg.setCell ⟨dt, 1, none⟩ (.slice ab (i + 1) ac) = W12 at *
          have i9 : IntKind.i64.wrap ((i : Int) + 1) = (i : Int) + 1 := IntWalk.i64_in _ (by have := HIL.out; omega)
          go_wp2_with (fail)
          go_roundw
          case rel => exact ⟨i + 1, _, ab, ac, by omega, by go_num, by rw [List.length_append, HYL.out]; rfl, B7.out, HMC.out _ rfl, Y7.out, F7.out⟩
          case measure => simp [intOf]; omega
        · obtain rfl : i = cs.length := by omega
          have j4 : ¬ ((cs.length : Int) < (cs.length : Int)) := by omega
          have d0 := BD.out.cell 0
          have d1 := BD.out.cell 1
          simp only [List.getElem?_cons_zero, List.getElem?_cons_succ] at d0 d1
          have HROW := hid (show Row 45 2 w.heap.size WZ (.slice ax j cx) j (xs.flatMap TxnV.cells) from by have := (X2.out.fre FZ.out).r; rw [HXL.out] at this; exact this)
          have HSZ := hid (show w.heap.size ≤ WZ.heap.size from Nat.le_trans F2.out.size FZ.out.size)
          have HXO := hid (show TxnO w.heap.size WZ ⟨lsn, .slice ay cs.length cy, ys⟩ from by
            have := YR.out.low (A := w.heap.size) (by have := HDTE.out; have := F2.out.size; omega)
            exact ⟨this.r, this.c⟩)
          rw [List.take_length] at HYM
          go_wp2_with (at_builtin; refine wpList_app1 rfl (s := .tmp 51) (x := .tmp 53) (t := 27) rfl Try.underlying27 info_txn rfl rfl rfl HROW.out HSZ.out rfl (by simp [Value.oneCell']) (by have := HJL.out; omega) (by have := HJL.out; omega) ?_; intro ab ac wg APP; have HAPP := hid (show App 45 2 w.heap.size WZ wg (.slice ax j cx) (.slice ab (j + 1) ac) j (xs.flatMap TxnV.cells) [.int .i64 lsn, .slice ay cs.length cy] from APP); clear APP; clear d0 d1; have i9 : IntKind.i64.wrap ((j : Int) + 1) = (j : Int) + 1 := IntWalk.i64_in _ (by have := HJL.out; omega))
          go_roundw
          case rel =>
            refine ⟨j + 1, xs ++ [⟨lsn, .slice ay cs.length cy, ys⟩], ab, ac, by omega, by go_num, rfl, by rw [List.length_append, HXL.out]; rfl, HMS.out _ (by simp only [TxnV.t]; rw [HYM.out]), ?_, (F2.out.trans FZ.out (fun _ h _ => h)).trans HAPP.out.fr (fun k hk hl => by have := HROW.out.new k hk; omega)⟩
            have a := HAPP.out
            have x := X2.out.fre FZ.out
            rw [← HXL.out] at a x ⊢
            exact x.snoc HXO.out a
          case measure => simp [intOf]; omega
    · obtain rfl : j = n := by omega
      have j2 : ¬ ((j : Int) < (j : Int)) := by omega
      go_wp2_with (fail)
      go_ret
      exact ⟨_, rfl, xs, by rw [HXM.out, List.map_take], XR.out, FR.out⟩
end Go.Proofs.Ytiimomgbklgicaa
