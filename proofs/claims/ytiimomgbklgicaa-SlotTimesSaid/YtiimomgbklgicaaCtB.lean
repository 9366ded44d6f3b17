import Derived.Test.YtiimomgbklgicaaCtA
/- The catalog's small functions. -/
set_option linter.unusedVariables false
namespace Go.Proofs.Ytiimomgbklgicaa
open Go.RowKit Go.VB Go.VB.Oct Go.VB.Cat
theorem beq_dec (a b : List UInt8) : ((bs a).toList == (bs b).toList) = decide (a = b) := by
  rw [Lib.toList_data, Lib.toList_data]
  by_cases h : a = b
  · simp [h]
  · simp [h, bs]
theorem bs_nil (s : Bs) : (bs s).toList = [] ↔ s = [] := by
  have h := beq_dec s []
  have e : (bs []).toList = [] := by rw [Lib.toList_data]; rfl
  rw [e] at h
  by_cases hs : s = []
  · subst hs; exact ⟨fun _ => rfl, fun _ => e⟩
  · rw [decide_eq_false hs, beq_eq_false_iff_ne] at h
    exact ⟨fun g => absurd g h, fun g => absurd g hs⟩
theorem named_go (s : Bs) (w : World) : Calls Try.prog 78 #[.string (bs s)] w fun e w' => e = .returned (.bool (named s)) ∧ w = w' := by
  have e1 := bs_size s
  obtain ⟨n, hn⟩ : ∃ n, n = s.length := ⟨_, rfl⟩
  rw [← hn] at e1
  unfold named
  rw [← hn]
  by_cases h0 : s = []
  · have hz : (bs s).toList = [] := (bs_nil s).2 h0
    subst h0
    subst hn
    clear e1
    go_enter Try.func78, Try.ntmps78
    go_wp2_with (fail)
    go_ret
    exact ⟨rfl, rfl⟩
  · have hz : ¬ (bs s).toList = [] := fun h => h0 ((bs_nil s).1 h)
    have hp : 1 ≤ n := by
      cases s with
      | nil => exact absurd rfl h0
      | cons a l => rw [hn]; simp
    rw [decide_eq_true hp]
    clear hn h0 hp
    by_cases h12 : n ≤ 12
    · have i1 : (n : Int) ≤ 12 := by omega
      rw [decide_eq_true h12]
      clear h12
      go_enter Try.func78, Try.ntmps78
      go_wp2_with (fail)
      go_ret
      exact ⟨ret_bool (by simp [hz]), rfl⟩
    · have i1 : (12 : Int) < (n : Int) := by omega
      rw [decide_eq_false h12]
      clear h12
      go_enter Try.func78, Try.ntmps78
      go_wp2_with (fail)
      go_ret
      exact ⟨ret_bool (by simp; omega), rfl⟩
theorem beq_bs (a b : Bs) : ((bs a).toList == (bs b).toList) = (a == b) := by
  rw [beq_dec, Bool.eq_iff_iff, decide_eq_true_eq, beq_iff_eq]
/-- the test by a name that was captured -/
theorem find1_go (t : TabV) (s : Bs) (b : Nat) {w : World} (hb : w.cell? ⟨b, 0, none⟩ = some (.string (bs s))) :
    Calls Try.prog 103 #[TabV.agg t, .pointer (some ⟨b, 0, none⟩)] w fun e w' => e = .returned (.bool (t.t.name == s)) ∧ Fr (fun _ => False) w w' := by
  obtain ⟨⟨id, name, cols, ixs⟩, vc, vi, ix⟩ := t
  unfold TabV.agg TabV.cells
  dsimp only
  have F1 := hid ((Fr.refl (fun _ => False) w).alloc (.cells #[.int .i64 id, .string (bs name), vc, vi] 110))
  have hb2 := cell_fr hb F1.out (fun h => h)
  have HB := hid (beq_bs name s)
  go_enter Try.func103, Try.ntmps103
  go_wp2_with (fail)
  go_ret
  exact ⟨ret_bool HB.out, F1.out⟩
theorem create1_go (s : Bs) (w : World) : Calls Try.prog 80 #[sval s] w fun e w' => e = .returned (.bool (!named s)) ∧ Fr (fun _ => False) w w' := by
  have H := hid (named_go s)
  unfold sval
  go_enter Try.func80, Try.ntmps80
  go_wp2_with (go_at_call 78; refine (H.out _).mono ?_; rintro e w1 ⟨rfl, rfl⟩)
  go_ret
  exact ⟨rfl, Fr.refl _ _⟩
theorem create2_go (c : Col) (w : World) : Calls Try.prog 82 #[Col.agg c] w fun e w' => e = .returned (.bool (c.kind != 1 && c.kind != 2)) ∧ Fr (fun _ => False) w w' := by
  obtain ⟨n, k⟩ := c
  unfold Col.agg Col.cells
  dsimp only
  have F1 := hid ((Fr.refl (fun _ => False) w).alloc (.cells #[.string (bs n), .int .i64 k] 55))
  obtain ⟨a, ha⟩ : ∃ a, (k != 1) = a := ⟨_, rfl⟩
  obtain ⟨b, hb⟩ : ∃ b, (k != 2) = b := ⟨_, rfl⟩
  rw [ha, hb]
  go_enter Try.func82, Try.ntmps82
  cases a
  all_goals
    go_wp2_with (fail)
    go_ret
    exact ⟨rfl, F1.out⟩
theorem info_str : (Try.prog.info? 9).map (fun i => (i.zero, i.size, i.bytes)) = some (some (.string .empty), 1, 16) := by kernel_rfl
set_option maxRecDepth 20000 in
theorem names_go {R : Nat → Prop} {w : World} {va : Value} {l : List Col} (h : Sl R w va l.length (l.flatMap Col.cells)) (hn : l.length ≤ 1048576) :
    Calls Try.prog 77 #[va] w fun e w' => ∃ v, e = .returned v ∧ Row 9 1 w.heap.size w' v l.length (sv (l.map Col.name)) ∧ Fr (fun _ => False) w w' := by
  obtain ⟨a, c, rfl, hc, hx⟩ := h
  have HX := hid (show Sl R w (.slice a l.length c) l.length (l.flatMap Col.cells) from ⟨a, c, rfl, hc, hx⟩)
  clear hx
  have F0 := hid (Fr.refl (fun _ => False) w)
  go_enter Try.func77, Try.ntmps77
  go_wp2_with (fail)
  go_loopw [2, 7] (fun v i wr => ∃ j : Nat, j ≤ l.length ∧ i = .int .i64 j ∧ Row 9 1 w.heap.size wr v j (sv ((l.take j).map Col.name)) ∧ Fr (fun _ => False) w wr) (fun _ i _ => l.length - (intOf i).toNat)
  case atStart => exact ⟨0, by omega, rfl, Row.nil, F0.out⟩
  case round =>
    obtain ⟨j, hj, rfl, hrow, fr⟩ := hrel
    have HROW := hid hrow
    have FR := hid fr
    obtain ⟨vx, cc, rfl, _⟩ := hrow.slice
    clear hrow fr F0
    by_cases hjl : j < l.length
    · obtain ⟨g, o, rfl, hg, q⟩ := slK (k := 2) (f := Col.cells) (by decide) col_len (HX.out.fr FR.out (fun _ _ h => h)) hjl
      have q0 := q 0 (by decide)
      have q1 := q 1 (by decide)
      have i1 : (0 : Int) ≤ (j : Int) := by omega
      have i2 : (j : Int) < l.length := by omega
      have HT := hid (show sv ((l.take (j + 1)).map Col.name) = sv ((l.take j).map Col.name) ++ [.string (bs l[j].name)] from by
        rw [List.take_succ_eq_append_getElem hjl, List.map_append]
        simp [sv])
      obtain ⟨x, hx⟩ : ∃ x, x = l[j] := ⟨_, rfl⟩
      rw [← hx] at q0 q1 HT
      clear hx q
      obtain ⟨n, k⟩ := x
      simp only [Col.cells, Nat.add_zero, List.getElem?_cons_zero, List.getElem?_cons_succ] at q0 q1
      go_upto_region 4 with fail
      have fa := (Fr.refl (fun _ => False) wr).alloc (.cells #[.string (bs n), .int .i64 k] 55)
      have c0 : (wr.alloc (.cells #[.string (bs n), .int .i64 k] 55)).cell? ⟨wr.heap.size, 0, none⟩ = some (.string (bs n)) := (Blk.new wr [.string (bs n), .int .i64 k] 55).cell 0
      replace HROW := hid (HROW.out.fre fa)
      replace FR := hid (FR.out.trans fa (fun _ h _ => h))
      have HSZ := FR.out.size
      clear fa q0 q1
      generalize wr.heap.size = d at *
      generalize wr.alloc _ = W1 at *
      go_wp2_with (at_builtin; refine wpList_app1 rfl (s := .tmp 11) (x := .tmp 14) (t := 46) rfl Try.underlying46 info_str rfl rfl rfl HROW.out HSZ rfl (by simp [Value.oneCell']) (by omega) (by omega) ?_; intro ab ac wg APP; have HG := hid (And.intro (APP.row.cast rfl HT.out.symm) (FR.out.trans APP.fr (fun k hk hl => by have := HROW.out.new k hk; omega))); clear APP)
      go_roundw
      case rel => exact ⟨j + 1, by omega, by go_num, HG.out.1, HG.out.2⟩
      case measure => simp [intOf]; omega
    · obtain rfl : j = l.length := by omega
      rw [List.take_length] at HROW
      go_wp2_with (fail)
      go_ret
      exact ⟨_, rfl, HROW.out, FR.out⟩
theorem idx_col (l : List Col) (n : Bs) : Lib.idxOfS ((l.map fun c => bs c.name).take l.length) (bs n) = colOf l n := by
  rcases pos_cases (fun c : Col => c.name == n) l with ⟨h1, h2⟩ | ⟨i, hi, h1, h2, h3⟩
  · unfold colOf
    rw [h1]
    refine Lib.idxOfS_miss _ _ _ fun j hj => ?_
    rw [List.getD_eq_getElem?_getD, List.getElem?_map, List.getElem?_eq_getElem hj]
    intro e
    have := h2 _ (List.getElem_mem hj)
    rw [beq_eq_false_iff_ne] at this
    exact this (bs_inj e)
  · unfold colOf
    rw [h1]
    refine Lib.idxOfS_hit _ _ _ _ hi (by simp) ?_ fun j hj => ?_
    · rw [List.getD_eq_getElem?_getD, List.getElem?_map, List.getElem?_eq_getElem hi]
      exact congrArg bs (beq_iff_eq.1 h2)
    · rw [List.getD_eq_getElem?_getD, List.getElem?_map, List.getElem?_eq_getElem (by omega)]
      intro e
      have := h3 j hj
      rw [beq_eq_false_iff_ne] at this
      exact this (bs_inj e)
theorem SIndex_go {B : Nat} {w : World} {v : Value} {l : List Col} (n : Bs) (h : Row 9 1 B w v l.length (sv (l.map Col.name))) (hl : l.length ≤ 1048576) :
    Calls Try.prog 104 #[v, .string (bs n)] w fun e w' => e = .returned (.int .i64 (colOf l n)) ∧ w' = w := by
  obtain ⟨a, c, rfl, _⟩ := h.slice
  rw [← idx_col]
  by_cases h0 : l = []
  · subst h0
    exact Try.slices_Index_string_empty a c (bs n) w
  · obtain ⟨g, rfl, _, hc⟩ := row_cells h (by intro e; have := congrArg List.length e; simp [sv] at this; exact h0 this)
    refine Try.slices_Index_string g 0 l.length c _ (bs n) w (by simp) (by omega) fun j hj => ?_
    rw [Nat.zero_add]
    have hj2 : j < l.length := by simpa using hj
    refine hc j _ ?_
    rw [List.getD_eq_getElem?_getD, List.getElem?_map, List.getElem?_eq_getElem hj2]
    simp [sv, hj2]
theorem Col_go {P : Nat → Prop} {w : World} (id : Int) (nm : Bs) {vc vi : Value} {l : List Col} (n : Bs) (h : Sl P w vc l.length (l.flatMap Col.cells)) (hl : l.length ≤ 1048576) :
    Calls Try.prog 86 #[.agg #[.int .i64 id, .string (bs nm), vc, vi], .string (bs n)] w fun e w' => e = .returned (.int .i64 (colOf l n)) ∧ Fr (fun _ => False) w w' := by
  have F1 := hid ((Fr.refl (fun _ => False) w).alloc (.cells #[.int .i64 id, .string (bs nm), vc, vi] 110))
  have HN := hid (names_go (h.fr F1.out (fun _ _ h => h)) hl)
  have HI := hid (fun B W v => SIndex_go (B := B) (w := W) (v := v) (l := l) n)
  clear h
  go_enter Try.func86, Try.ntmps86
  go_wp2_with (first
    | (go_at_call 77; refine HN.out.mono ?_; rintro e w1 ⟨v, rfl, hr, f⟩; have HR := hid hr; have F2 := hid (F1.out.trans f (fun _ h _ => h)); clear hr f)
    | (go_at_call 104; refine (HI.out _ _ _ HR.out hl).mono ?_; rintro e w2 ⟨rfl, rfl⟩))
  go_ret
  exact ⟨rfl, F2.out⟩
end Go.Proofs.Ytiimomgbklgicaa
