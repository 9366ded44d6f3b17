import Derived.Lib.SliceRun
import Derived.Maps.OwnOps
import Derived.Maps.Views
import Derived.Maps.OwnSet
import Derived.StringKeys
import Derived.Test.YtiimomgbklgicaaGreatPkRsB
import Derived.Test.YtiimomgbklgicaaGreatPkRsC
set_option linter.unusedVariables false
namespace Go.Proofs.YtiimomgbklgicaaGreat
open Go.RowKit Go.VB Go.VB.Oct Go.VB.Cat
theorem beq_dec (a b : List UInt8) : ((bs a).toList == (bs b).toList) = decide (a = b) := by
  rw [Lib.toList_data, Lib.toList_data]
  by_cases h : a = b
  · simp [h]
  · simp [h, bs]
theorem bs_nil (s : Bs) : (bs s).toList = [] ↔ s = [] := by
  have h := beq_dec s []
  have e : (bs []).toList = [] := by rw [Lib.toList_data]; rfl
  rw [e] at h
  by_cases hs : s = []
  · subst hs; exact ⟨fun _ => rfl, fun _ => e⟩
  · rw [decide_eq_false hs, beq_eq_false_iff_ne] at h
    exact ⟨fun g => absurd g h, fun g => absurd g hs⟩
theorem named_go (s : Bs) (w : World) : Calls Tryz.prog 178 #[.string (bs s)] w fun e w' => e = .returned (.bool (named s)) ∧ w = w' := by
  have e1 := bs_size s
  obtain ⟨n, hn⟩ : ∃ n, n = s.length := ⟨_, rfl⟩
  rw [← hn] at e1
  unfold named
  rw [← hn]
  by_cases h0 : s = []
  · have hz : (bs s).toList = [] := (bs_nil s).2 h0
    subst h0
    subst hn
    clear e1
    go_enter Tryz.func178, Tryz.ntmps178
    go_wp2_with (fail)
    go_ret
    exact ⟨rfl, rfl⟩
  · have hz : ¬ (bs s).toList = [] := fun h => h0 ((bs_nil s).1 h)
    have hp : 1 ≤ n := by
      cases s with
      | nil => exact absurd rfl h0
      | cons a l => rw [hn]; simp
    rw [decide_eq_true hp]
    clear hn h0 hp
    by_cases h12 : n ≤ 12
    · have i1 : (n : Int) ≤ 12 := by omega
      rw [decide_eq_true h12]
      clear h12
      go_enter Tryz.func178, Tryz.ntmps178
      go_wp2_with (fail)
      go_ret
      exact ⟨ret_bool (by simp [hz]), rfl⟩
    · have i1 : (12 : Int) < (n : Int) := by omega
      rw [decide_eq_false h12]
      clear h12
      go_enter Tryz.func178, Tryz.ntmps178
      go_wp2_with (fail)
      go_ret
      exact ⟨ret_bool (by simp; omega), rfl⟩
theorem beq_bs (a b : Bs) : ((bs a).toList == (bs b).toList) = (a == b) := by
  rw [beq_dec, Bool.eq_iff_iff, decide_eq_true_eq, beq_iff_eq]
/-- the test by a name that was captured -/
theorem find1_go (t : TabV) (s : Bs) (b : Nat) {w : World} (hb : w.cell? ⟨b, 0, none⟩ = some (.string (bs s))) :
    Calls Tryz.prog 195 #[TabV.agg t, .pointer (some ⟨b, 0, none⟩)] w fun e w' => e = .returned (.bool (t.t.name == s)) ∧ Fr (fun _ => False) w w' := by
  obtain ⟨⟨id, name, cols, ixs⟩, vc, vi, ix⟩ := t
  unfold TabV.agg TabV.cells
  dsimp only
  have F1 := hid ((Fr.refl (fun _ => False) w).alloc (.cells #[.int .i64 id, .string (bs name), vc, vi] 175))
  have hb2 := cell_fr hb F1.out (fun h => h)
  have HB := hid (beq_bs name s)
  go_enter Tryz.func195, Tryz.ntmps195
  go_wp2_with (fail)
  go_ret
  exact ⟨ret_bool HB.out, F1.out⟩
theorem create1_go (s : Bs) (w : World) : Calls Tryz.prog 180 #[sval s] w fun e w' => e = .returned (.bool (!named s)) ∧ Fr (fun _ => False) w w' := by
  have H := hid (named_go s)
  unfold sval
  go_enter Tryz.func180, Tryz.ntmps180
  go_wp2_with (go_at_call 178; refine (H.out _).mono ?_; rintro e w1 ⟨rfl, rfl⟩)
  go_ret
  exact ⟨rfl, Fr.refl _ _⟩
theorem create2_go (c : Col) (w : World) : Calls Tryz.prog 182 #[Col.agg c] w fun e w' => e = .returned (.bool (c.kind != 1 && c.kind != 2)) ∧ Fr (fun _ => False) w w' := by
  obtain ⟨n, k⟩ := c
  unfold Col.agg Col.cells
  dsimp only
  have F1 := hid ((Fr.refl (fun _ => False) w).alloc (.cells #[.string (bs n), .int .i64 k] 171))
  obtain ⟨a, ha⟩ : ∃ a, (k != 1) = a := ⟨_, rfl⟩
  obtain ⟨b, hb⟩ : ∃ b, (k != 2) = b := ⟨_, rfl⟩
  rw [ha, hb]
  go_enter Tryz.func182, Tryz.ntmps182
  cases a
  all_goals
    go_wp2_with (fail)
    go_ret
    exact ⟨rfl, F1.out⟩
theorem info_str : (Tryz.prog.info? 9).map (fun i => (i.zero, i.size, i.bytes)) = some (some (.string .empty), 1, 16) := by kernel_rfl
set_option maxRecDepth 20000 in
theorem names_go {R : Nat → Prop} {w : World} {va : Value} {l : List Col} (h : Sl R w va l.length (l.flatMap Col.cells)) (hn : l.length ≤ 1048576) :
    Calls Tryz.prog 177 #[va] w fun e w' => ∃ v, e = .returned v ∧ Row 9 1 w.heap.size w' v l.length (sv (l.map Col.name)) ∧ Fr (fun _ => False) w w' := by
  obtain ⟨a, c, rfl, hc, hx⟩ := h
  have HX := hid (show Sl R w (.slice a l.length c) l.length (l.flatMap Col.cells) from ⟨a, c, rfl, hc, hx⟩)
  clear hx
  have F0 := hid (Fr.refl (fun _ => False) w)
  go_enter Tryz.func177, Tryz.ntmps177
  go_wp2_with (fail)
  go_loopw [2, 7] (fun v i wr => ∃ j : Nat, j ≤ l.length ∧ i = .int .i64 j ∧ Row 9 1 w.heap.size wr v j (sv ((l.take j).map Col.name)) ∧ Fr (fun _ => False) w wr) (fun _ i _ => l.length - (intOf i).toNat)
  case atStart => exact ⟨0, by omega, rfl, Row.nil, F0.out⟩
  case round =>
    obtain ⟨j, hj, rfl, hrow, fr⟩ := hrel
    have HROW := hid hrow
    have FR := hid fr
    obtain ⟨vx, cc, rfl, _⟩ := hrow.slice
    clear hrow fr F0
    by_cases hjl : j < l.length
    · obtain ⟨g, o, rfl, hg, q⟩ := slK (k := 2) (f := Col.cells) (by decide) col_len (HX.out.fr FR.out (fun _ _ h => h)) hjl
      have q0 := q 0 (by decide)
      have q1 := q 1 (by decide)
      have i1 : (0 : Int) ≤ (j : Int) := by omega
      have i2 : (j : Int) < l.length := by omega
      have HT := hid (show sv ((l.take (j + 1)).map Col.name) = sv ((l.take j).map Col.name) ++ [.string (bs l[j].name)] from by
        rw [List.take_succ_eq_append_getElem hjl, List.map_append]
        simp [sv])
      obtain ⟨x, hx⟩ : ∃ x, x = l[j] := ⟨_, rfl⟩
      rw [← hx] at q0 q1 HT
      clear hx q
      obtain ⟨n, k⟩ := x
      simp only [Col.cells, Nat.add_zero, List.getElem?_cons_zero, List.getElem?_cons_succ] at q0 q1
      go_upto_region 4 with fail
      have fa := (Fr.refl (fun _ => False) wr).alloc (.cells #[.string (bs n), .int .i64 k] 171)
      have c0 : (wr.alloc (.cells #[.string (bs n), .int .i64 k] 171)).cell? ⟨wr.heap.size, 0, none⟩ = some (.string (bs n)) := (Blk.new wr [.string (bs n), .int .i64 k] 171).cell 0
      replace HROW := hid (HROW.out.fre fa)
      replace FR := hid (FR.out.trans fa (fun _ h _ => h))
      have HSZ := FR.out.size
      clear fa q0 q1
      generalize wr.heap.size = d at *
      generalize wr.alloc _ = W1 at *
      go_wp2_with (at_builtin; refine wpList_app1 rfl (s := .tmp 11) (x := .tmp 14) (t := 78) rfl Tryz.underlying78 info_str rfl rfl rfl HROW.out HSZ rfl (by simp [Value.oneCell']) (by omega) (by omega) ?_; intro ab ac wg APP; have HG := hid (And.intro (APP.row.cast rfl HT.out.symm) (FR.out.trans APP.fr (fun k hk hl => by have := HROW.out.new k hk; omega))); clear APP)
      go_roundw
      case rel => exact ⟨j + 1, by omega, by go_num, HG.out.1, HG.out.2⟩
      case measure => simp [intOf]; omega
    · obtain rfl : j = l.length := by omega
      rw [List.take_length] at HROW
      go_wp2_with (fail)
      go_ret
      exact ⟨_, rfl, HROW.out, FR.out⟩
theorem idx_col (l : List Col) (n : Bs) : Lib.idxOfS ((l.map fun c => bs c.name).take l.length) (bs n) = colOf l n := by
  rcases pos_cases (fun c : Col => c.name == n) l with ⟨h1, h2⟩ | ⟨i, hi, h1, h2, h3⟩
  · unfold colOf
    rw [h1]
    refine Lib.idxOfS_miss _ _ _ fun j hj => ?_
    rw [List.getD_eq_getElem?_getD, List.getElem?_map, List.getElem?_eq_getElem hj]
    intro e
    have := h2 _ (List.getElem_mem hj)
    rw [beq_eq_false_iff_ne] at this
    exact this (bs_inj e)
  · unfold colOf
    rw [h1]
    refine Lib.idxOfS_hit _ _ _ _ hi (by simp) ?_ fun j hj => ?_
    · rw [List.getD_eq_getElem?_getD, List.getElem?_map, List.getElem?_eq_getElem hi]
      exact congrArg bs (beq_iff_eq.1 h2)
    · rw [List.getD_eq_getElem?_getD, List.getElem?_map, List.getElem?_eq_getElem (by omega)]
      intro e
      have := h3 j hj
      rw [beq_eq_false_iff_ne] at this
      exact this (bs_inj e)
theorem SIndex_go {B : Nat} {w : World} {v : Value} {l : List Col} (n : Bs) (h : Row 9 1 B w v l.length (sv (l.map Col.name))) (hl : l.length ≤ 1048576) :
    Calls Tryz.prog 196 #[v, .string (bs n)] w fun e w' => e = .returned (.int .i64 (colOf l n)) ∧ w' = w := by
  obtain ⟨a, c, rfl, _⟩ := h.slice
  rw [← idx_col]
  by_cases h0 : l = []
  · subst h0
    exact Tryz.slices_Index_string_empty a c (bs n) w
  · obtain ⟨g, rfl, _, hc⟩ := row_cells h (by intro e; have := congrArg List.length e; simp [sv] at this; exact h0 this)
    refine Tryz.slices_Index_string g 0 l.length c _ (bs n) w (by simp) (by omega) fun j hj => ?_
    rw [Nat.zero_add]
    have hj2 : j < l.length := by simpa using hj
    refine hc j _ ?_
    rw [List.getD_eq_getElem?_getD, List.getElem?_map, List.getElem?_eq_getElem hj2]
    simp [sv, hj2]
theorem Col_go {P : Nat → Prop} {w : World} (id : Int) (nm : Bs) {vc vi : Value} {l : List Col} (n : Bs) (h : Sl P w vc l.length (l.flatMap Col.cells)) (hl : l.length ≤ 1048576) :
    Calls Tryz.prog 185 #[.agg #[.int .i64 id, .string (bs nm), vc, vi], .string (bs n)] w fun e w' => e = .returned (.int .i64 (colOf l n)) ∧ Fr (fun _ => False) w w' := by
  have F1 := hid ((Fr.refl (fun _ => False) w).alloc (.cells #[.int .i64 id, .string (bs nm), vc, vi] 175))
  have HN := hid (names_go (h.fr F1.out (fun _ _ h => h)) hl)
  have HI := hid (fun B W v => SIndex_go (B := B) (w := W) (v := v) (l := l) n)
  clear h
  go_enter Tryz.func185, Tryz.ntmps185
  go_wp2_with (first
    | (go_at_call 177; refine HN.out.mono ?_; rintro e w1 ⟨v, rfl, hr, f⟩; have HR := hid hr; have F2 := hid (F1.out.trans f (fun _ h _ => h)); clear hr f)
    | (go_at_call 196; refine (HI.out _ _ _ HR.out hl).mono ?_; rintro e w2 ⟨rfl, rfl⟩))
  go_ret
  exact ⟨rfl, F2.out⟩
end Go.Proofs.YtiimomgbklgicaaGreat
namespace Go.VB.Cat
open Go.VB Go.VB.Rec
theorem flat_len {α : Type} {k : Nat} {f : α → List Value} (hf : ∀ x, (f x).length = k) (l : List α) : (l.flatMap f).length = l.length * k := by
  induction l with
  | nil => simp
  | cons x l ih => rw [List.flatMap_cons, List.length_append, ih, hf, List.length_cons, Nat.succ_mul]; omega
theorem col_one (l : List Col) : ∀ u ∈ l.flatMap Col.cells, u.oneCell' = true := by
  intro u hu
  obtain ⟨v, _, hv⟩ := List.mem_flatMap.1 hu
  simp only [Col.cells, List.mem_cons, List.not_mem_nil, or_false] at hv
  rcases hv with rfl | rfl <;> rfl
theorem int_one (l : List Int) : ∀ u ∈ l.flatMap icell, u.oneCell' = true := by
  intro u hu
  obtain ⟨v, _, hv⟩ := List.mem_flatMap.1 hu
  simp only [icell, List.mem_cons, List.not_mem_nil, or_false] at hv
  rw [hv]; rfl
theorem icell_one' (x : Int) : (icell x).length = 1 := rfl
end Go.VB.Cat
namespace Go.Proofs.YtiimomgbklgicaaGreat
open Go.RowKit Go.VB Go.VB.Oct Go.VB.Cat Go.VB.Rec
theorem Sl.srcK {P : Program} {R : Nat → Prop} {w : World} {v : Value} {n size : Nat} {xs : List Value} (h : Sl R w v n xs) (hl : xs.length = n * size) (hs : 0 < size) (h1 : ∀ u ∈ xs, u.oneCell' = true) : Src P w size v n xs := by
  obtain ⟨a, c, rfl, hc, hx⟩ := h
  by_cases hn : xs = []
  · subst hn
    have hn0 : n = 0 := by
      have : n * size = 0 := hl.symm
      rcases Nat.mul_eq_zero.1 this with h | h <;> omega
    subst hn0
    cases a with
    | none => exact Src.nil size c
    | some a => exact ⟨by simp, by simp, fun w1 _ => ⟨by simp [Builtin.lenOf], by simpa using run_firstCells_some (P := P) w1 size 0 a 0 c [] (by simp) (fun j v hj => by simp at hj)⟩⟩
  · obtain ⟨g, o, rfl, -, hr⟩ := hx hn
    exact Src.slice hl h1 hr
theorem info_col : (Tryz.prog.info? 171).map (fun i => (i.zero, i.size, i.bytes)) = some (some (.agg #[.string .empty, .int .i64 0]), 2, 24) := by kernel_rfl
theorem info_int : (Tryz.prog.info? 3).map (fun i => (i.zero, i.size, i.bytes)) = some (some (.int .i64 0), 1, 8) := by kernel_rfl
set_option maxRecDepth 20000 in
theorem Clone_col {R : Nat → Prop} {w : World} {va : Value} {l : List Col} (h : Sl R w va l.length (l.flatMap Col.cells)) (hn : l.length ≤ 1048576) :
    Calls Tryz.prog 164 #[va] w fun e w' => ∃ v, e = .returned v ∧ Row 171 2 w.heap.size w' v l.length (l.flatMap Col.cells) ∧ Fr (fun _ => False) w w' := by
  have F0 := hid ((Fr.refl (fun _ => False) w).alloc (.cells #[] 171))
  have R0 := hid (Row.built (e := 171) (n := 0) (size := 2) (B := w.heap.size) w (l := []) rfl (by decide) (Nat.le_refl _))
  have S1 := hid (Sl.srcK (P := Tryz.prog) (size := 2) (h.fr F0.out (fun _ _ h => h)) (flat_len col_len l) (by decide) (col_one l))
  obtain ⟨a, c, rfl, hc, hx⟩ := h
  have HSZ := F0.out.size
  cases a with
  | none =>
    have h0 : l = [] := by
      cases l with
      | nil => rfl
      | cons x l => obtain ⟨g, o, e, _⟩ := hx (by intro e; have := congrArg List.length e; rw [flat_len col_len] at this; simp at this); cases e
    subst h0
    clear hx S1 R0 F0 HSZ hc hn
    have hq := fun w : World => Lib.run_eql_slice_nil (P := Tryz.prog) w 86 171 none 0 c 0 0 Tryz.underlying86
    simp only [Option.isNone_none] at hq
    go_enter Tryz.func164, Tryz.ntmps164
    go_wp2_with (fail)
    go_ret
    exact ⟨_, rfl, Row.nil, Fr.refl _ _⟩
  | some p =>
    clear hx
    have hq := fun w : World => Lib.run_eql_slice_nil (P := Tryz.prog) w 86 171 (some p) l.length c 0 0 Tryz.underlying86
    simp only [Option.isNone_some] at hq
    go_enter Tryz.func164, Tryz.ntmps164
    go_wp2_with (at_builtin; refine wpList_appS rfl (s := .tmp 5) (x := .tmp 6) (t := 86) (tx := 86) rfl Tryz.underlying86 Tryz.underlying86 (.inr ⟨_, rfl⟩) info_col rfl rfl rfl R0.out HSZ S1.out (by omega) (by omega) ?_; intro ab ac wg APP; have HG := hid (And.intro (APP.row.cast (m := l.length) (ys := l.flatMap Col.cells) (Nat.zero_add _) (by simp)) (APP.frB R0.out F0.out (Nat.le_refl _))); rw [Nat.zero_add] at HG; clear APP)
    go_ret
    exact ⟨_, rfl, HG.out.1, HG.out.2⟩
set_option maxRecDepth 20000 in
theorem Clone_int {R : Nat → Prop} {w : World} {va : Value} {l : List Int} (h : Sl R w va l.length (l.flatMap icell)) (hn : l.length ≤ 1048576) :
    Calls Tryz.prog 60 #[va] w fun e w' => ∃ v, e = .returned v ∧ Row 3 1 w.heap.size w' v l.length (l.flatMap icell) ∧ Fr (fun _ => False) w w' := by
  have F0 := hid ((Fr.refl (fun _ => False) w).alloc (.cells #[] 3))
  have R0 := hid (Row.built (e := 3) (n := 0) (size := 1) (B := w.heap.size) w (l := []) rfl (by decide) (Nat.le_refl _))
  have S1 := hid (Sl.srcK (P := Tryz.prog) (size := 1) (h.fr F0.out (fun _ _ h => h)) (flat_len icell_one' l) (by decide) (int_one l))
  obtain ⟨a, c, rfl, hc, hx⟩ := h
  have HSZ := F0.out.size
  cases a with
  | none =>
    have h0 : l = [] := by
      cases l with
      | nil => rfl
      | cons x l => obtain ⟨g, o, e, _⟩ := hx (by intro e; have := congrArg List.length e; rw [flat_len icell_one'] at this; simp at this); cases e
    subst h0
    clear hx S1 R0 F0 HSZ hc hn
    have hq := fun w : World => Lib.run_eql_slice_nil (P := Tryz.prog) w 22 3 none 0 c 0 0 Tryz.underlying22
    simp only [Option.isNone_none] at hq
    go_enter Tryz.func60, Tryz.ntmps60
    go_wp2_with (fail)
    go_ret
    exact ⟨_, rfl, Row.nil, Fr.refl _ _⟩
  | some p =>
    clear hx
    have hq := fun w : World => Lib.run_eql_slice_nil (P := Tryz.prog) w 22 3 (some p) l.length c 0 0 Tryz.underlying22
    simp only [Option.isNone_some] at hq
    go_enter Tryz.func60, Tryz.ntmps60
    go_wp2_with (at_builtin; refine wpList_appS rfl (s := .tmp 5) (x := .tmp 6) (t := 22) (tx := 22) rfl Tryz.underlying22 Tryz.underlying22 (.inr ⟨_, rfl⟩) info_int rfl rfl rfl R0.out HSZ S1.out (by omega) (by omega) ?_; intro ab ac wg APP; have HG := hid (And.intro (APP.row.cast (m := l.length) (ys := l.flatMap icell) (Nat.zero_add _) (by simp)) (APP.frB R0.out F0.out (Nat.le_refl _))); rw [Nat.zero_add] at HG; clear APP)
    go_ret
    exact ⟨_, rfl, HG.out.1, HG.out.2⟩
end Go.Proofs.YtiimomgbklgicaaGreat
namespace Go.VB
open Go.RowKit
open Go.Maps (Keyed)
/-- an element reads as itself -/
def selfR (v : Value) : Option (DataW Value × List MemPlace) := some (.held v, [])
open Classical in
noncomputable def upd (f : Lit → Value) (l : Lit) (v : Value) : Lit → Value := fun y => if y = l then v else f y
theorem upd_same (f : Lit → Value) (l : Lit) (v : Value) : upd f l v l = v := by unfold upd; rw [if_pos rfl]
theorem upd_ne (f : Lit → Value) {l y : Lit} (v : Value) (h : y ≠ l) : upd f l v y = f y := by unfold upd; rw [if_neg h]
/-- block b is a map of at most n entries: at key x lies f x, where nothing lies z -/
def MapF (P : Program) (k : TypeId) (w : World) (b n : Nat) (z : Value) (f : Lit → Value) : Prop :=
  ∃ D : DataW Value, w.ownsMap P k selfR b n D ∧ Go.Maps.IsMap D ∧ ∀ x : Lit, Go.WideAt.IsKeyLit x → D.atKey x (.held z) = .held (f x)
theorem MapF.new (P : Program) (k : TypeId) (w : World) (z : Value) : MapF P k (w.alloc (.map #[] 0)) w.heap.size 0 z (fun _ => z) :=
  ⟨.map [], World.ownsMap_made w P k selfR, ⟨[], rfl⟩, fun x _ => by rw [Go.WideAt.atKey_none (.held z) (by simp)]⟩
theorem MapF.lt {P : Program} {k : TypeId} {w : World} {b n : Nat} {z : Value} {f : Lit → Value} (h : MapF P k w b n z f) : b < w.heap.size := by
  obtain ⟨D, h, _⟩ := h
  exact h.lt
theorem MapF.fr {P : Program} {k : TypeId} {w w' : World} {b n : Nat} {z : Value} {f : Lit → Value} {S : Nat → Prop} (h : MapF P k w b n z f) (hf : Fr S w w') (hS : ¬ S b) : MapF P k w' b n z f := by
  obtain ⟨D, ⟨es, clock, hb, hF, hn, hD⟩, h2, h3⟩ := h
  exact ⟨D, ⟨es, clock, by rw [hf.blk b (Array.getElem?_eq_some_iff.1 hb).1 hS]; exact hb, hF, hn, hD⟩, h2, h3⟩
theorem MapF.get {P : Program} {k t e : TypeId} {w : World} {b n : Nat} {z : Value} {f : Lit → Value} (h : MapF P k w b n z f) (K : Keyed P k) (ht : P.underlying t = some (.map k e)) (hz : (zeroValue e).run P w = .ok z w) {key : Value} {x : Lit} (hkey : keyOf P k key = some x) (hx : Go.WideAt.IsKeyLit x) :
    (Instr.lookup t (.map (some b)) key false).run P w = .ok (f x) w := by
  obtain ⟨D, h1, h2, h3⟩ := h
  obtain ⟨v, ps, hrun, hv⟩ := h1.lookup K ht hz (zd := .held z) (zp := []) rfl hkey
  rw [h3 x hx] at hv
  simp only [selfR, Option.some.injEq, Prod.mk.injEq, DataW.held.injEq] at hv
  rw [hrun, hv.1]
theorem MapF.set {P : Program} {k t e : TypeId} {w : World} {b n : Nat} {z : Value} {f : Lit → Value} (h : MapF P k w b n z f) (K : Keyed P k) (ht : P.underlying t = some (.map k e)) (hn : n < maxLen) {key : Value} {x : Lit} (val : Value) (hkey : keyOf P k key = some x) (hx : Go.WideAt.IsKeyLit x) :
    ∃ w', (Instr.mapUpdate t (.map (some b)) key val).run P w = .ok () w' ∧ MapF P k w' b (n + 1) z (upd f x val) ∧ Fr (fun j => j = b) w w' := by
  obtain ⟨D, h1, h2, h3⟩ := h
  obtain ⟨w', hrun, h', hg⟩ := h1.update K ht hn hkey (val := val) (d := .held val) (ps := []) rfl
  refine ⟨w', hrun, ⟨_, h', ?_, fun y hy => ?_⟩, (Fr.refl _ w).grown hg (fun j hj _ => by simpa using hj.symm)⟩
  · obtain ⟨es, clock, _, _, _, hD⟩ := h'
    exact ⟨_, hD⟩
  · by_cases e : y = x
    · subst e
      rw [Go.Maps.atKey_put_same h2 hx, upd_same]
    · rw [Go.Maps.atKey_put_other e, upd_ne _ _ e]
      exact h3 y hy
end Go.VB
namespace Go.VB.Cat
open Go.VB Go.VB.Oct
/-- how many different names (a list read from its end) -/
def cnt : List Bs → Nat
  | [] => 0
  | x :: l => cnt l + (if x ∈ l then 0 else 1)
theorem cnt_le : ∀ l : List Bs, cnt l ≤ l.length
  | [] => Nat.le_refl _
  | x :: l => by
    have := cnt_le l
    unfold cnt
    rw [List.length_cons]
    split <;> omega
theorem cnt_eq : ∀ l : List Bs, cnt l = l.length ↔ l.Nodup
  | [] => by simp [cnt]
  | x :: l => by
    have h1 := cnt_le l
    have h2 := cnt_eq l
    unfold cnt
    rw [List.length_cons, List.nodup_cons]
    by_cases hx : x ∈ l
    · rw [if_pos hx]
      exact ⟨fun h => by omega, fun h => absurd hx h.1⟩
    · rw [if_neg hx]
      exact ⟨fun h => ⟨hx, h2.1 (by omega)⟩, fun h => by rw [h2.2 h.2]⟩
theorem dup_cnt (l : List Bs) : dup l = decide (cnt l.reverse < l.length) := by
  unfold dup
  have h1 := cnt_le l.reverse
  have h2 := cnt_eq l.reverse
  rw [List.length_reverse] at h1 h2
  have h3 : l.reverse.Nodup ↔ l.Nodup := by
    unfold List.Nodup
    rw [List.pairwise_reverse]
    exact ⟨fun h => h.imp fun g => g.symm, fun h => h.imp fun g => g.symm⟩
  rw [h3] at h2
  by_cases h : l.Nodup
  · rw [decide_eq_false (fun g => g h), decide_eq_false]
    have := h2.2 h
    omega
  · rw [decide_eq_true h, decide_eq_true]
    have : cnt l.reverse ≠ l.length := fun e => h (h2.1 e)
    omega
end Go.VB.Cat
namespace Go.Proofs.YtiimomgbklgicaaGreat
open Go.RowKit Go.VB Go.VB.Oct Go.VB.Cat
attribute [local go_sem] Oper.semAt_some
/-- block b is a map whose keys are the names of L -/
def CntMap (w : World) (b : Nat) (L : List Bs) : Prop :=
  ∃ (D : DataW Value) (n : Nat), n ≤ L.length ∧ w.ownsMap Tryz.prog 9 selfR b n D ∧ Go.Maps.Tidy D ∧ (∀ x : Bs, Go.Maps.has D (.string x) = decide (x ∈ L)) ∧ Go.Maps.size D = cnt L ∧ ∀ x : Bs, ∃ v : Int, D.atKey (.string x) (.held (.int .i64 0)) = .held (.int .i64 v)
theorem CntMap.new (w : World) : CntMap (w.alloc (.map #[] 0)) w.heap.size [] :=
  ⟨.map [], 0, Nat.le_refl _, World.ownsMap_made w _ _ _, Go.Maps.tidy_empty, fun x => rfl, rfl, fun x => ⟨0, by rw [Go.WideAt.atKey_none _ (by simp)]⟩⟩
theorem CntMap.lt {w : World} {b : Nat} {L : List Bs} (h : CntMap w b L) : b < w.heap.size := by
  obtain ⟨D, n, _, h, _⟩ := h
  exact h.lt
theorem zero_int (w : World) : (zeroValue 3).run Tryz.prog w = .ok (.int .i64 0) w := by kernel_rfl
theorem key_str (x : Bs) (h : x.length ≤ 9223372036854775807) : keyOf Tryz.prog 9 (.string (bs x)) = some (.string x) := by
  have := Go.WideMaps.keyOf_string_mk (P := Tryz.prog) Tryz.underlying9 (s := bs x) (by rw [bs_size]; unfold maxLen; omega)
  rw [this]
  simp [bs]
theorem wpList_lookup_cnt {ops : Array Oper} {rest : List Oper} {o : Oper} {a : Act} {w : World} {Q : Exit → Act → World → Prop} (hg : o.guard = none) {m x : Operand} (hop : o.op = Op.lookup 276 m x false)
    {b : Nat} {L : List Bs} (hm : a.eval m = .map (some b)) (h : CntMap w b L) {s : Bs} (hs : s.length ≤ 9223372036854775807) (hx : a.eval x = .string (bs s))
    (hK : ∀ v : Int, wpList Tryz.prog ops Q rest (a.put o.dst (.int .i64 v)) w) : wpList Tryz.prog ops Q (o :: rest) a w := by
  refine wpList_plain hg fun K' hK' => ?_
  obtain ⟨D, n, hn, hD, ht, hh, hz, hv⟩ := h
  obtain ⟨v, ps, hrun, hvv⟩ := hD.lookup (Go.Maps.string_keyed Tryz.underlying9) Tryz.underlying276 (zero_int w) (zd := .held (.int .i64 0)) (zp := []) rfl (key_str s hs)
  obtain ⟨u, hu⟩ := hv s
  rw [hu] at hvv
  simp only [selfR, Option.some.injEq, Prod.mk.injEq, DataW.held.injEq] at hvv
  unfold Oper.wp
  simp [execOp, hop, hm, hx, hrun, Result.andThen]
  rw [hvv.1]
  exact hK' _ _ (hK u)
theorem wpList_update_cnt {ops : Array Oper} {rest : List Oper} {o : Oper} {a : Act} {w : World} {Q : Exit → Act → World → Prop} (hg : o.guard = none) {m x v : Operand} (hop : o.op = Op.mapUpdate 276 m x v)
    {b : Nat} {L : List Bs} (hm : a.eval m = .map (some b)) (h : CntMap w b L) (hL : L.length ≤ 1048576) {s : Bs} (hs : s.length ≤ 9223372036854775807) (hx : a.eval x = .string (bs s)) {u : Int} (hv : a.eval v = .int .i64 u)
    (hK : ∀ w', CntMap w' b (s :: L) → Fr (fun j => j = b) w w' → wpList Tryz.prog ops Q rest (a.put o.dst undef) w') : wpList Tryz.prog ops Q (o :: rest) a w := by
  refine wpList_plain hg fun K' hK' => ?_
  obtain ⟨D, n, hn, hD, ht, hh, hz, hat⟩ := h
  obtain ⟨w', hrun, hD', hgr⟩ := hD.update (Go.Maps.string_keyed Tryz.underlying9) Tryz.underlying276 (by unfold maxLen; omega) (key_str s hs) (val := .int .i64 u) (d := .held (.int .i64 u)) (ps := []) rfl
  unfold Oper.wp
  simp [execOp, hop, hm, hx, hv, hrun, Result.andThen]
  refine hK' _ _ (hK w' ⟨_, n + 1, by rw [List.length_cons]; omega, hD', ht.put (by trivial) _, fun y => ?_, ?_, fun y => ?_⟩ ((Fr.refl _ w).grown hgr (fun j hj _ => by simpa using hj.symm)))
  · by_cases e : y = s
    · subst e
      rw [Go.Maps.has_put_same ht.isMap (by trivial)]
      simp
    · rw [Go.Maps.has_put_other (by intro g; exact e (by cases g; rfl)), hh y]
      simp [e]
  · have hc : cnt (s :: L) = cnt L + (if s ∈ L then 0 else 1) := rfl
    rw [Go.Maps.size_put ht, hh s, hz, hc]
    by_cases e : s ∈ L
    · rw [if_pos e, decide_eq_true e]; rfl
    · rw [if_neg e, decide_eq_false e]; rfl
  · by_cases e : y = s
    · subst e
      exact ⟨u, by rw [Go.Maps.atKey_put_same ht.isMap (by trivial)]⟩
    · obtain ⟨z, hz2⟩ := hat y
      exact ⟨z, by rw [Go.Maps.atKey_put_other (by intro g; exact e (by cases g; rfl)), hz2]⟩
set_option maxRecDepth 20000 in
theorem twice_go {R : Nat → Prop} {w : World} {va : Value} {l : List Bs} (h : Sl R w va l.length (sv l)) (hR : ∀ k, R k → k < w.heap.size) (hn : l.length ≤ 1048576) (hs : ∀ s ∈ l, s.length ≤ 9223372036854775807) :
    Calls Tryz.prog 183 #[va] w fun e w' => e = .returned (.bool (dup l)) ∧ Fr (fun _ => False) w w' := by
  rw [dup_cnt]
  obtain ⟨a, c, rfl, hc, hx⟩ := h
  have HX := hid (show Sl R w (.slice a l.length c) l.length (sv l) from ⟨a, c, rfl, hc, hx⟩)
  clear hx
  have HRR := hid hR
  have HS := hid hs
  clear hR hs
  have F0 := hid ((Fr.refl (fun _ => False) w).alloc (.map #[] 0))
  have M0 := hid (CntMap.new w)
  have hmm := @run_makeMap Tryz.prog
  have hlast : ∀ w' D n, w'.ownsMap Tryz.prog 9 selfR w.heap.size n D → (Builtin.len_ #[276] 3 #[.map (some w.heap.size)]).run Tryz.prog w' = .ok (.int .i64 (Go.Maps.size D)) w' := fun w' D n (h : w'.ownsMap Tryz.prog 9 selfR w.heap.size n (D : DataW Value)) => h.len Tryz.underlying276 3
  have HLAST := hid hlast
  clear hlast
  go_enter Tryz.func183, Tryz.ntmps183
  go_upto_region 2 with fail
  clear hmm
  generalize hd : w.heap.size = d at *
  have HD := hid hd
  clear hd
  generalize w.alloc _ = W1 at *
  go_wp2_with (fail)
  go_loopw [9] (fun i wr => ∃ j : Nat, j ≤ l.length ∧ i = .int .i64 j ∧ CntMap wr d (l.take j).reverse ∧ Fr (fun _ => False) w wr) (fun i _ => l.length - (intOf i).toNat)
  case atStart => exact ⟨0, by omega, rfl, M0.out, F0.out⟩
  case round =>
    obtain ⟨j, hj, rfl, hm, fr⟩ := hrel
    have HM := hid hm
    have FR := hid fr
    clear hm fr M0 F0
    by_cases hjl : j < l.length
    · have i1 : (0 : Int) ≤ (j : Int) := by omega
      have i2 : (j : Int) < l.length := by omega
      have hsj := HS.out _ (List.getElem_mem hjl)
      have hne : sv l ≠ [] := by intro e; have := congrArg List.length e; simp [sv] at this; subst this; simp at hjl
      obtain ⟨_, _, he, _, hx⟩ := HX.out
      cases he
      obtain ⟨g, o, rfl, hg, hr⟩ := hx hne
      have HRG := HRR.out g hg
      have q0 : wr.cell? ⟨g, o + j, none⟩ = some (.string (bs l[j])) := cell_fr (hr j _ (by simp [sv, hjl])) FR.out (fun h => h)
      have HT := hid (show (l.take (j + 1)).reverse = l[j] :: (l.take j).reverse from by rw [List.take_succ_eq_append_getElem hjl]; simp)
      have HLL : (l.take j).reverse.length ≤ 1048576 := by rw [List.length_reverse, List.length_take]; omega
      generalize l[j] = s at *
      generalize (l.take j).reverse = L at *
      clear hx hr hne
      go_wp2_with (first
        | (refine wpList_lookup_cnt rfl (m := .tmp 13) (x := .tmp 14) rfl rfl HM.out hsj rfl ?_; intro v)
        | (refine wpList_update_cnt rfl (m := .tmp 13) (x := .tmp 14) (v := .tmp 16) rfl rfl HM.out HLL hsj rfl rfl ?_; intro wg hm2 fg; have HM2 := hid hm2; have FG := hid (FR.out.trans fg (fun k hk hl => by have := HD.out; omega)); clear hm2 fg))
      go_roundw
      case rel => exact ⟨j + 1, by omega, by go_num, by rw [HT.out]; exact HM2.out, FG.out⟩
      case measure => simp [intOf]; omega
    · obtain rfl : j = l.length := by omega
      rw [List.take_length] at HM
      obtain ⟨D, n, -, hD, -, -, hz, -⟩ := HM.out
      have hlen := HLAST.out wr D n hD
      rw [hz] at hlen
      obtain ⟨c2, hc2⟩ : ∃ c2, cnt l.reverse = c2 := ⟨_, rfl⟩
      rw [hc2] at hlen
      have HC2 := hid hc2
      clear HM HLAST hD hz hc2
      go_wp2_with (fail)
      go_ret
      exact ⟨ret_bool (by rw [HC2.out]), FR.out⟩
end Go.Proofs.YtiimomgbklgicaaGreat
namespace Go.VB.Cat
open Go.VB Go.VB.Oct
theorem pos_map {α β : Type} (f : α → β) (p : β → Bool) (l : List α) : pos p (l.map f) = pos (fun x => p (f x)) l := by
  rcases pos_cases (fun x => p (f x)) l with ⟨h1, h2⟩ | ⟨i, hi, h1, h2, h3⟩
  · rw [h1]
    refine pos_none fun y hy => ?_
    obtain ⟨x, hx, rfl⟩ := List.mem_map.1 hy
    exact h2 x hx
  · rw [h1]
    exact pos_at (by simpa using hi) (by simpa using h2) (fun j hj => by simpa using h3 j hj)
end Go.VB.Cat
namespace Go.Proofs.YtiimomgbklgicaaGreat
open Go.RowKit Go.VB Go.VB.Oct Go.VB.Cat Go.VB.Rec
/-- the blocks S, and those that were made between two worlds -/
def Ext (S : Nat → Prop) (w w' : World) (k : Nat) : Prop := S k ∨ (w.heap.size ≤ k ∧ k < w'.heap.size)
/-- a table's own blocks lie in S -/
structure TabO (S : Nat → Prop) (W : World) (t : TabV) : Prop where
  c : Row 171 2 0 W t.vc t.t.cols.length (t.t.cols.flatMap Col.cells)
  cS : ∀ k, t.vc.ownBlock = some k → S k
  i : Row 177 3 0 W t.vi t.ix.length (t.ix.flatMap IxV.cells)
  iS : ∀ k, t.vi.ownBlock = some k → S k
  e : t.t.ixs = t.ix.map IxV.x
  x : ∀ x ∈ t.ix, Row 3 1 0 W x.v x.x.cols.length (x.x.cols.flatMap icell) ∧ ∀ k, x.v.ownBlock = some k → S k
theorem TabO.fr {S U : Nat → Prop} {W W' : World} {t : TabV} (h : TabO S W t) (f : Fr U W W') (hU : ∀ k, S k → ¬ U k) : TabO S W' t :=
  ⟨h.c.fr f (fun k hk => hU k (h.cS k hk)), h.cS, h.i.fr f (fun k hk => hU k (h.iS k hk)), h.iS, h.e, fun x hx => ⟨(h.x x hx).1.fr f (fun k hk => hU k ((h.x x hx).2 k hk)), (h.x x hx).2⟩⟩
theorem TabO.mono {S T : Nat → Prop} {W : World} {t : TabV} (h : TabO S W t) (hT : ∀ k, S k → T k) : TabO T W t :=
  ⟨h.c, fun k hk => hT k (h.cS k hk), h.i, fun k hk => hT k (h.iS k hk), h.e, fun x hx => ⟨(h.x x hx).1, fun k hk => hT k ((h.x x hx).2 k hk)⟩⟩
/-- a catalog in block c, its slice v, its tables ts -/
structure CRv (tc : TypeId) (S : Nat → Prop) (W : World) (c : Nat) (v : Value) (ts : List TabV) : Prop where
  b : Blk W c [v] tc
  bS : S c
  r : Row 175 4 0 W v ts.length (ts.flatMap TabV.cells)
  rS : ∀ k, v.ownBlock = some k → S k
  t : ∀ t ∈ ts, TabO S W t
  dc : ts.Pairwise fun a b => ∀ k, a.vc.ownBlock = some k → b.vc.ownBlock ≠ some k
  di : ts.Pairwise fun a b => ∀ k, a.vi.ownBlock = some k → b.vi.ownBlock ≠ some k
  lt : ∀ k, S k → k < W.heap.size
theorem CRv.fr {tc : TypeId} {S U : Nat → Prop} {W W' : World} {c : Nat} {v : Value} {ts : List TabV} (h : CRv tc S W c v ts) (f : Fr U W W') (hU : ∀ k, S k → ¬ U k) : CRv tc S W' c v ts :=
  ⟨h.b.fr f (hU c h.bS), h.bS, h.r.fr f (fun k hk => hU k (h.rS k hk)), h.rS, fun t ht => (h.t t ht).fr f hU, h.dc, h.di, fun k hk => Nat.lt_of_lt_of_le (h.lt k hk) f.size⟩
theorem CRv.fre {tc : TypeId} {S : Nat → Prop} {W W' : World} {c : Nat} {v : Value} {ts : List TabV} (h : CRv tc S W c v ts) (f : Fr (fun _ => False) W W') : CRv tc S W' c v ts := h.fr f (fun _ _ h => h)
theorem CRv.mono {tc : TypeId} {S T : Nat → Prop} {W : World} {c : Nat} {v : Value} {ts : List TabV} (h : CRv tc S W c v ts) (hT : ∀ k, S k → T k) (hl : ∀ k, T k → k < W.heap.size) : CRv tc T W c v ts :=
  ⟨h.b, hT c h.bS, h.r, fun k hk => hT k (h.rS k hk), fun t ht => (h.t t ht).mono hT, h.dc, h.di, hl⟩
/-- a catalog that is the model m -/
def CR (tc : TypeId) (S : Nat → Prop) (W : World) (c : Nat) (m : List Tab) : Prop := ∃ v ts, CRv tc S W c v ts ∧ ts.map TabV.t = m
theorem CR.fr {tc : TypeId} {S U : Nat → Prop} {W W' : World} {c : Nat} {m : List Tab} (h : CR tc S W c m) (f : Fr U W W') (hU : ∀ k, S k → ¬ U k) : CR tc S W' c m := by
  obtain ⟨v, ts, h, e⟩ := h
  exact ⟨v, ts, h.fr f hU, e⟩
theorem CR.fre {tc : TypeId} {S : Nat → Prop} {W W' : World} {c : Nat} {m : List Tab} (h : CR tc S W c m) (f : Fr (fun _ => False) W W') : CR tc S W' c m := h.fr f (fun _ _ h => h)
theorem CR.ext {tc : TypeId} {S : Nat → Prop} {W W' : World} {c : Nat} {m : List Tab} (h : CR tc S W c m) (f : Fr (fun _ => False) W W') : CR tc (Ext S W W') W' c m := by
  obtain ⟨v, ts, h, e⟩ := h
  exact ⟨v, ts, (h.fre f).mono (fun k hk => .inl hk) (fun k hk => hk.elim (fun hk => Nat.lt_of_lt_of_le (h.lt k hk) f.size) (fun hk => hk.2)), e⟩
theorem New_go (w : World) : Calls Tryz.prog 114 #[] w fun e w' => e = .returned (.pointer (some ⟨w.heap.size, 0, none⟩)) ∧ CR 225 (fun k => k = w.heap.size) w' w.heap.size [] ∧ Fr (fun _ => False) w w' := by
  have F1 := hid ((Fr.refl (fun _ => False) w).alloc (.cells #[.slice none 0 0] 225))
  have B1 := hid (Blk.new w [.slice none 0 0] 225)
  go_enter Tryz.func114, Tryz.ntmps114
  go_wp2_with (fail)
  go_ret
  exact ⟨rfl, ⟨_, [], ⟨B1.out, rfl, Row.nil, fun k hk => by simp [Value.ownBlock] at hk, fun t ht => by simp at ht, List.Pairwise.nil, List.Pairwise.nil, fun k hk => by subst hk; exact B1.out.lt⟩, rfl⟩, F1.out⟩
set_option maxRecDepth 20000 in
theorem find_go {S : Nat → Prop} {w : World} {c : Nat} {v : Value} {ts : List TabV} (h : CRv 225 S w c v ts) (hl : ts.length ≤ 1048576) (n : Bs) :
    Calls Tryz.prog 184 #[.pointer (some ⟨c, 0, none⟩), .string (bs n)] w fun e w' => e = .returned (.int .i64 (find (ts.map TabV.t) n)) ∧ Fr (fun _ => False) w w' := by
  have F1 := hid ((Fr.refl (fun _ => False) w).alloc (.cells #[.string (bs n)] 9))
  have c0 : (w.alloc (.cells #[.string (bs n)] 9)).cell? ⟨c, 0, none⟩ = some v := (h.b.fr F1.out (fun h => h)).cell 0
  have B1 := hid (Blk.new w [.string (bs n)] 9)
  have HI := hid (IndexFunc_find (cv := .pointer (some ⟨w.heap.size, 0, none⟩)) (p := fun t : TabV => t.t.name == n) (h.r.fre F1.out).sl (by omega) (fun x _ w' f => find1_go x n w.heap.size (cell_fr (B1.out.cell 0) f (fun h => h))))
  have HF := hid (show pos (fun t : TabV => t.t.name == n) ts = find (ts.map TabV.t) n from (pos_map TabV.t (fun t => t.name == n) ts).symm)
  rw [HF.out] at HI
  generalize find (ts.map TabV.t) n = z at *
  clear h HF
  go_enter Tryz.func184, Tryz.ntmps184
  go_wp2_with (go_at_call 194; refine HI.out.mono ?_; rintro e w1 ⟨rfl, f⟩; have F2 := hid (F1.out.trans f (fun _ h _ => h)); clear f)
  go_ret
  exact ⟨rfl, F2.out⟩
end Go.Proofs.YtiimomgbklgicaaGreat
namespace Go.VB.Cat
open Go.VB Go.VB.Oct
/-- a statement with its slices and the fields that the catalog does not read -/
structure StV where
  s : St
  oc : Option Addr
  cc : Nat
  on : Option Addr
  cn : Nat
  a5 : Option Addr
  n5 : Nat
  c5 : Nat
  a6 : Option Addr
  n6 : Nat
  c6 : Nat
  a7 : Option Addr
  n7 : Nat
  c7 : Nat
  y9 : ByteArray
  y10 : ByteArray
  i11 : Int
  a12 : Option Addr
  n12 : Nat
  c12 : Nat
  i13 : Int
  i14 : Int
def StV.cells (t : StV) : List Value := [.int .i64 t.s.kind, .string (bs t.s.table), .string (bs t.s.name), .slice t.oc t.s.cols.length t.cc, .slice t.on t.s.names.length t.cn, .slice t.a5 t.n5 t.c5, .slice t.a6 t.n6 t.c6, .slice t.a7 t.n7 t.c7, .string (bs t.s.join), .string t.y9, .string t.y10, .int .i64 t.i11, .slice t.a12 t.n12 t.c12, .int .i64 t.i13, .int .i64 t.i14]
end Go.VB.Cat
namespace Go.Proofs.YtiimomgbklgicaaGreat
open Go.RowKit Go.VB Go.VB.Oct Go.VB.Cat Go.VB.Rec
/-- a statement's slices lie in blocks of P -/
structure StR (P : Nat → Prop) (W : World) (t : StV) : Prop where
  c : Sl P W (.slice t.oc t.s.cols.length t.cc) t.s.cols.length (t.s.cols.flatMap Col.cells)
  n : Sl P W (.slice t.on t.s.names.length t.cn) t.s.names.length (sv t.s.names)
  lc : t.s.cols.length ≤ 1048576
  ln : t.s.names.length ≤ 1048576
  sc : ∀ c ∈ t.s.cols, c.name.length ≤ 9223372036854775807
  sn : ∀ n ∈ t.s.names, n.length ≤ 9223372036854775807
theorem StR.fr {P U : Nat → Prop} {W W' : World} {t : StV} (h : StR P W t) (f : Fr U W W') (hU : ∀ k, P k → ¬ U k) : StR P W' t := ⟨h.c.fr f hU, h.n.fr f hU, h.lc, h.ln, h.sc, h.sn⟩
theorem StR.fre {P : Nat → Prop} {W W' : World} {t : StV} (h : StR P W t) (f : Fr (fun _ => False) W W') : StR P W' t := h.fr f (fun _ _ h => h)
theorem createE_eq (m : List Tab) (s : St) : createE m s = if named s.table = false ∨ s.cols.length < 1 ∨ 6 < s.cols.length ∨ (s.cols.map Col.name).any (fun n => !named n) = true then 1 else if s.cols.any (fun c => c.kind != 1 && c.kind != 2) = true then 52 else if dup (s.cols.map Col.name) = true ∨ 0 ≤ find m s.table then 51 else if 8 ≤ m.length then 2 else 0 := by
  unfold createE
  rw [List.any_map]
  rfl
theorem create_err {m : List Tab} {s : St} {e : Int} (h : createE m s = e) (he : e ≠ 0) : create m s = (m, e) := by
  unfold create
  rw [h, if_neg he]
/-- an end with an error -/
theorem create_fin {S : Nat → Prop} {w w' : World} {c : Nat} {v : Value} {ts : List TabV} (h : CRv 225 S w c v ts) {s : St} {e : Int} (he : createE (ts.map TabV.t) s = e) (h0 : e ≠ 0) (f : Fr (fun _ => False) w w') :
    Ending.returned (.int .i64 e) = .returned (.int .i64 (create (ts.map TabV.t) s).2) ∧ CR 225 (Ext S w w') w' c (create (ts.map TabV.t) s).1 ∧ Fr S w w' := by
  rw [create_err he h0]
  exact ⟨rfl, CR.ext ⟨v, ts, h, rfl⟩ f, f.mono (fun _ h _ => h.elim)⟩
theorem info_tab : (Tryz.prog.info? 175).map (fun i => (i.zero, i.size, i.bytes)) = some (some (.agg #[.int .i64 0, .string .empty, .slice none 0 0, .slice none 0 0]), 4, 72) := by kernel_rfl
theorem row_blk {e : TypeId} {size B n : Nat} {W : World} {v : Value} {xs : List Value} (h : Row e size B W v n xs) {k : Nat} (hk : v.ownBlock = some k) : ∃ l, Blk W k l e := by
  rcases h.own.2 with ⟨rfl, _⟩ | ⟨g, cap, cur, rfl, hb, hgg, _⟩
  · simp [Value.ownBlock] at hk
  · simp [Value.ownBlock] at hk
    subst hk
    exact ⟨cur.toList, by unfold Blk; simpa using hgg⟩
theorem rows_ne {e e' : TypeId} {size size' B B' n n' : Nat} {W : World} {v v' : Value} {xs xs' : List Value} (h : Row e size B W v n xs) (h' : Row e' size' B' W v' n' xs') (hne : e' ≠ e) : ∀ k, v.ownBlock = some k → v'.ownBlock ≠ some k := by
  intro k hk hk'
  obtain ⟨l, hb⟩ := row_blk h' hk'
  exact h.ne hb hne k hk rfl
/-- a table's blocks behind an append to the tables and a store into the catalog -/
theorem TabO.shift {S U : Nat → Prop} {W Wg W' : World} {c n : Nat} {v : Value} {lc xs : List Value} {t : TabV} (h : TabO S W t) (hU : ∀ k, S k → U k) (rv : Row 175 4 0 W v n xs) (fg : Fr (fun k => v.ownBlock = some k) W Wg)
    (bg : Blk Wg c lc 225) (fs : Fr (fun k => k = c) Wg W') : TabO U W' t := by
  have hc := h.c.fr fg (rows_ne h.c rv (by decide))
  have hi := h.i.fr fg (rows_ne h.i rv (by decide))
  refine ⟨hc.fr fs (fun k hk e => hc.ne bg (by decide) k hk e), fun k hk => hU k (h.cS k hk), hi.fr fs (fun k hk e => hi.ne bg (by decide) k hk e), fun k hk => hU k (h.iS k hk), h.e, fun x hx => ?_⟩
  have hx1 := (h.x x hx).1.fr fg (rows_ne (h.x x hx).1 rv (by decide))
  exact ⟨hx1.fr fs (fun k hk e => hx1.ne bg (by decide) k hk e), fun k hk => hU k ((h.x x hx).2 k hk)⟩
/-- the end of create -/
theorem create_end {S : Nat → Prop} {w w8 wg : World} {c : Nat} {v vc v' : Value} {ts : List TabV} {s : St} (h : CRv 225 S w c v ts) (he : createE (ts.map TabV.t) s = 0) (f1 : Fr (fun _ => False) w w8)
    (rc : Row 171 2 w.heap.size w8 vc s.cols.length (s.cols.flatMap Col.cells)) (app : App 175 4 0 w8 wg v v' ts.length (ts.flatMap TabV.cells) [.int .i64 ((ts.length : Int) + 1), .string (bs s.table), vc, .slice none 0 0]) :
    CR 225 (Ext S w (wg.setCell ⟨c, 0, none⟩ v')) (wg.setCell ⟨c, 0, none⟩ v') c (create (ts.map TabV.t) s).1 ∧ Fr S w (wg.setCell ⟨c, 0, none⟩ v') := by
  have h8 := h.fre f1
  have fg := app.fr
  have ncv := h8.r.ne h8.b (by decide)
  have bg := Blk.fr h8.b fg (fun hk => ncv c hk rfl)
  have fs := (Fr.refl (fun k => k = c) wg).setCell ⟨c, 0, none⟩ v' (fun _ => rfl)
  have b' := bg.set 0 v'
  have nc' := app.row.ne bg (by decide)
  have z1 := f1.size
  have z2 := fg.size
  have z3 := fs.size
  have hF : Fr S w (wg.setCell ⟨c, 0, none⟩ v') := ((f1.mono (fun _ h _ => h.elim)).trans fg (fun k hk _ => h.rS k hk)).trans fs (fun k hk _ => by rw [hk]; exact h.bS)
  refine ⟨⟨v', ts ++ [⟨⟨(ts.length : Int) + 1, s.table, s.cols, []⟩, vc, .slice none 0 0, []⟩], ⟨b', .inl h.bS, ?_, ?_, ?_, ?_, ?_, ?_⟩, ?_⟩, hF⟩
  · exact (app.row.cast (by simp) (by simp [TabV.cells])).fr fs (fun k hk e => nc' k hk e)
  · intro k hk
    rcases app.at_ k hk with g | g
    · exact .inl (h.rS k g)
    · have := app.row.lt hk
      exact .inr ⟨by omega, by omega⟩
  · intro t ht
    rcases List.mem_append.1 ht with g | g
    · exact (h8.t t g).shift (fun k hk => .inl hk) h8.r fg bg fs
    · rw [List.mem_singleton.1 g]
      have hc := (rc.low (Nat.zero_le _)).fr fg (rows_ne rc h8.r (by decide))
      refine ⟨hc.fr fs (fun k hk e => hc.ne bg (by decide) k hk e), fun k hk => .inr ⟨rc.new k hk, ?_⟩, Row.nil, fun k hk => by simp [Value.ownBlock] at hk, rfl, fun x hx => by simp at hx⟩
      have := rc.lt hk
      omega
  · rw [List.pairwise_append]
    refine ⟨h.dc, List.pairwise_singleton _ _, fun a ha b hb k hk hk2 => ?_⟩
    rw [List.mem_singleton.1 hb] at hk2
    have h1 := h.lt k ((h.t a ha).cS k hk)
    have h2 := rc.new k hk2
    omega
  · rw [List.pairwise_append]
    refine ⟨h.di, List.pairwise_singleton _ _, fun a ha b hb k hk hk2 => ?_⟩
    rw [List.mem_singleton.1 hb] at hk2
    simp [Value.ownBlock] at hk2
  · intro k hk
    rcases hk with g | g
    · have := h.lt k g; omega
    · exact g.2
  · unfold create
    rw [if_pos he]
    simp
theorem sv_scell (l : List Bs) : sv l = l.flatMap scell := (sv_flat l).symm
set_option maxRecDepth 20000 in
set_option maxHeartbeats 4000000 in
theorem create_go {S P : Nat → Prop} {w : World} {c : Nat} {v : Value} {ts : List TabV} (h : CRv 225 S w c v ts) (hl : ts.length ≤ 8) {t : StV} (hs : StR P w t) (root : Int) :
    Calls Tryz.prog 167 #[.pointer (some ⟨c, 0, none⟩), .agg t.cells.toArray, .int .i64 root] w fun e w' => e = .returned (.int .i64 (create (ts.map TabV.t) t.s).2) ∧ CR 225 (Ext S w w') w' c (create (ts.map TabV.t) t.s).1 ∧ Fr S w w' := by
  obtain ⟨⟨kind, table, name, cols, names, join⟩, oc, cc, on, cn, a5, n5, c5, a6, n6, c6, a7, n7, c7, y9, y10, i11, a12, n12, c12, i13, i14⟩ := t
  have HC := hid h
  have HSC := hid hs.c
  have hlc := hs.lc
  have HSS := hid hs.sc
  have HE := hid (createE_eq (ts.map TabV.t) ⟨kind, table, name, cols, names, join⟩)
  unfold StV.cells
  dsimp only at HSC hlc HSS HE ⊢
  clear h hs
  have F1 := hid ((Fr.refl (fun _ => False) w).alloc (.cells #[.int .i64 kind, .string (bs table), .string (bs name), .slice oc cols.length cc, .slice on names.length cn, .slice a5 n5 c5, .slice a6 n6 c6, .slice a7 n7 c7, .string (bs join), .string y9, .string y10, .int .i64 i11, .slice a12 n12 c12, .int .i64 i13, .int .i64 i14] 90))
  have B1 := hid (Blk.new w [.int .i64 kind, .string (bs table), .string (bs name), .slice oc cols.length cc, .slice on names.length cn, .slice a5 n5 c5, .slice a6 n6 c6, .slice a7 n7 c7, .string (bs join), .string y9, .string y10, .int .i64 i11, .slice a12 n12 c12, .int .i64 i13, .int .i64 i14] 90)
  go_enter Tryz.func167, Tryz.ntmps167
  go_upto_region 1 with fail
  have HB := hid (show w.heap.size ≤ w.heap.size from Nat.le_refl _)
  generalize hd : w.heap.size = d at *
  have HD := hid hd
  clear hd HB
  generalize w.alloc _ = W1 at *
  have HN := hid (names_go (HSC.out.fr F1.out (fun _ _ h => h)) hlc)
  obtain ⟨q1, q3⟩ : W1.cell? ⟨d, 1, none⟩ = some (.string (bs table)) ∧ W1.cell? ⟨d, 3, none⟩ = some (.slice oc cols.length cc) := ⟨B1.out.cell 1, B1.out.cell 3⟩
  go_upto_region 2 with (go_at_call 177; refine HN.out.mono ?_; rintro e w2 ⟨vl, rfl, hr, f⟩; obtain ⟨al, cl, rfl, _⟩ := hr.slice; have HR := hid hr; have F2 := hid (F1.out.trans f (fun _ h _ => h)); have B2 := hid (Blk.fr B1.out f (fun h => h)); clear hr f)
  clear q1 q3 HN B1 F1
  have HRS : Hid (Row 9 1 W1.heap.size w2 (.slice al cols.length cl) (cols.map Col.name).length ((cols.map Col.name).flatMap scell)) := hid (HR.out.cast (by rw [List.length_map]) (sv_scell _))
  have HNM := hid (named_go table)
  have HCN := hid (ContainsFunc_named (cv := .int .i64 0) (p := fun s => !named s) HRS.out.sl (by rw [List.length_map]; omega) (fun x _ w' _ => create1_go x w'))
  have q1 : w2.cell? ⟨d, 1, none⟩ = some (.string (bs table)) := B2.out.cell 1
  obtain ⟨nt, hnt⟩ : ∃ b, named table = b := ⟨_, rfl⟩
  obtain ⟨pa, hpa⟩ : ∃ b, (cols.map Col.name).any (fun n => !named n) = b := ⟨_, rfl⟩
  rw [hnt] at HNM
  rw [hpa] at HCN
  rw [hnt, hpa] at HE
  clear hnt hpa
  cases nt with
  | false =>
    have HX := hid (HE.out.trans (if_pos (.inl rfl)))
    clear HE HCN
    go_wp2_with (go_at_call 178; refine (HNM.out _).mono ?_; rintro e w3 ⟨rfl, rfl⟩)
    go_ret
    exact create_fin HC.out HX.out (by decide) F2.out
  | true =>
    by_cases hl1 : cols.length < 1
    · have HX := hid (HE.out.trans (if_pos (.inr (.inl hl1))))
      have i1 : (cols.length : Int) < 1 := by omega
      clear HE HCN
      go_wp2_with (go_at_call 178; refine (HNM.out _).mono ?_; rintro e w3 ⟨rfl, rfl⟩)
      go_ret
      exact create_fin HC.out HX.out (by decide) F2.out
    · by_cases hl6 : 6 < cols.length
      · have HX := hid (HE.out.trans (if_pos (.inr (.inr (.inl hl6)))))
        have i1 : ¬ (cols.length : Int) < 1 := by omega
        have i2 : (6 : Int) < (cols.length : Int) := by omega
        clear HE HCN
        go_wp2_with (go_at_call 178; refine (HNM.out _).mono ?_; rintro e w3 ⟨rfl, rfl⟩)
        go_ret
        exact create_fin HC.out HX.out (by decide) F2.out
      · have i1 : ¬ (cols.length : Int) < 1 := by omega
        have i2 : ¬ (6 : Int) < (cols.length : Int) := by omega
        cases pa with
        | true =>
          have HX := hid (HE.out.trans (if_pos (.inr (.inr (.inr rfl)))))
          clear HE
          go_wp2_with (first
            | (go_at_call 178; refine (HNM.out _).mono ?_; rintro e w3 ⟨rfl, rfl⟩)
            | (go_at_call 179; refine HCN.out.mono ?_; rintro e w4 ⟨rfl, f⟩; have F3 := hid (F2.out.trans f (fun _ h _ => h)); clear f))
          go_ret
          exact create_fin HC.out HX.out (by decide) F3.out
        | false =>
          have HE2 := hid (HE.out.trans (if_neg (by rintro (h | h | h | h) <;> first | cases h | omega)))
          clear HE
          go_upto_region 4 with (first
            | (go_at_call 178; refine (HNM.out _).mono ?_; rintro e w3 ⟨rfl, rfl⟩)
            | (go_at_call 179; refine HCN.out.mono ?_; rintro e w4 ⟨rfl, f⟩; have F3 := hid (F2.out.trans f (fun _ h _ => h)); have B3 := hid (Blk.fr B2.out f (fun h => h)); have HR3 := hid (HR.out.fre f); clear f))
          clear HNM HCN q1 B2 HRS HR F2
          have q3 : w4.cell? ⟨d, 3, none⟩ = some (.slice oc cols.length cc) := B3.out.cell 3
          have HK := hid (ContainsFunc_kind (cv := .int .i64 0) (p := fun c => c.kind != 1 && c.kind != 2) (HSC.out.fr F3.out (fun _ _ h => h)) (by omega) (fun x _ w' _ => create2_go x w'))
          obtain ⟨pk, hpk⟩ : ∃ b, cols.any (fun c => c.kind != 1 && c.kind != 2) = b := ⟨_, rfl⟩
          rw [hpk] at HK HE2
          clear hpk
          cases pk with
          | true =>
            have HX := hid (HE2.out.trans (if_pos rfl))
            clear HE2
            go_wp2_with (go_at_call 181; refine HK.out.mono ?_; rintro e w5 ⟨rfl, f⟩; have F4 := hid (F3.out.trans f (fun _ h _ => h)); clear f)
            go_ret
            exact create_fin HC.out HX.out (by decide) F4.out
          | false =>
            have HE3 := hid (HE2.out.trans (if_neg (by decide)))
            clear HE2
            go_upto_region 6 with (go_at_call 181; refine HK.out.mono ?_; rintro e w5 ⟨rfl, f⟩; have F4 := hid (F3.out.trans f (fun _ h _ => h)); have B4 := hid (Blk.fr B3.out f (fun h => h)); have HR4 := hid (HR3.out.fre f); clear f)
            clear HK q3 B3 HR3 F3
            have HTW := hid (twice_go (l := cols.map Col.name) (R := fun k => k < w5.heap.size) (by
              have := own_sl HR4.out.own (R := fun k => k < w5.heap.size) (fun k hk => HR4.out.lt hk)
              rw [List.length_map]; exact this) (fun _ h => h) (by rw [List.length_map]; exact hlc) (fun s hs => by
                obtain ⟨x, hx, rfl⟩ := List.mem_map.1 hs
                exact HSS.out x hx))
            have HFI := hid (fun w' (f : Fr (fun _ => False) w5 w') => find_go (HC.out.fre (F4.out.trans f (fun _ h _ => h))) (by omega) table)
            obtain ⟨dp, hdp⟩ : ∃ b, dup (cols.map Col.name) = b := ⟨_, rfl⟩
            obtain ⟨z, hz⟩ : ∃ z, find (ts.map TabV.t) table = z := ⟨_, rfl⟩
            rw [hdp] at HTW HE3
            rw [hz] at HFI HE3
            have HZ := hid hz
            have HDP := hid hdp
            clear hdp hz
            cases dp with
            | true =>
              have HX := hid (HE3.out.trans (if_pos (.inl rfl)))
              clear HE3
              go_wp2_with (go_at_call 183; refine HTW.out.mono ?_; rintro e w6 ⟨rfl, f⟩; have F5 := hid (F4.out.trans f (fun _ h _ => h)); clear f)
              go_ret
              exact create_fin HC.out HX.out (by decide) F5.out
            | false =>
              by_cases hz0 : 0 ≤ z
              · have HX := hid (HE3.out.trans (if_pos (.inr hz0)))
                clear HE3
                go_wp2_with (first
                  | (go_at_call 183; refine HTW.out.mono ?_; rintro e w6 ⟨rfl, f⟩; have q1 := (Blk.fr B4.out f (fun h => h)).cell 1; have F5 := hid f; clear f)
                  | (go_at_call 184; refine (HFI.out _ F5.out).mono ?_; rintro e w7 ⟨rfl, f⟩; have F6 := hid ((F4.out.trans F5.out (fun _ h _ => h)).trans f (fun _ h _ => h)); clear f))
                go_ret
                exact create_fin HC.out HX.out (by decide) F6.out
              · have HE4 := hid (HE3.out.trans (if_neg (by rintro (h | h) <;> first | cases h | omega)))
                clear HE3
                go_upto_region 8 with (first
                  | (go_at_call 183; refine HTW.out.mono ?_; rintro e w6 ⟨rfl, f⟩; have q1 := (Blk.fr B4.out f (fun h => h)).cell 1; have F5 := hid f; clear f)
                  | (go_at_call 184; refine (HFI.out _ F5.out).mono ?_; rintro e w7 ⟨rfl, f⟩; have F6 := hid (F5.out.trans f (fun _ h _ => h)); clear f))
                have HC7 := hid (HC.out.fre (F4.out.trans F6.out (fun _ h _ => h)))
                have B7 := hid (Blk.fr B4.out F6.out (fun h => h))
                have F7 := hid (F4.out.trans F6.out (fun _ h _ => h))
                clear HTW HFI HZ HDP q1 F5 F6 B4 HR4 F4
                obtain ⟨av, cv, rfl, hcap⟩ := HC.out.r.slice
                have k0 : w7.cell? ⟨c, 0, none⟩ = some (.slice av ts.length cv) := HC7.out.b.cell 0
                rw [List.length_map] at HE4
                by_cases h8 : ts.length = 8
                · have HX := hid (HE4.out.trans (if_pos (by omega)))
                  have i3 : ((ts.length : Int) == 8) = true := by simp [h8]
                  clear HE4 h8
                  go_wp2_with (fail)
                  go_ret
                  exact create_fin HC.out HX.out (by decide) F7.out
                · have HX := hid (HE4.out.trans (if_neg (by omega)))
                  have i3 : ((ts.length : Int) == 8) = false := by rw [beq_eq_false_iff_ne]; omega
                  clear HE4 h8
                  go_upto_region 10 with fail
                  have fd := (Fr.refl (fun _ => False) w7).drew
                  have F8 := hid (F7.out.trans fd (fun _ h _ => h))
                  have HC8 := hid (HC7.out.fre fd)
                  have B8 := hid (Blk.fr B7.out fd (fun h => h))
                  have HCL := hid (Clone_col (HSC.out.fr F8.out (fun _ _ h => h)) hlc)
                  clear fd k0 F7 HC7 B7
                  refine wp_region_scr (.take 0 (.take 1 (.take 2 (.take 3 (.take 4 (.take 5 (.take 6 (.take 7 (.take 8 (.take 9 (.take 10 (.take 11 (.take 12 (.take 13 (.op 14 (.op 15 (.op 16 (.op 17 (.take 18 .done))))))))))))))))))) (fun kz w => (kz ≤ 18 → w.cell? ⟨c, 0, none⟩ = some (.slice av ts.length cv) ∧ w.cell? ⟨d, 1, none⟩ = some (.string (bs table)) ∧ w.cell? ⟨d, 3, none⟩ = some (.slice oc cols.length cc)) ∧ True) (by kernel_rfl) (by kernel_rfl) (by intro c a d v w h; cases d <;> exact h) ?_
                  repeat
                    first
                    | (refine wpT_pure rfl rfl rfl ?_; apply Exists.intro; refine ⟨?_, ?_⟩; intro w; (first | (obtain ⟨qa1, qa2, qa3⟩ := qa; go_simp <;> rfl) | (go_simp <;> rfl)); simp only [Act.put, List.setIfInBounds_toArray, List.set_cons_zero, List.set_cons_succ])
                    | (refine wpT_take 18 rfl rfl (by decide +kernel) ⟨fun _ => ⟨HC8.out.b.cell 0, B8.out.cell 1, B8.out.cell 3⟩, trivial⟩ ?_; apply Exists.intro; refine ⟨?_, ?_⟩; intro w hw; (have qa := hw.1 (Nat.le_refl _); have qb := hw.2); (first | (obtain ⟨qa1, qa2, qa3⟩ := qa; go_simp <;> rfl) | (go_simp <;> rfl)); simp only [Act.put, List.setIfInBounds_toArray, List.set_cons_zero, List.set_cons_succ])
                    | (refine wpT_skip rfl rfl ?_; simp only [Act.put, List.setIfInBounds_toArray, List.set_cons_zero, List.set_cons_succ])
                  refine wpT_op rfl ?_
                  go_wp2_with ((go_at_call 164; refine HCL.out.mono ?_; rintro e w8 ⟨v8, rfl, hr, f⟩; obtain ⟨a8, c8, rfl, _⟩ := hr.slice; have HR8 := hid (hr.low (A := w.heap.size) F8.out.size); have F9 := hid (F8.out.trans f (fun _ h _ => h)); have HC9 := hid (HC8.out.fre f); have B9 := hid (Blk.fr B8.out f (fun h => h)); clear hr f))
                  (refine ⟨?_, ?_⟩; focus (intro kz hk hk2 hh; first | (exfalso; simp at hk2; omega) | exact hh | exact (fun h => absurd h (by omega)) | obtain ⟨qa, qb⟩ := hh; first | exact ⟨qa, qb⟩ | (refine ⟨fun h => absurd h (by omega), ?_⟩; first | exact qb | (exact ⟨HC9.out.b.cell 0, B9.out.cell 1, B9.out.cell 3⟩)) | (refine ⟨fun h => ?_, ?_⟩; (have qa := qa h); all_goals (first | exact qa | exact qb | (exact ⟨HC9.out.b.cell 0, B9.out.cell 1, B9.out.cell 3⟩)))))
                  refine wpT_op rfl ?_
                  go_wp2_with (fail)
                  (refine ⟨?_, ?_⟩; focus (intro kz hk hk2 hh; first | (exfalso; simp at hk2; omega) | exact hh | exact (fun h => absurd h (by omega)) | obtain ⟨qa, qb⟩ := hh; first | exact ⟨qa, qb⟩ | (refine ⟨fun h => absurd h (by omega), ?_⟩; first | exact qb | (exact ⟨HC9.out.b.cell 0, B9.out.cell 1, B9.out.cell 3⟩)) | (refine ⟨fun h => ?_, ?_⟩; (have qa := qa h); all_goals (first | exact qa | exact qb | (exact ⟨HC9.out.b.cell 0, B9.out.cell 1, B9.out.cell 3⟩)))))
                  have FA := hid (fun o => (Fr.refl (fun _ => False) w8).alloc o)
                  refine wpT_op rfl ?_
                  go_wp2_with (fail)
                  (refine ⟨?_, ?_⟩; focus (intro kz hk hk2 hh; first | (exfalso; simp at hk2; omega) | exact hh | exact (fun h => absurd h (by omega)) | obtain ⟨qa, qb⟩ := hh; first | exact ⟨qa, qb⟩ | (refine ⟨fun h => absurd h (by omega), ?_⟩; first | exact qb | (exact ⟨(HC9.out.fre (FA.out _)).b.cell 0, (Blk.fr B9.out (FA.out _) (fun h => h)).cell 1, (Blk.fr B9.out (FA.out _) (fun h => h)).cell 3⟩)) | (refine ⟨fun h => ?_, ?_⟩; (have qa := qa h); all_goals (first | exact qa | exact qb | (exact ⟨(HC9.out.fre (FA.out _)).b.cell 0, (Blk.fr B9.out (FA.out _) (fun h => h)).cell 1, (Blk.fr B9.out (FA.out _) (fun h => h)).cell 3⟩)))))
                  have HNC := hid (HC9.out.r.ne HC9.out.b (by decide))
                  have HND := hid (HC9.out.r.ne B9.out (by decide))
                  refine wpT_op rfl ?_
                  go_wp2_with ((at_builtin; refine wpList_app1 rfl (s := .tmp 55) (x := .tmp 68) (t := 81) rfl Tryz.underlying81 info_tab rfl rfl rfl HC9.out.r (Nat.zero_le _) rfl (by simp [Value.oneCell']) (by omega) (by omega) ?_; intro ab ac wg APP; have HG := hid APP; have BC := hid (Blk.fr HC9.out.b APP.fr (fun hk => HNC.out _ hk rfl)); have BD := hid (Blk.fr B9.out APP.fr (fun hk => HND.out _ hk rfl)); clear APP))
                  (refine ⟨?_, ?_⟩; focus (intro kz hk hk2 hh; first | (exfalso; simp at hk2; omega) | exact hh | exact (fun h => absurd h (by omega)) | obtain ⟨qa, qb⟩ := hh; first | exact ⟨qa, qb⟩ | (refine ⟨fun h => absurd h (by omega), ?_⟩; first | exact qb | (exact ⟨BC.out.cell 0, BD.out.cell 1, BD.out.cell 3⟩)) | (refine ⟨fun h => ?_, ?_⟩; (have qa := qa h); all_goals (first | exact qa | exact qb | (exact ⟨BC.out.cell 0, BD.out.cell 1, BD.out.cell 3⟩)))))
                  repeat
                    first
                    | (refine wpT_pure rfl rfl rfl ?_; apply Exists.intro; refine ⟨?_, ?_⟩; intro w; ((go_simp <;> rfl)); simp only [Act.put, List.setIfInBounds_toArray, List.set_cons_zero, List.set_cons_succ])
                    | (refine wpT_take 18 rfl rfl (by decide +kernel) ⟨fun _ => ⟨BC.out.cell 0, BD.out.cell 1, BD.out.cell 3⟩, trivial⟩ ?_; apply Exists.intro; refine ⟨?_, ?_⟩; intro w hw; (have qa := hw.1 (Nat.le_refl _); have qb := hw.2); ((go_simp <;> rfl)); simp only [Act.put, List.setIfInBounds_toArray, List.set_cons_zero, List.set_cons_succ])
                    | (refine wpT_skip rfl rfl ?_; simp only [Act.put, List.setIfInBounds_toArray, List.set_cons_zero, List.set_cons_succ])
                  refine wpT_nil ?_
                  have k0 : wg.cell? ⟨c, 0, none⟩ = some (.slice av ts.length cv) := BC.out.cell 0
                  have z0 : wg.frozen? ⟨c, 0, none⟩ = false := BC.out.frozen 0
                  have HE := hid (create_end HC.out HX.out F9.out HR8.out HG.out)
                  have HZ := hid (show (0 : Int) = (create (ts.map TabV.t) ⟨kind, table, name, cols, names, join⟩).2 from by unfold create; rw [if_pos HX.out])
                  go_wp2_with (fail)
                  go_ret
                  exact ⟨ret_int HZ.out, HE.out.1, HE.out.2⟩
end Go.Proofs.YtiimomgbklgicaaGreat
