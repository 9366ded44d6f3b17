import Derived.Test.YtgkfdlpijefgkaaGreatDoorCtY
/- The law's examples (sanity). -/
set_option linter.unusedVariables false
namespace Go.VB.Cat
open Go.VB.Oct Go.VB.Rec
def tabSt : St := ⟨1, [116], [], [⟨[97], 1⟩, ⟨[98], 2⟩], [], []⟩
def ixSt : St := ⟨2, [116], [105], [], [[98], [97]], []⟩
def renSt : St := ⟨3, [116], [97], [], [], [98]⟩
def tab0 : Tab := ⟨1, [116], [⟨[97], 1⟩, ⟨[98], 2⟩], []⟩
def tab1 : Tab := ⟨1, [116], [⟨[97], 1⟩, ⟨[98], 2⟩], [⟨[105], [1, 0], 7⟩]⟩
def sane : Bs := [1, 0, 1, 116, 2, 0, 1, 97, 1, 0, 1, 98, 2, 1, 0, 1, 105, 2, 1, 0, 0, 7]
theorem do_tab : doM [] tabSt 0 = ([tab0], 0) := by decide +kernel
theorem do_ix : doM [tab0] ixSt 7 = ([tab1], 0) := by decide +kernel
theorem do_ren : doM [tab1] renSt 0 = ([tab1], 51) := by decide +kernel
theorem bytes_sane : bytes [tab1] = sane := by decide +kernel
theorem ok_sane : Ok [tab1] := by
  have h1 := ok_do ok_nil tabSt 0
  rw [do_tab] at h1
  have h2 := ok_do h1 ixSt 7
  rw [do_ix] at h2
  exact h2
theorem read_sane : readM sane = some [tab1] := by rw [readM_parse, ← bytes_sane]; exact parse_bytes ok_sane
theorem col_sane : colOf tab1.cols [98] = 1 := by decide +kernel
def zV : V := ⟨0, 0, []⟩
def oneV : V := ⟨1, 1, []⟩
theorem check_sane : checkM tab1.cols [zV, zV] = 0 := by decide +kernel
theorem count_sane : countM 2 [[zV, zV], [oneV, zV]] = [2, 1] := by decide +kernel
end Go.VB.Cat
namespace Go.Proofs.YtgkfdlpijefgkaaGreatDoor
open Go.RowKit Go.VB Go.VB.Oct Go.VB.Cat Go.VB.Rec
theorem tab_sane : tableM [tab1] [116] = (tab1, true) := by decide +kernel
theorem ab_cells : [(⟨[97], 1⟩ : Col), ⟨[98], 2⟩].flatMap Col.cells = [.string ⟨#[97]⟩, .int .i64 1, .string ⟨#[98]⟩, .int .i64 2] := rfl
theorem table_go (w : World) : Calls Tryz.prog 22 #[] w fun e w' => ∃ g, e = .returned (.agg (stc 1 [116] [] (.slice (some ⟨g, 0, none⟩) 2 2) nilS).toArray) ∧ Row 80 2 w.heap.size w' (.slice (some ⟨g, 0, none⟩) 2 2) 2 ([(⟨[97], 1⟩ : Col), ⟨[98], 2⟩].flatMap Col.cells) ∧ Fr (fun _ => False) w w' := by
  obtain ⟨cs, hcs⟩ : ∃ cs, cs = [Value.int .i64 1, .string ⟨#[116]⟩, .string ⟨#[]⟩, .slice (some ⟨w.heap.size + 1, 0, none⟩) 2 2, .slice none 0 0, .slice none 0 0, .slice none 0 0, .slice none 0 0, .string ⟨#[]⟩, .string ⟨#[]⟩, .string ⟨#[]⟩, .int .i64 0, .slice none 0 0, .int .i64 0, .int .i64 0] := ⟨_, rfl⟩
  have HB := hid ((Blk.new w cs 55).alloc (.cells #[.string ⟨#[97]⟩, .int .i64 1, .string ⟨#[98]⟩, .int .i64 2] 80))
  have HF := hid (((Fr.refl (fun _ => False) w).alloc (.cells cs.toArray 55)).alloc (.cells #[.string ⟨#[97]⟩, .int .i64 1, .string ⟨#[98]⟩, .int .i64 2] 80))
  have HR := hid (Row.built (e := 80) (size := 2) (n := 2) (B := w.heap.size) (w.alloc (.cells cs.toArray 55)) (l := [.string ⟨#[97]⟩, .int .i64 1, .string ⟨#[98]⟩, .int .i64 2]) rfl (by decide) (by simp))
  rw [World.size_alloc] at HR
  subst hcs
  go_enter Tryz.func22, Tryz.ntmps22
  go_wp2_with (fail)
  exact bodyPost_ret (agg_ret rfl rfl HB.out Tryz.underlying55 rfl size_st) rfl ⟨_, rfl, HR.out.cast rfl ab_cells.symm, HF.out⟩
/-- a statement that was just built -/
theorem Do_st {S P : Nat → Prop} {W : World} {c : Nat} {m : List Tab} (h : CR 104 S W c m) (ok : Ok m) (k : Int) (tn n j : Bs) {l : List Col} {ns : List Bs} {oc on : Option Addr} {cc cn : Nat} (hk : -9223372036854775808 ≤ k ∧ k ≤ 9223372036854775807)
    (hl : Sl P W (.slice oc l.length cc) l.length (l.flatMap Col.cells)) (hn : Sl P W (.slice on ns.length cn) ns.length (sv ns)) (hll : l.length ≤ 1048576) (hnl : ns.length ≤ 1048576) (hlc : ∀ c ∈ l, c.name.length ≤ 1048576) (hnc : ∀ n ∈ ns, n.length ≤ 1048576) (root : Int) :
    Calls Tryz.prog 16 #[.pointer (some ⟨c, 0, none⟩), .agg #[.int .i64 k, .string (bs tn), .string (bs n), .slice oc l.length cc, .slice on ns.length cn, .slice none 0 0, .slice none 0 0, .slice none 0 0, .string (bs j), .string ⟨#[]⟩, .string ⟨#[]⟩, .int .i64 0, .slice none 0 0, .int .i64 0, .int .i64 0], .int .i64 root] W fun e w' =>
      e = .returned (.int .i64 (doM m ⟨k, tn, n, l, ns, j⟩ root).2) ∧ CR 104 (Ext S W w') w' c (doM m ⟨k, tn, n, l, ns, j⟩ root).1 ∧ Fr S W w' := by
  have := Do_go h ok (t := ⟨⟨k, tn, n, l, ns, j⟩, oc, cc, on, cn, none, 0, 0, none, 0, 0, none, 0, 0, ⟨#[]⟩, ⟨#[]⟩, 0, none, 0, 0, 0, 0⟩) ⟨hl, hn, hll, hnl, fun c hc => by have := hlc c hc; omega, fun n hn => by have := hnc n hn; omega⟩ hk root
  exact this
theorem Sl.none (R : Nat → Prop) (W : World) : Sl R W (.slice Option.none 0 0) 0 [] := ⟨Option.none, 0, rfl, Nat.le_refl _, fun h => absurd rfl h⟩
theorem ab_small : ∀ c ∈ [(⟨[97], 1⟩ : Col), ⟨[98], 2⟩], c.name.length ≤ 1048576 := by decide
theorem Do_tab {S : Nat → Prop} {W : World} {c g B : Nat} (h : CR 104 S W c []) (hr : Row 80 2 B W (.slice (some ⟨g, 0, none⟩) 2 2) 2 ([(⟨[97], 1⟩ : Col), ⟨[98], 2⟩].flatMap Col.cells)) :
    Calls Tryz.prog 16 #[.pointer (some ⟨c, 0, none⟩), .agg #[.int .i64 1, .string (bs [116]), .string (bs []), .slice (some ⟨g, 0, none⟩) 2 2, .slice none 0 0, .slice none 0 0, .slice none 0 0, .slice none 0 0, .string ⟨#[]⟩, .string ⟨#[]⟩, .string ⟨#[]⟩, .int .i64 0, .slice none 0 0, .int .i64 0, .int .i64 0], .int .i64 0] W fun e w' =>
      e = .returned (.int .i64 0) ∧ CR 104 (Ext S W w') w' c [tab0] ∧ Fr S W w' := by
  have := Do_st h ok_nil 1 [116] [] [] (l := [⟨[97], 1⟩, ⟨[98], 2⟩]) (ns := []) (P := fun _ => True) (by decide) (hr.sl' (fun _ _ => trivial)) (Sl.none _ _) (by decide) (by decide) ab_small (by simp) 0
  rw [show (⟨1, [116], [], [⟨[97], 1⟩, ⟨[98], 2⟩], [], []⟩ : St) = tabSt from rfl, do_tab] at this
  exact this
/-- a catalog of the call's own: all that was made since w0 is its -/
structure OC (w0 W : World) (c : Nat) (m : List Tab) : Prop where
  fr : Fr (fun _ => False) w0 W
  cr : CR 104 (fun k => w0.heap.size ≤ k ∧ k < W.heap.size) W c m
  ok : Ok m
theorem OC.fre {w0 W W' : World} {c : Nat} {m : List Tab} (h : OC w0 W c m) (f : Fr (fun _ => False) W W') : OC w0 W' c m :=
  ⟨h.fr.trans f (fun _ h _ => h), (h.cr.fre f).mono (fun k hk => ⟨hk.1, Nat.lt_of_lt_of_le hk.2 f.size⟩) (fun k hk => hk.2), h.ok⟩
theorem OC.did {w0 W W' : World} {c : Nat} {m m' : List Tab} (h : OC w0 W c m) (hc : CR 104 (Ext (fun k => w0.heap.size ≤ k ∧ k < W.heap.size) W W') W' c m') (f : Fr (fun k => w0.heap.size ≤ k ∧ k < W.heap.size) W W') (ok : Ok m') : OC w0 W' c m' := by
  have z1 := h.fr.size
  have z2 := f.size
  refine ⟨h.fr.trans f (fun k hk hl => by omega), hc.mono (fun k hk => ?_) (fun k hk => hk.2), ok⟩
  rcases hk with hk | hk
  · exact ⟨hk.1, by omega⟩
  · exact ⟨by omega, hk.2⟩
theorem OC.new {w w' : World} (h : CR 104 (fun k => k = w.heap.size) w' w.heap.size []) (f : Fr (fun _ => False) w w') : OC w w' w.heap.size [] :=
  ⟨f, h.mono (fun k hk => by subst hk; exact ⟨Nat.le_refl _, h.lt rfl⟩) (fun k hk => hk.2), ok_nil⟩
/-- a statement that was just built, done -/
theorem OC.st {w0 W : World} {c : Nat} {m : List Tab} (h : OC w0 W c m) {P : Nat → Prop} (k : Int) (tn n j : Bs) {l : List Col} {ns : List Bs} {oc on : Option Addr} {cc cn : Nat} (hk : -9223372036854775808 ≤ k ∧ k ≤ 9223372036854775807)
    (hl : Sl P W (.slice oc l.length cc) l.length (l.flatMap Col.cells)) (hn : Sl P W (.slice on ns.length cn) ns.length (sv ns)) (hll : l.length ≤ 1048576) (hnl : ns.length ≤ 1048576) (hlc : ∀ c ∈ l, c.name.length ≤ 1048576) (hnc : ∀ n ∈ ns, n.length ≤ 1048576) (root : Int) :
    Calls Tryz.prog 16 #[.pointer (some ⟨c, 0, none⟩), .agg #[.int .i64 k, .string (bs tn), .string (bs n), .slice oc l.length cc, .slice on ns.length cn, .slice none 0 0, .slice none 0 0, .slice none 0 0, .string (bs j), .string ⟨#[]⟩, .string ⟨#[]⟩, .int .i64 0, .slice none 0 0, .int .i64 0, .int .i64 0], .int .i64 root] W fun e w' =>
      e = .returned (.int .i64 (doM m ⟨k, tn, n, l, ns, j⟩ root).2) ∧ OC w0 w' c (doM m ⟨k, tn, n, l, ns, j⟩ root).1 := by
  refine (Do_st h.cr h.ok k tn n j hk hl hn hll hnl hlc hnc root).mono ?_
  rintro e w' ⟨rfl, hc, f⟩
  exact ⟨rfl, h.did hc f (ok_do h.ok _ _)⟩
theorem OC.tab {w0 W : World} {c g B : Nat} {m : List Tab} (h : OC w0 W c m) (hr : Row 80 2 B W (.slice (some ⟨g, 0, none⟩) 2 2) 2 ([(⟨[97], 1⟩ : Col), ⟨[98], 2⟩].flatMap Col.cells)) (root : Int) :
    Calls Tryz.prog 16 #[.pointer (some ⟨c, 0, none⟩), .agg #[.int .i64 1, .string (bs [116]), .string (bs []), .slice (some ⟨g, 0, none⟩) 2 2, .slice none 0 0, .slice none 0 0, .slice none 0 0, .slice none 0 0, .string ⟨#[]⟩, .string ⟨#[]⟩, .string ⟨#[]⟩, .int .i64 0, .slice none 0 0, .int .i64 0, .int .i64 0], .int .i64 root] W fun e w' =>
      e = .returned (.int .i64 (doM m tabSt root).2) ∧ OC w0 w' c (doM m tabSt root).1 :=
  h.st 1 [116] [] [] (l := [⟨[97], 1⟩, ⟨[98], 2⟩]) (ns := []) (P := fun _ => True) (by decide) (hr.sl' (fun _ _ => trivial)) (Sl.none _ _) (by decide) (by decide) ab_small (by simp) root
theorem ba_row (w : World) : Row 9 1 0 (w.alloc (.cells #[.string ⟨#[98]⟩, .string ⟨#[97]⟩] 9)) (.slice (some ⟨w.heap.size, 0, none⟩) 2 2) 2 (sv [[98], [97]]) := Row.built (e := 9) (size := 1) (n := 2) (B := 0) w (l := [.string ⟨#[98]⟩, .string ⟨#[97]⟩]) rfl (by decide) (Nat.zero_le _)
theorem ba_small : ∀ n ∈ [[98], ([97] : Bs)], n.length ≤ 1048576 := by decide
theorem OC.ix {w0 W : World} {c : Nat} (h : OC w0 W c [tab0]) :
    Calls Tryz.prog 16 #[.pointer (some ⟨c, 0, none⟩), .agg #[.int .i64 2, .string (bs [116]), .string (bs [105]), .slice none 0 0, .slice (some ⟨W.heap.size, 0, none⟩) 2 2, .slice none 0 0, .slice none 0 0, .slice none 0 0, .string ⟨#[]⟩, .string ⟨#[]⟩, .string ⟨#[]⟩, .int .i64 0, .slice none 0 0, .int .i64 0, .int .i64 0], .int .i64 7] (W.alloc (.cells #[.string ⟨#[98]⟩, .string ⟨#[97]⟩] 9)) fun e w' =>
      e = .returned (.int .i64 0) ∧ OC w0 w' c [tab1] := by
  have := (h.fre ((Fr.refl (fun _ => False) W).alloc (.cells #[.string ⟨#[98]⟩, .string ⟨#[97]⟩] 9))).st 2 [116] [105] [] (l := []) (ns := [[98], [97]]) (P := fun _ => True) (by decide) (Sl.none _ _) ((ba_row W).sl' (fun _ _ => trivial)) (by decide) (by decide) (by simp) ba_small 7
  rw [show (⟨2, [116], [105], [], [[98], [97]], []⟩ : St) = ixSt from rfl, do_ix] at this
  exact this
theorem OC.ren {w0 W : World} {c : Nat} (h : OC w0 W c [tab1]) :
    Calls Tryz.prog 16 #[.pointer (some ⟨c, 0, none⟩), .agg #[.int .i64 3, .string (bs [116]), .string (bs [97]), .slice none 0 0, .slice none 0 0, .slice none 0 0, .slice none 0 0, .slice none 0 0, .string (bs [98]), .string ⟨#[]⟩, .string ⟨#[]⟩, .int .i64 0, .slice none 0 0, .int .i64 0, .int .i64 0], .int .i64 0] W fun e w' =>
      e = .returned (.int .i64 51) ∧ OC w0 w' c [tab1] := by
  have := h.st 3 [116] [97] [98] (l := []) (ns := []) (P := fun _ => True) (by decide) (Sl.none _ _) (Sl.none _ _) (by decide) (by decide) (by simp) (by simp) 0
  rw [show (⟨3, [116], [97], [], [], [98]⟩ : St) = renSt from rfl, do_ren] at this
  exact this
theorem run_st_cols (k : Int) (t n : ByteArray) (a : Option Addr) (l c : Nat) (w : World) : (Instr.field 55 (.agg #[.int .i64 k, .string t, .string n, .slice a l c, .slice none 0 0, .slice none 0 0, .slice none 0 0, .slice none 0 0, .string ⟨#[]⟩, .string ⟨#[]⟩, .string ⟨#[]⟩, .int .i64 0, .slice none 0 0, .int .i64 0, .int .i64 0]) 3).run Tryz.prog w = .ok (.slice a l c) w := by kernel_rfl
/-- the table that the examples expect, in memory -/
theorem want_tab {B g : Nat} {W : World} (hr : Row 80 2 B W (.slice (some ⟨g, 0, none⟩) 2 2) 2 ([(⟨[97], 1⟩ : Col), ⟨[98], 2⟩].flatMap Col.cells)) :
    TabS (fun _ => True) ((W.alloc (.cells #[.int .i64 1, .int .i64 0] 3)).alloc (.cells #[.string ⟨#[105]⟩, .slice (some ⟨W.heap.size, 0, none⟩) 2 2, .int .i64 7] 44)) ⟨tab1, .slice (some ⟨g, 0, none⟩) 2 2, .slice (some ⟨W.heap.size + 1, 0, none⟩) 1 1, [⟨⟨[105], [1, 0], 7⟩, .slice (some ⟨W.heap.size, 0, none⟩) 2 2⟩]⟩ := by
  have h1 := Row.built (e := 3) (size := 1) (n := 2) (B := 0) W (l := [.int .i64 1, .int .i64 0]) rfl (by decide) (Nat.zero_le _)
  have h2 := Row.built (e := 44) (size := 3) (n := 1) (B := 0) (W.alloc (.cells #[.int .i64 1, .int .i64 0] 3)) (l := [.string ⟨#[105]⟩, .slice (some ⟨W.heap.size, 0, none⟩) 2 2, .int .i64 7]) rfl (by decide) (Nat.zero_le _)
  rw [World.size_alloc] at h2
  have f1 := ((Fr.refl (fun _ => False) W).alloc (.cells #[.int .i64 1, .int .i64 0] 3)).alloc (.cells #[.string ⟨#[105]⟩, .slice (some ⟨W.heap.size, 0, none⟩) 2 2, .int .i64 7] 44)
  have f2 := (Fr.refl (fun _ => False) (W.alloc (.cells #[.int .i64 1, .int .i64 0] 3))).alloc (.cells #[.string ⟨#[105]⟩, .slice (some ⟨W.heap.size, 0, none⟩) 2 2, .int .i64 7] 44)
  refine ⟨(hr.fre f1).sl' (fun _ _ => trivial), h2.sl' (fun _ _ => trivial), rfl, fun x hx => ?_, ⟨show (2 : Nat) ≤ 1048576 by decide, by simp, fun x hx => ?_⟩⟩
  · rw [List.mem_singleton.1 hx]
    exact (h1.fre f2).sl' (fun _ _ => trivial)
  · rw [List.mem_singleton.1 hx]
    exact (show (2 : Nat) ≤ 1048576 by decide)
theorem bound1 {t : TabV} (h : t.t = tab1) (he : t.t.ixs = t.ix.map IxV.x) : TabB t := by
  rw [h] at he
  have hl : t.ix.length = 1 := by
    have := congrArg List.length he
    rw [List.length_map] at this
    exact this.symm
  refine ⟨by rw [h]; decide, by omega, fun x hx => ?_⟩
  have : x.x ∈ tab1.ixs := by rw [he]; exact List.mem_map_of_mem hx
  have : x.x = ⟨[105], [1, 0], 7⟩ := List.mem_singleton.1 this
  rw [this]
  decide
/-- the two rows of the examples -/
def rowsL (b : Nat) : List RowV := [⟨.slice (some ⟨b, 0, none⟩) 2 2, [zV, zV]⟩, ⟨.slice (some ⟨b + 1, 0, none⟩) 2 2, [oneV, zV]⟩]
theorem rows_two (W : World) : RowsS (fun _ => True) (((W.alloc (.cells #[.int .i64 0, .int .i64 0, .string ⟨#[]⟩, .int .i64 0, .int .i64 0, .string ⟨#[]⟩] 46)).alloc (.cells #[.int .i64 1, .int .i64 1, .string ⟨#[]⟩, .int .i64 0, .int .i64 0, .string ⟨#[]⟩] 46)).alloc (.cells #[.slice (some ⟨W.heap.size, 0, none⟩) 2 2, .slice (some ⟨W.heap.size + 1, 0, none⟩) 2 2] 24)) (.slice (some ⟨W.heap.size + 1 + 1, 0, none⟩) 2 2) (rowsL W.heap.size) := by
  obtain ⟨W1, h1⟩ : ∃ W1, W1 = W.alloc (.cells #[.int .i64 0, .int .i64 0, .string ⟨#[]⟩, .int .i64 0, .int .i64 0, .string ⟨#[]⟩] 46) := ⟨_, rfl⟩
  have r1 := Row.built (e := 46) (size := 3) (n := 2) (B := 0) W (l := [.int .i64 0, .int .i64 0, .string ⟨#[]⟩, .int .i64 0, .int .i64 0, .string ⟨#[]⟩]) rfl (by decide) (Nat.zero_le _)
  have r2 := Row.built (e := 46) (size := 3) (n := 2) (B := 0) W1 (l := [.int .i64 1, .int .i64 1, .string ⟨#[]⟩, .int .i64 0, .int .i64 0, .string ⟨#[]⟩]) rfl (by decide) (Nat.zero_le _)
  have s1 : W1.heap.size = W.heap.size + 1 := by rw [h1, World.size_alloc]
  rw [← h1]
  rw [← h1] at r1
  obtain ⟨W2, h2⟩ : ∃ W2, W2 = W1.alloc (.cells #[.int .i64 1, .int .i64 1, .string ⟨#[]⟩, .int .i64 0, .int .i64 0, .string ⟨#[]⟩] 46) := ⟨_, rfl⟩
  have r3 := Row.built (e := 24) (size := 1) (n := 2) (B := 0) W2 (l := [.slice (some ⟨W.heap.size, 0, none⟩) 2 2, .slice (some ⟨W.heap.size + 1, 0, none⟩) 2 2]) rfl (by decide) (Nat.zero_le _)
  have s2 : W2.heap.size = W.heap.size + 1 + 1 := by rw [h2, World.size_alloc, s1]
  have f1 : Fr (fun _ => False) W1 W2 := by rw [h2]; exact (Fr.refl _ W1).alloc _
  rw [← h2]
  rw [← h2, s1] at r2
  rw [s2] at r3
  have f2 := (Fr.refl (fun _ => False) W2).alloc (.cells #[.slice (some ⟨W.heap.size, 0, none⟩) 2 2, .slice (some ⟨W.heap.size + 1, 0, none⟩) 2 2] 24)
  refine ⟨r3.sl' (fun _ _ => trivial), fun x hx => ?_⟩
  simp only [rowsL, List.mem_cons, List.not_mem_nil, or_false] at hx
  rcases hx with rfl | rfl
  · exact ⟨((r1.fre f1).fre f2).sl' (fun _ _ => trivial), show (2 : Nat) ≤ 1048576 by decide⟩
  · exact ⟨(r2.fre f2).sl' (fun _ _ => trivial), show (2 : Nat) ≤ 1048576 by decide⟩
set_option maxRecDepth 20000 in
set_option maxHeartbeats 4000000 in
theorem sanity_go {w : World} (K : Kn w) : Calls Tryz.prog 6 #[] w fun e w' => e = .returned (.bool true) ∧ Fr (fun _ => False) w w' := by
  have HK := hid K
  have HN := hid (New_go w)
  clear K
  go_enter Tryz.func6, Tryz.ntmps6
  go_upto_region 4 with (go_at_call 14; refine HN.out.mono ?_; rintro e w1 ⟨rfl, hc, f⟩; have HC1 := hid (OC.new hc f); clear hc f)
  generalize hce : w.heap.size = c at *
  have HCE := hid hce
  clear hce HN
  have HTB := hid (table_go w1)
  unfold stc nilS at HTB
  go_upto_region 5 with (first
    | (go_at_call 22; refine HTB.out.mono ?_; rintro e w2 ⟨g, rfl, hr, f⟩; have HD2 := hid ((HC1.out.fre f).tab hr 0); rw [do_tab] at HD2; clear hr f)
    | (go_at_call 16; refine HD2.out.mono ?_; rintro e w3 ⟨rfl, hc⟩; have HC3 := hid hc; clear hc))
  clear HTB HC1 HD2
  have HD4 := hid HC3.out.ix
  go_upto_region 6 with (go_at_call 16; refine HD4.out.mono ?_; rintro e w4 ⟨rfl, hc⟩; have HC4 := hid hc; clear hc)
  have HD5 := hid HC4.out.ren
  go_upto_region 7 with (go_at_call 16; refine HD5.out.mono ?_; rintro e w5 ⟨rfl, hc⟩; have HC5 := hid hc; clear hc)
  clear HD4 HD5 HC3 HC4
  have HT6 := hid (Table_go HC5.out.cr HC5.out.ok [116])
  rw [tab_sane] at HT6
  unfold TabV.agg TabV.cells at HT6
  go_upto_region 8 with (go_at_call 23; refine HT6.out.mono ?_; rintro e w6 ⟨⟨t6, vc6, vi6, ix6⟩, rfl, e6, ho, f⟩; dsimp only at e6; subst e6; obtain ⟨a6, c6, e6, _⟩ := ho.c.slice; obtain ⟨a7, c7, e7, _⟩ := ho.i.slice; dsimp only at e6 e7; subst e6 e7; have HO6 := hid ho; have HC6 := hid (HC5.out.fre f); clear ho f)
  clear HT6 HC5
  have HLX := hid (show ix6.length = 1 from by
    have := congrArg List.length HO6.out.e
    rw [List.length_map] at this
    exact this.symm)
  rw [HLX.out] at HO6 ⊢
  have HS6 := hid (HO6.out.s (bound1 rfl HO6.out.e))
  clear HO6
  have fa := (Fr.refl (fun _ => False) w6).alloc (.cells #[.int .i64 1, .string (bs [116]), .slice a6 2 c6, .slice a7 1 c7] 34)
  have HB5 := hid (Blk.new w6 [.int .i64 1, .string (bs [116]), .slice a6 2 c6, .slice a7 1 c7] 34)
  have HC7 := hid (HC6.out.fre fa)
  have HS7 := hid (HS6.out.fre fa)
  clear fa HC6 HS6
  unfold tab1 at HS7 ⊢
  dsimp only [List.length_cons, List.length_nil, Nat.zero_add, Nat.reduceAdd] at HS7 ⊢
  generalize w6.heap.size = d5 at *
  generalize w6.alloc _ = W7 at *
  have HTB := hid (table_go W7)
  have hfield := run_st_cols
  unfold stc nilS at HTB
  go_upto_region 9 with (go_at_call 22; refine HTB.out.mono ?_; rintro e w8 ⟨g8, rfl, hr, f⟩; have HR8 := hid hr; have HC8 := hid (HC7.out.fre f); have HB58 := hid (Blk.fr HB5.out f (fun h => h)); have HS8 := hid (HS7.out.fre f); clear hr f)
  have fa := ((Fr.refl (fun _ => False) w8).alloc (.cells #[.int .i64 1, .int .i64 0] 3)).alloc (.cells #[.string ⟨#[105]⟩, .slice (some ⟨w8.heap.size, 0, none⟩) 2 2, .int .i64 7] 44)
  have fb := fa.alloc (.cells #[.int .i64 1, .string ⟨#[116]⟩, .slice (some ⟨g8, 0, none⟩) 2 2, .slice (some ⟨w8.heap.size + 1, 0, none⟩) 1 1] 34)
  have HW9 := hid ((want_tab HR8.out).fre ((Fr.refl (fun _ => False) _).alloc (.cells #[.int .i64 1, .string ⟨#[116]⟩, .slice (some ⟨g8, 0, none⟩) 2 2, .slice (some ⟨w8.heap.size + 1, 0, none⟩) 1 1] 34)))
  have HC9 := hid (HC8.out.fre fb)
  have HB59 := hid (Blk.fr HB58.out fb (fun h => h))
  have HS9 := hid (HS8.out.fre fb)
  have HB7 := hid (Blk.new ((w8.alloc (.cells #[.int .i64 1, .int .i64 0] 3)).alloc (.cells #[.string ⟨#[105]⟩, .slice (some ⟨w8.heap.size, 0, none⟩) 2 2, .int .i64 7] 44)) [.int .i64 1, .string ⟨#[116]⟩, .slice (some ⟨g8, 0, none⟩) 2 2, .slice (some ⟨w8.heap.size + 1, 0, none⟩) 1 1] 34)
  simp only [World.size_alloc] at HB7
  clear fa fb HC7 HB5 HS7 HTB HR8 HC8 HB58 HS8 hfield
  generalize w8.heap.size + 1 + 1 = d7 at *
  generalize w8.heap.size + 1 = d8 at *
  generalize (World.alloc _ _).alloc (.cells #[.int .i64 1, .string ⟨#[116]⟩, .slice (some ⟨g8, 0, none⟩) 2 2, .slice (some ⟨d8, 0, none⟩) 1 1] 34) = W9 at *
  have HRD : Hid (Calls Tryz.prog 24 #[.string ⟨#[1, 0, 1, 116, 2, 0, 1, 97, 1, 0, 1, 98, 2, 1, 0, 1, 105, 2, 1, 0, 0, 7]⟩] W9 fun e w' => ReadP W9 w' e (some [tab1])) := hid (by
    have := Read_go sane (by decide) W9
    rw [read_sane] at this
    exact this)
  go_upto_region 13 with (go_at_call 24; refine HRD.out.mono ?_; rintro e w10 ⟨cd, rfl, hcd, f⟩; have HCD := hid hcd; have HC10 := hid (HC9.out.fre f); have HB5A := hid (Blk.fr HB59.out f (fun h => h)); have HB7A := hid (Blk.fr HB7.out f (fun h => h)); have HSA := hid (HS9.out.fre f); have HWA := hid (HW9.out.fre f); have F9 := hid f; clear hcd f)
  clear HRD HC9 HB59 HB7 HS9 HW9
  have x0 : w10.cell? ⟨d5, 0, none⟩ = some (.int .i64 1) := HB5A.out.cell 0
  have x1 : w10.cell? ⟨d5, 1, none⟩ = some (.string (bs [116])) := HB5A.out.cell 1
  have x2 : w10.cell? ⟨d5, 2, none⟩ = some (.slice a6 2 c6) := HB5A.out.cell 2
  have x3 : w10.cell? ⟨d5, 3, none⟩ = some (.slice a7 1 c7) := HB5A.out.cell 3
  have fr := (((Fr.refl (fun _ => False) w10).alloc (.cells #[.int .i64 0, .int .i64 0, .string ⟨#[]⟩, .int .i64 0, .int .i64 0, .string ⟨#[]⟩] 46)).alloc (.cells #[.int .i64 1, .int .i64 1, .string ⟨#[]⟩, .int .i64 0, .int .i64 0, .string ⟨#[]⟩] 46)).alloc (.cells #[.slice (some ⟨w10.heap.size, 0, none⟩) 2 2, .slice (some ⟨w10.heap.size + 1, 0, none⟩) 2 2] 24)
  have HCN := hid (Count_go (id := 1) (name := [116]) (ac := a6) (nc := 2) (cc := c6) (ai := a7) (ni := 1) (ci := c7) (by decide) (rows_two w10) (by simp [rowsL]) ((HK.out.fre HC10.out.fr).fre fr))
  rw [show (rowsL w10.heap.size).map RowV.r = [[zV, zV], [oneV, zV]] from rfl, count_sane, show (rowsL w10.heap.size).length = 2 from rfl] at HCN
  have FR := hid fr
  clear fr
  have HSM := hid (fun (W : World) (f : Fr (fun _ => False) w10 W) => Same_go (HSA.out.fre f) (HWA.out.fre f))
  rw [show decide ((⟨1, [116], [⟨[97], 1⟩, ⟨[98], 2⟩], [⟨[105], [1, 0], 7⟩]⟩ : Tab) = tab1) = true from by decide +kernel] at HSM
  unfold TabV.agg TabV.cells tab1 at HSM
  dsimp only at HSM
  have HBY1 : Hid (∀ W, Fr (fun _ => False) w10 W → Calls Tryz.prog 27 #[.pointer (some ⟨c, 0, none⟩)] W fun e w' => e = .returned (.string ⟨#[1, 0, 1, 116, 2, 0, 1, 97, 1, 0, 1, 98, 2, 1, 0, 1, 105, 2, 1, 0, 0, 7]⟩) ∧ Fr (fun _ => False) W w') := hid (fun W f => by
    have := Bytes_go (HC10.out.cr.fre f) HC10.out.ok
    rw [bytes_sane] at this
    exact this)
  have HBY2 : Hid (∀ W, Fr (fun _ => False) w10 W → Calls Tryz.prog 27 #[.pointer (some ⟨cd, 0, none⟩)] W fun e w' => e = .returned (.string ⟨#[1, 0, 1, 116, 2, 0, 1, 97, 1, 0, 1, 98, 2, 1, 0, 1, 105, 2, 1, 0, 0, 7]⟩) ∧ Fr (fun _ => False) W w') := hid (fun W f => by
    have := Bytes_go (HCD.out.fre f) HC10.out.ok
    rw [bytes_sane] at this
    exact this)
  have HSC : Hid (Sl (fun _ => True) w10 (.slice a6 [(⟨[97], 1⟩ : Col), ⟨[98], 2⟩].length c6) [(⟨[97], 1⟩ : Col), ⟨[98], 2⟩].length ([(⟨[97], 1⟩ : Col), ⟨[98], 2⟩].flatMap Col.cells)) := hid HSA.out.c
  have HCO := hid (fun (W : World) (f : Fr (fun _ => False) w10 W) => Col_go (id := 1) (nm := [116]) (vi := .slice a7 1 c7) (n := [98]) (HSC.out.fr f (fun _ _ h => h)) (by decide))
  rw [show colOf [(⟨[97], 1⟩ : Col), ⟨[98], 2⟩] [98] = 1 from by decide +kernel] at HCO
  have HCK := hid (fun (W : World) (f : Fr (fun _ => False) w10 W) => Check_go (id := 1) (name := [116]) (ai := a7) (ni := 1) (ci := c7) (r := [zV, zV]) (cols := [(⟨[97], 1⟩ : Col), ⟨[98], 2⟩]) (ac := a6) (cc := c6) (HSC.out.fr (f.alloc (.cells #[.int .i64 0, .int .i64 0, .string ⟨#[]⟩, .int .i64 0, .int .i64 0, .string ⟨#[]⟩] 46)) (fun _ _ h => h)) (by decide)
    ((Row.built (e := 46) (size := 3) (n := 2) (B := 0) W (l := [.int .i64 0, .int .i64 0, .string ⟨#[]⟩, .int .i64 0, .int .i64 0, .string ⟨#[]⟩]) rfl (by decide) (Nat.zero_le _)).sl' (R := fun _ => True) (fun _ _ => trivial)) (by decide))
  rw [show checkM [(⟨[97], 1⟩ : Col), ⟨[98], 2⟩] [zV, zV] = 0 from by decide +kernel] at HCK
  dsimp only [List.length_cons, List.length_nil, Nat.zero_add, Nat.reduceAdd] at HCK
  have FW := hid HC10.out.fr
  clear HSA HWA HC10 HCD F9 HK HSC
  go_wp2_with (first
    | (go_at_call 25; refine HCN.out.mono ?_; rintro e w12 ⟨vs, rfl, hv, f⟩; obtain ⟨av, cv, rfl, _⟩ := hv.slice; have HV := hid (hv.low (Nat.zero_le _)); have f13 := (FR.out.trans f (fun _ h _ => h)).alloc (.cells #[.int .i64 2, .slice av 2 cv] 74); have HVD := hid (HV.out.fre ((Fr.refl (fun _ => False) w12).alloc (.cells #[.int .i64 2, .slice av 2 cv] 74))); have HBS := hid (Blk.new w12 [.int .i64 2, .slice av 2 cv] 74); have HB5D := hid (Blk.fr HB5A.out f13 (fun h => h)); have HB7D := hid (Blk.fr HB7A.out f13 (fun h => h)); have F13 := hid f13; have y0 : (w12.alloc (.cells #[.int .i64 2, .slice av 2 cv] 74)).cell? ⟨d5, 0, none⟩ = some (.int .i64 1) := HB5D.out.cell 0; have y1 : (w12.alloc (.cells #[.int .i64 2, .slice av 2 cv] 74)).cell? ⟨d5, 1, none⟩ = some (.string (bs [116])) := HB5D.out.cell 1; have y2 : (w12.alloc (.cells #[.int .i64 2, .slice av 2 cv] 74)).cell? ⟨d5, 2, none⟩ = some (.slice a6 2 c6) := HB5D.out.cell 2; have y3 : (w12.alloc (.cells #[.int .i64 2, .slice av 2 cv] 74)).cell? ⟨d5, 3, none⟩ = some (.slice a7 1 c7) := HB5D.out.cell 3; have z0 : (w12.alloc (.cells #[.int .i64 2, .slice av 2 cv] 74)).cell? ⟨d7, 0, none⟩ = some (.int .i64 1) := HB7D.out.cell 0; have z1 : (w12.alloc (.cells #[.int .i64 2, .slice av 2 cv] 74)).cell? ⟨d7, 1, none⟩ = some (.string ⟨#[116]⟩) := HB7D.out.cell 1; have z2 : (w12.alloc (.cells #[.int .i64 2, .slice av 2 cv] 74)).cell? ⟨d7, 2, none⟩ = some (.slice (some ⟨g8, 0, none⟩) 2 2) := HB7D.out.cell 2; have z3 : (w12.alloc (.cells #[.int .i64 2, .slice av 2 cv] 74)).cell? ⟨d7, 3, none⟩ = some (.slice (some ⟨d8, 0, none⟩) 1 1) := HB7D.out.cell 3; clear hv f f13 HB5A HB7A HV x0 x1 x2 x3)
    | (go_at_call 26; refine (HSM.out _ F13.out).mono ?_; rintro e w14 ⟨rfl, f⟩; have F14 := hid (F13.out.trans f (fun _ h _ => h)); have HBS4 := hid (Blk.fr HBS.out f (fun h => h)); have HV4 := hid (HVD.out.fre f); have HB5E := hid (Blk.fr HB5D.out f (fun h => h)); clear f)
    | (go_at_call 27; (with_reducible refine (HBY1.out _ F14.out).mono ?_); rintro e w15 ⟨rfl, f⟩; have F15 := hid (F14.out.trans f (fun _ h _ => h)); have HBS5 := hid (Blk.fr HBS4.out f (fun h => h)); have HV5 := hid (HV4.out.fre f); have HB5F := hid (Blk.fr HB5E.out f (fun h => h)); clear f)
    | (go_at_call 27; (with_reducible refine (HBY2.out _ F15.out).mono ?_); rintro e w16 ⟨rfl, f⟩; have F16 := hid (F15.out.trans f (fun _ h _ => h)); have HBS6 := hid (Blk.fr HBS5.out f (fun h => h)); have HV6 := hid (HV5.out.fre f); have HB5G := hid (Blk.fr HB5F.out f (fun h => h)); have u0 : w16.cell? ⟨d5, 0, none⟩ = some (.int .i64 1) := HB5G.out.cell 0; have u1 : w16.cell? ⟨d5, 1, none⟩ = some (.string (bs [116])) := HB5G.out.cell 1; have u2 : w16.cell? ⟨d5, 2, none⟩ = some (.slice a6 2 c6) := HB5G.out.cell 2; have u3 : w16.cell? ⟨d5, 3, none⟩ = some (.slice a7 1 c7) := HB5G.out.cell 3; clear f)
    | (go_at_call 28; refine (HCO.out _ F16.out).mono ?_; rintro e w17 ⟨rfl, f⟩; have F17 := hid (F16.out.trans f (fun _ h _ => h)); have HBS7 := hid (Blk.fr HBS6.out f (fun h => h)); have HV7 := hid (HV6.out.fre f); have HB5H := hid (Blk.fr HB5G.out f (fun h => h)); have q0 : w17.cell? ⟨d5, 0, none⟩ = some (.int .i64 1) := HB5H.out.cell 0; have q1 : w17.cell? ⟨d5, 1, none⟩ = some (.string (bs [116])) := HB5H.out.cell 1; have q2 : w17.cell? ⟨d5, 2, none⟩ = some (.slice a6 2 c6) := HB5H.out.cell 2; have q3 : w17.cell? ⟨d5, 3, none⟩ = some (.slice a7 1 c7) := HB5H.out.cell 3; clear f)
    | (go_at_call 11; refine (HCK.out _ F17.out).mono ?_; rintro e w18 ⟨rfl, f⟩; have F18 := hid ((F17.out.alloc (.cells #[.int .i64 0, .int .i64 0, .string ⟨#[]⟩, .int .i64 0, .int .i64 0, .string ⟨#[]⟩] 46)).trans f (fun _ h _ => h)); have fx := ((Fr.refl (fun _ => False) w17).alloc (.cells #[.int .i64 0, .int .i64 0, .string ⟨#[]⟩, .int .i64 0, .int .i64 0, .string ⟨#[]⟩] 46)).trans f (fun _ h _ => h); have HBS8 := hid (Blk.fr HBS7.out fx (fun h => h)); have HV8 := hid (HV7.out.fre fx); obtain ⟨gv, hgv, _, hvc⟩ := row_cells HV8.out (by simp [ncell]); have s0 : w18.cell? ⟨w12.heap.size, 0, none⟩ = some (.int .i64 2) := HBS8.out.cell 0; have s1 : w18.cell? ⟨w12.heap.size, 1, none⟩ = some (.slice av 2 cv) := HBS8.out.cell 1; subst hgv; have m0 : w18.cell? ⟨gv, 0, none⟩ = some (.int .i64 2) := hvc 0 _ rfl; have m1 : w18.cell? ⟨gv, 1, none⟩ = some (.int .i64 1) := hvc 1 _ rfl; clear f fx hvc))
  have FF := hid (FW.out.trans F18.out (fun _ h _ => h))
  clear HSM HBY1 HBY2 HCO HCK FR HCN
  go_ret
  exact ⟨rfl, FF.out⟩
end Go.Proofs.YtgkfdlpijefgkaaGreatDoor
