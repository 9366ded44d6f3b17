import Derived.Test.YtiimomgbklgicaaSlX
/- SlotTimes in plain: a column renamed within one transaction. -/
set_option linter.unusedVariables false
namespace Go.VB.Slt
open Go.VB Go.VB.Oct Go.VB.Cat Go.VB.Rec
open Go.Proofs.Ytiimomgbklgicaa (atM)
def nmL : List UInt8 := [48, 49, 50, 51, 52, 53, 54, 55, 56, 57, 120]
def dg (i : Nat) : UInt8 := nmL.getD (i % 11) 0
def tb (i : Nat) : List Tab := [⟨1, [116], [⟨[97, dg i], 1⟩, ⟨[122], 2⟩], []⟩]
def stT : St := ⟨1, [116], [], [⟨[97, 48], 1⟩, ⟨[122], 2⟩], [], []⟩
def stR (i : Nat) : St := ⟨3, [116], [97, dg i], [], [], [97, dg (i + 1)]⟩
theorem do_create0 : doM [] stT 0 = (tb 0, 0) := by decide +kernel
theorem do_renF : ∀ i : Fin 11, doM (tb i) (stR i) 0 = (tb (i + 1), 0) := by decide +kernel
theorem do_ren {i : Nat} (h : i < 11) : doM (tb i) (stR i) 0 = (tb (i + 1), 0) := do_renF ⟨i, h⟩
theorem len_tbF : ∀ i : Fin 12, (Cat.bytes (tb i)).length ≤ 1000 := by decide +kernel
theorem len_tb {i : Nat} (h : i < 12) : (Cat.bytes (tb i)).length ≤ 1000 := len_tbF ⟨i, h⟩
theorem ok_tb : ∀ i, i < 12 → Ok (tb i)
  | 0, _ => by have := ok_do ok_nil stT 0; rwa [do_create0] at this
  | i + 1, h => by have := ok_do (ok_tb i (by omega)) (stR i) 0; rwa [do_ren (by omega)] at this
theorem ex_nmF : ∀ i : Fin 11, (⟨#[48, 49, 50, 51, 52, 53, 54, 55, 56, 57, 120]⟩ : ByteArray).extract i (i + 1) = bs [dg i] := by decide +kernel
theorem ex_nm {i : Nat} (h : i < 11) : (⟨#[48, 49, 50, 51, 52, 53, 54, 55, 56, 57, 120]⟩ : ByteArray).extract i (i + 1) = bs [dg i] := ex_nmF ⟨i, h⟩
theorem dg_mod (i : Nat) : dg (i % 11) = dg i := by unfold dg; rw [Nat.mod_mod]
def tmC (i : Nat) : Chg := ⟨2, [116], [[97, dg i], [122]], [], []⟩
def tmL (k : Nat) : List Chg := (List.range k).map tmC
theorem tmL_succ (k : Nat) : tmL (k + 1) = tmL k ++ [tmC k] := by unfold tmL; rw [List.range_succ, List.map_append]; rfl
theorem tmL_len (k : Nat) : (tmL k).length = k := by unfold tmL; rw [List.length_map, List.length_range]
/-- j changes made, the catalog tb i, the last LSN n -/
structure Tm (j i : Nat) (n : Int) (m : Slt) : Prop where
  ack : m.acked = 0
  last : m.last = n
  now : m.now = tb i
  q : m.queue = []
  part : ∃ tl : List Trn, tl.map Trn.c = tmL j ∧ m.fols = (if tl = [] then [] else [⟨4, tl⟩])
theorem Tm.new : Tm 0 0 0 (newM [115] 0 (tb 0)) := ⟨rfl, rfl, rfl, rfl, [], rfl, rfl⟩
theorem Tm.ins {i : Nat} {n : Int} {m : Slt} (h : Tm i i n m) : Tm (i + 1) i (n + 1) (feedM m (n + 1) ⟨2, 4, 1, [], [], [], []⟩) := by
  have hl := h.last
  obtain ⟨tl, ht, hf⟩ := h.part
  rw [feed_ins (by omega) rfl, h.now]
  refine ⟨h.ack, rfl, h.now, h.q, tl ++ [⟨n + 1, tmC i⟩], by rw [List.map_append, ht, tmL_succ]; rfl, ?_⟩
  show addF m.fols 4 ⟨n + 1, tmC i⟩ = _
  rw [hf]
  by_cases h0 : tl = []
  · subst h0
    rw [if_pos rfl, if_neg (by simp)]
    rfl
  · rw [if_neg h0, if_neg (by simp)]
    show (if (4 : Int) = 4 then _ else _) = _
    rw [if_pos rfl]
theorem Tm.tab {j i k : Nat} {n : Int} {m : Slt} (h : Tm j i n m) (hk : k < 12) : Tm j k (n + 1) (feedM m (n + 1) ⟨10, 0, 0, [], [], [], Cat.bytes (tb k)⟩) := by
  have hl := h.last
  have hr : readM (Cat.bytes (tb k)) = some (tb k) := by rw [readM_parse]; exact parse_bytes (ok_tb k hk)
  have e : feedM m (n + 1) ⟨10, 0, 0, [], [], [], Cat.bytes (tb k)⟩ = { m with last := n + 1, times := m.times ++ [(n + 1, tb k)] } := by
    unfold feedM
    rw [if_neg (by omega)]
    have h1 : toldM m ⟨10, 0, 0, [], [], [], Cat.bytes (tb k)⟩ = [] := by unfold toldM; rw [if_neg (show ¬ (10 : Int) = 5 by decide)]
    have h2 : midM m (n + 1) ⟨10, 0, 0, [], [], [], Cat.bytes (tb k)⟩ = { m with last := n + 1, times := m.times ++ [(n + 1, tb k)] } := by
      unfold midM
      rw [if_neg (show ¬ ((10 : Int) = 2 ∨ (10 : Int) = 3 ∨ (10 : Int) = 4) by decide), if_pos rfl]
      dsimp only
      rw [hr]
    rw [h1, h2, queueM_nil]
  rw [e]
  exact ⟨h.ack, rfl, by unfold Slt.now; dsimp only; rw [List.getLast?_append]; rfl, h.q, h.part⟩
theorem Tm.fin {j i : Nat} {n : Int} {m : Slt} (h : Tm j i n m) (ok : SOk m) (hn : 0 ≤ n) (hj : 0 < j) : (feedM m (n + 1) ⟨5, 4, 0, [], [], [], []⟩).told = [(n + 1, tmL j)] ∧ (feedM m (n + 1) ⟨5, 4, 0, [], [], [], []⟩).queue.length = 1 := by
  have hl := h.last
  obtain ⟨tl, ht, hf⟩ := h.part
  have hlen : tl.length = j := by have := congrArg List.length ht; rwa [List.length_map, tmL_len] at this
  have h0 : ¬ tl = [] := by intro e; rw [e] at hlen; simp at hlen; omega
  rw [feed_commit (by omega) rfl]
  have e2 : turnsOf (mine m.fols (Rc.xs ⟨5, 4, 0, [], [], [], []⟩)) = tl := by
    rw [hf, if_neg h0]
    show turnsOf (mine [⟨4, tl⟩] [4]) = tl
    simp [mine, turnsOf]
  have hasc : tl.Pairwise fun a b => a.lsn ≤ b.lsn := by
    have := ok.asc ⟨4, tl⟩ (by rw [hf, if_neg h0]; simp)
    exact this.imp (fun h => by omega)
  rw [e2, sortT_of hasc]
  unfold queueM
  rw [if_neg (fun g => g.elim h0 (fun g => by have g : n + 1 ≤ m.acked := g; rw [h.ack] at g; omega))]
  constructor
  · show (m.queue ++ [_]).map _ = _
    rw [h.q]
    show [(n + 1, tl.map Trn.c)] = _
    rw [ht]
  · show (m.queue ++ [_]).length = 1
    rw [h.q]; rfl
end Go.VB.Slt
namespace Go.Proofs.Ytiimomgbklgicaa
open Go.RowKit Go.VB Go.VB.Oct Go.VB.Cat Go.VB.Rec Go.VB.Slt
/-- a slot begun with a catalog -/
theorem SH.newC {S0 : Nat → Prop} {w : World} {c : Nat} {m : List Tab} (h : CR 93 S0 w c m) (ok : Ok m) (name : Bs) (n : Int) : Calls Try.prog 9 #[.string (bs name), .int .i64 n, .pointer (some ⟨c, 0, none⟩)] w fun e w' => ∃ s, e = .returned (.pointer (some ⟨s, 0, none⟩)) ∧ SH (fun k => w.heap.size ≤ k ∧ k < w'.heap.size) w' s (newM name (max n 0) m) 1 ∧ Fr (fun _ => False) w w' := by
  have HB := hid (show ∀ z : Int, Calls Try.prog 24 #[.string (bs name), .int .i64 z, .int .i64 z, .pointer (some ⟨c, 0, none⟩)] w fun e w' => ∃ (s q b : Nat) (S C : Nat → Prop), e = .returned (.pointer (some ⟨s, 0, none⟩)) ∧ SlO S C w' s (begV name z z q m b) ∧ (∀ k, S k ∨ C k → w.heap.size ≤ k) ∧ Fr (fun _ => False) w w' from fun z => by
    have HC := hid (Clone_go h ok)
    have hmm := @run_makeMap Try.prog
    go_enter Try.func24, Try.ntmps24
    go_wp2_with (go_at_call 44; refine HC.out.mono ?_; rintro e w1 ⟨q, rfl, hc, f⟩; have HQ := hid hc; have F1 := hid f; clear hc f)
    go_ret
    exact ⟨_, q, _, _, _, rfl, begin_fin HQ.out ok name z z, fun k hk => by
      have := F1.out.size
      rcases hk with hk | hk
      · omega
      · have := hk.1; omega, ((F1.out.alloc _).alloc _).alloc _⟩)
  obtain ⟨z, hz⟩ : ∃ z, max n 0 = z := ⟨_, rfl⟩
  have hz2 : (if n < 0 then 0 else n) = z := by rw [← hz]; split <;> omega
  rw [hz]
  go_enter Try.func9, Try.ntmps9
  go_wp2_with (go_at_call 24; refine (HB.out z).mono ?_; rintro e w1 ⟨s, q, b, S, C, rfl, hs, hg, f⟩; have HG := hid (And.intro hs (And.intro hg f)); clear hs hg f)
  go_ret
  exact ⟨s, rfl, ⟨S, C, _, HG.out.1, rfl, sok_new _ _ _, few_new _ _ _, by show (0 : Nat) ≤ 1; omega, fun k hk => ⟨HG.out.2.1 k hk, HG.out.1.lt k hk⟩, fun k hk => hk.2⟩, HG.out.2.2⟩
/-- a record of a note alone -/
theorem SH.feedN {X : Nat → Prop} {w : World} {s N : Nat} {m : Slt} (h : SH X w s m N) (hN : N ≤ 1000000) (lsn kind : Int) (note : Bs) (hn : note.length ≤ 1099511627776) :
    Calls Try.prog 12 #[.pointer (some ⟨s, 0, none⟩), .int .i64 lsn, .agg #[.int .i64 kind, .int .i64 0, .int .i64 0, .slice none 0 0, .slice none 0 0, .slice none 0 0, .slice none 0 0, .string (bs note)]] w fun e w' => e = .returned (.tuple #[]) ∧ ∃ X' : Nat → Prop, SH X' w' s (feedM m lsn ⟨kind, 0, 0, [], [], [], note⟩) (N + 1) ∧ (∀ k, X' k → X k ∨ w.heap.size ≤ k) ∧ Fr X w w' := by
  have hs : ∀ xs : List Value, xs = [] → Sl (fun _ => False) w (.slice none 0 0) 0 xs := fun xs e => ⟨none, 0, rfl, Nat.le_refl _, fun h => absurd e h⟩
  exact h.feedX (Fr.refl _ _) hN (P := fun _ => False) (r := ⟨⟨kind, 0, 0, [], [], [], note⟩, .slice none 0 0, .slice none 0 0, .slice none 0 0, .slice none 0 0⟩) ⟨hs _ rfl, hs _ rfl, hs _ rfl, ⟨_, _, _, rfl⟩, Nat.zero_le _, Nat.zero_le _, Nat.zero_le _⟩ (fun k hk => hk.elim) lsn (show I64 0 from ⟨by omega, by omega⟩) (show I64 0 from ⟨by omega, by omega⟩) (fun x hx => by simp at hx) hn
theorem Do_stS {S P : Nat → Prop} {W : World} {c : Nat} {m : List Tab} (h : CR 93 S W c m) (ok : Ok m) (k : Int) (tn n j : Bs) {l : List Col} {oc : Option Addr} {cc : Nat} (hk : -9223372036854775808 ≤ k ∧ k ≤ 9223372036854775807)
    (hl : Sl P W (.slice oc l.length cc) l.length (l.flatMap Col.cells)) (hll : l.length ≤ 1048576) (hlc : ∀ c ∈ l, c.name.length ≤ 1048576) (root : Int) :
    Calls Try.prog 17 #[.pointer (some ⟨c, 0, none⟩), .agg #[.int .i64 k, .string (bs tn), .string (bs n), .slice oc l.length cc, .slice none 0 0, .slice none 0 0, .slice none 0 0, .slice none 0 0, .string (bs j), .string ⟨#[]⟩, .string ⟨#[]⟩, .int .i64 0, .slice none 0 0, .int .i64 0, .int .i64 0], .int .i64 root] W fun e w' =>
      e = .returned (.int .i64 (doM m ⟨k, tn, n, l, [], j⟩ root).2) ∧ CR 93 (Ext S W w') w' c (doM m ⟨k, tn, n, l, [], j⟩ root).1 ∧ Fr S W w' := by
  have := Do_go h ok (t := ⟨⟨k, tn, n, l, [], j⟩, oc, cc, none, 0, none, 0, 0, none, 0, 0, none, 0, 0, ⟨#[]⟩, ⟨#[]⟩, 0, none, 0, 0, 0, 0⟩) ⟨hl, ⟨none, 0, rfl, Nat.le_refl _, fun h => absurd rfl h⟩, hll, Nat.zero_le _, fun c hc => by have := hlc c hc; omega, fun n hn => by simp at hn⟩ hk root
  exact this
end Go.Proofs.Ytiimomgbklgicaa
