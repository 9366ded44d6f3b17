import Derived.Test.YtbkebjgoaeddjaaClkL
import Derived.Test.YtbkebjgoaeddjaaRound
import Derived.Test.YtbkebjgoaeddjaaScript
import Derived.Test.YtbkebjgoaeddjaaMap
import Derived.Test.YtbkebjgoaeddjaaOps
import Derived.Test.YtbkebjgoaeddjaaOwn
import Derived.Laws.EntriesVeiled
/- from XDiskM.lean.tpl -/
set_option linter.unusedVariables false
namespace Go.VB.Disk
abbrev Bytes := List UInt8
structure Pg where
  safe : Bytes
  ws : List Bytes
structure DM where
  pages : List Pg
  log : Bytes
  flushed : Nat
  off : Bool
  armed : Bool
  left : Int
def blank : Bytes := List.replicate 512 0
def Pg.cur (p : Pg) : Bytes := p.ws.getLastD p.safe
def DM.new (n : Nat) : DM := { pages := List.replicate n ⟨blank, []⟩, log := [], flushed := 0, off := false, armed := false, left := 0 }
def DM.is (m : DM) (n : Int) : Bool := decide (0 ≤ n) && decide (n < m.pages.length)
def DM.read (m : DM) (n : Int) : Bytes × Int :=
  if m.off then ([], 24) else if m.is n then ((m.pages.getD n.toNat ⟨[], []⟩).cur, 0) else ([], 22)
def DM.safeOf (m : DM) (n : Int) : Bytes × Int :=
  if m.is n then ((m.pages.getD n.toNat ⟨[], []⟩).safe, 0) else ([], 22)
def DM.operate (m : DM) (wrong : Int) (f : DM → DM) : DM × Int :=
  if m.off then (m, 24) else if wrong ≠ 0 then (m, wrong)
  else if m.armed && decide (m.left ≤ 0) then ({ m with off := true }, 24)
  else (f { m with left := Go.RowKit.wrap64 (m.left - 1) }, 0)
def Pg.write (s : Bytes) (p : Pg) : Pg := { p with ws := p.ws ++ [s] }
def Pg.sync (p : Pg) : Pg := { safe := p.cur, ws := [] }
def DM.write (m : DM) (n : Int) (s : Bytes) : DM × Int :=
  m.operate (if m.is n then (if s.length = 512 then 0 else 1) else 22) fun m => { m with pages := m.pages.modify n.toNat (Pg.write s) }
def DM.sync (m : DM) : DM × Int := m.operate 0 fun m => { m with pages := m.pages.map Pg.sync }
def DM.append (m : DM) (s : Bytes) : DM × Int :=
  m.operate (if 1048576 < m.log.length + s.length then 31 else 0) fun m => { m with log := m.log ++ s }
def DM.flush (m : DM) : DM × Int := m.operate 0 fun m => { m with flushed := m.log.length }
def DM.cut (m : DM) (n : Int) : DM × Int :=
  m.operate (if n < 0 ∨ (m.log.length : Int) < n then 1 else 0) fun m => { m with log := m.log.take n.toNat, flushed := min m.flushed n.toNat }
def DM.arm (m : DM) (n : Int) : DM := { m with armed := decide (0 ≤ n), left := n }
/-- the next number of a crash, modulo n; what is left of the numbers -/
def takeQ (q : List Int) (n : Nat) : Nat := match q with | [] => 0 | x :: _ => (x % (n : Int)).toNat
def Pg.crash (p : Pg) (q : List Int) : Pg :=
  { safe := ((p.safe :: p.ws).getD (takeQ q (p.ws.length + 1)) []).take 256 ++ ((p.safe :: p.ws).getD (takeQ q.tail (p.ws.length + 1)) []).drop 256, ws := [] }
def crashPages : List Pg → List Int → List Pg × List Int
  | [], q => ([], q)
  | p :: ps, q =>
    if p.ws = [] then let r := crashPages ps q; (p :: r.1, r.2)
    else let r := crashPages ps q.tail.tail; (p.crash q :: r.1, r.2)
def DM.crash (m : DM) (q : List Int) : DM :=
  let r := crashPages m.pages q
  let f := m.flushed + takeQ r.2 (m.log.length - m.flushed + 1)
  { m with pages := r.1, flushed := f, log := m.log.take f, off := false, armed := false }
/-- what always holds; k bounds the number of pending writes -/
structure DM.Ok (m : DM) (k : Nat) : Prop where
  np : m.pages.length ≤ 400
  safe : ∀ p ∈ m.pages, p.safe.length = 512
  ws : ∀ p ∈ m.pages, ∀ s ∈ p.ws, s.length = 512
  few : ∀ p ∈ m.pages, p.ws.length ≤ k
  log : m.log.length ≤ 1048576
  fl : m.flushed ≤ m.log.length

/-- an owned row, its block in S -/
def OwnB (S : Nat → Prop) (w : World) (e : TypeId) (size : Nat) (v : Value) (n : Nat) (xs : List Value) : Prop :=
  w.ownsRow 0 e size v n xs ∧ ∀ k, v.ownBlock = some k → S k
theorem OwnB.fr {S R : Nat → Prop} {w w' : World} {e : TypeId} {size : Nat} {v : Value} {n : Nat} {xs : List Value} (h : OwnB S w e size v n xs) (hf : Fr R w w') (hd : ∀ k, v.ownBlock = some k → ¬ R k) : OwnB S w' e size v n xs := by
  refine ⟨⟨h.1.1, ?_⟩, h.2⟩
  rcases h.1.2 with hn | ⟨g, cap, cur, rfl, hb, hgg, rest⟩
  · exact .inl hn
  · exact .inr ⟨g, cap, cur, rfl, hb, by rw [hf.blk g (Array.getElem?_eq_some_iff.1 hgg).1 (hd g rfl)]; exact hgg, rest⟩
theorem OwnB.mono {S S' : Nat → Prop} {w : World} {e : TypeId} {size : Nat} {v : Value} {n : Nat} {xs : List Value} (h : OwnB S w e size v n xs) (hs : ∀ k, v.ownBlock = some k → S k → S' k) : OwnB S' w e size v n xs :=
  ⟨h.1, fun k hk => hs k hk (h.2 k hk)⟩
/-- the cells of the pages: each page's safe bytes and the slice of its pending writes -/
def pcells (ps : List (Bytes × Value)) : List Value := ps.flatMap fun p => bv p.1 ++ [p.2]
theorem pcells_length (L : List (Bytes × Value)) (h : ∀ p ∈ L, p.1.length = 512) : (pcells L).length = L.length * 513 := by
  induction L with
  | nil => rfl
  | cons p L ih =>
    have := ih fun q hq => h q (List.mem_cons_of_mem _ hq)
    have h1 := h p List.mem_cons_self
    simp only [pcells, List.flatMap_cons, List.length_append, bv_length, List.length_cons, List.length_nil] at this ⊢
    omega
theorem pcells_append (L M : List (Bytes × Value)) : pcells (L ++ M) = pcells L ++ pcells M := by simp [pcells]
theorem pcells_split (L : List (Bytes × Value)) (i : Nat) (p : Bytes × Value) (hi : L[i]? = some p) : pcells L = pcells (L.take i) ++ (bv p.1 ++ [p.2]) ++ pcells (L.drop (i + 1)) := by
  have hl : i < L.length := (List.getElem?_eq_some_iff.1 hi).1
  have hp : L[i] = p := (List.getElem?_eq_some_iff.1 hi).2
  conv => lhs; rw [← List.take_append_drop i L, List.drop_eq_getElem_cons hl, hp]
  rw [pcells_append]
  simp [pcells]
theorem pcells_take_length (L : List (Bytes × Value)) (h : ∀ p ∈ L, p.1.length = 512) (i : Nat) (hi : i ≤ L.length) : (pcells (L.take i)).length = i * 513 := by
  rw [pcells_length _ fun p hp => h p (List.mem_of_mem_take hp), List.length_take, Nat.min_eq_left hi]
theorem pcells_range {w : World} {b : Nat} {t : TypeId} {L : List (Bytes × Value)} (hb : Blk w b (pcells L) t) (h : ∀ p ∈ L, p.1.length = 512) (i : Nat) (p : Bytes × Value) (hi : L[i]? = some p) :
    w.rangeAt b (i * 513) (bv p.1 ++ [p.2]) := by
  have := hb.range (pcells (L.take i)) (bv p.1 ++ [p.2]) (pcells (L.drop (i + 1))) (pcells_split L i p hi)
  rwa [pcells_take_length L h i (Nat.le_of_lt (List.getElem?_eq_some_iff.1 hi).1)] at this
theorem rangeAt_left {w : World} {b o : Nat} {l m : List Value} (h : w.rangeAt b o (l ++ m)) : w.rangeAt b o l := fun j v hv => h j v (by rw [List.getElem?_append_left (List.getElem?_eq_some_iff.1 hv).1]; exact hv)
theorem rangeAt_right {w : World} {b o : Nat} {l m : List Value} (h : w.rangeAt b o (l ++ m)) (n : Nat) (hn : n = o + l.length) : w.rangeAt b n m := fun j v hv => by
  subst hn
  have := h (l.length + j) v (by rw [List.getElem?_append_right (by omega)]; simpa using hv)
  rwa [Nat.add_assoc]
theorem rangeAt_one {w : World} {b o : Nat} {v : Value} (h : w.rangeAt b o [v]) : w.cell? ⟨b, o, none⟩ = some v := by simpa using h 0 v rfl
theorem pcells_set (L : List (Bytes × Value)) (i : Nat) (s : Bytes) (v v' : Value) (hi : L[i]? = some (s, v)) (h : ∀ p ∈ L, p.1.length = 512) : (pcells L).set (i * 513 + 512) v' = pcells (L.set i (s, v')) := by
  have hl : i < L.length := (List.getElem?_eq_some_iff.1 hi).1
  have hs := h _ (List.mem_of_getElem? hi)
  have hi' : (L.set i (s, v'))[i]? = some (s, v') := by simp [hl]
  rw [pcells_split L i _ hi, pcells_split (L.set i (s, v')) i _ hi']
  have e1 : (L.set i (s, v')).take i = L.take i := by simp [List.take_set_of_le]
  have e2 : (L.set i (s, v')).drop (i + 1) = L.drop (i + 1) := List.drop_set_of_lt (by omega)
  rw [e1, e2]
  have l1 := pcells_take_length L h i (Nat.le_of_lt hl)
  dsimp only at hs ⊢
  rw [List.append_assoc, List.append_assoc, List.append_assoc, List.append_assoc, List.set_append_right _ _ (by omega), List.set_append_right _ _ (by rw [bv_length]; omega)]
  have : i * 513 + 512 - (pcells (L.take i)).length - (bv s).length = 0 := by rw [bv_length]; omega
  rw [this]
  rfl
end Go.VB.Disk

/- from XDiskA.lean.tpl -/
namespace Go.Proofs.Ytbkebjgoaeddjaa
open Go.RowKit Go.VB Go.VB.Disk

theorem On_nil (w : World) : Calls Try.prog 81 #[.pointer none] w fun e w' => e = .returned (.bool false) ∧ w = w' := by
  go_enter Try.func81, Try.ntmps81
  go_wp2
  go_ret
  exact ⟨rfl, rfl⟩
theorem On_some (w : World) (d : Nat) (x : Bool) (h : w.cell? ⟨d, 3, none⟩ = some (.bool x)) : Calls Try.prog 81 #[.pointer (some ⟨d, 0, none⟩)] w fun e w' => e = .returned (.bool (!x)) ∧ w = w' := by
  go_enter Try.func81, Try.ntmps81
  go_wp2
  go_ret
  exact ⟨rfl, rfl⟩
theorem Log_nil (w : World) : Calls Try.prog 49 #[.pointer none] w fun e w' => e = .returned (.string (bs [])) ∧ w = w' := by
  go_enter Try.func49, Try.ntmps49
  go_wp2
  go_ret
  exact ⟨rfl, rfl⟩
theorem Log_some (w : World) (d : Nat) (v : Value) (l : List UInt8) (h : w.cell? ⟨d, 1, none⟩ = some v) (ho : w.ownsRow 0 5 1 v l.length (bv l)) :
    Calls Try.prog 49 #[.pointer (some ⟨d, 0, none⟩)] w fun e w' => e = .returned (.string (bs l)) ∧ w = w' := by
  have hc : (convert 64 9 v).run Try.prog w = .ok (.string (bs l)) w := by
    rcases ho.2 with ⟨rfl, hn⟩ | ⟨g, cap, cur, rfl, -, hg, hcap, -, hsz, htk⟩
    · have : l = [] := List.eq_nil_of_length_eq_zero hn
      subst this
      rw [run_convert_bytes_nil (P := Try.prog) w 64 5 Try.underlying64 Try.underlying5 0 0 9 Try.underlying9]
      rfl
    · refine run_bytes_string (P := Try.prog) (o := 0) ?_ Try.underlying64 Try.underlying5 Try.underlying9 _ cap rfl
      intro j u hj
      have hj' : j < l.length := by have := (List.getElem?_eq_some_iff.1 hj).1; simpa [bv] using this
      rw [cell_of_row w g (0 + j) cur _ _ hg, ← hj, ← htk]
      simp [hj']
  clear ho
  go_enter Try.func49, Try.ntmps49
  go_wp2
  go_ret
  exact ⟨rfl, rfl⟩
theorem fine_any (w : World) : Calls Try.prog 74 #[] w fun e w' => e = .returned (.int .i64 0) ∧ w = w' := by
  go_enter Try.func74, Try.ntmps74
  go_wp2
  go_ret
  exact ⟨rfl, rfl⟩
end Go.Proofs.Ytbkebjgoaeddjaa
/- from XDiskB.lean.tpl -/
namespace Go.Proofs.Ytbkebjgoaeddjaa
open Go.RowKit Go.VB Go.VB.Disk
theorem Try.size_u8 : (Try.prog.info? 5).map (·.size) = some 1 := by kernel_rfl
theorem Try.size_halves : (Try.prog.info? 104).map (·.size) = some 512 := by kernel_rfl
theorem Try.zero_halves : Try.zeroCells104 = (zcells 512).toArray := by kernel_rfl
end Go.Proofs.Ytbkebjgoaeddjaa
/- from XDiskC.lean.tpl -/
namespace Go.Proofs.Ytbkebjgoaeddjaa
open Go.RowKit Go.VB Go.VB.Disk
theorem Try.size_sheet : (Try.prog.info? 106).map (·.size) = some 513 := by kernel_rfl
theorem Try.zero_sheet : Try.zeroCells106 = (zcells 512 ++ [Value.slice none 0 0]).toArray := by kernel_rfl
theorem flat_length (ws : List Bytes) (hws : ∀ s ∈ ws, s.length = 512) : (ws.flatMap bv).length = ws.length * 512 := by
  induction ws with
  | nil => rfl
  | cons s ws ih =>
    have h1 := hws s List.mem_cons_self
    have := ih fun q hq => hws q (List.mem_cons_of_mem _ hq)
    simp only [List.flatMap_cons, List.length_append, bv_length, List.length_cons] at this ⊢
    omega
theorem flat_range {w : World} {g n cap : Nat} {cur : Array Value} {t : TypeId} (hg : w.heap[g]? = some (.cells cur t (0, 0))) (ws : List Bytes) (hws : ∀ s ∈ ws, s.length = 512) (h : cur.toList.take (ws.length * 512) = ws.flatMap bv)
    (i : Nat) (s : Bytes) (hi : ws[i]? = some s) : w.rangeAt g (i * 512) (bv s) := by
  have hl : i < ws.length := (List.getElem?_eq_some_iff.1 hi).1
  have hs : ws[i] = s := (List.getElem?_eq_some_iff.1 hi).2
  have e : ws.flatMap bv = (ws.take i).flatMap bv ++ bv s ++ (ws.drop (i + 1)).flatMap bv := by
    conv => lhs; rw [← List.take_append_drop i ws, List.drop_eq_getElem_cons hl, hs]
    simp
  have hlen : ((ws.take i).flatMap bv).length = i * 512 := by
    rw [flat_length _ fun p hp => hws p (List.mem_of_mem_take hp), List.length_take, Nat.min_eq_left (Nat.le_of_lt hl)]
  have hB : Blk w g cur.toList t := by unfold Blk; simpa using hg
  have := hB.range ((ws.take i).flatMap bv) (bv s) ((ws.drop (i + 1)).flatMap bv ++ cur.toList.drop (ws.length * 512)) (by
    rw [← List.append_assoc, ← e, ← h, List.take_append_drop])
  rwa [hlen] at this
end Go.Proofs.Ytbkebjgoaeddjaa
/- from XDiskD.lean.tpl -/
namespace Go.Proofs.Ytbkebjgoaeddjaa
open Go.RowKit Go.VB Go.VB.Disk
theorem operate_nil (w : World) (x y : Value) : Calls Try.prog 71 #[.pointer none, x, y] w fun e w' => e = .returned (.int .i64 24) ∧ w = w' := by
  go_enter Try.func71, Try.ntmps71
  go_wp2_with (first
   | (go_at_call 81; refine (On_nil _).mono ?_; rintro e w' ⟨rfl, rfl⟩))
  go_ret
  exact ⟨rfl, rfl⟩
theorem operate_off (w : World) (d : Nat) (h3 : w.cell? ⟨d, 3, none⟩ = some (.bool true)) (x y : Value) : Calls Try.prog 71 #[.pointer (some ⟨d, 0, none⟩), x, y] w fun e w' => e = .returned (.int .i64 24) ∧ w = w' := by
  go_enter Try.func71, Try.ntmps71
  go_wp2_with (first
   | (go_at_call 81; refine (On_some _ _ _ h3).mono ?_; rintro e w' ⟨rfl, rfl⟩))
  go_ret
  exact ⟨rfl, rfl⟩
theorem operate_wrong (w : World) (d : Nat) (h3 : w.cell? ⟨d, 3, none⟩ = some (.bool false)) (y : Value) (fw : FuncId) (cw : Array Value) (eg : ∀ args w, (callFunc fw args).run Try.prog w = .ok (.enter fw args) w)
    (r : Int) (hr : (r != 0) = true) (hw : Calls Try.prog fw cw w fun e w' => e = .returned (.int .i64 r) ∧ ∃ n, w' = w.drewN n) :
    Calls Try.prog 71 #[.pointer (some ⟨d, 0, none⟩), .func (.func fw) #[] cw, y] w fun e w' => e = .returned (.int .i64 r) ∧ Fr (fun _ => False) w w' := by
  have HW := hid hw
  clear hw
  go_enter Try.func71, Try.ntmps71
  go_wp2_with (first
   | (go_at_call 81; refine (On_some _ _ _ h3).mono ?_; rintro e w' ⟨rfl, rfl⟩)
   | (refine HW.out.mono ?_; rintro e w' ⟨rfl, n, rfl⟩))
  go_ret
  exact ⟨rfl, (Fr.refl _ _).drewN _⟩
theorem operate_power (w : World) (d : Nat) (h3 : w.cell? ⟨d, 3, none⟩ = some (.bool false)) (h4 : w.cell? ⟨d, 4, none⟩ = some (.bool true)) (left : Int) (h5 : w.cell? ⟨d, 5, none⟩ = some (.int .i64 left)) (hl : left ≤ 0)
    (hz : ∀ o, w.frozen? ⟨d, o, none⟩ = false) (y : Value) (fw : FuncId) (cw : Array Value) (eg : ∀ args w, (callFunc fw args).run Try.prog w = .ok (.enter fw args) w)
    (hw : Calls Try.prog fw cw w fun e w' => e = .returned (.int .i64 0) ∧ ∃ n, w' = w.drewN n) :
    Calls Try.prog 71 #[.pointer (some ⟨d, 0, none⟩), .func (.func fw) #[] cw, y] w fun e w' => e = .returned (.int .i64 24) ∧ ∃ n, w' = (w.drewN n).setCell ⟨d, 3, none⟩ (.bool true) := by
  have HW := hid hw
  clear hw
  go_enter Try.func71, Try.ntmps71
  go_wp2_with (first
   | (go_at_call 81; refine (On_some _ _ _ h3).mono ?_; rintro e w' ⟨rfl, rfl⟩)
   | (refine HW.out.mono ?_; rintro e w' ⟨rfl, n, rfl⟩))
  go_ret
  exact ⟨rfl, _, rfl⟩
theorem operate_go (w : World) (d : Nat) (h3 : w.cell? ⟨d, 3, none⟩ = some (.bool false)) (armed : Bool) (h4 : w.cell? ⟨d, 4, none⟩ = some (.bool armed)) (left : Int) (h5 : w.cell? ⟨d, 5, none⟩ = some (.int .i64 left)) (hl : armed = false ∨ 0 < left)
    (hz : ∀ o, w.frozen? ⟨d, o, none⟩ = false) (fw : FuncId) (cw : Array Value) (eg : ∀ args w, (callFunc fw args).run Try.prog w = .ok (.enter fw args) w)
    (hw : Calls Try.prog fw cw w fun e w' => e = .returned (.int .i64 0) ∧ ∃ n, w' = w.drewN n)
    (fd : FuncId) (cd : Array Value) (ed : ∀ args w, (callFunc fd args).run Try.prog w = .ok (.enter fd args) w) (R : World → Prop)
    (hd : ∀ n, Calls Try.prog fd cd ((w.drewN n).setCell ⟨d, 5, none⟩ (.int .i64 (wrap64 (left - 1)))) fun e w' => e = .returned (.tuple #[]) ∧ R w') :
    Calls Try.prog 71 #[.pointer (some ⟨d, 0, none⟩), .func (.func fw) #[] cw, .func (.func fd) #[] cd] w fun e w' => e = .returned (.int .i64 0) ∧ R w' := by
  have HW := hid hw
  have HD := hid hd
  have hne : fw = fw := rfl
  clear hw hd
  cases armed with
  | false =>
    clear hne hl
    go_enter Try.func71, Try.ntmps71
    go_wp2_with (first
     | (go_at_call 81; refine (On_some _ _ _ h3).mono ?_; rintro e w' ⟨rfl, rfl⟩)
     | (with_reducible refine HW.out.mono ?_; rintro e w' ⟨rfl, n, rfl⟩)
     | ((with_reducible refine (HD.out _).mono ?_); rintro e w' ⟨rfl, hr⟩; have HR := hid hr; clear hr))
    go_ret
    exact ⟨rfl, HR.out⟩
  | true =>
    clear hne
    have hl' : ¬ left ≤ 0 := by rcases hl with h | h; exact absurd h (by simp); omega
    clear hl
    go_enter Try.func71, Try.ntmps71
    go_wp2_with (first
     | (go_at_call 81; refine (On_some _ _ _ h3).mono ?_; rintro e w' ⟨rfl, rfl⟩)
     | (with_reducible refine HW.out.mono ?_; rintro e w' ⟨rfl, n, rfl⟩)
     | ((with_reducible refine (HD.out _).mono ?_); rintro e w' ⟨rfl, hr⟩; have HR := hid hr; clear hr))
    go_ret
    exact ⟨rfl, HR.out⟩

end Go.Proofs.Ytbkebjgoaeddjaa
/- from XDiskE.lean.tpl -/
namespace Go.Proofs.Ytbkebjgoaeddjaa
open Go.RowKit Go.VB Go.VB.Disk
/-- the pages' cells, as the program lays them -/
def pcs (ps : List Pg) (wv : List Value) : List (Bytes × Value) := ps.zipWith (fun p v => (p.safe, v)) wv
def DRep (S : Nat → Prop) (w : World) (d : Nat) (m : DM) : Prop :=
  ∃ (pb : Nat) (lv : Value) (wv : List Value), S d ∧ S pb ∧ (∀ k, S k → k < w.heap.size) ∧
    Blk w d [.slice (some ⟨pb, 0, none⟩) m.pages.length m.pages.length, lv, .int .i64 m.flushed, .bool m.off, .bool m.armed, .int .i64 m.left] 94 ∧
    Blk w pb (pcells (pcs m.pages wv)) 106 ∧ wv.length = m.pages.length ∧
    OwnB S w 5 1 lv m.log.length (bv m.log) ∧
    (∀ (i : Nat) (p : Pg) (v : Value), m.pages[i]? = some p → wv[i]? = some v → OwnB S w 104 512 v p.ws.length (p.ws.flatMap bv)) ∧
    (∀ (i j : Nat) (v v' : Value) (k : Nat), i ≠ j → wv[i]? = some v → wv[j]? = some v' → v.ownBlock = some k → v'.ownBlock = some k → False)
/-- S and the blocks that came between two worlds -/
def Ext (S : Nat → Prop) (w w' : World) : Nat → Prop := fun k => S k ∨ (w.heap.size ≤ k ∧ k < w'.heap.size)
theorem DRep.fr {S R : Nat → Prop} {w w' : World} {d : Nat} {m : DM} (h : DRep S w d m) (hf : Fr R w w') (hd : ∀ k, S k → ¬ R k) : DRep S w' d m := by
  obtain ⟨pb, lv, wv, h1, h2, h3, h4, h5, h6, h7, h8, h9⟩ := h
  exact ⟨pb, lv, wv, h1, h2, fun k hk => Nat.lt_of_lt_of_le (h3 k hk) hf.size, h4.fr hf (hd d h1), h5.fr hf (hd pb h2), h6, h7.fr hf fun k hk => hd k (h7.2 k hk),
    fun i p v hp hv => (h8 i p v hp hv).fr hf fun k hk => hd k ((h8 i p v hp hv).2 k hk), h9⟩
theorem DRep.ext {S : Nat → Prop} {w w' : World} {d : Nat} {m : DM} (h : DRep S w' d m) (hle : w.heap.size ≤ w'.heap.size) : DRep (Ext S w w') w' d m := by
  obtain ⟨pb, lv, wv, h1, h2, h3, h4, h5, h6, h7, h8, h9⟩ := h
  exact ⟨pb, lv, wv, .inl h1, .inl h2, fun k hk => hk.elim (h3 k) (·.2), h4, h5, h6, h7.mono fun _ _ hk => .inl hk, fun i p v hp hv => (h8 i p v hp hv).mono fun _ _ hk => .inl hk, h9⟩
theorem DRep.lt {S : Nat → Prop} {w : World} {d : Nat} {m : DM} (h : DRep S w d m) : ∀ k, S k → k < w.heap.size := by
  obtain ⟨pb, lv, wv, h1, h2, h3, _⟩ := h; exact h3
theorem pcs_length (ps : List Pg) (wv : List Value) (h : wv.length = ps.length) : (pcs ps wv).length = ps.length := by simp [pcs, h]
theorem pcs_safe (ps : List Pg) (wv : List Value) (h : ∀ p ∈ ps, p.safe.length = 512) : ∀ q ∈ pcs ps wv, q.1.length = 512 := by
  intro q hq
  obtain ⟨i, hi, rfl⟩ := List.mem_iff_getElem.1 hq
  simp only [pcs, List.getElem_zipWith]
  exact h _ (List.getElem_mem _)
theorem pcs_get (ps : List Pg) (wv : List Value) (i : Nat) (p : Pg) (v : Value) (hp : ps[i]? = some p) (hv : wv[i]? = some v) : (pcs ps wv)[i]? = some (p.safe, v) := by
  simp [pcs, List.getElem?_zipWith, hp, hv]

theorem Log_rep {S : Nat → Prop} {w : World} {d : Nat} {m : DM} (h : DRep S w d m) :
    Calls Try.prog 49 #[.pointer (some ⟨d, 0, none⟩)] w fun e w' => e = .returned (.string (bs m.log)) ∧ w = w' := by
  obtain ⟨pb, lv, wv, h1, h2, h3, h4, h5, h6, h7, h8, h9⟩ := h
  exact Log_some w d lv m.log (h4.cell 1) h7.1
theorem On_rep {S : Nat → Prop} {w : World} {d : Nat} {m : DM} (h : DRep S w d m) :
    Calls Try.prog 81 #[.pointer (some ⟨d, 0, none⟩)] w fun e w' => e = .returned (.bool (!m.off)) ∧ w = w' := by
  obtain ⟨pb, lv, wv, h1, h2, h3, h4, h5, h6, h7, h8, h9⟩ := h
  exact On_some w d m.off (h4.cell 3)
theorem own_ne {S : Nat → Prop} {w : World} {d : Nat} {l : List Value} {t e : TypeId} (hb : Blk w d l t) (hte : t ≠ e) {size n : Nat} {v : Value} {xs : List Value} (h : OwnB S w e size v n xs) : ∀ k, v.ownBlock = some k → k ≠ d := by
  intro k hk e
  subst e
  rcases h.1.2 with ⟨rfl, _⟩ | ⟨g, cap, cur, rfl, -, hg, -⟩
  · simp [Value.ownBlock] at hk
  · simp [Value.ownBlock] at hk; subst hk
    exact hte (hb.uniq (show Blk w g cur.toList e by unfold Blk; simpa using hg)).2
/-- the struct's own block has turned, the pages have not -/
theorem DRep.turn {S : Nat → Prop} {w : World} {d : Nat} {m : DM} (h : DRep S w d m) :
    ∃ (pb : Nat) (lv : Value), S d ∧ d < w.heap.size ∧ Blk w d [.slice (some ⟨pb, 0, none⟩) m.pages.length m.pages.length, lv, .int .i64 m.flushed, .bool m.off, .bool m.armed, .int .i64 m.left] 94 ∧
      OwnB S w 5 1 lv m.log.length (bv m.log) ∧
      ∀ (w' : World) (m' : DM), Fr (fun k => k = d) w w' → m'.pages = m.pages → OwnB S w' 5 1 lv m.log.length (bv m.log) ∧
        ∀ lv' : Value, OwnB S w' 5 1 lv' m'.log.length (bv m'.log) →
          Blk w' d [.slice (some ⟨pb, 0, none⟩) m.pages.length m.pages.length, lv', .int .i64 m'.flushed, .bool m'.off, .bool m'.armed, .int .i64 m'.left] 94 → DRep S w' d m' := by
  obtain ⟨pb, lv, wv, h1, h2, h3, h4, h5, h6, h7, h8, h9⟩ := h
  refine ⟨pb, lv, h1, h3 d h1, h4, h7, fun w' m' hf hp => ⟨h7.fr hf (own_ne h4 (by decide) h7), fun lv' ho hb => ⟨pb, lv', wv, h1, h2, fun k hk => Nat.lt_of_lt_of_le (h3 k hk) hf.size, by rw [hp]; exact hb, ?_, by rw [hp]; exact h6, ho, ?_, h9⟩⟩⟩
  · rw [hp]; exact h5.fr hf (h4.ne_of_type h5 (by decide)).symm
  · rw [hp]; exact fun i p v hp hv => (h8 i p v hp hv).fr hf (own_ne h4 (by decide) (h8 i p v hp hv))
end Go.Proofs.Ytbkebjgoaeddjaa
/- from XDiskF.lean.tpl -/
namespace Go.Proofs.Ytbkebjgoaeddjaa
open Go.RowKit Go.VB Go.VB.Disk
theorem Flush1_go (w : World) (bd d : Nat) (a : Option Addr) (len cap : Nat) (x : Value) (h1 : w.cell? ⟨bd, 0, none⟩ = some (.pointer (some ⟨d, 0, none⟩)))
   (c1 : w.cell? ⟨d, 1, none⟩ = some (.slice a len cap)) (c2 : w.cell? ⟨d, 2, none⟩ = some x) (hz : ∀ o, w.frozen? ⟨d, o, none⟩ = false)
   (hdb : d ≠ bd) : Calls Try.prog 75 #[.pointer (some ⟨bd, 0, none⟩)] w fun e w' => e = .returned (.tuple #[]) ∧ ∃ n, w' = (w.setCell ⟨d, 2, none⟩ (.int .i64 len)).drewN n := by
  go_enter Try.func75, Try.ntmps75
  go_wp2
  refine wp_region_plan [true, true, true, true, true, true, false, false, false] (fun kz w => (kz ≤ 6 → w.cell? ⟨d, 1, none⟩ = some (.slice a len cap)) ∧ w.cell? ⟨bd, 0, none⟩ = some (.pointer (some ⟨d, 0, none⟩))) (by kernel_rfl) (by kernel_rfl) (by intro c a d v w h; cases d <;> exact h) (fun kz => ⟨fun _ => c1, h1⟩) ?_
  repeat
    first
    | (refine wpTake_yes 6 rfl (by decide +kernel) ?_; apply Exists.intro; refine ⟨?_, ?_⟩; intro w hw; (try (have qa := (hw rfl).1 (Nat.le_refl _); have qb := (hw rfl).2)); ((go_simp <;> rfl)); simp only [Act.put, List.setIfInBounds_toArray, List.set_cons_zero, List.set_cons_succ])
    | (refine wpTake_yes 9 rfl (by decide +kernel) ?_; apply Exists.intro; refine ⟨?_, ?_⟩; intro w hw; (have qb := (hw rfl).2); ((go_simp <;> rfl)); simp only [Act.put, List.setIfInBounds_toArray, List.set_cons_zero, List.set_cons_succ])
    | (refine wpTake_no rfl ?_; simp only [Act.put, List.setIfInBounds_toArray, List.set_cons_zero, List.set_cons_succ])
    | (refine wpTake_pass ?_)
  refine wpTake_nil ?_
  repeat (refine wpRest_pass ?_)
  repeat (refine wpRest_op ?_; go_wp2; (refine ⟨?_, ?_⟩; focus (intro kz hk hk2 hh; first | (exfalso; simp at hk2; omega) | exact hh | exact (fun h => absurd h (by omega)) | obtain ⟨qa, qb⟩ := hh; first | exact ⟨qa, qb⟩ | (refine ⟨fun h => absurd h (by omega), ?_⟩; first | exact qb | (go_simp)) | (refine ⟨fun h => ?_, ?_⟩; (have qa := qa h); all_goals (first | exact qa | exact qb | (go_simp))))))
  refine wpRest_nil ?_
  go_end0
  exact ⟨rfl, 1, rfl⟩
end Go.Proofs.Ytbkebjgoaeddjaa
/- from XDiskG.lean.tpl -/
namespace Go.Proofs.Ytbkebjgoaeddjaa
open Go.RowKit Go.VB Go.VB.Disk
theorem Try.info_halves : (Try.prog.info? 104).map (fun i => (i.zero, i.size, i.bytes)) = some (some (.agg (zcells 512).toArray), 512, 512) := by kernel_rfl
theorem Append1_go (w : World) (bd bs_ d : Nat) (a : Option Addr) (len cap : Nat) (l : Bytes) (h1 : w.cell? ⟨bd, 0, none⟩ = some (.pointer (some ⟨d, 0, none⟩))) (h2 : w.cell? ⟨bs_, 0, none⟩ = some (.string (bs l)))
   (c1 : w.cell? ⟨d, 1, none⟩ = some (.slice a len cap)) (hlen : len ≤ 1048576) (hl : l.length ≤ 140737488355328) :
   Calls Try.prog 72 #[.pointer (some ⟨bd, 0, none⟩), .pointer (some ⟨bs_, 0, none⟩)] w fun e w' => e = .returned (.int .i64 (if 1048576 < len + l.length then 31 else 0)) ∧ ∃ n, w' = w.drewN n := by
  have hsz : (bs l).size = l.length := bs_size l
  by_cases hc : 1048576 < len + l.length
  · rw [if_pos hc]
    have hc' : (1048576 : Int) < (len : Int) + l.length := by omega
    go_enter Try.func72, Try.ntmps72
    go_wp2
    go_quiet (fail)
    go_wp2
    go_ret
    exact ⟨rfl, _, rfl⟩
  · rw [if_neg hc]
    have hc' : ¬ (1048576 : Int) < (len : Int) + l.length := by omega
    go_enter Try.func72, Try.ntmps72
    go_wp2
    go_quiet (fail)
    go_wp2
    go_ret
    exact ⟨rfl, _, rfl⟩
set_option maxHeartbeats 400000 in
theorem Append2_go (w : World) (bd bs_ d : Nat) (l m : Bytes) (pv lv fl off armed left : Value) (h1 : Blk w bd [.pointer (some ⟨d, 0, none⟩)] 72) (h2 : Blk w bs_ [.string (bs l)] 9)
   (hd : Blk w d [pv, lv, fl, off, armed, left] 94) (ho : w.ownsRow 0 5 1 lv m.length (bv m)) (hl : m.length + l.length ≤ 1048576) :
   Calls Try.prog 73 #[.pointer (some ⟨bd, 0, none⟩), .pointer (some ⟨bs_, 0, none⟩)] w fun e w' => e = .returned (.tuple #[]) ∧ ∃ lv', w'.ownsRow 0 5 1 lv' (m ++ l).length (bv (m ++ l)) ∧
     Blk w' d [pv, lv', fl, off, armed, left] 94 ∧ Fr (fun k => k = d ∨ lv.ownBlock = some k) w w' ∧ ∀ k, lv'.ownBlock = some k → lv.ownBlock = some k ∨ w.heap.size ≤ k := by
  have own : ∀ {b : Nat} {c : List Value} {t : TypeId}, Blk w b c t → t ≠ 5 → some b ≠ lv.ownBlock := by
    intro b c t hb ht e
    exact own_ne (S := fun _ => True) hb ht ⟨ho, fun _ _ => trivial⟩ b e.symm rfl
  have o1 := hid (own h1 (by decide))
  have o2 := hid (own h2 (by decide))
  have o3 := hid (own hd (by decide))
  have n1 := h1.ne_of_type hd (by decide)
  have c1 : w.cell? ⟨d, 1, none⟩ = some lv := hd.cell 1
  have k1 : w.cell? ⟨bd, 0, none⟩ = some (.pointer (some ⟨d, 0, none⟩)) := h1.cell 0
  have k2 : w.cell? ⟨bs_, 0, none⟩ = some (.string (bs l)) := h2.cell 0
  have H1 := hid h1
  have H2 := hid h2
  have HD := hid hd
  have HO := hid ho
  have hlb : l.length = (bv l).length := (bv_length l).symm
  have HLB := hid hlb
  clear h1 h2 hd ho own hlb
  go_enter Try.func73, Try.ntmps73
  go_wp2
  refine wp_region_plan [true, true, true, true, true, true, false, false, false, false] (fun kz w => (kz ≤ 6 → w.cell? ⟨d, 1, none⟩ = some lv) ∧ w.cell? ⟨bd, 0, none⟩ = some (.pointer (some ⟨d, 0, none⟩)) ∧ w.cell? ⟨bs_, 0, none⟩ = some (.string (bs l))) (by kernel_rfl) (by kernel_rfl) (by intro c a d v w h; cases d <;> exact h) (fun kz => ⟨fun _ => c1, k1, k2⟩) ?_
  repeat
    first
    | (refine wpTake_yes 6 rfl (by decide +kernel) ?_; apply Exists.intro; refine ⟨?_, ?_⟩; intro w hw; (try (have qa := (hw rfl).1 (Nat.le_refl _); have qb := (hw rfl).2)); ((go_simp <;> rfl)); simp only [Act.put, List.setIfInBounds_toArray, List.set_cons_zero, List.set_cons_succ])
    | (refine wpTake_yes 7 rfl (by decide +kernel) ?_; apply Exists.intro; refine ⟨?_, ?_⟩; intro w hw; (have qb := (hw rfl).2); ((go_simp <;> rfl)); simp only [Act.put, List.setIfInBounds_toArray, List.set_cons_zero, List.set_cons_succ])
    | (refine wpTake_no rfl ?_; simp only [Act.put, List.setIfInBounds_toArray, List.set_cons_zero, List.set_cons_succ])
    | (refine wpTake_pass ?_)
  refine wpTake_nil ?_
  repeat (refine wpRest_pass ?_)
  refine wpRest_op ?_
  refine wpList_append rfl rfl Try.underlying64 Try.underlying9 (.inl rfl) Try.info_u8 rfl rfl rfl (World.ownsRow.drew HO.out) (Src.string l) (by omega) (by omega) ?_
  intro b c w1 hown hg hat
  have g1 := H1.out.drew.grown hg o1.out
  have g2 := H2.out.drew.grown hg o2.out
  have g3 := HD.out.drew.grown hg o3.out
  have F1 := ((Fr.refl (fun k => k = d ∨ lv.ownBlock = some k) w).drew).grown hg (fun k hk _ => .inr hk)
  have z3 := g3.frozen
  have d1 : w1.cell? ⟨d, 1, none⟩ = some lv := g3.cell 1
  have b1 : w1.cell? ⟨bd, 0, none⟩ = some (.pointer (some ⟨d, 0, none⟩)) := g1.cell 0
  have b2 : w1.cell? ⟨bs_, 0, none⟩ = some (.string (bs l)) := g2.cell 0
  have HW := hid hown
  have HAT := hid hat
  have G3 := hid g3
  clear hg hown hat g1 g2 g3
  go_wp2
  refine ⟨fun k hk hk2 hS => ⟨fun h => (by omega), b1, b2⟩, ?_⟩
  repeat (refine wpRest_op ?_; go_wp2; (refine ⟨?_, ?_⟩; focus (intro kz hk hk2 hh; first | (exfalso; simp at hk2; omega) | exact hh | exact (fun h => absurd h (by omega)) | obtain ⟨qa, qb⟩ := hh; first | exact ⟨qa, qb⟩ | (refine ⟨fun h => absurd h (by omega), ?_⟩; first | exact qb | (go_simp)) | (refine ⟨fun h => ?_, ?_⟩; (have qa := qa h); all_goals (first | exact qa | exact qb | (go_simp))))))
  refine wpRest_nil ?_
  go_end0
  refine ⟨rfl, .slice b (m.length + l.length) c, ?_, ?_, ?_, ?_⟩
  · have := HW.out
    rw [bv_append, List.length_append]
    exact ⟨this.1, by
      rcases this.2 with h | ⟨g, cap, cur, hv, hb, hg, rest⟩
      · exact .inl h
      · refine .inr ⟨g, cap, cur, hv, hb, ?_, rest⟩
        have hne : g ≠ d := by
          rintro rfl
          have := G3.out.uniq (show Blk w1 g cur.toList 5 by unfold Blk; simpa using hg)
          exact absurd this.2 (by decide)
        rw [heap_setCell_other _ _ _ _ hne]; exact hg⟩
  · exact G3.out.set 1 _
  · exact F1.setCell ⟨d, 1, none⟩ _ (fun _ => .inl rfl)
  · intro k hk
    rcases HAT.out k hk with h | h
    · exact .inl h
    · right; rw [h]; exact Nat.le_refl _
end Go.Proofs.Ytbkebjgoaeddjaa
/- from XDiskH.lean.tpl -/
namespace Go.Proofs.Ytbkebjgoaeddjaa
open Go.RowKit Go.VB Go.VB.Disk
theorem DRep.mono {S S' : Nat → Prop} {w : World} {d : Nat} {m : DM} (h : DRep S w d m) (hs : ∀ k, S k → S' k) (hlt : ∀ k, S' k → k < w.heap.size) : DRep S' w d m := by
  obtain ⟨pb, lv, wv, h1, h2, h3, h4, h5, h6, h7, h8, h9⟩ := h
  exact ⟨pb, lv, wv, hs _ h1, hs _ h2, hlt, h4, h5, h6, h7.mono fun _ _ hk => hs _ hk, fun i p v hp hv => (h8 i p v hp hv).mono fun _ _ hk => hs _ hk, h9⟩
theorem DRep.wider {S : Nat → Prop} {w w0 w' : World} {d : Nat} {m : DM} (h : DRep (Ext S w0 w') w' d m) (hle : w.heap.size ≤ w0.heap.size) : DRep (Ext S w w') w' d m :=
  h.mono (fun k hk => hk.imp id fun ⟨h1, h2⟩ => ⟨Nat.le_trans hle h1, h2⟩) fun k hk => hk.elim (fun hk => h.lt k (.inl hk)) (·.2)
theorem DRep.d_lt {S : Nat → Prop} {w : World} {d : Nat} {m : DM} (h : DRep S w d m) : d < w.heap.size := by obtain ⟨_, _, _, hlt, _⟩ := h.turn; exact hlt
theorem ownsRow_form {w : World} {b : Nat} {e : TypeId} {size : Nat} {v : Value} {n : Nat} {xs : List Value} (h : w.ownsRow b e size v n xs) : ∃ a cap, v = .slice a n cap ∧ n ≤ cap := by
  rcases h.2 with ⟨rfl, hn⟩ | ⟨g, cap, cur, rfl, -, -, hc, -⟩
  · exact ⟨none, 0, by rw [hn], by omega⟩
  · exact ⟨_, _, rfl, hc⟩
theorem operate_rep {S : Nat → Prop} {w : World} {d : Nat} {m : DM} (h : DRep S w d m) (fw : FuncId) (cw : Array Value) (eg : ∀ args w, (callFunc fw args).run Try.prog w = .ok (.enter fw args) w) (wrong : Int)
    (hw : Calls Try.prog fw cw w fun e w' => e = .returned (.int .i64 wrong) ∧ ∃ n, w' = w.drewN n)
    (fd : FuncId) (cd : Array Value) (ed : ∀ args w, (callFunc fd args).run Try.prog w = .ok (.enter fd args) w) (f : DM → DM)
    (hd : wrong = 0 → ∀ w1, DRep S w1 d { m with left := wrap64 (m.left - 1) } → Fr (fun k => k = d) w w1 → w1.heap.size = w.heap.size →
      Calls Try.prog fd cd w1 fun e w' => e = .returned (.tuple #[]) ∧ Fr S w1 w' ∧ DRep (Ext S w1 w') w' d (f { m with left := wrap64 (m.left - 1) })) :
    Calls Try.prog 71 #[.pointer (some ⟨d, 0, none⟩), .func (.func fw) #[] cw, .func (.func fd) #[] cd] w fun e w' =>
      e = .returned (.int .i64 (m.operate wrong f).2) ∧ Fr S w w' ∧ DRep (Ext S w w') w' d (m.operate wrong f).1 := by
  obtain ⟨pb, lv, hS, hlt, h4, h7, ht⟩ := h.turn
  have c3 : w.cell? ⟨d, 3, none⟩ = some (.bool m.off) := h4.cell 3
  have c4 : w.cell? ⟨d, 4, none⟩ = some (.bool m.armed) := h4.cell 4
  have c5 : w.cell? ⟨d, 5, none⟩ = some (.int .i64 m.left) := h4.cell 5
  by_cases hoff : m.off = true
  · rw [hoff] at c3
    refine (operate_off w d c3 _ _).mono ?_
    rintro e w' ⟨rfl, rfl⟩
    simp only [DM.operate, hoff, if_true]
    exact ⟨trivial, Fr.refl _ _, h.ext (Nat.le_refl _)⟩
  have hoff' : m.off = false := by simpa using hoff
  rw [hoff'] at c3
  by_cases hwr : wrong = 0
  case neg =>
    refine (operate_wrong w d c3 _ fw cw eg wrong (by rw [bne_iff_ne]; exact hwr) hw).mono ?_
    rintro e w' ⟨rfl, hf⟩
    simp only [DM.operate, hoff', Bool.false_eq_true, if_false, if_pos (show wrong ≠ 0 from hwr)]
    exact ⟨trivial, hf.mono (by simp), (h.fr hf (by simp)).ext hf.size⟩
  subst hwr
  by_cases hp : m.armed = true ∧ m.left ≤ 0
  · obtain ⟨ha, hl⟩ := hp
    rw [ha] at c4
    refine (operate_power w d c3 c4 m.left c5 hl h4.frozen _ fw cw eg hw).mono ?_
    rintro e w' ⟨rfl, n, rfl⟩
    have hf : Fr (fun k => k = d) w ((w.drewN n).setCell ⟨d, 3, none⟩ (.bool true)) := ((Fr.refl (fun k => k = d) w).drewN n).setCell ⟨d, 3, none⟩ _ (fun _ => rfl)
    have hm : m.operate 0 f = ({ m with off := true }, 24) := by simp [DM.operate, hoff', ha, hl]
    rw [hm]
    obtain ⟨h7', ht⟩ := ht _ { m with off := true } hf rfl
    exact ⟨rfl, hf.mono (fun k hk _ => by rw [hk]; exact hS), (ht lv h7' ((h4.drewN n).set 3 (.bool true))).ext hf.size⟩
  · have hl : m.armed = false ∨ 0 < m.left := by
      cases ha : m.armed with
      | false => exact .inl rfl
      | true => exact .inr (Int.not_le.1 fun h => hp ⟨ha, h⟩)
    have hm : m.operate 0 f = (f { m with left := wrap64 (m.left - 1) }, 0) := by
      simp only [DM.operate, hoff', Bool.false_eq_true, if_false, ne_eq, not_true]
      rw [if_neg]
      simpa using fun ha => Int.not_le.1 fun h => hp ⟨ha, h⟩
    rw [hm]
    refine (operate_go w d c3 m.armed c4 m.left c5 hl h4.frozen fw cw eg hw fd cd ed (fun w' => Fr S w w' ∧ DRep (Ext S w w') w' d (f { m with left := wrap64 (m.left - 1) })) ?_).mono (fun e w' h => h)
    intro n
    have hf : Fr (fun k => k = d) w ((w.drewN n).setCell ⟨d, 5, none⟩ (.int .i64 (wrap64 (m.left - 1)))) := ((Fr.refl (fun k => k = d) w).drewN n).setCell ⟨d, 5, none⟩ _ (fun _ => rfl)
    obtain ⟨h7', ht⟩ := ht _ { m with left := wrap64 (m.left - 1) } hf rfl
    have hr := ht lv h7' ((h4.drewN n).set 5 _)
    refine (hd rfl _ hr hf (by simp)).mono ?_
    rintro e w' ⟨rfl, hf2, hr2⟩
    have hs : ((w.drewN n).setCell ⟨d, 5, none⟩ (.int .i64 (wrap64 (m.left - 1)))).heap.size = w.heap.size := by simp
    refine ⟨rfl, (hf.mono (fun k hk _ => by rw [hk]; exact hS)).trans hf2 (fun i hi _ => hi), ?_⟩
    have : Ext S ((w.drewN n).setCell ⟨d, 5, none⟩ (.int .i64 (wrap64 (m.left - 1)))) w' = Ext S w w' := by unfold Ext; rw [hs]
    rwa [this] at hr2


theorem Flush_rep {S : Nat → Prop} {w : World} {d : Nat} {m : DM} (h : DRep S w d m) :
    Calls Try.prog 48 #[.pointer (some ⟨d, 0, none⟩)] w fun e w' => e = .returned (.int .i64 m.flush.2) ∧ Fr S w w' ∧ DRep (Ext S w w') w' d m.flush.1 := by
  have B1 := Blk.new w [.pointer (some ⟨d, 0, none⟩)] 72
  have F0 := (Fr.refl (fun _ => False) w).alloc (.cells [Value.pointer (some ⟨d, 0, none⟩)].toArray 72)
  have hd := h.fr F0 (by simp)
  have hlt := h.d_lt
  have key : Calls Try.prog 71 #[.pointer (some ⟨d, 0, none⟩), .func (.func 74) #[] #[], .func (.func 75) #[] #[.pointer (some ⟨w.heap.size, 0, none⟩)]] (w.alloc (.cells [Value.pointer (some ⟨d, 0, none⟩)].toArray 72))
      fun e w' => e = .returned (.int .i64 m.flush.2) ∧ Fr S w w' ∧ DRep (Ext S w w') w' d m.flush.1 := by
    refine (operate_rep hd 74 #[] (fun _ _ => rfl) 0 ((fine_any _).mono fun e w' h => ⟨h.1, 0, h.2.symm⟩) 75 _ (fun _ _ => rfl) (fun m => { m with flushed := m.log.length }) ?_).mono ?_
    · intro _ w1 hr hf hs
      obtain ⟨pb, lv, hS, hlt1, h4, h7, ht⟩ := hr.turn
      have b1 := B1.fr hf (by omega)
      obtain ⟨a, cap, rfl, -⟩ := ownsRow_form h7.1
      refine (Flush1_go w1 w.heap.size d a m.log.length cap _ (b1.cell 0) (h4.cell 1) (h4.cell 2) h4.frozen (by omega)).mono ?_
      rintro e w' ⟨rfl, n, rfl⟩
      have hf2 : Fr (fun k => k = d) w1 ((w1.setCell ⟨d, 2, none⟩ (.int .i64 m.log.length)).drewN n) := ((Fr.refl (fun k => k = d) w1).setCell ⟨d, 2, none⟩ _ (fun _ => rfl)).drewN n
      obtain ⟨h7', ht⟩ := ht _ { m with left := wrap64 (m.left - 1), flushed := m.log.length } hf2 rfl
      exact ⟨rfl, hf2.mono (fun k hk _ => by rw [hk]; exact hS), (ht _ h7' ((h4.set 2 _).drewN n)).ext hf2.size⟩
    · rintro e w' ⟨rfl, hf, hr⟩
      exact ⟨rfl, (F0.mono (by simp)).trans hf (fun i hi _ => hi), hr.wider F0.size⟩
  have H := hid key
  clear key hd B1 F0 hlt h
  go_enter Try.func48, Try.ntmps48
  go_wp2_with (first | (go_at_call 71; refine H.out.mono ?_; rintro e w' ⟨rfl, hf, hr⟩))
  go_ret
  exact ⟨rfl, hf, hr⟩
theorem Append_rep {S : Nat → Prop} {w : World} {d : Nat} {m : DM} (h : DRep S w d m) (hlog : m.log.length ≤ 1048576) (l : Bytes) (hl : l.length ≤ 140737488355328) :
    Calls Try.prog 47 #[.pointer (some ⟨d, 0, none⟩), .string (bs l)] w fun e w' => e = .returned (.int .i64 (m.append l).2) ∧ Fr S w w' ∧ DRep (Ext S w w') w' d (m.append l).1 := by
  have hsz1 : (w.alloc (.cells [Value.pointer (some ⟨d, 0, none⟩)].toArray 72)).heap.size = w.heap.size + 1 := by simp
  have B1 := (Blk.new w [.pointer (some ⟨d, 0, none⟩)] 72).alloc (.cells [Value.string (bs l)].toArray 9)
  have B2 := Blk.new (w.alloc (.cells [Value.pointer (some ⟨d, 0, none⟩)].toArray 72)) [.string (bs l)] 9
  rw [hsz1] at B2
  have F0 := ((Fr.refl (fun _ => False) w).alloc (.cells [Value.pointer (some ⟨d, 0, none⟩)].toArray 72)).alloc (.cells [Value.string (bs l)].toArray 9)
  have hd := h.fr F0 (by simp)
  have hlt := h.d_lt
  have key : Calls Try.prog 71 #[.pointer (some ⟨d, 0, none⟩), .func (.func 72) #[] #[.pointer (some ⟨w.heap.size, 0, none⟩), .pointer (some ⟨w.heap.size + 1, 0, none⟩)], .func (.func 73) #[] #[.pointer (some ⟨w.heap.size, 0, none⟩), .pointer (some ⟨w.heap.size + 1, 0, none⟩)]]
      ((w.alloc (.cells [Value.pointer (some ⟨d, 0, none⟩)].toArray 72)).alloc (.cells [Value.string (bs l)].toArray 9))
      fun e w' => e = .returned (.int .i64 (m.append l).2) ∧ Fr S w w' ∧ DRep (Ext S w w') w' d (m.append l).1 := by
    refine (operate_rep hd 72 _ (fun _ _ => rfl) (if 1048576 < m.log.length + l.length then 31 else 0) ?_ 73 _ (fun _ _ => rfl) (fun m => { m with log := m.log ++ l }) ?_).mono ?_
    · obtain ⟨pb, lv, hS, hlt1, h4, h7, ht⟩ := hd.turn
      obtain ⟨a, cap, rfl, -⟩ := ownsRow_form h7.1
      exact Append1_go _ _ _ d a m.log.length cap l (B1.cell 0) (B2.cell 0) (h4.cell 1) hlog hl
    · intro hw0 w1 hr hf hs
      have hfit : m.log.length + l.length ≤ 1048576 := by
        rcases Nat.lt_or_ge 1048576 (m.log.length + l.length) with h | h
        · rw [if_pos h] at hw0; cases hw0
        · exact h
      obtain ⟨pb, lv, wv, q1, q2, q3, q4, q5, q6, q7, q8, q9⟩ := hr
      refine (Append2_go w1 _ _ d l m.log _ lv _ _ _ _ (B1.fr hf (by omega)) (B2.fr hf (by omega)) q4 q7.1 hfit).mono ?_
      rintro e w' ⟨rfl, lv', ho', hb', hf', hat⟩
      have n1 := own_ne (S := S) q4 (by decide) q7
      have sub : ∀ k, (k = d ∨ lv.ownBlock = some k) → S k := fun k hk => hk.elim (fun e => by rw [e]; exact q1) (q7.2 k)
      have lv5 : ∀ k, lv.ownBlock = some k → ∃ cur, Blk w1 k cur 5 := by
        intro k hk
        rcases q7.1.2 with ⟨rfl, _⟩ | ⟨g, cap, cur, rfl, -, hg, -⟩
        · simp [Value.ownBlock] at hk
        · simp [Value.ownBlock] at hk; subst hk
          exact ⟨cur.toList, by unfold Blk; simpa using hg⟩
      have apart : ∀ {b : Nat} {c : List Value} {t : TypeId}, Blk w1 b c t → t ≠ 94 → t ≠ 5 → ¬ (b = d ∨ lv.ownBlock = some b) := by
        rintro b c t hb ht1 ht2 (rfl | hk)
        · exact ht1 (hb.uniq q4).2
        · obtain ⟨cur, hc⟩ := lv5 b hk
          exact ht2 (hb.uniq hc).2
      refine ⟨rfl, hf'.mono (fun k hk _ => sub k hk), pb, lv', wv, .inl q1, .inl q2, fun k hk => hk.elim (fun h => Nat.lt_of_lt_of_le (q3 k h) hf'.size) (·.2), hb', q5.fr hf' (apart q5 (by decide) (by decide)), q6, ⟨ho', fun k hk => ?_⟩, fun i p v hp hv => ((q8 i p v hp hv).fr hf' ?_).mono fun _ _ hk => .inl hk, q9⟩
      · rcases hat k hk with h | h
        · exact .inl (q7.2 k h)
        · refine .inr ⟨h, ?_⟩
          rcases ho'.2 with ⟨rfl, _⟩ | ⟨g, cap, cur, rfl, -, hg, -⟩
          · simp [Value.ownBlock] at hk
          · simp [Value.ownBlock] at hk; subst hk
            exact (Array.getElem?_eq_some_iff.1 hg).1
      · intro k hk
        rcases (q8 i p v hp hv).1.2 with ⟨rfl, _⟩ | ⟨g, cap, cur, rfl, -, hg, -⟩
        · simp [Value.ownBlock] at hk
        · simp [Value.ownBlock] at hk; subst hk
          exact apart (show Blk w1 g cur.toList 104 by unfold Blk; simpa using hg) (by decide) (by decide)
    · rintro e w' ⟨rfl, hf, hr⟩
      exact ⟨rfl, (F0.mono (by simp)).trans hf (fun i hi _ => hi), hr.wider F0.size⟩
  have H := hid key
  clear key hd B1 B2 F0 hlt h hsz1
  go_enter Try.func47, Try.ntmps47
  go_wp2_with (first | (go_at_call 71; refine H.out.mono ?_; rintro e w' ⟨rfl, hf, hr⟩))
  go_ret
  exact ⟨rfl, hf, hr⟩

end Go.Proofs.Ytbkebjgoaeddjaa
/- from XDiskI.lean.tpl -/
namespace Go.Proofs.Ytbkebjgoaeddjaa
open Go.RowKit Go.VB Go.VB.Disk
theorem ownsRow_take {w : World} {e : TypeId} {a : Option Addr} {n cap : Nat} {l : Bytes} (h : w.ownsRow 0 e 1 (.slice a n cap) n (bv l)) (k : Nat) (hk : k ≤ n) (hl : l.length = n) : w.ownsRow 0 e 1 (.slice a k cap) k (bv (l.take k)) := by
  refine ⟨by simp [bv]; omega, ?_⟩
  rcases h.2 with ⟨h1, h2⟩ | ⟨g, cap', cur, h1, h2, h3, h4, h5, h6, h7⟩
  · left
    injection h1 with e1 e2 e3
    subst e1; subst e3
    have : k = 0 := by omega
    subst this
    exact ⟨rfl, rfl⟩
  · injection h1 with e1 e2 e3
    subst e1; subst e3
    refine .inr ⟨g, cap, cur, rfl, h2, h3, by omega, h5, h6, ?_⟩
    rw [bv_take, ← h7, List.take_take]
    congr 1
    omega
theorem pcs_set (ps : List Pg) (wv : List Value) (i : Nat) (p : Pg) (v : Value) (hp : ps[i]? = some p) (s : Bytes) : (pcs ps wv).set i (p.safe, v) = pcs (ps.modify i (Pg.write s)) (wv.set i v) := by
  apply List.ext_getElem?
  intro j
  have hi := (List.getElem?_eq_some_iff.1 hp).1
  have hpi := (List.getElem?_eq_some_iff.1 hp).2
  rw [List.getElem?_set]
  simp only [pcs, List.getElem?_zipWith, List.getElem?_modify, List.getElem?_set, List.length_zipWith]
  by_cases hij : i = j
  · subst hij
    simp only [if_true, hp]
    by_cases hl : i < wv.length
    · rw [if_pos (by omega), if_pos hl]; rfl
    · rw [if_neg (by omega), if_neg hl]; rfl
  · rw [if_neg hij, if_neg hij]
    cases ps[j]? <;> cases wv[j]? <;> simp [hij]
end Go.Proofs.Ytbkebjgoaeddjaa
/- from XDiskJ.lean.tpl -/
namespace Go.Proofs.Ytbkebjgoaeddjaa
open Go.RowKit Go.VB Go.VB.Disk
attribute [local go_sem] Oper.semAt_some
set_option maxHeartbeats 1000000 in
theorem written1_in (l bd d pb np : Nat) (J : Nat → World → Prop) (len : Nat → Nat) (hnp : np ≤ 400)
    (hJ : ∀ i W, J i W → W.cell? ⟨bd, 0, none⟩ = some (.pointer (some ⟨d, 0, none⟩)) ∧ W.cell? ⟨d, 0, none⟩ = some (.slice (some ⟨pb, 0, none⟩) np np) ∧ (i < np → ∃ a cap, W.cell? ⟨pb, i * 513 + 512, none⟩ = some (.slice a (len i) cap)))
    (hskip : ∀ i W, J i W → i < np → len i = 0 → J (i + 1) W)
    (hY : ∀ i W, J i W → i < np → 0 < len i → YieldAt Fence.wide 0 Try.prog l #[.pointer (some ⟨pb, i * 513, none⟩)] W fun e W' => e = .returned (.bool true) ∧ J (i + 1) W')
    (W : World) (h0 : J 0 W) : CallsIn Fence.wide 0 Try.prog 82 #[.func (.yield l) #[] #[], .pointer (some ⟨bd, 0, none⟩)] W fun e W' => (∃ v, e = .returned v) ∧ J np W' := by
  have hro : Fence.wide.round = none := rfl
  refine callsIn_of_wp Try.func82 rfl trivial ?_ hro
  simp only [Try.ntmps82, List.size_toArray, List.length_cons, List.length_nil, Nat.reduceAdd, Nat.reduceSub, Array.replicate_succ, Array.replicate_zero, List.push_toArray, List.append_toArray, List.nil_append, List.cons_append]
  obtain ⟨q1, q2, q3⟩ := hJ 0 W h0
  gi_wp2
  gi_loopw [3, 9] (fun _ p wr => ∃ i : Nat, p = .int .i64 i ∧ i ≤ np ∧ J i wr) (fun _ p _ => np - (intOf p).toNat)
  case atStart => exact ⟨0, rfl, Nat.zero_le _, h0⟩
  case round =>
    obtain ⟨i, rfl, hi, hJi⟩ := hrel
    obtain ⟨q1, q2, q3⟩ := hJ i wr hJi
    by_cases hlt : i < np
    · obtain ⟨a, cap, q4⟩ := q3 hlt
      have hi0 : (0 : Int) ≤ i := by omega
      have hlt' : (i : Int) < np := by omega
      by_cases hlen : 0 < len i
      · have hlen' : (0 : Int) < len i := by omega
        obtain ⟨fn, tmps, assign, body, hy, hR⟩ := hY i wr hJi hlt hlen
        have HR := hid hR
        have HJ := hid hJi
        clear hY hskip hJ q3 h0 hR hJi hlen
        gi_wp2
        refine ⟨rfl, HR.out.mono ?_⟩
        rintro e W3 ⟨rfl, hJ3⟩
        have HJ3 := hid hJ3
        clear hJ3
        gi_wp2
        go_roundw
        case rel => exact ⟨i + 1, by go_num, by omega, HJ3.out⟩
        case measure => simp [intOf]; omega
      · have hlen' : len i = 0 := by omega
        have HK := hid (hskip i wr hJi hlt hlen')
        have hl2 : ¬ (0 : Int) < len i := by omega
        clear hY hskip hJ q3 h0 hlen hJi hlen'
        gi_wp2
        refine ⟨fun _ h => (by cases h), ?_⟩
        gi_wp2
        go_roundw
        case rel => exact ⟨i + 1, by go_num, by omega, HK.out⟩
        case measure => simp [intOf]; omega
    · obtain rfl : i = np := by omega
      have HJ := hid hJi
      clear hY hskip hJ q3 h0 hJi
      gi_wp2
      go_end0
      exact ⟨⟨_, rfl⟩, HJ.out⟩

end Go.Proofs.Ytbkebjgoaeddjaa
/- from XDiskK.lean.tpl -/
namespace Go.Proofs.Ytbkebjgoaeddjaa
open Go.RowKit Go.VB Go.VB.Disk
attribute [local go_sem] Oper.semAt_some
theorem written_any (w : World) (a : Option Addr) : Calls Try.prog 77 #[.pointer a] w fun e w' => e = .returned (.func (.func 82) #[] #[.pointer (some ⟨w.heap.size, 0, none⟩)]) ∧ (w.alloc (.cells [Value.pointer a].toArray 72)) = w' := by
  go_enter Try.func77, Try.ntmps77
  go_wp2
  go_ret
  exact ⟨rfl, rfl⟩
theorem pcells_setsafe (L : List (Bytes × Value)) (i : Nat) (s s' : Bytes) (v : Value) (hi : L[i]? = some (s, v)) (h : ∀ p ∈ L, p.1.length = 512) (hs' : s'.length = 512) :
    (pcells L).take (i * 513) ++ bv s' ++ (pcells L).drop (i * 513 + (bv s').length) = pcells (L.set i (s', v)) := by
  have hl : i < L.length := (List.getElem?_eq_some_iff.1 hi).1
  have hs := h _ (List.mem_of_getElem? hi)
  have hi' : (L.set i (s', v))[i]? = some (s', v) := by simp [hl]
  rw [pcells_split L i _ hi, pcells_split (L.set i (s', v)) i _ hi']
  have e1 : (L.set i (s', v)).take i = L.take i := by simp [List.take_set_of_le]
  have e2 : (L.set i (s', v)).drop (i + 1) = L.drop (i + 1) := List.drop_set_of_lt (by omega)
  rw [e1, e2]
  have l1 := pcells_take_length L h i (Nat.le_of_lt hl)
  dsimp only at hs ⊢
  have e3 : (pcells (L.take i) ++ (bv s ++ [v]) ++ pcells (L.drop (i + 1))).take (i * 513) = pcells (L.take i) := by
    rw [List.append_assoc, List.take_left' l1]
  have e4 : (pcells (L.take i) ++ (bv s ++ [v]) ++ pcells (L.drop (i + 1))).drop (i * 513 + (bv s').length) = [v] ++ pcells (L.drop (i + 1)) := by
    have : pcells (L.take i) ++ (bv s ++ [v]) ++ pcells (L.drop (i + 1)) = (pcells (L.take i) ++ bv s) ++ ([v] ++ pcells (L.drop (i + 1))) := by simp
    rw [this, List.drop_left' (by rw [List.length_append, l1, bv_length, bv_length, hs, hs'])]
  rw [e3, e4]
  simp
/-- what a page becomes, and where its writes' slice goes -/
def syncV (p : Pg) (v : Value) : Value := if p.ws = [] then v else .slice none 0 0
def mixL (E L : List (Bytes × Value)) (k : Nat) : List (Bytes × Value) := E.take k ++ L.drop k
theorem mixL_zero (E L : List (Bytes × Value)) : mixL E L 0 = L := by simp [mixL]
theorem mixL_all (E L : List (Bytes × Value)) (h : E.length = L.length) : mixL E L L.length = E := by simp [mixL, ← h]
theorem mixL_get (E L : List (Bytes × Value)) (k : Nat) (h : E.length = L.length) (hk : k < L.length) : (mixL E L k)[k]? = L[k]? := by
  simp only [mixL]
  rw [List.getElem?_append_right (by simp; omega)]
  simp [List.getElem?_drop]
  congr 1
  omega
theorem mixL_set (E L : List (Bytes × Value)) (k : Nat) (e : Bytes × Value) (h : E.length = L.length) (he : E[k]? = some e) : (mixL E L k).set k e = mixL E L (k + 1) := by
  have hk : k < E.length := (List.getElem?_eq_some_iff.1 he).1
  have hek : E[k] = e := (List.getElem?_eq_some_iff.1 he).2
  simp only [mixL]
  rw [List.set_append_right _ _ (by simp; omega), List.take_succ_eq_append_getElem hk, hek, List.drop_eq_getElem_cons (by omega : k < L.length)]
  simp only [List.length_take, Nat.min_eq_left (Nat.le_of_lt hk), Nat.sub_self, List.set_cons_zero, List.append_assoc, List.singleton_append]
theorem mixL_skip (E L : List (Bytes × Value)) (k : Nat) (h : E.length = L.length) (he : E[k]? = L[k]?) (hk : k < L.length) : mixL E L k = mixL E L (k + 1) := by
  rw [← mixL_set E L k E[k] h (List.getElem?_eq_getElem (by omega))]
  apply List.ext_getElem?
  intro j
  rw [List.getElem?_set]
  by_cases hj : k = j
  · subst hj
    rw [if_pos rfl, mixL_get E L k h hk, ← he, if_pos (by simp [mixL]; omega), List.getElem?_eq_getElem (by omega)]
  · rw [if_neg hj]
theorem mixL_safe (E L : List (Bytes × Value)) (k : Nat) (hE : ∀ p ∈ E, p.1.length = 512) (hL : ∀ p ∈ L, p.1.length = 512) : ∀ p ∈ mixL E L k, p.1.length = 512 := by
  intro p hp
  rcases List.mem_append.1 hp with h | h
  · exact hE p (List.mem_of_mem_take h)
  · exact hL p (List.mem_of_mem_drop h)
theorem Pg.cur_length (p : Pg) (h1 : p.safe.length = 512) (h2 : ∀ s ∈ p.ws, s.length = 512) : p.cur.length = 512 := by
  unfold Pg.cur
  rw [List.getLastD_eq_getLast?]
  cases h : p.ws.getLast? with
  | none => exact h1
  | some x => exact h2 x (List.mem_of_getLast? h)
def syncE (ps : List Pg) (wv : List Value) : List (Bytes × Value) := ps.zipWith (fun p v => (p.cur, syncV p v)) wv

end Go.Proofs.Ytbkebjgoaeddjaa
/- from XDiskL.lean.tpl -/
namespace Go.Proofs.Ytbkebjgoaeddjaa
open Go.RowKit Go.VB Go.VB.Disk
attribute [local go_sem] Oper.semAt_some
theorem syncE_length (ps : List Pg) (wv : List Value) (h : wv.length = ps.length) : (syncE ps wv).length = (pcs ps wv).length := by simp [syncE, pcs]
theorem syncE_get (ps : List Pg) (wv : List Value) (i : Nat) (p : Pg) (v : Value) (hp : ps[i]? = some p) (hv : wv[i]? = some v) : (syncE ps wv)[i]? = some (p.cur, syncV p v) := by
  simp [syncE, List.getElem?_zipWith, hp, hv]
theorem syncE_safe (ps : List Pg) (wv : List Value) (h : ∀ p ∈ ps, p.safe.length = 512) (h2 : ∀ p ∈ ps, ∀ s ∈ p.ws, s.length = 512) : ∀ q ∈ syncE ps wv, q.1.length = 512 := by
  intro q hq
  obtain ⟨i, hi, rfl⟩ := List.mem_iff_getElem.1 hq
  simp only [syncE, List.getElem_zipWith]
  exact Pg.cur_length _ (h _ (List.getElem_mem _)) (h2 _ (List.getElem_mem _))
theorem run_load_mid {P : Program} {op : Oper} {a : Act} {w : World} (ty : TypeId) (x : Operand) (ho : op.op = .load ty x) (b o : Nat) (hx : a.eval x = .pointer (some ⟨b, o, none⟩)) (cs : List Value) (d : TypeDesc) (hc : w.rangeAt b o cs)
    (hu : P.underlying ty = some d) (hd : d.isRow = true) (hi : (P.info? ty).map (·.size) = some cs.length) : (execOp a.eval op).run P w = .ok (.value (.agg cs.toArray)) w := by
  unfold execOp
  simp only [ho, hx, Instr.loadAt, Instr.sureAddr, Sem.run_bind, Sem.run_pure, Result.andThen_ok, run_loadVar_mid w b o ty cs d hc hu hd hi]
end Go.Proofs.Ytbkebjgoaeddjaa
/- from XDiskN.lean.tpl -/
namespace Go.Proofs.Ytbkebjgoaeddjaa
open Go.RowKit Go.VB Go.VB.Disk
theorem pcs_sync (ps : List Pg) (wv : List Value) (h : wv.length = ps.length) : pcs (ps.map Pg.sync) (ps.zipWith syncV wv) = syncE ps wv := by
  apply List.ext_getElem?
  intro i
  simp only [pcs, syncE, List.getElem?_zipWith, List.getElem?_map]
  cases ps[i]? <;> cases wv[i]? <;> simp [Pg.sync]
end Go.Proofs.Ytbkebjgoaeddjaa
/- from XDiskO.lean.tpl -/
namespace Go.Proofs.Ytbkebjgoaeddjaa
open Go.RowKit Go.VB Go.VB.Disk
theorem madeCells_flat (z : List Value) (n : Nat) : (madeCells z.toArray (n * z.length)).toList = (List.replicate n z).flatten := by
  have h : ∀ n, (List.range (n * z.length)).map (fun i => z.toArray[i % z.toArray.size]!) = (List.replicate n z).flatten := by
    intro n
    induction n with
    | zero => simp
    | succ n ih =>
      rw [Nat.succ_mul, List.range_add, List.map_append, ih, List.replicate_succ', List.flatten_append]
      congr 1
      simp only [List.map_map, List.flatten_singleton]
      apply List.ext_getElem
      · simp
      · intro i h1 h2
        simp at h1
        simp [Nat.mod_eq_of_lt h1, Nat.add_mod, h1]
  simpa [madeCells] using h n
theorem run_make_rows {P : Program} (w : World) {t e : TypeId} {z : List Value} {size bytes : Nat} (ht : P.underlying t = some (.slice e)) (hi : (P.info? e).map (fun i => (i.zero, i.size, i.bytes)) = some (some (.agg z.toArray), size, bytes)) (hs : z.length = size)
    (n : Nat) (hc : n * size ≤ 16777216) (hb : bytes * n ≤ 281474976710656) (h63 : n ≤ 1099511627776) :
    (Instr.makeSlice t (.int .i64 n) (.int .i64 n)).run P w = .ok (.slice (some ⟨w.heap.size, 0, none⟩) n n) (w.alloc (.cells (List.replicate n z).flatten.toArray e)) := by
  obtain ⟨i, h0, h1, h2, h3⟩ := info_parts hi
  subst h2; subst h3
  have := run_makeSlice w t e i _ ht h0 h1 .i64 .i64 n n (by omega) (by omega) (by rw [Int.toNat_natCast]; exact hc) (by rw [← Int.natCast_mul]; omega) (by omega)
  rw [this]
  have e2 : madeCells (Value.agg z.toArray).cells (n * i.size) = (List.replicate n z).flatten.toArray := by
    apply Array.toList_inj.1
    rw [List.toList_toArray, ← madeCells_flat, ← hs]
    rfl
  simp only [Int.toNat_natCast, e2]
theorem Try.info_sheet : (Try.prog.info? 106).map (fun i => (i.zero, i.size, i.bytes)) = some (some (.agg (zcells 512 ++ [Value.slice none 0 0]).toArray), 513, 536) := by kernel_rfl
theorem wpList_makeSlice {P : Program} {ops : Array Oper} {rest : List Oper} {op : Oper} {a : Act} {w : World} {Q : Exit → Act → World → Prop} (hgd : op.guard = none) {t : TypeId} {lo co : Operand} (ho : op.op = .makeSlice t lo co)
    {v : Value} {w' : World} (hr : (Instr.makeSlice t (a.eval lo) (a.eval co)).run P w = .ok v w') (h : wpList P ops Q rest (a.put op.dst v) w') : wpList P ops Q (op :: rest) a w :=
  wpList_plain hgd fun _ hK => by
    unfold Oper.wp execOp
    simp only [ho, hr, Sem.run_bind, Sem.run_pure, Result.andThen_ok]
    exact hK _ _ h
theorem bv_blank : bv Disk.blank = zcells 512 := by
  unfold Disk.blank bv zcells
  rw [List.map_replicate]
  rfl
theorem pcells_blank (n : Nat) : pcells (List.replicate n (Disk.blank, Value.slice none 0 0)) = (List.replicate n (zcells 512 ++ [Value.slice none 0 0])).flatten := by
  simp only [pcells, List.flatMap, List.map_replicate, bv_blank]
set_option maxRecDepth 100000 in
theorem dNew_go (w : World) (n : Int) (k : Nat) (hk : k = (min n 400).toNat) :
    Calls Try.prog 46 #[.int .i64 n] w fun e w' => e = .returned (.pointer (some ⟨w.heap.size + 1, 0, none⟩)) ∧ Fr (fun _ => False) w w' ∧ Blk w' w.heap.size (pcells (List.replicate k (Disk.blank, Value.slice none 0 0))) 106 ∧
      Blk w' (w.heap.size + 1) [.slice (some ⟨w.heap.size, 0, none⟩) k k, .slice none 0 0, .int .i64 0, .bool false, .bool false, .int .i64 0] 94 ∧ w'.heap.size = w.heap.size + 2 := by
  have hr : ∀ x : Int, x = max 0 (min n 400) → (Instr.makeSlice 92 (.int .i64 x) (.int .i64 x)).run Try.prog w = .ok (.slice (some ⟨w.heap.size, 0, none⟩) k k) (w.alloc (.cells (pcells (List.replicate k (Disk.blank, Value.slice none 0 0))).toArray 106)) := fun x hx => by
    obtain rfl : x = k := by omega
    rw [pcells_blank]
    exact run_make_rows (P := Try.prog) w (t := 92) (e := 106) (z := zcells 512 ++ [Value.slice none 0 0]) rfl Try.info_sheet (by rw [List.length_append, zcells_length]; rfl) k (by omega) (by omega) (by omega)
  have F1 := (Fr.refl (fun _ => False) w).alloc (.cells (pcells (List.replicate k (Disk.blank, Value.slice none 0 0))).toArray 106)
  have B1 := Blk.new w (pcells (List.replicate k (Disk.blank, Value.slice none 0 0))) 106
  have hsz : (w.alloc (.cells (pcells (List.replicate k (Disk.blank, Value.slice none 0 0))).toArray 106)).heap.size = w.heap.size + 1 := by simp
  generalize w.alloc (.cells (pcells (List.replicate k (Disk.blank, Value.slice none 0 0))).toArray 106) = w1 at *
  have HR := hid hr
  have HF := hid F1
  have HB := hid B1
  clear hr F1 B1 hk
  have HB2 := Blk.new w1 [.slice (some ⟨w.heap.size, 0, none⟩) k k, .slice none 0 0, .int .i64 0, .bool false, .bool false, .int .i64 0] 94
  rw [hsz] at HB2
  have HB3 := hid HB2
  clear HB2
  go_enter Try.func46, Try.ntmps46
  go_wp2_with (refine wpList_makeSlice rfl (t := 92) (lo := .tmp 5) (co := .tmp 5) rfl (v := .slice (some ⟨w.heap.size, 0, none⟩) k k) (w' := w1) (by exact HR.out _ (by omega)) ?_)
  all_goals go_ret
  all_goals exact ⟨rfl, HF.out.alloc _, HB.out.alloc _, HB3.out, by rw [World.size_alloc]; omega⟩
theorem New_rep (w : World) (n : Int) :
    Calls Try.prog 46 #[.int .i64 n] w fun e w' => e = .returned (.pointer (some ⟨w.heap.size + 1, 0, none⟩)) ∧ Fr (fun _ => False) w w' ∧ DRep (fun k => w.heap.size ≤ k ∧ k < w'.heap.size) w' (w.heap.size + 1) (DM.new (min n 400).toNat) := by
  refine (dNew_go w n _ rfl).mono ?_
  rintro e w' ⟨rfl, hf, hb, hd, hs⟩
  generalize (min n 400).toNat = k at *
  refine ⟨rfl, hf, w.heap.size, .slice none 0 0, List.replicate k (.slice none 0 0), by omega, by omega, fun k hk => hk.2, ?_, ?_, by simp [DM.new], ⟨⟨by simp [DM.new, bv], .inl ⟨rfl, rfl⟩⟩, by simp [Value.ownBlock]⟩, ?_, ?_⟩
  · simpa [DM.new] using hd
  · have : pcs (DM.new k).pages (List.replicate k (.slice none 0 0)) = List.replicate k (Disk.blank, Value.slice none 0 0) := by simp [pcs, DM.new]
    rw [this]; exact hb
  · intro i p v hp hv
    have e1 := List.mem_of_getElem? hp
    have e2 := List.mem_of_getElem? hv
    simp only [DM.new, List.mem_replicate] at e1 e2
    obtain ⟨-, rfl⟩ := e1
    obtain ⟨-, rfl⟩ := e2
    exact ⟨⟨by simp, .inl ⟨rfl, rfl⟩⟩, by simp [Value.ownBlock]⟩
  · intro i j v v' k _ hv _ h1
    have e2 := List.mem_of_getElem? hv
    simp only [List.mem_replicate] at e2
    obtain ⟨-, rfl⟩ := e2
    simp [Value.ownBlock] at h1
theorem Ok_new (k : Nat) (hk : k ≤ 400) : (DM.new k).Ok 0 := by
  refine ⟨by simpa [DM.new] using hk, ?_, ?_, ?_, by simp [DM.new], by simp [DM.new]⟩
  · intro p hp
    simp only [DM.new, List.mem_replicate] at hp
    rw [hp.2]
    exact List.length_replicate
  · intro p hp
    simp only [DM.new, List.mem_replicate] at hp
    rw [hp.2]; simp
  · intro p hp
    simp only [DM.new, List.mem_replicate] at hp
    rw [hp.2]; simp

end Go.Proofs.Ytbkebjgoaeddjaa
/- from XDiskP.lean.tpl -/
namespace Go.Proofs.Ytbkebjgoaeddjaa
open Go.RowKit Go.VB Go.VB.Disk
def iv (q : List Int) : List Value := q.map (Value.int .i64)
/-- v is a slice of the numbers q, in a block that R holds for -/
def QRep (R : Nat → Prop) (w : World) (v : Value) (q : List Int) : Prop :=
  ∃ (a : Option Addr) (cap : Nat), v = .slice a q.length cap ∧ q.length ≤ cap ∧ (q ≠ [] → ∃ g o, a = some ⟨g, o, none⟩ ∧ R g ∧ w.rangeAt g o (iv q))
theorem QRep.fr {R S : Nat → Prop} {w w' : World} {v : Value} {q : List Int} (h : QRep R w v q) (hf : Fr S w w') (hS : ∀ k, R k → ¬ S k) : QRep R w' v q := by
  obtain ⟨a, cap, rfl, hc, h⟩ := h
  refine ⟨a, cap, rfl, hc, fun hq => ?_⟩
  obtain ⟨g, o, rfl, hR, hr⟩ := h hq
  refine ⟨g, o, rfl, hR, fun j u hj => ?_⟩
  have := hr j u hj
  have hlt : g < w.heap.size := by
    simp only [World.cell?] at this
    cases hg : w.heap[g]? with
    | none => simp [hg] at this
    | some _ => exact (Array.getElem?_eq_some_iff.1 hg).1
  rw [← this]
  simp only [World.cell?]
  rw [hf.blk g hlt (hS g hR)]
set_option maxHeartbeats 400000 in
theorem Crash1_nil (w : World) (qb : Nat) (n : Int) (a : Option Addr) (cap : Nat) (hq : w.cell? ⟨qb, 0, none⟩ = some (.slice a 0 cap)) :
    Calls Try.prog 76 #[.int .i64 n, .pointer (some ⟨qb, 0, none⟩)] w fun e w' => e = .returned (.int .i64 0) ∧ w = w' := by
  go_enter Try.func76, Try.ntmps76
  go_wp2
  go_ret
  exact ⟨rfl, rfl⟩
set_option maxHeartbeats 400000 in
theorem Crash1_cons (w : World) (qb : Nat) (n x : Int) (g o len cap : Nat) (hq : w.cell? ⟨qb, 0, none⟩ = some (.slice (some ⟨g, o, none⟩) (len + 1) cap)) (hz : w.frozen? ⟨qb, 0, none⟩ = false)
    (hx : w.cell? ⟨g, o, none⟩ = some (.int .i64 x)) (hn0 : 0 < n) (hn : n ≤ 1099511627776) (hcap : len + 1 ≤ cap) (hlen : len < 9223372036854775807) :
    Calls Try.prog 76 #[.int .i64 n, .pointer (some ⟨qb, 0, none⟩)] w fun e w' => e = .returned (.int .i64 (x % n)) ∧ ∃ a, w' = w.setCell ⟨qb, 0, none⟩ (.slice a len (cap - 1)) ∧ (len ≠ 0 → a = some ⟨g, o + 1, none⟩) := by
  have hlen0 : (0 : Int) ≤ len := by omega
  have hl1 : ¬ (len : Int) + 1 = 0 := by omega
  have e1 := tmod_fix x n hn0
  have b1 := Int.tmod_lt_of_pos x hn0
  have b2 : -n < x.tmod n := Int.lt_tmod_of_pos x hn0
  go_enter Try.func76, Try.ntmps76
  go_wp2
  all_goals go_ret
  · exact ⟨rfl, _, rfl, fun h => (by exfalso; omega)⟩
  · exact ⟨rfl, _, rfl, fun _ => rfl⟩
theorem Crash1_rep {R : Nat → Prop} (w : World) (qb : Nat) (n : Nat) (q : List Int) (v : Value) (hb : Blk w qb [v] 26) (hq : QRep R w v q) (hR : ¬ R qb) (hn0 : 0 < n) (hn : n ≤ 1099511627776) (hlen : q.length ≤ 9223372036854775807) :
    Calls Try.prog 76 #[.int .i64 n, .pointer (some ⟨qb, 0, none⟩)] w fun e w' => e = .returned (.int .i64 (takeQ q n)) ∧ Fr (fun k => k = qb) w w' ∧ w'.heap.size = w.heap.size ∧ ∃ v', Blk w' qb [v'] 26 ∧ QRep R w' v' q.tail := by
  obtain ⟨a, cap, rfl, hcap, hr⟩ := hq
  cases q with
  | nil =>
    refine (Crash1_nil w qb n a cap (hb.cell 0)).mono ?_
    rintro e w' ⟨rfl, rfl⟩
    exact ⟨rfl, Fr.refl _ _, rfl, _, hb, a, cap, rfl, hcap, fun h => absurd rfl h⟩
  | cons x q =>
    obtain ⟨g, o, rfl, hRg, hr⟩ := hr (by simp)
    have hx : w.cell? ⟨g, o, none⟩ = some (.int .i64 x) := by simpa using hr 0 (.int .i64 x) rfl
    simp only [List.length_cons] at hcap hlen
    refine (Crash1_cons w qb n x g o q.length cap (hb.cell 0) (hb.frozen 0) hx (by omega) (by omega) hcap (by omega)).mono ?_
    rintro e w' ⟨rfl, a, rfl, ha⟩
    have hf : Fr (fun k => k = qb) w (w.setCell ⟨qb, 0, none⟩ (.slice a q.length (cap - 1))) := (Fr.refl _ _).setCell _ _ (fun _ => rfl)
    refine ⟨?_, hf, by simp, _, hb.set 0 _, ?_⟩
    · have : ((x % (n : Int)).toNat : Int) = x % n := Int.toNat_of_nonneg (Int.emod_nonneg _ (by omega))
      simp [takeQ, this]
    · have hq' : QRep R w (.slice a q.length (cap - 1)) q := by
        refine ⟨a, cap - 1, rfl, by omega, fun hq => ?_⟩
        have := ha (by intro h; exact hq (List.eq_nil_of_length_eq_zero h))
        refine ⟨g, o + 1, this, hRg, fun j u hj => ?_⟩
        have := hr (j + 1) u (by simpa [iv] using hj)
        rwa [show o + (j + 1) = o + 1 + j by omega] at this
      exact hq'.fr hf (fun k hk e => hR (e ▸ hk))

end Go.Proofs.Ytbkebjgoaeddjaa
/- from XDiskQ.lean.tpl -/
namespace Go.Proofs.Ytbkebjgoaeddjaa
open Go.RowKit Go.VB Go.VB.Disk
/-- the numbers that are left ahead of page i -/
def qAt (ps : List Pg) (q : List Int) (i : Nat) : List Int := (ps.take i).foldl (fun q p => if p.ws = [] then q else q.tail.tail) q
def crashE : List Pg → List Value → List Int → List (Bytes × Value)
  | p :: ps, v :: wv, q => if p.ws = [] then (p.safe, v) :: crashE ps wv q else ((p.crash q).safe, .slice none 0 0) :: crashE ps wv q.tail.tail
  | _, _, _ => []
theorem qAt_zero (ps : List Pg) (q : List Int) : qAt ps q 0 = q := by simp [qAt]
theorem qAt_succ (ps : List Pg) (q : List Int) (i : Nat) (p : Pg) (hp : ps[i]? = some p) : qAt ps q (i + 1) = if p.ws = [] then qAt ps q i else (qAt ps q i).tail.tail := by
  simp [qAt, List.take_add_one, hp]
theorem qAt_cons (p : Pg) (ps : List Pg) (q : List Int) (i : Nat) : qAt (p :: ps) q (i + 1) = qAt ps (if p.ws = [] then q else q.tail.tail) i := by simp [qAt]
theorem qAt_length (ps : List Pg) : ∀ (q : List Int) (i : Nat), (qAt ps q i).length ≤ q.length := by
  induction ps with
  | nil => intro q i; simp [qAt]
  | cons p ps ih =>
    intro q i
    cases i with
    | zero => simp [qAt]
    | succ i =>
      rw [qAt_cons]
      refine Nat.le_trans (ih _ _) ?_
      split
      · exact Nat.le_refl _
      · simp; omega
theorem crashPages_snd (ps : List Pg) : ∀ q : List Int, (crashPages ps q).2 = qAt ps q ps.length := by
  induction ps with
  | nil => intro q; rfl
  | cons p ps ih =>
    intro q
    rw [List.length_cons, qAt_cons]
    unfold crashPages
    split <;> simp [ih]
theorem crashPages_length (ps : List Pg) : ∀ q : List Int, (crashPages ps q).1.length = ps.length := by
  induction ps with
  | nil => intro q; rfl
  | cons p ps ih =>
    intro q
    unfold crashPages
    split <;> simp [ih]
theorem crashE_length (ps : List Pg) : ∀ (wv : List Value) (q : List Int), wv.length = ps.length → (crashE ps wv q).length = (pcs ps wv).length := by
  induction ps with
  | nil => intro wv q h; cases wv <;> simp [crashE, pcs] at *
  | cons p ps ih =>
    intro wv q h
    cases wv with
    | nil => simp at h
    | cons v wv =>
      have := fun q => ih wv q (by simpa using h)
      unfold crashE
      simp only [pcs, List.zipWith_cons_cons, List.length_cons] at *
      split <;> simp [this]
theorem crashE_get (ps : List Pg) : ∀ (wv : List Value) (q : List Int) (i : Nat) (p : Pg) (v : Value), ps[i]? = some p → wv[i]? = some v →
    (crashE ps wv q)[i]? = some (if p.ws = [] then (p.safe, v) else ((p.crash (qAt ps q i)).safe, .slice none 0 0)) := by
  induction ps with
  | nil => intro wv q i p v hp; simp at hp
  | cons p0 ps ih =>
    intro wv q i p v hp hv
    cases wv with
    | nil => simp at hv
    | cons v0 wv =>
      unfold crashE
      cases i with
      | zero =>
        simp only [List.getElem?_cons_zero, Option.some.injEq] at hp hv
        subst hp; subst hv
        split <;> simp_all [qAt]
      | succ i =>
        simp only [List.getElem?_cons_succ] at hp hv
        rw [qAt_cons]
        split
        · simpa using ih wv q i p v hp hv
        · simpa using ih wv q.tail.tail i p v hp hv
theorem crashE_pcs (ps : List Pg) : ∀ (wv : List Value) (q : List Int), pcs (crashPages ps q).1 (ps.zipWith syncV wv) = crashE ps wv q := by
  induction ps with
  | nil => intro wv q; simp [crashE, pcs, crashPages]
  | cons p ps ih =>
    intro wv q
    cases wv with
    | nil => simp [crashE, pcs]
    | cons v wv =>
      unfold crashE crashPages
      split
      · rename_i h
        simpa [pcs, syncV, h] using ih wv q
      · rename_i h
        simpa [pcs, syncV, h] using ih wv q.tail.tail
theorem crash_len (p : Pg) (q : List Int) (h : p.safe.length = 512) (h2 : ∀ s ∈ p.ws, s.length = 512) : (p.crash q).safe.length = 512 := by
  have key : ∀ k, k < p.ws.length + 1 → ((p.safe :: p.ws).getD k []).length = 512 := by
    intro k hk
    rw [List.getD_eq_getElem?_getD, List.getElem?_eq_getElem (by simpa using hk)]
    simp only [Option.getD_some]
    rcases List.mem_cons.1 (List.getElem_mem (l := p.safe :: p.ws) (by simpa using hk)) with e | e
    · rw [e]; exact h
    · exact h2 _ e
  have tk : ∀ (q : List Int) (n : Nat), 0 < n → takeQ q n < n := by
    intro q n hn
    cases q with
    | nil => exact hn
    | cons x q =>
      have h1 := Int.emod_lt_of_pos x (b := (n : Int)) (by omega)
      have h2 := Int.emod_nonneg x (b := (n : Int)) (by omega)
      simp only [takeQ]
      omega
  simp only [Pg.crash, List.length_append, List.length_take, List.length_drop, key _ (tk _ _ (Nat.succ_pos _))]
  omega
theorem takeQ_lt (q : List Int) (n : Nat) (hn : 0 < n) : takeQ q n < n := by
  cases q with
  | nil => exact hn
  | cons x q =>
    have h1 := Int.emod_lt_of_pos x (b := (n : Int)) (by omega)
    have h2 := Int.emod_nonneg x (b := (n : Int)) (by omega)
    simp only [takeQ]
    omega
theorem crashE_safe (ps : List Pg) (h : ∀ p ∈ ps, p.safe.length = 512) (h2 : ∀ p ∈ ps, ∀ s ∈ p.ws, s.length = 512) : ∀ (wv : List Value) (q : List Int), ∀ x ∈ crashE ps wv q, x.1.length = 512 := by
  induction ps with
  | nil => intro wv q x hx; simp [crashE] at hx
  | cons p ps ih =>
    intro wv q x hx
    have ih := ih (fun p hp => h p (List.mem_cons_of_mem _ hp)) (fun p hp => h2 p (List.mem_cons_of_mem _ hp))
    cases wv with
    | nil => simp [crashE] at hx
    | cons v wv =>
      unfold crashE at hx
      split at hx
      · rcases List.mem_cons.1 hx with rfl | hx
        · exact h p List.mem_cons_self
        · exact ih _ _ x hx
      · rcases List.mem_cons.1 hx with rfl | hx
        · exact crash_len p q (h p List.mem_cons_self) (h2 p List.mem_cons_self)
        · exact ih _ _ x hx

end Go.Proofs.Ytbkebjgoaeddjaa
/- from XDiskR.lean.tpl -/
namespace Go.Proofs.Ytbkebjgoaeddjaa
open Go.RowKit Go.VB Go.VB.Disk
attribute [local go_sem] Oper.semAt_some
/-- an end that no panic reaches -/
def quiet (Q : Exit → Act → World → Prop) : Exit → Act → World → Prop
  | .panic _, _, _ => False
  | e, a, w => Q e a w
theorem quiet_normal {Q : Exit → Act → World → Prop} {a : Act} {w : World} (h : Q .normal a w) : quiet Q .normal a w := h
theorem wp_region_planQ {P : Program} {Q : Exit → Act → World → Prop} {id : Nat} {l : List Oper} {a : Act} {w : World} (m : List Bool) (S : Nat → World → Prop) (hm : P.follows .mixedOrders = true) (hp : planB l.toArray m = true) (hS : ∀ k, S k w.drew)
    (h : wpTake P l.toArray S 0 m l a (fun a' => wpRest P l.toArray S (quiet Q) 0 m l a' w.drew)) : (Code.region id l.toArray true).wp P Q a w := by
  refine Code.wp_mono ?_ (wp_region_plan (Q := quiet Q) m S hm hp (fun _ _ _ _ _ h => h) hS h)
  intro e a w h
  cases e <;> first | exact h | exact False.elim h
theorem put_half (A B Z : List Value) (hA : A.length = 256) (hZ : Z.length = 256) (hB : B.length = 256) : (A ++ Z).take 256 ++ B ++ (A ++ Z).drop (256 + B.length) = A ++ B := by
  rw [List.take_append_of_le_length (by omega), List.take_of_length_le (by omega), List.drop_eq_nil_of_le (by simp; omega), List.append_nil]
theorem Try.size_half : (Try.prog.info? 102).map (·.size) = some 256 := by kernel_rfl
theorem flat_len (ws : List Bytes) (h : ∀ s ∈ ws, s.length = 512) : (ws.flatMap bv).length = ws.length * 512 := by
  induction ws with
  | nil => rfl
  | cons s ws ih =>
    have := ih fun x hx => h x (List.mem_cons_of_mem _ hx)
    rw [List.flatMap_cons, List.length_append, bv_length, h s List.mem_cons_self, this, List.length_cons]
    omega
theorem flat_one (ws : List Bytes) : ∀ v ∈ ws.flatMap bv, v.oneCell' = true := by
  intro v hv
  obtain ⟨s, hs, hv⟩ := List.mem_flatMap.1 hv
  exact bv_one s v hv
set_option maxHeartbeats 6000000 in
set_option maxRecDepth 100000 in
theorem Crash_go {R : Nat → Prop} (w : World) (d pb : Nat) (ps : List Pg) (wv : List Value) (la : Option Addr) (n cap fl : Nat) (off armed : Bool) (left : Value) (v : Value) (q : List Int)
   (hd : Blk w d [.slice (some ⟨pb, 0, none⟩) ps.length ps.length, .slice la n cap, .int .i64 fl, .bool off, .bool armed, left] 94) (hp : Blk w pb (pcells (pcs ps wv)) 106) (hwv : wv.length = ps.length)
   (hs : ∀ p ∈ ps, p.safe.length = 512) (hws : ∀ p ∈ ps, ∀ s ∈ p.ws, s.length = 512) (hn : ps.length ≤ 400) (hfew : ∀ p ∈ ps, p.ws.length ≤ 1000000)
   (ho : ∀ (i : Nat) (p : Pg) (v : Value), ps[i]? = some p → wv[i]? = some v → w.ownsRow 0 104 512 v p.ws.length (p.ws.flatMap bv))
   (hfl : fl ≤ n) (hcap : n ≤ cap) (hn1 : n ≤ 1048576) (hq : QRep R w v q) (hR : ∀ k, R k → k ≠ pb ∧ k ≠ d ∧ k < w.heap.size) (hql : q.length ≤ 9223372036854775807) :
   Calls Try.prog 50 #[.pointer (some ⟨d, 0, none⟩), v] w fun e w' => e = .returned (.tuple #[]) ∧ Fr (fun k => k = pb ∨ k = d) w w' ∧ Blk w' pb (pcells (crashE ps wv q)) 106 ∧
     Blk w' d [.slice (some ⟨pb, 0, none⟩) ps.length ps.length, .slice la (fl + takeQ (qAt ps q ps.length) (n - fl + 1)) cap, .int .i64 ((fl + takeQ (qAt ps q ps.length) (n - fl + 1) : Nat) : Int), .bool false, .bool false, left] 94 := by
  obtain ⟨qa, qc, rfl, hqc, hqx⟩ := hq
  have hq : QRep R w (.slice qa q.length qc) q := ⟨qa, qc, rfl, hqc, hqx⟩
  clear hqc hqx
  have bw := Blk.new w [.slice qa q.length qc] 26
  have F1 := (Fr.refl (fun k => k = pb ∨ k = d) w).alloc (.cells [Value.slice qa q.length qc].toArray 26)
  have hpl := pcs_length ps wv hwv
  have hEl := crashE_length ps wv q hwv
  have hLs := pcs_safe ps wv hs
  have hEs := crashE_safe ps hs hws wv q
  have hplt := hp.lt
  have hdlt := hd.lt
  refine calls_of_wp_marks Try.func50 rfl ?_
  simp only [Try.ntmps50, List.size_toArray, List.length_cons, List.length_nil, Nat.reduceAdd, Nat.reduceSub, Array.replicate_succ, Array.replicate_zero, List.push_toArray, List.append_toArray, List.nil_append, List.cons_append]
  have HD := hid hd
  have HP := hid hp
  have BW := hid bw
  have FF := hid F1
  have Hs := hid hs
  have Hws := hid hws
  have Hfew := hid hfew
  have Ho := hid ho
  have HLs := hid hLs
  have HEs := hid hEs
  have Hpl := hid hpl
  have HEl := hid hEl
  have Hwv := hid hwv
  have HQ := hid hq
  have HR := hid hR
  clear hd hp bw F1 hs hws hfew ho hLs hEs hpl hEl hwv hq hR
  go_wp2_with (first | (go_at_call 77; refine (written_any _ _).mono ?_; rintro e w1 ⟨rfl, rfl⟩))
  obtain ⟨w1, hW⟩ : ∃ w1, (((w.alloc (Obj.cells #[Value.slice qa q.length qc] 26)).alloc (Obj.cells #[Value.func (Fn.func 76) #[] #[Value.pointer (some ⟨w.heap.size, 0, none⟩)]] 24)).alloc (Obj.cells #[Value.pointer (some ⟨d, 0, none⟩)] 72)) = w1 := ⟨_, rfl⟩
  rw [hW]
  have hsz1 : w1.heap.size = w.heap.size + 3 := by rw [← hW]; simp
  have C1 : Blk w1 w.heap.size [.slice qa q.length qc] 26 := by rw [← hW]; exact (BW.out.alloc _).alloc _
  have C2 : Blk w1 (w.heap.size + 1) [.func (.func 76) #[] #[.pointer (some ⟨w.heap.size, 0, none⟩)]] 24 := by
    rw [← hW]
    have := Blk.new (w.alloc (Obj.cells #[Value.slice qa q.length qc] 26)) [Value.func (.func 76) #[] #[.pointer (some ⟨w.heap.size, 0, none⟩)]] 24
    rw [World.size_alloc] at this
    exact this.alloc _
  have C3 : Blk w1 (w.heap.size + 2) [.pointer (some ⟨d, 0, none⟩)] 72 := by
    rw [← hW]
    have := Blk.new ((w.alloc (Obj.cells #[Value.slice qa q.length qc] 26)).alloc (Obj.cells #[Value.func (Fn.func 76) #[] #[Value.pointer (some ⟨w.heap.size, 0, none⟩)]] 24)) [.pointer (some ⟨d, 0, none⟩)] 72
    rw [World.size_alloc, World.size_alloc] at this
    exact this
  have FW : Fr (fun k => k = pb ∨ k = d) w w1 := by rw [← hW]; exact (FF.out.alloc _).alloc _
  have FZ : Fr (fun _ => False) w w1 := by rw [← hW]; exact (((Fr.refl _ _).alloc _).alloc _).alloc _
  have g3 := HD.out.fr FZ (by simp)
  have g4 := HP.out.fr FZ (by simp)
  have gq : QRep R w1 (.slice qa q.length qc) q := by
    refine HQ.out.fr (S := fun _ => False) ?_ (by simp)
    rw [← hW]
    exact (((Fr.refl _ _).alloc _).alloc _).alloc _
  have go : ∀ (i : Nat) (p : Pg) (v : Value), ps[i]? = some p → wv[i]? = some v → w1.ownsRow 0 104 512 v p.ws.length (p.ws.flatMap bv) := by
    intro i p v hp hv; rw [← hW]; exact (((Ho.out i p v hp hv).alloc _).alloc _).alloc _
  clear hW BW FF
  refine wp_range rfl (fun _ _ => rfl) ?_
  intro fn
  generalize hrec : mkRec fn _ _ _ _ _ = rec
  obtain ⟨W2, hW2⟩ : ∃ W2, (w1.alloc (.deferred (some []))).alloc (.loop (rec .ready none)) = W2 := ⟨_, rfl⟩
  rw [hW2]
  have hl2 : W2.heap[w1.heap.size + 1]? = some (.loop (rec .ready none)) := by
    rw [← hW2]; have := World.alloc_heap_new (w1.alloc (.deferred (some []))) (.loop (rec .ready none)); rwa [World.size_alloc] at this
  have hD2 : W2.heap[w1.heap.size]? = some (.deferred (some [])) := by
    rw [← hW2]; exact (Below.heap_alloc _ _ _ (by simp)).trans (World.alloc_heap_new w1 _)
  have F2 : Fr (fun _ => False) w1 W2 := by rw [← hW2]; exact ((Fr.refl _ _).alloc _).alloc _
  have b1 := C1.fr F2 (by simp)
  have b2 := C2.fr F2 (by simp)
  have b3 := C3.fr F2 (by simp)
  have bd := g3.fr F2 (by simp)
  have bp := g4.fr F2 (by simp)
  have bq := gq.fr F2 (by simp)
  have bo : ∀ (i : Nat) (p : Pg) (v : Value), ps[i]? = some p → wv[i]? = some v → W2.ownsRow 0 104 512 v p.ws.length (p.ws.flatMap bv) := by
    intro i p v hp hv; rw [← hW2]; exact ((go i p v hp hv).alloc _).alloc _
  have hs2 : W2.heap.size = w.heap.size + 5 := by rw [← hW2]; simp [hsz1]
  clear hW2 C1 C2 C3 g3 g4 gq go
  have n3 : d ≠ pb := bd.ne_of_type bp (by decide)
  have bfr : ∀ {W : World}, Fr (fun k => k = pb ∨ k = w.heap.size ∨ k = w1.heap.size + 1) W2 W →
      Blk W (w.heap.size + 2) [.pointer (some ⟨d, 0, none⟩)] 72 ∧ Blk W d [.slice (some ⟨pb, 0, none⟩) ps.length ps.length, .slice la n cap, .int .i64 fl, .bool off, .bool armed, left] 94 ∧
      Blk W (w.heap.size + 1) [.func (.func 76) #[] #[.pointer (some ⟨w.heap.size, 0, none⟩)]] 24 := by
    intro W hF
    exact ⟨b3.fr hF (by omega), bd.fr hF (by omega), b2.fr hF (by omega)⟩
  have at_i : ∀ (i : Nat), i < ps.length → ∃ p v, ps[i]? = some p ∧ wv[i]? = some v ∧ p ∈ ps := by
    intro i hi
    have := Hwv.out
    exact ⟨ps[i], wv[i], List.getElem?_eq_getElem hi, List.getElem?_eq_getElem (by omega), List.getElem_mem _⟩
  refine (written1_in (w1.heap.size + 1) (w.heap.size + 2) d pb ps.length
    (fun i W => Fr (fun k => k = pb ∨ k = w.heap.size ∨ k = w1.heap.size + 1) W2 W ∧ Blk W pb (pcells (mixL (crashE ps wv q) (pcs ps wv) i)) 106 ∧ (∃ v', Blk W w.heap.size [v'] 26 ∧ QRep R W v' (qAt ps q i)) ∧
      W.heap[w1.heap.size + 1]? = some (.loop (rec .ready none)) ∧ W.heap[w1.heap.size]? = some (.deferred (some [])))
    (fun i => ((ps[i]?).map fun p => p.ws.length).getD 0) hn ?_ ?_ ?_ W2 ⟨Fr.refl _ _, by rw [mixL_zero]; exact bp, ⟨_, b1, by rw [qAt_zero]; exact bq⟩, hl2, hD2⟩).mono ?_
  · rintro i W ⟨hF, hB, hQ, hl, hD⟩
    obtain ⟨c2, c3, -⟩ := bfr hF
    refine ⟨c2.cell 0, c3.cell 0, fun hi => ?_⟩
    obtain ⟨p, v, hp, hv, hm⟩ := at_i i hi
    obtain ⟨a, cap, rfl, -⟩ := ownsRow_form (bo i p v hp hv)
    have hg : (mixL (crashE ps wv q) (pcs ps wv) i)[i]? = some (p.safe, .slice a p.ws.length cap) := by
      rw [mixL_get _ _ _ HEl.out (by rw [Hpl.out]; exact hi)]; exact pcs_get _ _ _ _ _ hp hv
    refine ⟨a, cap, ?_⟩
    rw [hp]
    exact rangeAt_one (rangeAt_right (pcells_range hB (mixL_safe _ _ _ HEs.out HLs.out) i _ hg) (i * 513 + 512) (by rw [bv_length, Hs.out p hm]))
  · rintro i W ⟨hF, hB, hQ, hl, hD⟩ hi hlen
    obtain ⟨p, v, hp, hv, hm⟩ := at_i i hi
    rw [hp] at hlen
    have hw0 : p.ws = [] := List.eq_nil_of_length_eq_zero (by simpa using hlen)
    refine ⟨hF, ?_, ?_, hl, hD⟩
    · rw [← mixL_skip _ _ _ HEl.out ?_ (by rw [Hpl.out]; exact hi)]
      · exact hB
      · rw [crashE_get _ _ _ _ _ _ hp hv, pcs_get _ _ _ _ _ hp hv, if_pos hw0]
    · rw [qAt_succ _ _ _ _ hp, if_pos hw0]; exact hQ
  · rintro i W ⟨hF, hB, hQ, hl, hD⟩ hi hlen
    obtain ⟨p, v, hp, hv, hm⟩ := at_i i hi
    rw [hp] at hlen
    simp only [Option.map_some, Option.getD_some] at hlen
    have hne : p.ws ≠ [] := by intro h; rw [h] at hlen; simp at hlen
    have hg : (mixL (crashE ps wv q) (pcs ps wv) i)[i]? = some (p.safe, v) := by
      rw [mixL_get _ _ _ HEl.out (by rw [Hpl.out]; exact hi)]; exact pcs_get _ _ _ _ _ hp hv
    have hms := mixL_safe (crashE ps wv q) (pcs ps wv) i HEs.out HLs.out
    have he := crashE_get ps wv q i p v hp hv
    rw [if_neg hne] at he
    have hqs := qAt_succ ps q i p hp
    rw [if_neg hne] at hqs
    have hql2 := Nat.le_trans (qAt_length ps q i) hql
    have hx512 := crash_len p (qAt ps q i) (Hs.out p hm) (Hws.out p hm)
    have hrow := bo i p v hp hv
    rcases hrow.2 with ⟨-, h0⟩ | ⟨g, gc, cur, rfl, -, hgg, hgc, -, -, htk⟩
    · omega
    obtain ⟨v', hqb, hqr⟩ := hQ
    generalize hqi : qAt ps q i = qi at *
    have hfe := Hfew.out p hm
    have hsafe := Hs.out p hm
    have hall : ∀ s ∈ p.safe :: p.ws, s.length = 512 := by
      intro s hs
      rcases List.mem_cons.1 hs with rfl | hs
      · exact hsafe
      · exact Hws.out p hm s hs
    have gB : Blk W2 g cur.toList 104 := by unfold Blk; simpa using hgg
    have gne : g ≠ pb := gB.ne_of_type bp (by decide)
    have gnq : g ≠ w.heap.size := gB.ne_of_type b1 (by decide)
    have gnl : g ≠ w1.heap.size + 1 := by
      rintro rfl
      rw [show W2.heap[w1.heap.size + 1]? = _ from gB] at hl2
      cases hl2
    have hcl := (bfr hF).2.2
    have hlI : (w1.heap.size + 1) < W.heap.size := (Array.getElem?_eq_some_iff.1 hl).1
    have FP : Fr (fun k => k = w1.heap.size + 1) W (W.putObj (w1.heap.size + 1) (.loop (rec .busy none))) := (Fr.refl _ _).putObj _ _ (fun _ => rfl)
    have gW := (gB.fr hF (by omega)).putObj (.loop (rec .busy none)) hl rfl
    have hBp := hB.putObj (.loop (rec .busy none)) hl rfl
    have hqp := hqb.putObj (.loop (rec .busy none)) hl rfl
    have hclp := hcl.putObj (.loop (rec .busy none)) hl rfl
    have hqrp := hqr.fr FP (by intro k hk; have := HR.out k hk; omega)
    have hlb : (W.putObj (w1.heap.size + 1) (.loop (rec .busy none))).heap[w1.heap.size + 1]? = some (.loop (rec .busy none)) := World.putObj_heap_same hlI
    have hDb : (W.putObj (w1.heap.size + 1) (.loop (rec .busy none))).heap[w1.heap.size]? = some (.deferred (some [])) := (World.putObj_heap_other (by omega)).trans hD
    have hFb : Fr (fun k => k = pb ∨ k = w.heap.size ∨ k = w1.heap.size + 1) W2 (W.putObj (w1.heap.size + 1) (.loop (rec .busy none))) := hF.putObj _ _ (fun _ => .inr (.inr rfl))
    have hwsz : (W.putObj (w1.heap.size + 1) (.loop (rec .busy none))).heap.size ≥ w.heap.size + 5 := by rw [World.putObj_size]; have := hF.size; omega
    have hsrc : (W.putObj (w1.heap.size + 1) (.loop (rec .busy none))).rangeAt g 0 (p.ws.flatMap bv) := by
      have := gW.range [] (p.ws.flatMap bv) (cur.toList.drop (p.ws.length * 512)) (by rw [← htk]; simp)
      simpa using this
    have kS := rangeAt_left (pcells_range hBp hms i _ hg)
    have kv := rangeAt_one (rangeAt_right (pcells_range hBp hms i _ hg) (i * 513 + 512) (by rw [bv_length, hsafe]))
    dsimp only at kv kS
    have hsz : (Try.prog.info? 104).map (·.size) = some (bv p.safe).length := by rw [bv_length, hsafe]; exact Try.size_halves
    have hml : (mixL (crashE ps wv q) (pcs ps wv) i).length = ps.length := by have := HEl.out; have := Hpl.out; simp [mixL]; omega
    have hcl2 : ∃ x, (p.crash qi).safe = x := ⟨_, rfl⟩
    have hmix := mixL_set (crashE ps wv q) (pcs ps wv) i _ HEl.out he
    have HMix := hid hmix
    have HAll := hid hall
    have HG := hid hg
    have HMs := hid hms
    have HML := hid hml
    have HBp := hid hBp
    have HGW := hid gW
    have HQp := hid hqp
    have HQr := hid hqrp
    have HCl := hid hclp
    have Hlb := hid hlb
    have HDb := hid hDb
    have HFb := hid hFb
    have HSrc := hid hsrc
    have HSZ := hid hsz
    have HX := hid hx512
    have HQS := hid hqs
    obtain ⟨JJ, hJJ⟩ : ∃ JJ : World → Prop, JJ = fun W' => Fr (fun k => k = pb ∨ k = w.heap.size ∨ k = w1.heap.size + 1) W2 W' ∧ Blk W' pb (pcells (mixL (crashE ps wv q) (pcs ps wv) (i + 1))) 106 ∧ (∃ v', Blk W' w.heap.size [v'] 26 ∧ QRep R W' v' (qAt ps q (i + 1))) ∧
      W'.heap[w1.heap.size + 1]? = some (.loop (rec .ready none)) ∧ W'.heap[w1.heap.size]? = some (.deferred (some [])) := ⟨_, rfl⟩
    have HJJ := hid hJJ
    clear hJJ hmix hall hg hms hml hBp gW hqp hqrp hclp hlb hDb hFb hsrc hsz hx512 hqs hrow gB gne gnq gnl he at_i bfr bo hF hB b1 b2 b3 bd bp bq hl2 hD2 F2 hp hv hm n3 htk hgg HD HP FW hqb hqr hcl FP hcl2 hdlt hqi
    subst hrec
    refine YieldAt.mono (yieldAt_round (R := fun b W' => b = true ∧ JJ W') hl rfl (fun K hK => by gi_wp2; exact hK) ?_) ?_
    · clear hl hD hlI
      generalize W.putObj (w1.heap.size + 1) _ = Wb at *
      gi_wp2
      refine wpIn_region_plan [true, true, true, true, false, true, true, true, true, false, false] (fun kz w => (kz ≤ 10 → w.rangeAt pb (i * 513) (bv p.safe)) ∧ w.cell? ⟨pb, i * 513 + 512, none⟩ = some (.slice (some ⟨g, 0, none⟩) p.ws.length gc)) (by kernel_rfl) (by kernel_rfl) (by intro c a d v w h; cases d <;> exact h) (by decide +kernel) (by rintro ⟨_, _, h⟩; exact h) (fun kz => ⟨fun _ => kS, kv⟩) ?_
      repeat
        first
        | (refine wpTake_yes 10 rfl (by decide +kernel) ?_; apply Exists.intro; refine ⟨?_, ?_⟩; intro w hw; (try (have qa := (hw rfl).1 (Nat.le_refl _); have qb := (hw rfl).2)); (first | (exact run_load_mid _ _ rfl pb _ rfl (bv p.safe) _ qa Try.underlying104 rfl HSZ.out) | (go_simp <;> rfl)); simp only [Act.put, List.setIfInBounds_toArray, List.set_cons_zero, List.set_cons_succ])
        | (refine wpTake_no rfl ?_; simp only [Act.put, List.setIfInBounds_toArray, List.set_cons_zero, List.set_cons_succ])
        | (refine wpTake_pass ?_)
      refine wpTake_nil ?_
      repeat (refine wpRest_pass ?_)
      have keep : ∀ W', Fr (fun _ => False) Wb W' → W'.rangeAt pb (i * 513) (bv p.safe) ∧ W'.cell? ⟨pb, i * 513 + 512, none⟩ = some (.slice (some ⟨g, 0, none⟩) p.ws.length gc) := by
        intro W' hF
        have hB := HBp.out.fr hF (by simp)
        exact ⟨rangeAt_left (pcells_range hB HMs.out i _ HG.out), rangeAt_one (rangeAt_right (pcells_range hB HMs.out i _ HG.out) (i * 513 + 512) (by rw [bv_length, hsafe]))⟩
      have hdl : Wb.drew.heap.size = Wb.heap.size := rfl
      have hfl2 := flat_len p.ws (fun s hs => HAll.out s (List.mem_cons_of_mem _ hs))
      clear kS kv
      refine wpRest_op ?_
      refine wpList_buildSlice_one (x := .agg (bv p.safe).toArray) (cells := (bv p.safe).toArray) rfl rfl Try.underlying100 (info_two Try.info_halves) (by simp [Value.cells, zcells_length]) (by omega) (by omega) rfl rfl (by simp [bv_length, hsafe]) ?_
      have B1 := Blk.new Wb.drew (bv p.safe) 104
      have FA := ((Fr.refl (fun _ => False) Wb).drew).alloc (Obj.cells (bv p.safe).toArray 104)
      have SR := HSrc.out
      have SR2 : (Wb.drew.alloc (Obj.cells (bv p.safe).toArray 104)).rangeAt g 0 (p.ws.flatMap bv) := fun j v hj => (World.cell?_alloc_some _ _ _ (by rw [show Wb.drew.cell? _ = _ from SR j v hj]; rfl)).trans (SR j v hj)
      generalize Wb.drew.alloc (Obj.cells (bv p.safe).toArray 104) = Wc at *
      clear SR
      go_wp2
      refine ⟨fun k hk hk2 hS => ⟨fun _ => (keep _ FA).1, (keep _ FA).2⟩, ?_⟩
      repeat (refine wpRest_pass ?_)
      refine wpRest_op ?_
      refine wpList_append rfl rfl Try.underlying100 Try.underlying100 (.inr ⟨_, rfl⟩) Try.info_halves (by simp [Value.cells, zcells_length]) rfl rfl (own_of_blk B1 (by rw [bv_length, hsafe]) (by omega)) (Src.slice (news := p.ws.flatMap bv) hfl2 (flat_one p.ws) SR2) (by omega) (by omega) ?_
      intro b c w3 hown hg hat
      have FB := FA.grown hg (fun k hk hlt => absurd hlt (by have : k = Wb.heap.size := (Option.some.inj hk).symm; omega))
      have HOW := hid hown
      clear hg hat hown SR2 B1 FA
      go_wp2
      refine ⟨fun k hk hk2 hS => ⟨fun _ => (keep _ FB).1, (keep _ FB).2⟩, ?_⟩
      have KE := hid keep
      clear keep
      refine wpRest_op ?_
      go_wp2
      refine ⟨fun k hk hk2 hS => hS, ?_⟩
      refine wpRest_nil ?_
      gi_wp2
      have FC := FB.alloc (Obj.cells Try.zeroCells104 104)
      have Z0 : Blk (w3.alloc (Obj.cells Try.zeroCells104 104)) w3.heap.size (zcells 512) 104 := Blk.new_of _ _ Try.zero_halves
      have own4 := HOW.out.alloc (Obj.cells Try.zeroCells104 104)
      have hw4 : (w3.alloc (Obj.cells Try.zeroCells104 104)).heap.size = w3.heap.size + 1 := by simp
      generalize w3.alloc (Obj.cells Try.zeroCells104 104) = w4 at *
      have hlt3 := FB.size
      rcases HOW.out.2 with ⟨hnil, -⟩ | ⟨ga, ca, cu, he, -, hga3, -⟩
      · exfalso; injection hnil with e1 e2; omega
      have hga : ga < w3.heap.size := (Array.getElem?_eq_some_iff.1 hga3).1
      clear hga3 HOW
      obtain ⟨e1, -, e3⟩ : b = some ⟨ga, 0, none⟩ ∧ True ∧ c = ca := by injection he with e1 e2 e3; exact ⟨e1, trivial, e3⟩
      subst e1; subst e3
      rcases own4.2 with ⟨hnil, -⟩ | ⟨ga', ca', cu', he', -, hga4, -, -, -, htk4⟩
      · exfalso; cases hnil
      obtain ⟨rfl, rfl⟩ : ga = ga' ∧ c = ca' := by injection he' with e1 e2 e3; injection e1 with e1; injection e1 with e1; exact ⟨e1, e3⟩
      have gA : Blk w4 ga cu'.toList 104 := by unfold Blk; simpa using hga4
      have q4 := HQp.out.fr FC (by simp)
      have c4 := HCl.out.fr FC (by simp)
      have p4 := HBp.out.fr FC (by simp)
      have qr4 := HQr.out.fr FC (by simp)
      clear he he' own4 hga4 FB KE
      have hrow : ∀ (W' : World), Blk W' ga cu'.toList 104 → ∀ (t : Nat) (s : Bytes), (p.safe :: p.ws)[t]? = some s → W'.rangeAt ga (t * 512) (bv s) := by
        intro W' hB t s hs
        have hB' : W'.heap[ga]? = some (.cells cu' 104 (0, 0)) := by have := hB; unfold Blk at this; simpa using this
        refine flat_range (n := 0) (cap := 0) hB' (p.safe :: p.ws) HAll.out ?_ t s hs
        rw [show (p.safe :: p.ws).length = 1 + p.ws.length by simp; omega, List.flatMap_cons]
        exact htk4
      have KROW := hid hrow
      clear hrow htk4
      have k30 : w4.cell? ⟨w.heap.size + 1, 0, none⟩ = _ := c4.cell 0
      refine wpIn_loop_rounds 3 ?_
      rw [roundsIn_succ]
      have hC1 := Crash1_rep w4 w.heap.size (p.ws.length + 1) qi _ q4 qr4 (fun h => by have := HR.out _ h; omega) (by omega) (by omega) (by omega)
      rw [show ((p.ws.length + 1 : Nat) : Int) = 1 + p.ws.length by omega] at hC1
      have ht1 := takeQ_lt qi (p.ws.length + 1) (by omega)
      have gaq : ga ≠ w.heap.size := gA.ne_of_type q4 (by decide)
      have HC1 := hid hC1
      clear hC1 q4 qr4
      generalize he1 : takeQ qi (p.ws.length + 1) = t1 at *
      gi_wp2
      refine ⟨trivial, rfl, (CallsIn.inRound _ (callsIn_wide.2 HC1.out)).mono ?_⟩
      rintro e w5 ⟨rfl, FQ, hsz5, v2, q5, qr5⟩
      obtain ⟨s1, hs1⟩ : ∃ s1, (p.safe :: p.ws)[t1]? = some s1 := ⟨_, List.getElem?_eq_getElem (by simpa using ht1)⟩
      have h5a : s1.length = 512 := HAll.out s1 (List.mem_of_getElem? hs1)
      have gA5 := gA.fr FQ gaq
      gi_wp2_with (refine wpListIn_at 37 rfl (by rintro ⟨_, _, h⟩; exact h) (by decide +kernel) ?_)
      have FR5 : Fr (fun k => k = w.heap.size ∨ k = w3.heap.size) w4 w5 := FQ.mono (fun k hk _ => .inl hk)
      have hbq : w3.heap.size ≠ w.heap.size := by omega
      have Z5 := Z0.fr FQ hbq
      have hga3 : ga ≠ w3.heap.size := by omega
      have hlA : (s1.take 256).length = 256 := by simp; omega
      have r5 : w5.rangeAt ga (t1 * 512) (bv (s1.take 256)) := by
        have := KROW.out w5 gA5 t1 s1 hs1
        rw [← List.take_append_drop 256 s1, bv_append] at this
        exact rangeAt_left this
      have hsA : (Try.prog.info? 102).map (·.size) = some (bv (s1.take 256)).length := by rw [bv_length, hlA]; exact Try.size_half
      have hT5 : w5.there w3.heap.size 0 (bv (s1.take 256)).toArray.size := Z5.there _ _ (by rw [List.size_toArray, bv_length, hlA, zcells_length]; omega)
      have hone := all_oneCell_toArray (bv_one (s1.take 256))
      have HSA := hid hsA
      clear hsA
      go_wp2_with (first
        | (refine wpList_load_mid rfl 102 _ rfl ga (t1 * 512) rfl _ _ r5 Try.underlying102 rfl HSA.out ?_)
        | (refine wpList_store_mid rfl 102 _ _ rfl w3.heap.size 0 _ rfl rfl hT5 (by rw [List.size_toArray]; exact HSA.out) hone ?_; rw [List.toList_toArray]))
      have FR6 := FR5.put w3.heap.size 0 (bv (s1.take 256)) (fun _ => .inr rfl)
      have Z6 := Z5.put 0 (bv (s1.take 256)) (by rw [bv_length, hlA, zcells_length]; omega)
      have q6 := q5.put_ne w3.heap.size 0 (bv (s1.take 256)) hbq.symm
      have gA6 := gA5.put_ne w3.heap.size 0 (bv (s1.take 256)) hga3
      have qr6 := qr5.fr ((Fr.refl (fun k => k = w3.heap.size) w5).put w3.heap.size 0 (bv (s1.take 256)) (fun _ => rfl)) (fun k hk e => by have := HR.out k hk; omega)
      generalize w5.setCells w3.heap.size 0 (bv (s1.take 256)) = w6 at *
      have c6 := c4.fr FR6 (by omega)
      have p6 := p4.fr FR6 (by omega)
      have Z6' : Blk w6 w3.heap.size (bv (s1.take 256) ++ zcells 256) 104 := by
        rw [bv_length, hlA] at Z6
        simpa [zcells] using Z6
      have k30' : w6.cell? ⟨w.heap.size + 1, 0, none⟩ = _ := c6.cell 0
      have hql3 : qi.tail.length ≤ 9223372036854775807 := by simp; omega
      have hC2 := Crash1_rep w6 w.heap.size (p.ws.length + 1) qi.tail _ q6 qr6 (fun h => by have := HR.out _ h; omega) (by omega) (by omega) (by omega)
      rw [show ((p.ws.length + 1 : Nat) : Int) = 1 + p.ws.length by omega] at hC2
      have ht2 := takeQ_lt qi.tail (p.ws.length + 1) (by omega)
      have HC2 := hid hC2
      clear hC2 q6 qr6 k30 HC1 FQ FR5 Z5 Z0 r5 hT5 q5 qr5 gA5 gA c4 p4 Z6 HSA hone
      generalize he2 : takeQ qi.tail (p.ws.length + 1) = t2 at *
      gi_wp2
      rw [roundsIn_succ]
      gi_wp2
      refine ⟨trivial, rfl, (CallsIn.inRound _ (callsIn_wide.2 HC2.out)).mono ?_⟩
      rintro e w7 ⟨rfl, FQ, hsz7, v3, q7, qr7⟩
      obtain ⟨s2, hs2x⟩ : ∃ s2, (p.safe :: p.ws)[t2]? = some s2 := ⟨_, List.getElem?_eq_getElem (by simpa using ht2)⟩
      have h7a : s2.length = 512 := HAll.out s2 (List.mem_of_getElem? hs2x)
      have gA7 := gA6.fr FQ gaq
      have FR7 := FR6.trans FQ (fun k hk _ => .inl hk)
      have Z7 := Z6'.fr FQ hbq
      have hlB : (s2.drop 256).length = 256 := by simp; omega
      have r7 : w7.rangeAt ga (t2 * 512 + 256) (bv (s2.drop 256)) := by
        have := KROW.out w7 gA7 t2 s2 hs2x
        rw [← List.take_append_drop 256 s2, bv_append] at this
        exact rangeAt_right this _ (by rw [bv_length]; simp; omega)
      have hsB : (Try.prog.info? 102).map (·.size) = some (bv (s2.drop 256)).length := by rw [bv_length, hlB]; exact Try.size_half
      have hT7 : w7.there w3.heap.size 256 (bv (s2.drop 256)).toArray.size := Z7.there _ _ (by rw [List.size_toArray, bv_length, hlB, List.length_append, zcells_length, bv_length, hlA]; omega)
      have hone := all_oneCell_toArray (bv_one (s2.drop 256))
      have HSB := hid hsB
      clear hsB FR6 gA6
      gi_wp2_with (refine wpListIn_at 37 rfl (by rintro ⟨_, _, h⟩; exact h) (by decide +kernel) ?_)
      go_wp2_with (first
        | (refine wpList_load_mid rfl 102 _ rfl ga (t2 * 512 + 256) rfl _ _ r7 Try.underlying102 rfl HSB.out ?_)
        | (refine wpList_store_mid rfl 102 _ _ rfl w3.heap.size 256 _ rfl rfl hT7 (by rw [List.size_toArray]; exact HSB.out) hone ?_; rw [List.toList_toArray]))
      have FR8 := FR7.put w3.heap.size 256 (bv (s2.drop 256)) (fun _ => .inr rfl)
      have Z8 := Z7.put 256 (bv (s2.drop 256)) (by rw [bv_length, hlB, List.length_append, zcells_length, bv_length, hlA]; omega)
      have q8 := q7.put_ne w3.heap.size 256 (bv (s2.drop 256)) hbq.symm
      have qr8 := qr7.fr ((Fr.refl (fun k => k = w3.heap.size) w7).put w3.heap.size 256 (bv (s2.drop 256)) (fun _ => rfl)) (fun k hk e => by have := HR.out k hk; omega)
      have p8 := (p6.fr FQ (by omega)).put_ne w3.heap.size 256 (bv (s2.drop 256)) (by omega)
      generalize w7.setCells w3.heap.size 256 (bv (s2.drop 256)) = w8 at *
      have hX : (p.crash qi).safe = s1.take 256 ++ s2.drop 256 := by
        simp [Pg.crash, he1, he2, List.getD_eq_getElem?_getD, hs1, hs2x]
      have Z9 : Blk w8 w3.heap.size (bv (p.crash qi).safe) 104 := by
        rw [hX, bv_append]
        rw [put_half _ _ _ (by rw [bv_length, hlA]) (zcells_length _) (by rw [bv_length, hlB])] at Z8
        exact Z8
      have hlX := HX.out
      generalize (p.crash qi).safe = x at *
      have R9 := Z9.all
      have hsz : (Try.prog.info? 104).map (·.size) = some (bv x).length := by rw [bv_length, hlX]; exact Try.size_halves
      have HSZ9 := hid hsz
      have hT8 : w8.there pb (i * 513) (bv x).toArray.size := p8.there _ _ (by
        rw [List.size_toArray, bv_length, hlX, pcells_length _ HMs.out, HML.out]; omega)
      have hS1 := p8.put (i * 513) (bv x) (by rw [bv_length, hlX, pcells_length _ HMs.out, HML.out]; omega)
      rw [pcells_setsafe _ i p.safe x _ HG.out HMs.out hlX] at hS1
      have hone := all_oneCell_toArray (bv_one x)
      have hms2 : ∀ q' ∈ (mixL (crashE ps wv q) (pcs ps wv) i).set i (x, .slice (some ⟨g, 0, none⟩) p.ws.length gc), q'.1.length = 512 := by
        intro q' hq'
        rcases List.mem_or_eq_of_mem_set hq' with h | rfl
        · exact HMs.out q' h
        · exact hlX
      have hget2 : ((mixL (crashE ps wv q) (pcs ps wv) i).set i (x, .slice (some ⟨g, 0, none⟩) p.ws.length gc))[i]? = some (x, .slice (some ⟨g, 0, none⟩) p.ws.length gc) := by
        rw [List.getElem?_set, if_pos rfl, if_pos (List.getElem?_eq_some_iff.1 HG.out).1]
      have kv2 := rangeAt_one (rangeAt_right (pcells_range hS1 hms2 i _ hget2) (i * 513 + 512) (by rw [bv_length, hlX]))
      dsimp only at kv2
      have zS := hS1.frozen
      have hfin : ((mixL (crashE ps wv q) (pcs ps wv) i).set i (x, .slice (some ⟨g, 0, none⟩) p.ws.length gc)).set i (x, .slice none 0 0) = mixL (crashE ps wv q) (pcs ps wv) (i + 1) := by
        rw [List.set_set]; exact HMix.out
      have hS2 := hS1.set (i * 513 + 512) (.slice none 0 0)
      rw [pcells_set _ i x _ _ hget2 hms2, hfin] at hS2
      have HS2 := hid hS2
      clear hS2 hS1 hms2 hget2 hfin hsz Z8 Z9 p8 hX
      -- out of the loop
      gi_wp2
      rw [roundsIn_succ]
      gi_wp2_with (refine wpListIn_at 42 rfl (by rintro ⟨_, _, h⟩; exact h) (by decide +kernel) ?_)
      go_wp2_with (first
        | (refine wpList_load_mid rfl 104 _ rfl w3.heap.size 0 rfl _ _ R9 Try.underlying104 rfl HSZ9.out ?_)
        | (refine wpList_store_mid rfl 104 _ _ rfl pb (i * 513) _ rfl rfl hT8 (by rw [List.size_toArray]; exact HSZ9.out) hone ?_; rw [List.toList_toArray]))
      have hszW2 := HFb.out.size
      have FB8 : Fr (fun k => k = pb ∨ k = w.heap.size ∨ k = w3.heap.size) Wb w8 := (FC.mono (T := fun k => k = pb ∨ k = w.heap.size ∨ k = w3.heap.size) (by simp)).trans FR8 (fun k hk _ => .inr hk)
      have FBf := (FB8.put pb (i * 513) (bv x) (fun _ => .inl rfl)).setCell ⟨pb, i * 513 + 512, none⟩ (.slice none 0 0) (fun _ => .inl rfl)
      have F8f := ((Fr.refl (fun k => k = pb) w8).put pb (i * 513) (bv x) (fun _ => rfl)).setCell ⟨pb, i * 513 + 512, none⟩ (.slice none 0 0) (fun _ => rfl)
      have HS3 := HS2.out
      generalize (w8.setCells pb (i * 513) (bv x)).setCell ⟨pb, i * 513 + 512, none⟩ (.slice none 0 0) = Wf at *
      have F2f := HFb.out.trans FBf (by
        rintro k (h | h | h) hk
        · exact .inl h
        · exact .inr (.inl h)
        · omega)
      have HLf := (FBf.blk (w1.heap.size + 1) (Array.getElem?_eq_some_iff.1 Hlb.out).1 (by omega)).trans Hlb.out
      have HDf := (FBf.blk w1.heap.size (Array.getElem?_eq_some_iff.1 HDb.out).1 (by omega)).trans HDb.out
      have qf := q8.fr F8f (by omega)
      have qrf := qr8.fr F8f (by intro k hk; have := HR.out k hk; omega)
      have hrR : ∀ k, R k → k ≠ w1.heap.size + 1 := by intro k hk; have := HR.out k hk; omega
      rw [← hsz1]
      refine ⟨HLf, rfl, ?_⟩
      rw [HJJ.out]
      refine ⟨F2f.putObj _ _ (fun _ => .inr (.inr rfl)), HS3.putObj _ HLf rfl, ⟨v3, qf.putObj _ HLf rfl, ?_⟩, World.putObj_heap_same (Array.getElem?_eq_some_iff.1 HLf).1, (World.putObj_heap_other (by omega)).trans HDf⟩
      rw [HQS.out]
      exact qrf.fr ((Fr.refl (fun k => k = w1.heap.size + 1) Wf).putObj _ _ (fun _ => rfl)) hrR
    · rintro e W' ⟨b, rfl, rfl, h⟩
      rw [HJJ.out] at h
      exact ⟨rfl, h⟩
  · rintro e W ⟨⟨v, rfl⟩, hF, hB, hQ, hl, hD⟩
    refine ⟨⟨v, rfl⟩, hD, .inl ⟨hl, ?_⟩⟩
    have hD' : ∀ o, (W.putObj (w1.heap.size + 1) o).heap[w1.heap.size]? = some (.deferred (some [])) := fun o => (World.putObj_heap_other (by omega)).trans hD
    obtain ⟨v3, q3, qr3⟩ := hQ
    obtain ⟨c3, cd, cc⟩ := bfr hF
    have FP := (Fr.refl (fun k => k = w1.heap.size + 1) W).putObj (w1.heap.size + 1) (.loop (rec .exhausted none)) (fun _ => rfl)
    have hWsz := hF.size
    have x3 := q3.fr FP (by omega)
    have xd := cd.fr FP (by omega)
    have xc := cc.fr FP (by omega)
    have xq := qr3.fr FP (by intro k hk; have := HR.out k hk; omega)
    have xp := hB.fr FP (by omega)
    rw [← Hpl.out, mixL_all _ _ HEl.out] at xp
    have hDx := hD' (.loop (rec .exhausted none))
    have FX : Fr (fun k => k = pb ∨ k = d) w (W.putObj (w1.heap.size + 1) (.loop (rec .exhausted none))) := by
      refine Fr.putObj ((FW.trans F2 (by simp)).trans hF ?_) _ _ ?_
      · rintro k (h | h | h) hk
        · exact .inl h
        · omega
        · omega
      · intro h; omega
    have hszX : w.heap.size + 5 ≤ (W.putObj (w1.heap.size + 1) (.loop (rec .exhausted none))).heap.size := by rw [World.putObj_size]; omega
    go_wp2
    rw [← hsz1]
    generalize W.putObj (w1.heap.size + 1) (.loop (rec .exhausted none)) = Wx at *
    generalize hqi : qAt ps q ps.length = qi at *
    have hqil : qi.length ≤ 9223372036854775807 := by rw [← hqi]; exact Nat.le_trans (qAt_length _ _ _) hql
    have hC := Crash1_rep (R := R) Wx.drew w.heap.size (n - fl + 1) qi v3 x3 (xq.fr ((Fr.refl (fun _ => False) Wx).drew) (by simp)) (fun h => by have := HR.out _ h; omega) (by omega) (by omega) (by omega)
    have ht := takeQ_lt qi (n - fl + 1) (by omega)
    rw [show ((n - fl + 1 : Nat) : Int) = (n : Int) - fl + 1 by omega] at hC
    generalize hte : takeQ qi (n - fl + 1) = t at *
    have HC := hid hC
    have XD := hid xd
    have XC := hid xc
    have XP := hid xp
    have FXX := hid FX
    have HDX := hid hDx
    have c1 : Wx.cell? ⟨d, 1, none⟩ = some (.slice la n cap) := xd.cell 1
    have c2 : Wx.cell? ⟨d, 2, none⟩ = some (.int .i64 fl) := xd.cell 2
    have c0 : Wx.cell? ⟨w.heap.size + 1, 0, none⟩ = some (.func (.func 76) #[] #[.pointer (some ⟨w.heap.size, 0, none⟩)]) := xc.cell 0
    clear hC xd xc xp FX hDx hD hF hB hl hD' x3 xq q3 qr3 c3 cd cc FP bfr at_i bo b1 b2 b3 bd bp bq hl2 hD2 F2 FW hrec
    generalize hwq : w.heap.size = wq at *
    have hw1 : IntKind.i64.wrap ((n : Int) - fl) = (n : Int) - fl := IntWalk.i64_in _ (by omega)
    have hw2 : IntKind.i64.wrap ((n : Int) - fl + 1) = (n : Int) - fl + 1 := IntWalk.i64_in _ (by omega)
    have hw3 : IntKind.i64.wrap ((fl : Int) + t) = (fl : Int) + t := IntWalk.i64_in _ (by omega)
    refine wp_region_planQ [true, true, true, true, true, true, true, true, true, true, true, true, true, true, true, true, false, false, false, false, false] (fun kz w => (kz ≤ 20 → w.cell? ⟨d, 1, none⟩ = some (.slice la n cap)) ∧ w.cell? ⟨d, 2, none⟩ = some (.int .i64 fl) ∧ w.cell? ⟨(wq + 1), 0, none⟩ = some (.func (.func 76) #[] #[.pointer (some ⟨wq, 0, none⟩)])) (by kernel_rfl) (by kernel_rfl) (fun kz => ⟨fun _ => c1, c2, c0⟩) ?_
    repeat
      first
      | (refine wpTake_yes 20 rfl (by decide +kernel) ?_; apply Exists.intro; refine ⟨?_, ?_⟩; intro w hw; (try (have qa := (hw rfl).1 (Nat.le_refl _); have qb := (hw rfl).2)); ((go_simp <;> rfl)); simp only [Act.put, List.setIfInBounds_toArray, List.set_cons_zero, List.set_cons_succ])
      | (refine wpTake_no rfl ?_; simp only [Act.put, List.setIfInBounds_toArray, List.set_cons_zero, List.set_cons_succ])
      | (refine wpTake_pass ?_)
    refine wpTake_nil ?_
    repeat (refine wpRest_pass ?_)
    have keep : ∀ W', Fr (fun k => k = wq) Wx W' → W'.cell? ⟨d, 1, none⟩ = some (.slice la n cap) ∧ W'.cell? ⟨d, 2, none⟩ = some (.int .i64 fl) ∧ W'.cell? ⟨(wq + 1), 0, none⟩ = some (.func (.func 76) #[] #[.pointer (some ⟨wq, 0, none⟩)]) := by
      intro W' hF
      exact ⟨(XD.out.fr hF (by omega)).cell 1, (XD.out.fr hF (by omega)).cell 2, (XC.out.fr hF (by omega)).cell 0⟩
    clear c0 c1 c2
    refine wpRest_op ?_
    go_wp2_with (first | (go_at_call 76; refine HC.out.mono ?_; rintro e w5 ⟨rfl, FQ, hsz5, -⟩))
    have FQ5 := (Fr.refl (fun k => k = wq) Wx).drew.trans FQ (fun k hk _ => hk)
    refine ⟨fun k hk hk2 hS => ⟨fun _ => (keep _ FQ5).1, (keep _ FQ5).2⟩, ?_⟩
    have x5 := XD.out.fr FQ5 (by omega)
    have z5 := x5.frozen
    have X5 := hid x5
    clear x5 FQ
    repeat (refine wpRest_op ?_; go_wp2; (refine ⟨?_, ?_⟩; focus (intro kz hk hk2 hh; first | (exfalso; simp at hk2; omega) | exact hh | exact (fun h => absurd h (by omega)) | obtain ⟨qa, qb⟩ := hh; first | exact ⟨qa, qb⟩ | (refine ⟨fun h => absurd h (by omega), ?_⟩; first | exact qb | (skip)) | (refine ⟨fun h => ?_, ?_⟩; (have qa := qa h); all_goals (first | exact qa | exact qb | (skip))))))
    refine wpRest_nil ?_
    refine quiet_normal ?_
    have FX5 := FXX.out.trans FQ5 (fun k hk hlt => by omega)
    have HDX5 := (FQ5.blk w1.heap.size (Array.getElem?_eq_some_iff.1 HDX.out).1 (by omega)).trans HDX.out
    have P5 := XP.out.fr FQ5 (by omega)
    have X6 := X5.out.set 2 (.int .i64 ((fl : Int) + t))
    have P6 := P5.set_ne ⟨d, 2, none⟩ (.int .i64 ((fl : Int) + t)) n3.symm
    have F6 := FX5.setCell ⟨d, 2, none⟩ (.int .i64 ((fl : Int) + t)) (fun _ => .inr rfl)
    have D6 := (heap_setCell_other w5 ⟨d, 2, none⟩ w1.heap.size (.int .i64 ((fl : Int) + t)) (by dsimp only; omega)).trans HDX5
    generalize w5.setCell ⟨d, 2, none⟩ (.int .i64 ((fl : Int) + t)) = w6 at *
    clear FX5 HDX5 P5 X5 FQ5 HDX XP XC XD keep z5 HC
    rw [show (fl : Int) + t = ((fl + t : Nat) : Int) by omega] at *
    have hft : fl + t ≤ n := by omega
    generalize hfte : fl + t = ft at *
    simp only [List.set_cons_zero, List.set_cons_succ] at X6
    have e1 : w6.cell? ⟨d, 1, none⟩ = some (.slice la n cap) := X6.cell 1
    have e2 : w6.cell? ⟨d, 2, none⟩ = some (.int .i64 ft) := X6.cell 2
    have z6 := X6.frozen
    have HX6 := hid X6
    have HP6 := hid P6
    have HF6 := hid F6
    have HD6 := hid D6
    clear X6 P6 F6 D6
    have hfc : (ft : Int) ≤ cap := by omega
    have hfc0 : (0 : Int) ≤ ft := by omega
    go_wp2
    refine wp_region_planQ [true, true, true, true, true, true, true, true, true, true, false, false, false] (fun kz w => (kz ≤ 12 → w.cell? ⟨d, 1, none⟩ = some (.slice la n cap)) ∧ w.cell? ⟨d, 2, none⟩ = some (.int .i64 ft)) (by kernel_rfl) (by kernel_rfl) (fun kz => ⟨fun _ => e1, e2⟩) ?_
    repeat
      first
      | (refine wpTake_yes 12 rfl (by decide +kernel) ?_; apply Exists.intro; refine ⟨?_, ?_⟩; intro w hw; (try (have qa := (hw rfl).1 (Nat.le_refl _); have qb := (hw rfl).2)); ((go_simp <;> rfl)); simp only [Act.put, List.setIfInBounds_toArray, List.set_cons_zero, List.set_cons_succ])
      | (refine wpTake_no rfl ?_; simp only [Act.put, List.setIfInBounds_toArray, List.set_cons_zero, List.set_cons_succ])
      | (refine wpTake_pass ?_)
    refine wpTake_nil ?_
    repeat (refine wpRest_pass ?_)
    repeat (refine wpRest_op ?_; go_wp2; (refine ⟨?_, ?_⟩; focus (intro kz hk hk2 hh; first | (exfalso; simp at hk2; omega) | exact hh | exact (fun h => absurd h (by omega)) | obtain ⟨qa, qb⟩ := hh; first | exact ⟨qa, qb⟩ | (refine ⟨fun h => absurd h (by omega), ?_⟩; first | exact qb | (skip)) | (refine ⟨fun h => ?_, ?_⟩; (have qa := qa h); all_goals (first | exact qa | exact qb | (skip))))))
    refine wpRest_nil ?_
    refine quiet_normal ?_
    have X7 := (HX6.out.set 1 (.slice la ft cap)).drew
    have P7 := (HP6.out.set_ne ⟨d, 1, none⟩ (.slice la ft cap) n3.symm).drew
    have F7 := (HF6.out.setCell ⟨d, 1, none⟩ (.slice la ft cap) (fun _ => .inr rfl)).drew
    have D7 : (w6.setCell ⟨d, 1, none⟩ (.slice la ft cap)).drew.heap[w1.heap.size]? = some (.deferred (some [])) := (heap_setCell_other w6 ⟨d, 1, none⟩ w1.heap.size (.slice la ft cap) (by dsimp only; omega)).trans HD6.out
    generalize (w6.setCell ⟨d, 1, none⟩ (.slice la ft cap)).drew = w7 at *
    simp only [List.set_cons_zero, List.set_cons_succ] at X7
    clear HX6 HP6 HF6 HD6 e1 e2 z6
    have z7 := X7.frozen
    have k3 : w7.cell? ⟨d, 3, none⟩ = some (.bool off) := X7.cell 3
    have k4 : w7.cell? ⟨d, 4, none⟩ = some (.bool armed) := X7.cell 4
    have Hqi := hid hqi
    have Hte := hid hte
    have Hfte := hid hfte
    clear hqi hte hfte
    have X9 := (X7.set 3 (.bool false)).set 4 (.bool false)
    have P9 := (P7.set_ne ⟨d, 3, none⟩ (.bool false) n3.symm).set_ne ⟨d, 4, none⟩ (.bool false) n3.symm
    have F9 := (F7.setCell ⟨d, 3, none⟩ (.bool false) (fun _ => .inr rfl)).setCell ⟨d, 4, none⟩ (.bool false) (fun _ => .inr rfl)
    have D9 : ((w7.setCell ⟨d, 3, none⟩ (.bool false)).setCell ⟨d, 4, none⟩ (.bool false)).heap[w1.heap.size]? = some (.deferred (some [])) := (heap_setCell_other _ ⟨d, 4, none⟩ w1.heap.size (.bool false) (by dsimp only; omega)).trans ((heap_setCell_other w7 ⟨d, 3, none⟩ w1.heap.size (.bool false) (by dsimp only; omega)).trans D7)
    simp only [List.set_cons_zero, List.set_cons_succ] at X9
    have HX9 := hid X9
    have HP9 := hid P9
    have HF9 := hid F9
    have HD9 := hid D9
    clear X7 P7 F7 D7 X9 P9 F9 D9
    go_wp2
    rw [← hsz1]
    refine leavesM_one (v := .tuple #[]) HD9.out (results_none rfl _ _ _) ?_
    refine ⟨rfl, Fr.putObj HF9.out _ _ (by intro h; omega), ?_, ?_⟩
    · exact HP9.out.of_heap (World.putObj_heap_other (by omega))
    · rw [Hqi.out, Hte.out, Hfte.out]
      exact HX9.out.of_heap (World.putObj_heap_other (by omega))

end Go.Proofs.Ytbkebjgoaeddjaa
/- from XDiskS.lean.tpl -/
namespace Go.Proofs.Ytbkebjgoaeddjaa
open Go.RowKit Go.VB Go.VB.Disk
theorem crashPages_get (ps : List Pg) : ∀ (q : List Int) (i : Nat) (p2 : Pg), (crashPages ps q).1[i]? = some p2 → ∃ p, ps[i]? = some p ∧ (p.ws = [] → p2 = p) ∧ (p.ws ≠ [] → p2.ws = []) := by
  induction ps with
  | nil => intro q i p2 h; simp [crashPages] at h
  | cons p ps ih =>
    intro q i p2 h
    unfold crashPages at h
    split at h
    · rename_i hw
      cases i with
      | zero => exact ⟨p, rfl, fun _ => (Option.some.inj h).symm, fun h => absurd hw h⟩
      | succ i => simpa using ih q i p2 (by simpa using h)
    · rename_i hw
      cases i with
      | zero =>
        obtain rfl : p.crash q = p2 := by simpa using h
        exact ⟨p, rfl, fun h => absurd h hw, fun _ => rfl⟩
      | succ i => simpa using ih q.tail.tail i p2 (by simpa using h)
theorem Crash_rep {S R : Nat → Prop} {w : World} {d : Nat} {m : DM} {kk : Nat} (h : DRep S w d m) (ok : m.Ok kk) (hkk : kk ≤ 1000000) {v : Value} {q : List Int} (hq : QRep R w v q) (hR : ∀ k, R k → ¬ S k ∧ k < w.heap.size) (hql : q.length ≤ 9223372036854775807) :
    Calls Try.prog 50 #[.pointer (some ⟨d, 0, none⟩), v] w fun e w' => e = .returned (.tuple #[]) ∧ Fr S w w' ∧ DRep (Ext S w w') w' d (m.crash q) := by
  obtain ⟨pb, lv, wv, q1, q2, q3, q4, q5, q6, q7, q8, q9⟩ := h
  obtain ⟨a, cap, rfl, hcap⟩ := ownsRow_form q7.1
  refine (Crash_go (R := R) w d pb m.pages wv a m.log.length cap m.flushed m.off m.armed _ v q q4 q5 q6 ok.safe ok.ws ok.np (fun p hp => Nat.le_trans (ok.few p hp) hkk) (fun i p v hp hv => (q8 i p v hp hv).1) ok.fl hcap ok.log hq
    (fun k hk => ⟨fun e => (hR k hk).1 (e ▸ q2), fun e => (hR k hk).1 (e ▸ q1), (hR k hk).2⟩) hql).mono ?_
  rintro e w' ⟨rfl, hf, hb, hd⟩
  have e1 : m.flushed + takeQ (qAt m.pages q m.pages.length) (m.log.length - m.flushed + 1) = (m.crash q).flushed := by simp [DM.crash, crashPages_snd]
  have hfl := ok.fl
  have ht := takeQ_lt (qAt m.pages q m.pages.length) (m.log.length - m.flushed + 1) (by omega)
  have hfn : (m.crash q).flushed ≤ m.log.length := by rw [← e1]; omega
  rw [e1] at hd
  have hdpb := q4.ne_of_type q5 (by decide)
  have own_syncV : ∀ (p : Pg) (v : Value) (k : Nat), (syncV p v).ownBlock = some k → v.ownBlock = some k := by
    intro p v k hk
    unfold syncV at hk
    split at hk
    · exact hk
    · simp [Value.ownBlock] at hk
  have zip_get : ∀ (i : Nat) (u : Value), (m.pages.zipWith syncV wv)[i]? = some u → ∃ p v, m.pages[i]? = some p ∧ wv[i]? = some v ∧ u = syncV p v := by
    intro i u hu
    rw [List.getElem?_zipWith] at hu
    cases hp : m.pages[i]? with
    | none => simp [hp] at hu
    | some p =>
      cases hv : wv[i]? with
      | none => simp [hp, hv] at hu
      | some v => exact ⟨p, v, rfl, rfl, by simpa [hp, hv] using hu.symm⟩
  have hlen := crashPages_length m.pages q
  have hne : ∀ {size n : Nat} {v : Value} {xs : List Value} {e : TypeId}, e ≠ 94 → e ≠ 106 → OwnB S w e size v n xs → ∀ k, v.ownBlock = some k → ¬ (k = pb ∨ k = d) := by
    intro size n v xs e h1 h2 ho k hk h
    rcases h with h | h
    · exact own_ne q5 h2.symm ho k hk h
    · exact own_ne q4 h1.symm ho k hk h
  have hlog : (m.crash q).log = m.log.take (m.crash q).flushed := by simp [DM.crash]
  refine ⟨rfl, hf.mono (fun k hk _ => hk.elim (fun h => by rw [h]; exact q2) (fun h => by rw [h]; exact q1)), pb, .slice a (m.crash q).flushed cap, m.pages.zipWith syncV wv, .inl q1, .inl q2, fun k hk => hk.elim (fun h => Nat.lt_of_lt_of_le (q3 k h) hf.size) (·.2), ?_, ?_, ?_, ⟨?_, ?_⟩, ?_, ?_⟩
  · have : (m.crash q).pages.length = m.pages.length := hlen
    rw [this]
    exact hd
  · have : (m.crash q).pages = (crashPages m.pages q).1 := rfl
    rw [this, crashE_pcs]
    exact hb
  · have : (m.crash q).pages.length = m.pages.length := hlen
    rw [this]
    simp [q6]
  · have hoL := (q7.fr hf (hne (by decide) (by decide) q7)).1
    have := ownsRow_take (l := m.log) hoL _ hfn rfl
    rw [hlog]
    have e3 : (m.log.take (m.crash q).flushed).length = (m.crash q).flushed := by simp; omega
    rw [e3]
    exact this
  · intro x hx
    refine .inl (q7.2 x ?_)
    cases a with
    | none => simp [Value.ownBlock] at hx
    | some a => simpa [Value.ownBlock] using hx
  · intro i p2 u hp2 hu
    obtain ⟨p, v, hp, hv, rfl⟩ := zip_get i u hu
    obtain ⟨p', hp', h1, h2⟩ := crashPages_get m.pages q i p2 hp2
    obtain rfl : p = p' := by rw [hp] at hp'; exact Option.some.inj hp'
    have ho := ((q8 i p v hp hv).fr hf (hne (by decide) (by decide) (q8 i p v hp hv))).mono (S' := Ext S w w') fun _ _ hk => .inl hk
    by_cases hw : p.ws = []
    · rw [h1 hw]
      simpa [syncV, hw] using ho
    · rw [h2 hw]
      refine ⟨⟨by simp, .inl ⟨by simp [syncV, hw], by simp⟩⟩, ?_⟩
      intro k hk
      simp [syncV, hw, Value.ownBlock] at hk
  · intro i j u u' k hij hu hu' h1 h2
    obtain ⟨p, v, hp, hv, rfl⟩ := zip_get i u hu
    obtain ⟨p', v', hp', hv', rfl⟩ := zip_get j u' hu'
    exact q9 i j v v' k hij hv hv' (own_syncV _ _ _ h1) (own_syncV _ _ _ h2)
theorem Ok_crash {m : DM} {kk : Nat} (ok : m.Ok kk) (q : List Int) : (m.crash q).Ok kk := by
  have hlen := crashPages_length m.pages q
  have hfl := ok.fl
  have ht := takeQ_lt (crashPages m.pages q).2 (m.log.length - m.flushed + 1) (by omega)
  have pg : ∀ (ps : List Pg) (q : List Int), (∀ p ∈ ps, p.safe.length = 512 ∧ (∀ s ∈ p.ws, s.length = 512) ∧ p.ws.length ≤ kk) → ∀ p ∈ (crashPages ps q).1, p.safe.length = 512 ∧ (∀ s ∈ p.ws, s.length = 512) ∧ p.ws.length ≤ kk := by
    intro ps
    induction ps with
    | nil => intro q _ p hp; simp [crashPages] at hp
    | cons p0 ps ih =>
      intro q h p hp
      have h0 := h p0 List.mem_cons_self
      have ih := fun q => ih q (fun p hp => h p (List.mem_cons_of_mem _ hp))
      unfold crashPages at hp
      split at hp
      · rcases List.mem_cons.1 hp with rfl | hp
        · exact h0
        · exact ih _ p hp
      · rcases List.mem_cons.1 hp with rfl | hp
        · exact ⟨crash_len p0 q h0.1 h0.2.1, by simp [Pg.crash], by simp [Pg.crash]⟩
        · exact ih _ p hp
  have pg := pg m.pages q (fun p hp => ⟨ok.safe p hp, ok.ws p hp, ok.few p hp⟩)
  refine ⟨by rw [show (m.crash q).pages.length = _ from hlen]; exact ok.np, fun p hp => (pg p hp).1, fun p hp => (pg p hp).2.1, fun p hp => (pg p hp).2.2, ?_, ?_⟩
  · have := ok.log
    simp only [DM.crash, List.length_take]
    omega
  · simp only [DM.crash, List.length_take]
    omega

end Go.Proofs.Ytbkebjgoaeddjaa
/- from XDiskV.lean.tpl -/
namespace Go.Proofs.Ytbkebjgoaeddjaa
open Go.RowKit Go.VB Go.VB.Disk
theorem Ok_operate {m : DM} {k k' : Nat} (ok : m.Ok k) (hk : k ≤ k') (wrong : Int) (f : DM → DM) (hf : wrong = 0 → ∀ m' : DM, m'.Ok k → m'.pages = m.pages → m'.log = m.log → (f m').Ok k') : (m.operate wrong f).1.Ok k' := by
  have up : ∀ m' : DM, m'.pages = m.pages → m'.log = m.log → m'.flushed = m.flushed → m'.Ok k' := by
    intro m' h1 h2 h3
    exact ⟨by rw [h1]; exact ok.np, by rw [h1]; exact ok.safe, by rw [h1]; exact ok.ws, by rw [h1]; exact fun p hp => Nat.le_trans (ok.few p hp) hk, by rw [h2]; exact ok.log, by rw [h2, h3]; exact ok.fl⟩
  unfold DM.operate
  split
  · exact up m rfl rfl rfl
  · split
    · exact up m rfl rfl rfl
    · split
      · exact up _ rfl rfl rfl
      · rename_i hw _
        refine hf (by simpa using hw) _ ⟨ok.np, ok.safe, ok.ws, ok.few, ok.log, ok.fl⟩ rfl rfl
theorem Ok_mono {m : DM} {k k' : Nat} (ok : m.Ok k) (hk : k ≤ k') : m.Ok k' := ⟨ok.np, ok.safe, ok.ws, fun p hp => Nat.le_trans (ok.few p hp) hk, ok.log, ok.fl⟩
theorem Ok_write {m : DM} {k : Nat} (ok : m.Ok k) (n : Int) (s : Bytes) : (m.write n s).1.Ok (k + 1) := by
  refine Ok_operate ok (by omega) _ _ fun hw m' ok' hp hl => ?_
  have hs : s.length = 512 := by
    by_cases h : s.length = 512
    · exact h
    · exfalso
      rw [if_neg h] at hw
      split at hw <;> cases hw
  have key : ∀ p ∈ m'.pages.modify n.toNat (Pg.write s), ∃ p0 ∈ m'.pages, p = p0 ∨ p = Pg.write s p0 := by
    intro p hp
    obtain ⟨i, hi, rfl⟩ := List.mem_iff_getElem.1 hp
    rw [List.getElem_modify]
    have hi' : i < m'.pages.length := by simpa using hi
    refine ⟨m'.pages[i], List.getElem_mem _, ?_⟩
    split
    · exact .inr rfl
    · exact .inl rfl
  refine ⟨by simpa using ok'.np, ?_, ?_, ?_, ok'.log, ok'.fl⟩
  · intro p hp
    obtain ⟨p0, h0, rfl | rfl⟩ := key p hp
    · exact ok'.safe _ h0
    · exact ok'.safe p0 h0
  · intro p hp x hx
    obtain ⟨p0, h0, rfl | rfl⟩ := key p hp
    · exact ok'.ws _ h0 x hx
    · rcases List.mem_append.1 hx with h | h
      · exact ok'.ws _ h0 x h
      · rw [List.mem_singleton.1 h]; exact hs
  · intro p hp
    obtain ⟨p0, h0, rfl | rfl⟩ := key p hp
    · exact Nat.le_trans (ok'.few _ h0) (by omega)
    · have := ok'.few _ h0
      simp [Pg.write]; omega
theorem Ok_sync {m : DM} {k : Nat} (ok : m.Ok k) : m.sync.1.Ok k := by
  refine Ok_operate ok (Nat.le_refl _) _ _ fun _ m' ok' _ _ => ?_
  refine ⟨by simpa using ok'.np, ?_, ?_, ?_, ok'.log, ok'.fl⟩
  · intro p hp
    obtain ⟨p0, h0, rfl⟩ := List.mem_map.1 hp
    exact Pg.cur_length _ (ok'.safe _ h0) (ok'.ws _ h0)
  · intro p hp
    obtain ⟨p0, h0, rfl⟩ := List.mem_map.1 hp
    simp [Pg.sync]
  · intro p hp
    obtain ⟨p0, h0, rfl⟩ := List.mem_map.1 hp
    simp [Pg.sync]
theorem Ok_append {m : DM} {k : Nat} (ok : m.Ok k) (s : Bytes) : (m.append s).1.Ok k := by
  refine Ok_operate ok (Nat.le_refl _) _ _ fun hw m' ok' _ hl => ?_
  have : ¬ 1048576 < m.log.length + s.length := by intro h; rw [if_pos h] at hw; cases hw
  have hf := ok'.fl
  refine ⟨ok'.np, ok'.safe, ok'.ws, ok'.few, ?_, ?_⟩
  · simp only [List.length_append]; rw [hl]; omega
  · simp only [List.length_append]; omega
theorem Ok_flush {m : DM} {k : Nat} (ok : m.Ok k) : m.flush.1.Ok k :=
  Ok_operate ok (Nat.le_refl _) _ _ fun _ _ ok' _ _ => ⟨ok'.np, ok'.safe, ok'.ws, ok'.few, ok'.log, Nat.le_refl _⟩
theorem Ok_cut {m : DM} {k : Nat} (ok : m.Ok k) (n : Int) : (m.cut n).1.Ok k :=
  Ok_operate ok (Nat.le_refl _) _ _ fun hw m' ok' _ hl => by
    have h1 := ok'.log
    have h2 := ok'.fl
    have hn : ¬ (n < 0 ∨ (m.log.length : Int) < n) := by intro h; rw [if_pos h] at hw; cases hw
    refine ⟨ok'.np, ok'.safe, ok'.ws, ok'.few, ?_, ?_⟩
    · simp only [List.length_take]; omega
    · simp only [List.length_take]; omega
theorem Ok_arm {m : DM} {k : Nat} (ok : m.Ok k) (n : Int) : (m.arm n).Ok k := ⟨ok.np, ok.safe, ok.ws, ok.few, ok.log, ok.fl⟩

end Go.Proofs.Ytbkebjgoaeddjaa
/- from XDiskX.lean.tpl -/
namespace Go.Proofs.Ytbkebjgoaeddjaa
open Go.RowKit Go.VB Go.VB.Disk
/-- a disk in memory that keeps off the blocks X -/
def G (X : Nat → Prop) (w : World) (d : Nat) (m : DM) : Prop := ∃ S, (∀ k, S k → ¬ X k) ∧ (∀ k, X k → k < w.heap.size) ∧ DRep S w d m
section
variable {X : Nat → Prop} {w : World} {d : Nat} {m : DM}
theorem G.step {S : Nat → Prop} {w' : World} {m' : DM} (h1 : ∀ k, S k → ¬ X k) (h2 : ∀ k, X k → k < w.heap.size) (hf : Fr S w w') (h : DRep (Ext S w w') w' d m') : G X w' d m' ∧ Fr (fun k => ¬ X k) w w' :=
  ⟨⟨Ext S w w', fun k hk hx => hk.elim (fun h => h1 k h hx) (fun h => by have := h2 k hx; omega), fun k hx => Nat.lt_of_lt_of_le (h2 k hx) hf.size, h⟩, hf.mono fun k hk _ => h1 k hk⟩
theorem G.fr {R : Nat → Prop} {w' : World} (g : G X w d m) (hf : Fr R w w') (hR : ∀ k, R k → X k) : G X w' d m := by
  obtain ⟨S, h1, h2, h⟩ := g
  exact ⟨S, h1, fun k hx => Nat.lt_of_lt_of_le (h2 k hx) hf.size, h.fr hf fun k hk hr => h1 k hk (hR k hr)⟩
/-- what has been made since is X's too -/
theorem G.own {w' : World} (g : G X w d m) (hf : Fr X w w') : G (fun k => X k ∨ (w.heap.size ≤ k ∧ k < w'.heap.size)) w' d m := by
  obtain ⟨S, h1, h2, h⟩ := g
  refine ⟨S, fun k hk hx => hx.elim (h1 k hk) (fun hx => by have := h.lt k hk; omega), fun k hx => hx.elim (fun hx => Nat.lt_of_lt_of_le (h2 k hx) hf.size) (·.2), h.fr hf fun k hk hr => h1 k hk hr⟩
theorem New_G (w : World) (n : Int) : Calls Try.prog 46 #[.int .i64 n] w fun e w' => e = .returned (.pointer (some ⟨w.heap.size + 1, 0, none⟩)) ∧ G (fun k => k < w.heap.size) w' (w.heap.size + 1) (DM.new (min n 400).toNat) ∧ Fr (fun _ => False) w w' := by
  refine (New_rep w n).mono ?_
  rintro e w' ⟨rfl, hf, hr⟩
  exact ⟨rfl, ⟨_, fun k hk hx => by omega, fun k hx => Nat.lt_of_lt_of_le hx hf.size, hr⟩, hf⟩
theorem Append_G {kk : Nat} (g : G X w d m) (ok : m.Ok kk) (l : Bytes) (hl : l.length ≤ 140737488355328) :
    Calls Try.prog 47 #[.pointer (some ⟨d, 0, none⟩), .string (bs l)] w fun e w' => e = .returned (.int .i64 (m.append l).2) ∧ G X w' d (m.append l).1 ∧ Fr (fun k => ¬ X k) w w' := by
  obtain ⟨S, h1, h2, h⟩ := g
  refine (Append_rep h ok.log l hl).mono ?_
  rintro e w' ⟨rfl, hf, hr⟩
  exact ⟨rfl, G.step h1 h2 hf hr⟩
theorem Flush_G (g : G X w d m) :
    Calls Try.prog 48 #[.pointer (some ⟨d, 0, none⟩)] w fun e w' => e = .returned (.int .i64 m.flush.2) ∧ G X w' d m.flush.1 ∧ Fr (fun k => ¬ X k) w w' := by
  obtain ⟨S, h1, h2, h⟩ := g
  refine (Flush_rep h).mono ?_
  rintro e w' ⟨rfl, hf, hr⟩
  exact ⟨rfl, G.step h1 h2 hf hr⟩
theorem Crash_G {kk : Nat} (g : G X w d m) (ok : m.Ok kk) (hkk : kk ≤ 1000000) {v : Value} {q : List Int} (hq : QRep X w v q) (hql : q.length ≤ 9223372036854775807) :
    Calls Try.prog 50 #[.pointer (some ⟨d, 0, none⟩), v] w fun e w' => e = .returned (.tuple #[]) ∧ G X w' d (m.crash q) ∧ Fr (fun k => ¬ X k) w w' := by
  obtain ⟨S, h1, h2, h⟩ := g
  refine (Crash_rep h ok hkk hq (fun k hk => ⟨fun hs => h1 k hs hk, h2 k hk⟩) hql).mono ?_
  rintro e w' ⟨rfl, hf, hr⟩
  exact ⟨rfl, G.step h1 h2 hf hr⟩
theorem Log_G (g : G X w d m) : Calls Try.prog 49 #[.pointer (some ⟨d, 0, none⟩)] w fun e w' => e = .returned (.string (bs m.log)) ∧ w = w' := by
  obtain ⟨S, h1, h2, h⟩ := g; exact Log_rep h
theorem On_G (g : G X w d m) : Calls Try.prog 81 #[.pointer (some ⟨d, 0, none⟩)] w fun e w' => e = .returned (.bool (!m.off)) ∧ w = w' := by
  obtain ⟨S, h1, h2, h⟩ := g; exact On_rep h
end

end Go.Proofs.Ytbkebjgoaeddjaa
/- from XDiskLogM.lean.tpl -/
namespace Go.Proofs.Ytbkebjgoaeddjaa
open Go.RowKit Go.VB Go.VB.Disk
namespace LogM
def M (log : Bytes) (fl : Nat) (l : Int) : DM := { pages := [⟨Disk.blank, []⟩], log := log, flushed := fl, off := false, armed := false, left := l }
theorem new : DM.new 1 = M [] 0 0 := rfl
theorem append {log s : Bytes} {fl : Nat} {l : Int} (h : log.length + s.length ≤ 1048576) : (M log fl l).append s = (M (log ++ s) fl (wrap64 (l - 1)), 0) := by
  unfold DM.append DM.operate M
  rw [if_neg (by simp), if_neg (by simp; omega)]
  simp
theorem flush {log : Bytes} {fl : Nat} {l : Int} : (M log fl l).flush = (M log log.length (wrap64 (l - 1)), 0) := by
  unfold DM.flush DM.operate M
  simp
theorem cut {log : Bytes} {fl : Nat} {l : Int} {n : Nat} (h : n ≤ log.length) : (M log fl l).cut n = (M (log.take n) (min fl n) (wrap64 (l - 1)), 0) := by
  unfold DM.cut DM.operate M
  rw [if_neg (by simp), if_neg (by dsimp only; omega)]
  simp
theorem cut_wrong {log : Bytes} {fl : Nat} {l : Int} {n : Int} (h : n < 0 ∨ (log.length : Int) < n) : (M log fl l).cut n = (M log fl l, 1) := by
  unfold DM.cut DM.operate M
  rw [if_neg (by simp), if_pos h]
  simp
theorem ok {log : Bytes} {fl : Nat} {l : Int} (h : log.length ≤ 1048576) (hf : fl ≤ log.length) : (M log fl l).Ok 0 := by
  refine ⟨by simp [M], ?_, ?_, ?_, h, hf⟩
  · intro p hp
    simp only [M, List.mem_cons, List.not_mem_nil, or_false] at hp
    subst hp
    show Disk.blank.length = 512
    unfold Disk.blank; rw [List.length_replicate]
  · intro p hp s hs
    simp only [M, List.mem_cons, List.not_mem_nil, or_false] at hp
    subst hp
    cases hs
  · intro p hp
    simp only [M, List.mem_cons, List.not_mem_nil, or_false] at hp
    subst hp
    exact Nat.le_refl _
theorem takeQ_lt (q : List Int) (n : Nat) (hn : 0 < n) : takeQ q n < n := by
  cases q with
  | nil => exact hn
  | cons x q =>
    show (x % (n : Int)).toNat < n
    have h1 := Int.emod_nonneg x (show (n : Int) ≠ 0 by omega)
    have h2 := Int.emod_lt_of_pos x (show 0 < (n : Int) by omega)
    omega
theorem crash {log : Bytes} {fl : Nat} {l : Int} (q : List Int) (hf : fl ≤ log.length) : ∃ f, (M log fl l).crash q = M (log.take f) f l ∧ fl ≤ f ∧ f ≤ log.length := by
  have := takeQ_lt q (log.length - fl + 1) (by omega)
  refine ⟨fl + takeQ q (log.length - fl + 1), ?_, by omega, by omega⟩
  simp [DM.crash, crashPages, M]
theorem crash_nil {log : Bytes} {fl : Nat} {l : Int} : (M log fl l).crash [] = M (log.take fl) fl l := by
  simp [DM.crash, crashPages, M, takeQ]
end LogM
theorem QRep_nil {R : Nat → Prop} {w : World} : QRep R w (.slice none 0 0) [] := ⟨none, 0, rfl, Nat.le_refl _, fun h => absurd rfl h⟩
theorem cut_str (t : Bytes) (c : Nat) : ∃ q : Nat, (∀ z : Int, z = c → (if z < (t.length : Int) then z else (t.length : Int)) = (q : Int)) ∧ (bs t).extract 0 q = bs (t.take c) ∧ (q : Int) ≤ t.length := by
  refine ⟨min c t.length, fun z hz => by subst hz; split <;> omega, ?_, by omega⟩
  apply ByteArray.ext
  simp [bs]
end Go.Proofs.Ytbkebjgoaeddjaa

