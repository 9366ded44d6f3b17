import Derived.Laws.IdiomStrings
import Derived.Lib.BufferMore
import Derived.OrdersIn
import Derived.RangeFuncNested
import Derived.RangeFuncCalls
import Derived.RangeFuncBound
import Derived.RangeFuncLeaves
import Derived.Shelf.Abstract
import Derived.Shelf.RegionOpen
import Derived.OwnWalkIn
import Derived.TacticsInMore
import Derived.LoopNIn
import Derived.LoopIn
import Derived.Test.YtiimomgbklgicaaGreatProg
import Derived.Test.YtiimomgbklgicaaGreatChecked
import Derived.IntWalk
import Derived.Laws.BitsAllLaws
import Derived.Laws.Externs
import Derived.Lib.Builder
import Derived.Lib.UnsafeStr
import Derived.Test.YtiimomgbklgicaaGreatPkRsA
set_option linter.unusedVariables false
namespace Go.VB
open Go.RowKit
theorem own_new {w : World} {e : TypeId} {size n : Nat} {l : List Value} (hl : l.length = n * size) (hn : n ≤ maxLen) : (w.alloc (.cells l.toArray e)).ownsRow 0 e size (.slice (some ⟨w.heap.size, 0, none⟩) n n) n l :=
  ⟨hl, .inr ⟨w.heap.size, n, l.toArray, rfl, Nat.zero_le _, heap_alloc_new w _, Nat.le_refl _, hn, by simpa using hl, by rw [List.toList_toArray, ← hl, List.take_length]⟩⟩
theorem own_nil {w : World} {e : TypeId} {size : Nat} : w.ownsRow 0 e size (.slice none 0 0) 0 [] := ⟨by simp, .inl ⟨rfl, rfl⟩⟩
theorem own_fr {S : Nat → Prop} {w w' : World} {e : TypeId} {size n : Nat} {v : Value} {xs : List Value} (h : w.ownsRow 0 e size v n xs) (hf : Fr S w w') (hS : ∀ k, v.ownBlock = some k → ¬ S k) : w'.ownsRow 0 e size v n xs := by
  refine ⟨h.1, ?_⟩
  rcases h.2 with hn | ⟨g, cap, cur, rfl, hb, hgg, rest⟩
  · exact .inl hn
  · exact .inr ⟨g, cap, cur, rfl, hb, by rw [hf.blk g (Array.getElem?_eq_some_iff.1 hgg).1 (hS g rfl)]; exact hgg, rest⟩
theorem own_sl {R : Nat → Prop} {w : World} {e : TypeId} {size n : Nat} {v : Value} {xs : List Value} (h : w.ownsRow 0 e size v n xs) (hR : ∀ k, v.ownBlock = some k → R k) : Sl R w v n xs := by
  rcases h.2 with ⟨rfl, rfl⟩ | ⟨g, cap, cur, rfl, hb, hgg, h1, h2, h3, h4⟩
  · have : xs = [] := List.eq_nil_of_length_eq_zero (by simpa using h.1)
    exact ⟨none, 0, rfl, Nat.le_refl _, fun hne => absurd this hne⟩
  · refine ⟨some ⟨g, 0, none⟩, cap, rfl, h1, fun _ => ⟨g, 0, rfl, hR g rfl, ?_⟩⟩
    have hB : Blk w g cur.toList e := by unfold Blk; simpa using hgg
    have e1 : cur.toList = [] ++ xs ++ cur.toList.drop (n * size) := by
      rw [List.nil_append]
      conv => lhs; rw [← List.take_append_drop (n * size) cur.toList, h4]
    exact hB.range [] xs (cur.toList.drop (n * size)) e1
theorem own_lt {w : World} {e : TypeId} {size n k : Nat} {v : Value} {xs : List Value} (h : w.ownsRow 0 e size v n xs) (hk : v.ownBlock = some k) : k < w.heap.size := by
  rcases h.2 with ⟨rfl, rfl⟩ | ⟨g, cap, cur, rfl, hb, hgg, h1, h2, h3, h4⟩
  · simp [Value.ownBlock] at hk
  · simp [Value.ownBlock] at hk; subst hk
    exact (Array.getElem?_eq_some_iff.1 hgg).1
theorem own_slice {w : World} {e : TypeId} {size n : Nat} {v : Value} {xs : List Value} (h : w.ownsRow 0 e size v n xs) : ∃ a c, v = .slice a n c ∧ n ≤ c := by
  rcases h.2 with ⟨rfl, rfl⟩ | ⟨g, cap, cur, rfl, hb, hgg, h1, h2, h3, h4⟩
  · exact ⟨none, 0, rfl, Nat.le_refl _⟩
  · exact ⟨_, cap, rfl, h1⟩
end Go.VB
namespace Go.VB
open Go.RowKit
structure Row (e : TypeId) (size B : Nat) (W : World) (v : Value) (n : Nat) (xs : List Value) : Prop where
  own : W.ownsRow 0 e size v n xs
  new : ∀ k, v.ownBlock = some k → B ≤ k
namespace Row
variable {e : TypeId} {size B n : Nat} {W W' : World} {v : Value} {xs : List Value}
theorem nil : Row e size B W (.slice none 0 0) 0 [] := ⟨own_nil, fun k hk => by simp [Value.ownBlock] at hk⟩
theorem fr {S : Nat → Prop} (h : Row e size B W v n xs) (f : Fr S W W') (hS : ∀ k, v.ownBlock = some k → ¬ S k) : Row e size B W' v n xs := ⟨own_fr h.own f hS, h.new⟩
theorem fre (h : Row e size B W v n xs) (f : Fr (fun _ => False) W W') : Row e size B W' v n xs := h.fr f (fun _ _ h => h)
theorem low {A : Nat} (h : Row e size B W v n xs) (hA : A ≤ B) : Row e size A W v n xs := ⟨h.own, fun k hk => Nat.le_trans hA (h.new k hk)⟩
theorem slice (h : Row e size B W v n xs) : ∃ a c, v = .slice a n c ∧ n ≤ c := own_slice h.own
theorem lt (h : Row e size B W v n xs) {k : Nat} (hk : v.ownBlock = some k) : k < W.heap.size := own_lt h.own hk
theorem sl (h : Row e size B W v n xs) : Sl (fun k => B ≤ k) W v n xs := own_sl h.own h.new
theorem sl' {R : Nat → Prop} (h : Row e size B W v n xs) (hR : ∀ k, B ≤ k → R k) : Sl R W v n xs := own_sl h.own (fun k hk => hR k (h.new k hk))
theorem length (h : Row e size B W v n xs) : xs.length = n * size := h.own.1
theorem built (w : World) {l : List Value} (hl : l.length = n * size) (hn : n ≤ maxLen) (hB : B ≤ w.heap.size) : Row e size B (w.alloc (.cells l.toArray e)) (.slice (some ⟨w.heap.size, 0, none⟩) n n) n l :=
  ⟨own_new hl hn, fun k hk => by simp [Value.ownBlock] at hk; omega⟩
theorem ne {d : Nat} {l : List Value} {t : TypeId} (h : Row e size B W v n xs) (hb : Blk W d l t) (hte : t ≠ e) : ∀ k, v.ownBlock = some k → k ≠ d := ownsRow_ne hb hte h.own
theorem cast {m : Nat} {ys : List Value} (h : Row e size B W v n xs) (hn : n = m) (hx : xs = ys) : Row e size B W v m ys := by subst hn; subst hx; exact h
end Row
theorem row_range {e : TypeId} {size B n : Nat} {W : World} {a : Option Addr} {c : Nat} {xs : List Value} (h : Row e size B W (.slice a n c) n xs) (hx : xs ≠ []) : ∃ g, a = some ⟨g, 0, none⟩ ∧ B ≤ g ∧ W.rangeAt g 0 xs := by
  rcases h.own.2 with ⟨h1, rfl⟩ | ⟨g, cap, cur, h1, hb, hgg, h2, h3, h4, h5⟩
  · exact absurd (List.eq_nil_of_length_eq_zero (by simpa using h.own.1)) hx
  · cases h1
    refine ⟨g, rfl, h.new g rfl, ?_⟩
    have hB : Blk W g cur.toList e := by unfold Blk; simpa using hgg
    have e1 : cur.toList = [] ++ xs ++ cur.toList.drop (n * size) := by
      rw [List.nil_append]
      conv => lhs; rw [← List.take_append_drop (n * size) cur.toList, h5]
    exact hB.range [] xs (cur.toList.drop (n * size)) e1
theorem row_cells {e : TypeId} {size B n : Nat} {W : World} {a : Option Addr} {c : Nat} {xs : List Value} (h : Row e size B W (.slice a n c) n xs) (hx : xs ≠ []) : ∃ g, a = some ⟨g, 0, none⟩ ∧ B ≤ g ∧ ∀ j u, xs[j]? = some u → W.cell? ⟨g, j, none⟩ = some u := by
  obtain ⟨g, h1, h2, h3⟩ := row_range h hx
  exact ⟨g, h1, h2, fun j u hu => by have := h3 j u hu; rwa [Nat.zero_add] at this⟩
/-- what an append of one element leaves -/
structure App (e : TypeId) (size B : Nat) (wb w' : World) (v v' : Value) (n : Nat) (xs news : List Value) : Prop where
  row : Row e size B w' v' (n + 1) (xs ++ news)
  fr : Fr (fun k => v.ownBlock = some k) wb w'
  at_ : ∀ k, v'.ownBlock = some k → v.ownBlock = some k ∨ k = wb.heap.size + 1
namespace App
variable {e : TypeId} {size B n : Nat} {wb w' w : World} {v v' : Value} {xs news : List Value}
theorem frB (h : App e size B wb w' v v' n xs news) (r : Row e size B wb v n xs) (f : Fr (fun _ => False) w wb) (hB : w.heap.size ≤ B) : Fr (fun _ => False) w w' :=
  f.trans h.fr fun k hk hl => by have := r.new k hk; omega
end App
theorem wpList_app1 {P : Program} {ops : Array Oper} {rest : List Oper} {op : Oper} {a : Act} {wb : World} {Q : Exit → Act → World → Prop} (hgd : op.guard = none) {s x : Operand} {t : TypeId}
    (ho : op.op = .call { callee := .builtin .append, args := #[s, x], argTypes := #[t, t] }) {e : TypeId} (hu : P.underlying t = some (.slice e))
    {z : Value} {size bytes : Nat} (hinfo : (P.info? e).map (fun i => (i.zero, i.size, i.bytes)) = some (some z, size, bytes)) (hzs : z.cells.size = size)
    {v : Value} (hs : a.eval s = v) (hxv : a.eval x = .slice (some ⟨wb.heap.size, 0, none⟩) 1 1) {B n : Nat} {xs news : List Value} (row : Row e size B wb v n xs) (hB : B ≤ wb.heap.size)
    (hl : news.length = size) (h1 : ∀ u ∈ news, u.oneCell' = true) (h63 : n + 1 ≤ 1099511627776) (hbytes : (n + 1) * bytes ≤ 140737488355328)
    (h : ∀ (b : Option Addr) (c : Nat) (w' : World), App e size B wb w' v (.slice b (n + 1) c) n xs news → wpList P ops Q rest (a.put op.dst (.slice b (n + 1) c)) w') : wpList P ops Q (op :: rest) a (wb.alloc (.cells news.toArray e)) := by
  have F1 := (Fr.refl (fun _ => False) wb).alloc (.cells news.toArray e)
  have hsrc : Src P (wb.alloc (.cells news.toArray e)) size (.slice (some ⟨wb.heap.size, 0, none⟩) 1 1) 1 news := Src.slice (by omega) h1 (Blk.new wb news e).all
  refine wpList_append hgd ho hu hu (.inr ⟨_, rfl⟩) hinfo hzs hs hxv (row.fre F1).own hsrc h63 hbytes ?_
  intro b c w' hown hg hat
  refine h b c w' ⟨⟨hown, fun k hk => ?_⟩, (F1.mono (fun _ h _ => h.elim)).grown hg (fun k hk _ => hk), fun k hk => ?_⟩
  · rcases hat k hk with h | h
    · exact row.new k h
    · rw [h, World.size_alloc]; omega
  · rcases hat k hk with h | h
    · exact .inl h
    · exact .inr (by rw [h, World.size_alloc])
/-- a row as a source of append -/
theorem Row.src {P : Program} {e : TypeId} {size B n : Nat} {W : World} {v : Value} {xs : List Value} (h : Row e size B W v n xs) (h1 : ∀ u ∈ xs, u.oneCell' = true) : Src P W size v n xs := by
  rcases h.own.2 with ⟨rfl, rfl⟩ | ⟨g, cap, cur, rfl, hb, hgg, h2, h3, h4, h5⟩
  · have : xs = [] := List.eq_nil_of_length_eq_zero (by simpa using h.own.1)
    subst this
    exact Src.nil size 0
  · refine Src.slice h.own.1 h1 ?_
    have hB : Blk W g cur.toList e := by unfold Blk; simpa using hgg
    have e1 : cur.toList = [] ++ xs ++ cur.toList.drop (n * size) := by
      rw [List.nil_append]
      conv => lhs; rw [← List.take_append_drop (n * size) cur.toList, h5]
    exact hB.range [] xs (cur.toList.drop (n * size)) e1
/-- what an append of many leaves -/
structure AppS (e : TypeId) (size B : Nat) (wb w' : World) (v v' : Value) (n m : Nat) (xs news : List Value) : Prop where
  row : Row e size B w' v' (n + m) (xs ++ news)
  fr : Fr (fun k => v.ownBlock = some k) wb w'
  at_ : ∀ k, v'.ownBlock = some k → v.ownBlock = some k ∨ k = wb.heap.size
theorem AppS.frB {e : TypeId} {size B n m : Nat} {wb w' w : World} {v v' : Value} {xs news : List Value} (h : AppS e size B wb w' v v' n m xs news) (r : Row e size B wb v n xs) (f : Fr (fun _ => False) w wb) (hB : w.heap.size ≤ B) : Fr (fun _ => False) w w' :=
  f.trans h.fr fun k hk hl => by have := r.new k hk; omega
theorem wpList_appS {P : Program} {ops : Array Oper} {rest : List Oper} {op : Oper} {a : Act} {wb : World} {Q : Exit → Act → World → Prop} (hgd : op.guard = none) {s x : Operand} {t tx : TypeId}
    (ho : op.op = .call { callee := .builtin .append, args := #[s, x], argTypes := #[t, tx] }) {e : TypeId} {dx : TypeDesc} (hu : P.underlying t = some (.slice e)) (hx : P.underlying tx = some dx) (hdx : dx = .string ∨ ∃ e', dx = .slice e')
    {z : Value} {size bytes : Nat} (hinfo : (P.info? e).map (fun i => (i.zero, i.size, i.bytes)) = some (some z, size, bytes)) (hzs : z.cells.size = size)
    {v xv : Value} (hs : a.eval s = v) (hxv : a.eval x = xv) {B n m : Nat} {xs news : List Value} (row : Row e size B wb v n xs) (hB : B ≤ wb.heap.size) (hsrc : Src P wb size xv m news)
    (h63 : n + m ≤ 1099511627776) (hbytes : (n + m) * bytes ≤ 140737488355328)
    (h : ∀ (b : Option Addr) (c : Nat) (w' : World), AppS e size B wb w' v (.slice b (n + m) c) n m xs news → wpList P ops Q rest (a.put op.dst (.slice b (n + m) c)) w') : wpList P ops Q (op :: rest) a wb := by
  refine wpList_append hgd ho hu hx hdx hinfo hzs hs hxv row.own hsrc h63 hbytes ?_
  intro b c w' hown hg hat
  refine h b c w' ⟨⟨hown, fun k hk => ?_⟩, (Fr.refl _ wb).grown hg (fun k hk _ => hk), hat⟩
  rcases hat k hk with h | h
  · exact row.new k h
  · omega
end Go.VB
namespace Go.VB
open Go.RowKit
/-- Block b holds the cells l of element type t; the mark behind its end is frozen. -/
def SBlk (w : World) (b : Nat) (l : List Value) (t : TypeId) : Prop := w.heap[b]? = some (.cells l.toArray t (l.length, l.length + 1))
namespace SBlk
variable {w w' : World} {b : Nat} {l : List Value} {t : TypeId}
theorem cell (h : SBlk w b l t) (o : Nat) : w.cell? ⟨b, o, none⟩ = l[o]? := by simpa using cell_of_row w b o l.toArray t _ h
theorem frozen (h : SBlk w b l t) {o : Nat} (ho : o < l.length) : w.frozen? ⟨b, o, none⟩ = false := by
  have h' : w.heap[b]? = some (.cells l.toArray t (l.length, l.length + 1)) := h
  simp [World.frozen?, h']
  omega
theorem lt (h : SBlk w b l t) : b < w.heap.size := (Array.getElem?_eq_some_iff.1 h).1
theorem of_heap (h : SBlk w b l t) (he : w'.heap[b]? = w.heap[b]?) : SBlk w' b l t := he.trans h
theorem fr {S : Nat → Prop} (h : SBlk w b l t) (hf : Fr S w w') (hb : ¬ S b) : SBlk w' b l t := h.of_heap (hf.blk b h.lt hb)
theorem drew (h : SBlk w b l t) : SBlk w.drew b l t := h
theorem set (h : SBlk w b l t) (o : Nat) (v : Value) : SBlk (w.setCell ⟨b, o, none⟩ v) b (l.set o v) t := by
  have := Go.Lib.heap_setCell_same (i := o) h v
  unfold SBlk
  rw [this]
  simp
theorem range (h : SBlk w b l t) (A m B : List Value) (hl : l = A ++ m ++ B) : w.rangeAt b A.length m := by
  intro j v hj
  rw [h.cell, hl]
  have hj' : j < m.length := (List.getElem?_eq_some_iff.1 hj).1
  rw [List.append_assoc, List.getElem?_append_right (by omega)]
  rw [List.getElem?_append_left (by omega)]
  simpa using hj
theorem head (h : SBlk w b l t) (m B : List Value) (hl : l = m ++ B) : w.rangeAt b 0 m := h.range [] m B (by simpa using hl)
end SBlk
/-- what '[]byte(s)' leaves: n bytes and spare room in a new block -/
structure StrB (e : TypeId) (w w' : World) (b c : Nat) (l : List UInt8) : Prop where
  at_ : b = w.heap.size
  cap : l.length ≤ c
  blk : SBlk w' b (bv l ++ List.replicate (c - l.length) (.int .u8 0)) e
  fr : Fr (fun _ => False) w w'
theorem StrB.rng {e : TypeId} {w w' : World} {b c : Nat} {l : List UInt8} (h : StrB e w w' b c l) : w'.rangeAt b 0 (bv l) := h.blk.head _ _ rfl
theorem run_str_bytes {P : Program} (w : World) (src dst e : TypeId) (l : List UInt8) (hs : P.underlying src = some .string) (hd : P.underlying dst = some (.slice e)) (he : P.underlying e = some (.int .u8)) :
    ∃ c w', (convert src dst (.string (bs l))).run P w = .ok (.slice (some ⟨w.heap.size, 0, none⟩) l.length c) w' ∧ StrB e w w' w.heap.size c l := by
  have h := run_bytes_of_string (P := P) w src dst e (bs l) hs hd he
  rw [bs_size] at h
  have hge := grownCap_ge w l.length 0 e
  refine ⟨_, _, h, rfl, hge, ?_, ((Fr.refl _ w).drew).alloc _⟩
  have e1 : bytesRow (bs l) (grownCap w l.length 0 e) = (bv l ++ List.replicate (grownCap w l.length 0 e - l.length) (Value.int .u8 0)).toArray := by
    apply Array.ext'
    simp [bytesRow, bv, bs, ByteArray.size]
  rw [e1]
  have h2 := heap_alloc_new w.drew (.cells (bv l ++ List.replicate (grownCap w l.length 0 e - l.length) (Value.int .u8 0)).toArray e ((bv l ++ List.replicate (grownCap w l.length 0 e - l.length) (Value.int .u8 0)).toArray.size, (bv l ++ List.replicate (grownCap w l.length 0 e - l.length) (Value.int .u8 0)).toArray.size + 1))
  unfold SBlk
  rw [show (bv l ++ List.replicate (grownCap w l.length 0 e - l.length) (Value.int .u8 0)).length = (bv l ++ List.replicate (grownCap w l.length 0 e - l.length) (Value.int .u8 0)).toArray.size by simp]
  exact h2
theorem wpList_str_bytes {P : Program} {ops : Array Oper} {rest : List Oper} {op : Oper} {a : Act} {w : World} {Q : Exit → Act → World → Prop} (hgd : op.guard = none) {src dst e : TypeId} {x : Operand} (ho : op.op = .convert src dst x)
    (hs : P.underlying src = some .string) (hd : P.underlying dst = some (.slice e)) (he : P.underlying e = some (.int .u8)) {l : List UInt8} (hx : a.eval x = .string (bs l))
    (h : ∀ (c : Nat) (w' : World), StrB e w w' w.heap.size c l → wpList P ops Q rest (a.put op.dst (.slice (some ⟨w.heap.size, 0, none⟩) l.length c)) w') : wpList P ops Q (op :: rest) a w :=
  wpList_plain hgd fun _ hK => by
    obtain ⟨c, w', hr, hb⟩ := run_str_bytes (P := P) w src dst e l hs hd he
    unfold Oper.wp execOp
    simp only [ho, hx, hr, Sem.run_bind, Sem.run_pure, Result.andThen_ok]
    exact hK _ _ (h c w' hb)
/-- one byte of it written -/
theorem StrB.set {e : TypeId} {w w' : World} {b c : Nat} {l : List UInt8} (h : StrB e w w' b c l) {i : Nat} (hi : i < l.length) (x : UInt8) :
    SBlk (w'.setCell ⟨b, i, none⟩ (.int .u8 (x.toNat : Int))) b (bv (l.set i x) ++ List.replicate (c - l.length) (.int .u8 0)) e := by
  have := h.blk.set i (.int .u8 (x.toNat : Int))
  rw [List.set_append_left _ _ (by rw [bv_length]; exact hi)] at this
  have e1 : (bv l).set i (.int .u8 (x.toNat : Int)) = bv (l.set i x) := by
    unfold bv
    rw [List.map_set]
  rwa [e1] at this
theorem StrB.free {e : TypeId} {w w' : World} {b c : Nat} {l : List UInt8} (h : StrB e w w' b c l) {i : Nat} (hi : i < l.length) : w'.frozen? ⟨b, i, none⟩ = false := h.blk.frozen (by rw [List.length_append, bv_length]; omega)
theorem StrB.at (e : TypeId) {w w' : World} {b c : Nat} {l : List UInt8} (h : StrB e w w' b c l) {i : Nat} (hi : i < l.length) : w'.cell? ⟨b, i, none⟩ = some (.int .u8 ((l[i]).toNat : Int)) := by
  rw [h.blk.cell, List.getElem?_append_left (by rw [bv_length]; exact hi)]
  simp [bv, hi]
end Go.VB
namespace Go.VB.Oct
/-- byte j (of 8, the first the greatest) of n -/
def byteAt (n j : Nat) : UInt8 := UInt8.ofNat (n / 256 ^ (7 - j))
def be8 (n : Nat) : List UInt8 := (List.range 8).map (byteAt n)
/-- the last k bytes of n, the greatest first -/
def be (k n : Nat) : List UInt8 := (be8 n).drop (8 - k)
theorem be8_length (n : Nat) : (be8 n).length = 8 := by simp [be8]
theorem be_length (k n : Nat) (hk : k ≤ 8) : (be k n).length = k := by simp [be, be8_length]; omega
theorem be8_at (n j : Nat) (hj : j < 8) : (be8 n)[j]? = some (byteAt n j) := by simp [be8, hj]
/-- the number that bytes stand for -/
def num (l : List UInt8) : Nat := l.foldl (fun n c => n * 256 + c.toNat) 0
theorem num_snoc (l : List UInt8) (c : UInt8) : num (l ++ [c]) = num l * 256 + c.toNat := by simp [num]
theorem num_lt : ∀ (l : List UInt8), num l < 256 ^ l.length := by
  intro l
  rw [← List.reverse_reverse l]
  induction l.reverse with
  | nil => simp [num]
  | cons c l ih =>
    rw [List.reverse_cons, num_snoc, List.length_append, List.length_singleton, Nat.pow_succ]
    have := c.toNat_lt
    omega
/-- the checksum's two sums -/
def sums (l : List UInt8) : Nat × Nat := l.foldl (fun p c => let a := (p.1 + c.toNat) % 65521; (a, (p.2 + a) % 65521)) (1, 0)
def sum (l : List UInt8) : Nat := (sums l).2 * 65536 + (sums l).1
/-- a string with its length in two bytes -/
def text (s : List UInt8) : List UInt8 := be 2 s.length ++ s
end Go.VB.Oct
namespace Go.Proofs.YtiimomgbklgicaaGreat
open Go.RowKit Go.VB Go.VB.Oct
theorem ret_bool {a b : Bool} (h : a = b) : Ending.returned (.bool a) = .returned (.bool b) := by rw [h]
theorem ret_int {k : IntKind} {a b : Int} (h : a = b) : Ending.returned (.int k a) = .returned (.int k b) := by rw [h]
theorem size_go (k : Nat) (hk : k ≤ 8) (w : World) : Calls Tryz.prog 110 #[.int .i64 k] w fun e w' => e = .returned (.int .i64 k) ∧ w = w' := by
  have h1 : (k : Int) ≤ 8 := by omega
  go_enter Tryz.func110, Tryz.ntmps110
  go_wp2
  all_goals
    go_ret
    exact ⟨ret_int (by omega), rfl⟩
theorem bv_take_set (l : List UInt8) (j : Nat) (hj : j < l.length) : (bv (l.take j) ++ List.replicate (l.length - j) (Value.int .u8 0)).set j (.int .u8 ((l[j]).toNat : Int)) = bv (l.take (j + 1)) ++ List.replicate (l.length - (j + 1)) (Value.int .u8 0) := by
  rw [List.set_append_right _ _ (by rw [bv_length, List.length_take]; omega), bv_length, List.length_take, Nat.min_eq_left (by omega), Nat.sub_self, show l.length - j = (l.length - (j + 1)) + 1 by omega, List.replicate_succ, List.set_cons_zero, List.take_add_one, List.getElem?_eq_getElem hj, bv_append]
  simp [bv]
theorem sl8_run (b k : Nat) (hk1 : 1 ≤ k) (hk : k ≤ 8) (w : World) : (Instr.sliceAt 185 (.pointer (some ⟨b, 0, none⟩)) (some (.int .i64 (8 - (k : Int)))) none none).run Tryz.prog w = .ok (.slice (some ⟨b, 8 - k, none⟩) k k) w := by
  have ha : Tryz.prog.arrayLen 185 = 8 := by kernel_rfl
  have hs : (sizeOf (Tryz.prog.elem 185)).run Tryz.prog w = .ok 1 w := by kernel_rfl
  rw [run_sliceAt_array_l w 185 ⟨b, 0, none⟩ (by kernel_rfl) .i64 _ (by omega) (by rw [ha]; omega), hs, ha]
  simp only [Result.andThen, slicedAt]
  rw [if_neg (by omega), show ((8 : Int) - k).toNat = 8 - k by omega, show 8 - (8 - k) = k by omega]
  simp [Addr.add]
  intro h
  omega
theorem byteAt_val (n : Nat) {j : Nat} (hj : j < 8) : (n : Int) / 2 ^ (56 - 8 * j) % 256 = ((byteAt n j).toNat : Int) := by
  unfold byteAt
  rw [UInt8.toNat_ofNat', show 56 - 8 * j = 8 * (7 - j) by omega]
  have : ((2 : Int) ^ (8 * (7 - j))) = ((256 ^ (7 - j) : Nat) : Int) := by
    rw [Int.pow_mul, show ((2 : Int) ^ 8) = ((256 : Nat) : Int) from rfl]
    exact (Int.natCast_pow 256 _).symm
  rw [this, show (2 : Nat) ^ 8 = 256 from rfl]
  generalize 256 ^ (7 - j) = p
  rw [Int.natCast_emod, Int.natCast_ediv]
  rfl
set_option maxRecDepth 20000 in
set_option maxHeartbeats 2000000 in
theorem Put_go (n k : Nat) (hn : n < 9223372036854775808) (hk1 : 1 ≤ k) (hk : k ≤ 8) (w : World) : Calls Tryz.prog 55 #[.int .i64 n, .int .i64 k] w fun e w' => e = .returned (.string (bs (be k n))) ∧ Fr (fun _ => False) w w' := by
  have HSZ := hid (fun w => size_go k hk w)
  have n1 : (0 : Int) ≤ n := by omega
  have n2 : (n : Int) < 9223372036854775808 := by omega
  go_enter Tryz.func55, Tryz.ntmps55
  go_wp2_with (fail)
  have B0 := Blk.new w (List.replicate 8 (Value.int .u8 0)) 185
  have F0 := (Fr.refl (fun _ => False) w).alloc (.cells (List.replicate 8 (Value.int .u8 0)).toArray 185)
  have HB0 := hid B0
  have HF0 := hid F0
  clear B0 F0
  generalize hb : w.heap.size = b at *
  have HBB := hid hb
  clear hb
  have HL8 := hid (be8_length n)
  go_loopw [7] (fun i wr => ∃ j : Nat, j ≤ 8 ∧ i = .int .i64 j ∧ Blk wr b (bv ((be8 n).take j) ++ List.replicate ((be8 n).length - j) (Value.int .u8 0)) 185 ∧ Fr (fun _ => False) w wr) (fun i _ => 8 - (intOf i).toNat)
  case atStart => exact ⟨0, by omega, rfl, by rw [HL8.out]; exact HB0.out, HF0.out⟩
  case round =>
    obtain ⟨j, hj, rfl, hB, fr⟩ := hrel
    by_cases hj8 : j < 8
    · have hj' : j < (be8 n).length := by rw [HL8.out]; exact hj8
      have i1 : (0 : Int) ≤ (j : Int) := by omega
      have i2 : (j : Int) < 8 := by omega
      have z := hB.frozen j
      have c0 : wr.cell? ⟨b, j, none⟩ = some (.int .u8 0) := by
        rw [hB.cell, List.getElem?_append_right (by rw [bv_length, List.length_take]; omega), bv_length, List.length_take, HL8.out, Nat.min_eq_left (by omega), Nat.sub_self]
        rw [show 8 - j = (7 - j) + 1 by omega, List.replicate_succ]
        rfl
      have hB2 := hB.set j (.int .u8 (((be8 n)[j]).toNat : Int))
      rw [bv_take_set _ _ hj'] at hB2
      have hval : (be8 n)[j] = byteAt n j := by
        have := be8_at n j hj8
        rw [List.getElem?_eq_getElem hj'] at this
        exact Option.some.inj this
      rw [hval, ← byteAt_val n hj8] at hB2
      have HB2 := hid hB2
      have HF2 := hid (fr.setCell ⟨b, j, none⟩ (.int .u8 ((n : Int) / 2 ^ (56 - 8 * j) % 256)) (fun h => absurd (show b < w.heap.size from h) (by have := HBB.out; omega)))
      clear hB hB2 fr hval hj'
      go_wp2_with (fail)
      go_roundw
      case rel => exact ⟨j + 1, by omega, by go_num, HB2.out, HF2.out⟩
      case measure => simp [intOf]; omega
    · obtain rfl : j = 8 := by omega
      have hB' : Blk wr b (bv (be8 n)) 185 := by
        rw [HL8.out, Nat.sub_self, List.replicate_zero, List.append_nil, List.take_of_length_le (by rw [HL8.out]; exact Nat.le_refl _)] at hB
        exact hB
      have hr := hB'.range (bv ((be8 n).take (8 - k))) (bv (be k n)) [] (by rw [← bv_append, List.append_nil]; unfold be; rw [List.take_append_drop])
      rw [bv_length, List.length_take, HL8.out, Nat.min_eq_left (by omega)] at hr
      have HR := hid hr
      have FR := hid fr
      have hsl := sl8_run b k hk1 hk
      have hcv := run_bytes_string (P := Tryz.prog) (w := wr) (l := be k n) HR.out (src := 74) (dst := 9) Tryz.underlying74 Tryz.underlying5 Tryz.underlying9 k k (be_length k n hk).symm
      clear hB hB' hr fr
      go_wp2_with (go_at_call 110; refine (HSZ.out _).mono ?_; rintro e w' ⟨rfl, rfl⟩)
      go_ret
      exact ⟨rfl, FR.out⟩
end Go.Proofs.YtiimomgbklgicaaGreat
namespace Go.Proofs.YtiimomgbklgicaaGreat
open Go.RowKit Go.VB Go.VB.Oct
theorem bs_all (l : List UInt8) : (bs l).extract 0 l.length = bs l := by
  apply ByteArray.ext
  simp [bs]
theorem Text_go (s : List UInt8) (hs : s.length ≤ 65535) (w : World) : Calls Tryz.prog 81 #[.string (bs s)] w fun e w' => e = .returned (.string (bs (text s))) ∧ Fr (fun _ => False) w w' := by
  have e1 := bs_size s
  have h1 : (s.length : Int) ≤ 65535 := by omega
  have hex := bs_all s
  have HP := hid (Put_go s.length 2 (by omega) (by omega) (by omega) w)
  have hadd := fun w => run_add_bs (P := Tryz.prog) w (be 2 s.length) s (by rw [be_length _ _ (by omega)]; omega)
  go_enter Tryz.func81, Tryz.ntmps81
  go_wp2_with (go_at_call 55; refine HP.out.mono ?_; rintro e w' ⟨rfl, f⟩)
  go_ret
  exact ⟨rfl, f⟩
end Go.Proofs.YtiimomgbklgicaaGreat
namespace Go.VB.Oct
open Go.RowKit
structure RM where
  s : List UInt8
  at_ : Nat
  failed : Bool
def RM.left (r : RM) : Nat := r.s.length - r.at_
structure RM.Ok (r : RM) : Prop where
  le : r.at_ ≤ r.s.length
  len : r.s.length ≤ 1099511627776
def RM.bad (r : RM) (n : Nat) : Bool := r.failed || decide (r.left < n)
def RM.take (r : RM) (n : Nat) : RM × List UInt8 := if r.bad n then ({ r with failed := true }, []) else ({ r with at_ := r.at_ + n }, (r.s.drop r.at_).take n)
def RM.num (r : RM) (k : Nat) : RM × Nat := ((r.take k).1, Go.VB.Oct.num (r.take k).2)
def RM.text (r : RM) : RM × List UInt8 :=
  let r2 := ((r.num 2).1.take (r.num 2).2).1
  (if r2.failed then { r2 with at_ := r.at_ } else r2, ((r.num 2).1.take (r.num 2).2).2)
def RM.new (s : List UInt8) : RM := { s := s, at_ := 0, failed := false }
theorem RM.Ok.take {r : RM} (ok : r.Ok) (n : Nat) : (r.take n).1.Ok := by
  unfold RM.take
  split
  · exact ⟨ok.le, ok.len⟩
  · rename_i h
    have hl : ¬ (r.s.length - r.at_ < n) := fun hc => h (by show (r.failed || decide (r.s.length - r.at_ < n)) = true; simp [hc])
    have h2 := ok.le
    exact ⟨by show r.at_ + n ≤ r.s.length; omega, ok.len⟩
theorem RM.Ok.num {r : RM} (ok : r.Ok) (k : Nat) : (r.num k).1.Ok := ok.take k
theorem RM.take_s (r : RM) (n : Nat) : (r.take n).1.s = r.s := by unfold RM.take; split <;> rfl
theorem RM.Ok.text {r : RM} (ok : r.Ok) : r.text.1.Ok := by
  unfold RM.text
  dsimp only
  split
  · refine ⟨?_, ((ok.num 2).take _).len⟩
    show r.at_ ≤ ((r.num 2).1.take (r.num 2).2).1.s.length
    rw [RM.take_s]
    show r.at_ ≤ (r.take 2).1.s.length
    rw [RM.take_s]
    exact ok.le
  · exact (ok.num 2).take _
theorem RM.take_len (r : RM) (n : Nat) : (r.take n).2.length ≤ n := by
  unfold RM.take
  split
  · simp
  · exact List.length_take_le _ _
theorem RM.num_lt (r : RM) (k : Nat) : (r.num k).2 < 256 ^ k := by
  refine Nat.lt_of_lt_of_le (Go.VB.Oct.num_lt _) (Nat.pow_le_pow_right (by omega) (r.take_len k))
def rcells (r : RM) : List Value := [.string (bs r.s), .int .i64 r.at_, .bool r.failed]
end Go.VB.Oct
namespace Go.Proofs.YtiimomgbklgicaaGreat
open Go.RowKit Go.VB Go.VB.Oct
abbrev RdRep (w : World) (p : Nat) (r : RM) : Prop := Blk w p (rcells r) 198
variable {w : World} {p : Nat} {r : RM}
theorem RdRep.fre {w' : World} (h : RdRep w p r) (f : Fr (fun _ => False) w w') : RdRep w' p r := Blk.fr h f (fun h => h)
theorem RdRep.c0 (h : RdRep w p r) : w.cell? ⟨p, 0, none⟩ = some (.string (bs r.s)) := h.cell 0
theorem RdRep.c1 (h : RdRep w p r) : w.cell? ⟨p, 1, none⟩ = some (.int .i64 r.at_) := h.cell 1
theorem RdRep.c2 (h : RdRep w p r) : w.cell? ⟨p, 2, none⟩ = some (.bool r.failed) := h.cell 2
theorem ORead_go (s : List UInt8) (w : World) : Calls Tryz.prog 69 #[.string (bs s)] w fun e w' => e = .returned (.pointer (some ⟨w.heap.size, 0, none⟩)) ∧ RdRep w' w.heap.size (RM.new s) ∧ Fr (fun _ => False) w w' := by
  go_enter Tryz.func69, Tryz.ntmps69
  go_wp2
  go_ret
  exact ⟨rfl, Blk.new w (rcells (RM.new s)) _, (Fr.refl (fun _ => False) w).alloc _⟩
theorem OFailed_go (h : RdRep w p r) : Calls Tryz.prog 72 #[.pointer (some ⟨p, 0, none⟩)] w fun e w' => e = .returned (.bool r.failed) ∧ w = w' := by
  have c2 := h.c2
  clear h
  go_enter Tryz.func72, Tryz.ntmps72
  go_wp2
  go_ret
  exact ⟨rfl, rfl⟩
theorem OLeft_go (h : RdRep w p r) (ok : r.Ok) : Calls Tryz.prog 80 #[.pointer (some ⟨p, 0, none⟩)] w fun e w' => e = .returned (.int .i64 r.left) ∧ Fr (fun _ => False) w w' := by
  have c0 := h.c0
  have c1 := h.c1
  have e1 := bs_size r.s
  have hle := ok.le
  have hln := ok.len
  have w1 : IntKind.i64.wrap ((r.s.length : Int) - r.at_) = ((r.left : Nat) : Int) := by rw [IntWalk.i64_in _ (by omega)]; unfold RM.left; omega
  clear h
  go_enter Tryz.func80, Tryz.ntmps80
  go_wp2_with (fail)
  refine wp_region_scr (.take 0 (.take 1 (.take 2 (.take 3 (.take 4 (.take 5 (.take 6 (.take 7 (.take 8 (.take 9 (.take 10 .done))))))))))) (fun kz w => (kz ≤ 11 → w.cell? ⟨p, 0, none⟩ = some (.string (bs r.s)) ∧ w.cell? ⟨p, 1, none⟩ = some (.int .i64 r.at_)) ∧ True) (by kernel_rfl) (by kernel_rfl) (by intro c a d v w h; cases d <;> exact h) ?_
  repeat
    first
    | (refine wpT_pure rfl rfl rfl ?_; apply Exists.intro; refine ⟨?_, ?_⟩; intro w; ((go_simp <;> rfl)); simp only [Act.put, List.setIfInBounds_toArray, List.set_cons_zero, List.set_cons_succ])
    | (refine wpT_take 11 rfl rfl (by decide +kernel) ⟨fun _ => ⟨c0, c1⟩, trivial⟩ ?_; apply Exists.intro; refine ⟨?_, ?_⟩; intro w hw; (have qa := hw.1 (Nat.le_refl _); have qb := hw.2); ((go_simp <;> rfl)); simp only [Act.put, List.setIfInBounds_toArray, List.set_cons_zero, List.set_cons_succ])
    | (refine wpT_skip rfl rfl ?_; simp only [Act.put, List.setIfInBounds_toArray, List.set_cons_zero, List.set_cons_succ])
  refine wpT_nil ?_
  clear w1 e1
  go_wp2_with (fail)
  go_ret
  exact ⟨rfl, (Fr.refl _ w).drew⟩
theorem ex_take (s : List UInt8) (a n : Nat) : (bs s).extract a (a + n) = bs ((s.drop a).take n) := by
  apply ByteArray.ext
  simp [bs, List.take_drop]
set_option maxRecDepth 20000 in
set_option maxHeartbeats 2000000 in
theorem OTake_go (h : RdRep w p r) (ok : r.Ok) (n : Nat) (hn : n ≤ 1099511627776) : Calls Tryz.prog 71 #[.pointer (some ⟨p, 0, none⟩), .int .i64 n] w fun e w' => e = .returned (.string (bs (r.take n).2)) ∧ RdRep w' p (r.take n).1 ∧ Fr (fun k => k = p) w w' := by
  have c0 := h.c0
  have c1 := h.c1
  have c2 := h.c2
  have n0 : (0 : Int) ≤ n := by omega
  have hle := ok.le
  have hln := ok.len
  have HL := hid (OLeft_go h ok)
  have HH := hid h
  have z2 := Blk.frozen h 2
  unfold RM.take
  cases hf : r.failed with
  | true =>
    rw [if_pos (by simp [RM.bad, hf])]
    rw [hf] at c2
    have HB := hid (Blk.set h 2 (.bool true))
    have HF := hid ((Fr.refl (fun k => k = p) w).setCell ⟨p, 2, none⟩ (.bool true) (fun _ => rfl))
    clear h hf
    go_enter Tryz.func71, Tryz.ntmps71
    go_wp2_with (fail)
    go_ret
    exact ⟨rfl, HB.out, HF.out⟩
  | false =>
    rw [hf] at c2
    by_cases hb : r.left < n
    · rw [if_pos (by simp [RM.bad, hf, hb])]
      have hd : decide (r.left < n) = true := by simp; omega
      clear h hf hb
      go_enter Tryz.func71, Tryz.ntmps71
      go_wp2_with (fail)
      refine HL.out.mono ?_
      rintro e w1 ⟨rfl, f1⟩
      have c2 := cell_fr c2 f1 (fun h => h)
      have HB := hid (Blk.set (RdRep.fre HH.out f1) 2 (.bool true))
      have z2 := Blk.frozen (RdRep.fre HH.out f1) 2
      have HF := hid ((f1.mono (T := fun k => k = p) (fun _ h _ => h.elim)).setCell ⟨p, 2, none⟩ (.bool true) (fun _ => rfl))
      clear f1
      go_wp2_with (fail)
      go_ret
      exact ⟨rfl, HB.out, HF.out⟩
    · rw [if_neg (by simp [RM.bad, hf]; omega)]
      have hd : decide (r.left < n) = false := by simp; omega
      have HQ : Hid ((rcells r).set 1 (.int .i64 ((r.at_ : Int) + n)) = rcells { s := r.s, at_ := r.at_ + n, failed := false }) := hid (by simp [rcells, hf])
      have hex := ex_take r.s r.at_ n
      have hfit : r.at_ + n ≤ r.s.length := by unfold RM.left at hb; omega
      have e1 := bs_size r.s
      have hfit2 : ((r.at_ : Int) + n) ≤ r.s.length := by omega
      clear h hb
      go_enter Tryz.func71, Tryz.ntmps71
      go_wp2_with (fail)
      refine HL.out.mono ?_
      rintro e w1 ⟨rfl, f1⟩
      have c0 := cell_fr c0 f1 (fun h => h)
      have c1 := cell_fr c1 f1 (fun h => h)
      have z1 := Blk.frozen (RdRep.fre HH.out f1) 1
      have HB := hid (Blk.set (RdRep.fre HH.out f1) 1 (.int .i64 ((r.at_ : Int) + n)))
      have HF := hid ((f1.mono (T := fun k => k = p) (fun _ h _ => h.elim)).setCell ⟨p, 1, none⟩ (.int .i64 ((r.at_ : Int) + n)) (fun _ => rfl))
      have d0 : (w1.setCell ⟨p, 1, none⟩ (.int .i64 ((r.at_ : Int) + n))).cell? ⟨p, 0, none⟩ = some (.string (bs r.s)) := HB.out.cell 0
      have d1 : (w1.setCell ⟨p, 1, none⟩ (.int .i64 ((r.at_ : Int) + n))).cell? ⟨p, 1, none⟩ = some (.int .i64 ((r.at_ : Int) + n)) := HB.out.cell 1
      clear f1 HL hf c2 z2
      go_upto_region 6 with (fail)
      generalize w1.setCell ⟨p, 1, none⟩ (.int .i64 ((r.at_ : Int) + n)) = W at *
      have q0 : (0 : Int) ≤ (r.at_ : Int) + n := by omega
      have q1 : (r.at_ : Int) ≤ (r.at_ : Int) + n := by omega
      have q2 : ((r.at_ : Int) + n).toNat = r.at_ + n := by omega
      have w1' : IntKind.i64.wrap (r.at_ : Int) = r.at_ := IntWalk.i64_in _ (by omega)
      refine wp_region_scr (.take 0 (.take 1 (.take 2 (.take 3 (.take 4 (.take 5 (.take 6 (.take 7 (.take 8 (.take 9 (.take 10 (.take 11 (.take 12 (.take 13 (.take 14 (.take 15 .done)))))))))))))))) (fun kz w => (kz ≤ 16 → w.cell? ⟨p, 0, none⟩ = some (.string (bs r.s)) ∧ w.cell? ⟨p, 1, none⟩ = some (.int .i64 ((r.at_ : Int) + n))) ∧ True) (by kernel_rfl) (by kernel_rfl) (by intro c a d v w h; cases d <;> exact h) ?_
      repeat
        first
        | (refine wpT_pure rfl rfl rfl ?_; apply Exists.intro; refine ⟨?_, ?_⟩; intro w; ((go_simp <;> rfl)); simp only [Act.put, List.setIfInBounds_toArray, List.set_cons_zero, List.set_cons_succ])
        | (refine wpT_take 16 rfl rfl (by decide +kernel) ⟨fun _ => ⟨d0, d1⟩, trivial⟩ ?_; apply Exists.intro; refine ⟨?_, ?_⟩; intro w hw; (have qa := hw.1 (Nat.le_refl _); have qb := hw.2); ((go_simp <;> rfl)); simp only [Act.put, List.setIfInBounds_toArray, List.set_cons_zero, List.set_cons_succ])
        | (refine wpT_skip rfl rfl ?_; simp only [Act.put, List.setIfInBounds_toArray, List.set_cons_zero, List.set_cons_succ])
      refine wpT_nil ?_
      clear w1' e1 hex q0 q1 q2
      go_wp2_with (fail)
      go_ret
      exact ⟨rfl, (HQ.out ▸ Blk.drew HB.out : Blk _ p (rcells { s := r.s, at_ := r.at_ + n, failed := false }) 198), HF.out.drew⟩
end Go.Proofs.YtiimomgbklgicaaGreat
namespace Go.VB.Oct
theorem num_foldl : ∀ (l : List UInt8) (a : Nat), l.foldl (fun n c => n * 256 + c.toNat) a = a * 256 ^ l.length + num l
  | [], a => by simp [num]
  | c :: l, a => by
    have h1 := num_foldl l (a * 256 + c.toNat)
    have h2 := num_foldl l c.toNat
    have h3 : num (c :: l) = l.foldl (fun n c => n * 256 + c.toNat) c.toNat := by simp [num]
    rw [List.foldl_cons, h1, h3, h2, List.length_cons, Nat.pow_succ]
    generalize 256 ^ l.length = k
    grind
theorem num_cons (c : UInt8) (l : List UInt8) : num (c :: l) = c.toNat * 256 ^ l.length + num l := by
  have h3 : num (c :: l) = l.foldl (fun n c => n * 256 + c.toNat) c.toNat := by simp [num]
  rw [h3, num_foldl]
theorem be_succ (n : Nat) {k : Nat} (h : k < 8) : be (k + 1) n = UInt8.ofNat (n / 256 ^ k) :: be k n := by
  unfold be
  rw [List.drop_eq_getElem_cons (by rw [be8_length]; omega)]
  have h8 : (be8 n)[8 - (k + 1)]'(by rw [be8_length]; omega) = byteAt n (8 - (k + 1)) := by
    have := be8_at n (8 - (k + 1)) (by omega)
    rw [List.getElem?_eq_getElem (by rw [be8_length]; omega)] at this
    exact Option.some.inj this
  rw [h8]
  have e1 : 7 - (8 - (k + 1)) = k := by omega
  have e2 : 8 - (k + 1) + 1 = 8 - k := by omega
  rw [e2]
  unfold byteAt
  rw [e1]
theorem be_zero (n : Nat) : be 0 n = [] := by simp [be, be8_length]
theorem num_be (n : Nat) : ∀ k, k ≤ 8 → num (be k n) = n % 256 ^ k
  | 0, _ => by rw [be_zero]; simp [num, Nat.mod_one]
  | k + 1, h => by
    rw [be_succ n (by omega), num_cons, be_length _ _ (by omega), num_be n k (by omega), Nat.pow_succ, Nat.mod_mul]
    have : (UInt8.ofNat (n / 256 ^ k)).toNat = n / 256 ^ k % 256 := by simp
    rw [this, Nat.mul_comm]
    omega
theorem num_be_lt {n k : Nat} (hk : k ≤ 8) (h : n < 256 ^ k) : num (be k n) = n := by rw [num_be n k hk, Nat.mod_eq_of_lt h]
theorem num_inj : ∀ {l m : List UInt8}, l.length = m.length → num l = num m → l = m
  | [], [], _, _ => rfl
  | [], _ :: _, h, _ => by simp at h
  | _ :: _, [], h, _ => by simp at h
  | c :: l, d :: m, h, e => by
    have hl : l.length = m.length := by simpa using h
    rw [num_cons, num_cons, hl] at e
    have h1 := num_lt l
    have h2 := num_lt m
    rw [hl] at h1
    have hp : 0 < 256 ^ m.length := Nat.pow_pos (by omega)
    have hc : c.toNat = d.toNat := by
      have e1 : (c.toNat * 256 ^ m.length + num l) / 256 ^ m.length = c.toNat := by rw [Nat.mul_comm, Nat.mul_add_div hp, Nat.div_eq_of_lt h1]; omega
      have e2 : (d.toNat * 256 ^ m.length + num m) / 256 ^ m.length = d.toNat := by rw [Nat.mul_comm, Nat.mul_add_div hp, Nat.div_eq_of_lt h2]; omega
      rw [← e1, e, e2]
    have hlm : num l = num m := by rw [hc] at e; omega
    rw [num_inj hl hlm]
    congr 1
    exact UInt8.toNat_inj.1 hc
theorem be_num {l : List UInt8} {k : Nat} (h : l.length = k) (hk : k ≤ 8) : be k (num l) = l := by
  refine num_inj (by rw [be_length _ _ hk, h]) ?_
  rw [num_be _ _ hk, Nat.mod_eq_of_lt]
  rw [← h]
  exact num_lt l
/-- nothing has failed, and t is still to come -/
structure RM.Has (r : RM) (t : List UInt8) : Prop where
  ok : r.failed = false
  rest : r.s.drop r.at_ = t
  le : r.at_ ≤ r.s.length
namespace RM
variable {r : RM} {t x : List UInt8}
theorem Has.new (s : List UInt8) : (RM.new s).Has s := ⟨rfl, rfl, Nat.zero_le _⟩
theorem Has.left (h : r.Has t) : r.left = t.length := by rw [← h.rest, List.length_drop]; rfl
theorem Has.take (h : r.Has t) {n : Nat} (hn : n ≤ t.length) : r.take n = ({ r with at_ := r.at_ + n }, t.take n) ∧ ({ r with at_ := r.at_ + n } : RM).Has (t.drop n) := by
  have hl := h.left
  constructor
  · unfold RM.take RM.bad
    rw [if_neg (by rw [h.ok, hl]; simp; omega), h.rest]
  · refine ⟨h.ok, ?_, ?_⟩
    · show r.s.drop (r.at_ + n) = _
      rw [← h.rest, List.drop_drop]
    · show r.at_ + n ≤ r.s.length
      have := h.le
      unfold RM.left at hl
      omega
theorem Has.bad (h : r.Has t) {n : Nat} (hn : t.length < n) : r.take n = ({ r with failed := true }, []) := by
  unfold RM.take RM.bad
  rw [if_pos (by rw [h.ok, h.left]; simpa using hn)]
theorem take_failed (h : r.failed = true) (n : Nat) : r.take n = (r, []) := by
  unfold RM.take RM.bad
  rw [if_pos (by rw [h]; rfl)]
  cases r
  cases h
  rfl
theorem num_failed (h : r.failed = true) (n : Nat) : r.num n = (r, 0) := by
  unfold RM.num
  rw [take_failed h]
  rfl
theorem text_failed (h : r.failed = true) : r.text = (r, []) := by
  unfold RM.text
  rw [num_failed h]
  dsimp only
  rw [take_failed h]
  dsimp only
  rw [if_pos h]
/-- a prefix is taken -/
theorem Has.app (h : r.Has (x ++ t)) {n : Nat} (hn : x.length = n) : ∃ r', r.take n = (r', x) ∧ r'.Has t ∧ r'.s = r.s ∧ r'.at_ = r.at_ + n := by
  subst hn
  have hh := h.take (n := x.length) (by simp)
  rw [List.take_left, List.drop_left] at hh
  exact ⟨_, hh.1, hh.2, rfl, rfl⟩
theorem Has.num (k : Nat) {n : Nat} (h : r.Has (be k n ++ t)) (hk : k ≤ 8) (hn : n < 256 ^ k) : ∃ r', r.num k = (r', n) ∧ r'.Has t ∧ r'.s = r.s ∧ r'.at_ = r.at_ + k := by
  obtain ⟨r', h1, h2, h3, h4⟩ := h.app (be_length k n hk)
  exact ⟨r', by unfold RM.num; rw [h1]; dsimp only; rw [num_be_lt hk hn], h2, h3, h4⟩
theorem Has.text (h : r.Has (Oct.text x ++ t)) (hx : x.length ≤ 65535) : ∃ r', r.text = (r', x) ∧ r'.Has t ∧ r'.s = r.s := by
  unfold Oct.text at h
  rw [List.append_assoc] at h
  obtain ⟨r1, h1, h2, h3, h4⟩ := h.num 2 (by omega) (by omega)
  obtain ⟨r2, g1, g2, g3, g4⟩ := h2.app rfl
  refine ⟨r2, ?_, g2, by rw [g3, h3]⟩
  unfold RM.text
  rw [h1]
  dsimp only
  rw [g1]
  dsimp only
  rw [if_neg (by rw [g2.ok]; simp)]
end RM
end Go.VB.Oct
namespace Go.Proofs.YtiimomgbklgicaaGreat
open Go.RowKit Go.VB Go.VB.Oct
theorem i64_or_nat (a b : Nat) (ha : a < 9223372036854775808) (hb : b < 9223372036854775808) : bits .or .i64 (a : Int) (b : Int) = ((a ||| b : Nat) : Int) := by
  have hx : a ||| b < 2 ^ 63 := Nat.or_lt_two_pow (by omega) (by omega)
  show IntKind.i64.wrap ((BitVec.ofInt 64 (a : Int) ||| BitVec.ofInt 64 (b : Int)).toNat : Int) = _
  rw [BitVec.toNat_or, ofInt_u64 a (by omega), ofInt_u64 b (by omega)]
  exact IntWalk.i64_in _ (by omega)
theorem or_i64 (y x : Nat) (hy : y < 281474976710656) (hx : x < 256) : bits .or .i64 ((y : Int) * 256) (x : Int) = ((y * 256 + x : Nat) : Int) := by
  have h := i64_or_nat (y * 256) x (by omega) (by omega)
  rw [show ((y * 256 : Nat) : Int) = (y : Int) * 256 by omega] at h
  rw [h, Nat.mul_comm y 256, ← Nat.two_pow_add_eq_or_of_lt (i := 8) (by simpa using hx) y]
variable {w : World} {p : Nat} {r : RM}
set_option maxRecDepth 20000 in
set_option maxHeartbeats 2000000 in
theorem ONum_go (h : RdRep w p r) (ok : r.Ok) (k : Nat) (hk : k ≤ 6) : Calls Tryz.prog 70 #[.pointer (some ⟨p, 0, none⟩), .int .i64 k] w fun e w' => e = .returned (.int .i64 (r.num k).2) ∧ RdRep w' p (r.num k).1 ∧ Fr (fun k => k = p) w w' := by
  have HS := hid (size_go k (by omega) w)
  have HT := hid (OTake_go h ok k (by omega))
  have HL := hid (RM.take_len r k)
  have hl6 := Nat.le_trans (RM.take_len r k) hk
  have hn1 : (r.num k).1 = (r.take k).1 := rfl
  have hn2 : (r.num k).2 = Go.VB.Oct.num (r.take k).2 := rfl
  rw [hn1, hn2]
  clear h hn1 hn2
  generalize (r.take k).2 = l at *
  generalize (r.take k).1 = r' at *
  go_enter Tryz.func70, Tryz.ntmps70
  go_wp2_with (first | (go_at_call 110; refine HS.out.mono ?_; rintro e w' ⟨rfl, rfl⟩) | (go_at_call 71; refine HT.out.mono ?_; rintro e w1 ⟨rfl, hr, f1⟩) | (refine wpList_str_bytes rfl rfl Tryz.underlying9 Tryz.underlying74 Tryz.underlying5 rfl ?_; intro c w2 hb))
  have HC := hid hb.cap
  have HB := hid hb.blk
  have HR := hid (RdRep.fre hr hb.fr)
  have HF := hid (f1.trans hb.fr (fun k hk hl => hk.elim))
  clear hb hr f1 HS HT
  generalize w1.heap.size = b at *
  have HSN := hid (fun i (h : i < l.length) => show Go.VB.Oct.num (l.take (i + 1)) = Go.VB.Oct.num (l.take i) * 256 + l[i].toNat from by
    rw [List.take_add_one, List.getElem?_eq_getElem h]; exact num_snoc _ _)
  go_loopw [5, 14] (fun t i wr => ∃ j : Nat, j ≤ l.length ∧ t = .int .i64 (Go.VB.Oct.num (l.take j)) ∧ i = .int .i64 j ∧ wr = w2) (fun _ i _ => l.length - (intOf i).toNat)
  case atStart => exact ⟨0, by omega, rfl, rfl, rfl⟩
  case round =>
    obtain ⟨j, hj, rfl, rfl, rfl⟩ := hrel
    by_cases hjl : j < l.length
    · have hc : wr.cell? ⟨b, j, none⟩ = some (.int .u8 ((l[j]).toNat : Int)) := by
        rw [HB.out.cell, List.getElem?_append_left (by rw [bv_length]; exact hjl)]; simp [bv, hjl]
      have hsn := HSN.out j hjl
      have i1 : (0 : Int) ≤ (j : Int) := by omega
      have i2 : (j : Int) < l.length := by omega
      have hlt : Go.VB.Oct.num (l.take j) < 256 ^ (k - 1) := by
        refine Nat.lt_of_lt_of_le (Go.VB.Oct.num_lt _) (Nat.pow_le_pow_right (by omega) ?_)
        have := HL.out
        rw [List.length_take]; omega
      have hlt' : Go.VB.Oct.num (l.take j) < 281474976710656 := Nat.lt_of_lt_of_le hlt (Nat.le_trans (Nat.pow_le_pow_right (by omega) (show k - 1 ≤ 6 by omega)) (by decide))
      have hx := l[j].toNat_lt
      generalize l[j].toNat = x at *
      generalize Go.VB.Oct.num (l.take j) = y at *
      have hor := or_i64 y x hlt' (by omega)
      have x1 : (0 : Int) ≤ x := by omega
      have x2 : (x : Int) < 256 := by omega
      have y1 : (0 : Int) ≤ y := by omega
      have y2 : (y : Int) < 281474976710656 := by omega
      clear hlt hlt' hx
      have HSS := hid hsn
      clear hsn
      go_wp2_with (fail)
      go_roundw
      case rel => exact ⟨j + 1, by omega, by rw [HSS.out]; simp, by go_num, trivial⟩
      case measure => simp [intOf]; omega
    · obtain rfl : j = l.length := by omega
      rw [List.take_length]
      go_wp2_with (fail)
      go_ret
      exact ⟨rfl, HR.out, HF.out⟩
def undo (a : Nat) (r : RM) : RM := if r.failed then { r with at_ := a } else r
theorem OText_go (h : RdRep w p r) (ok : r.Ok) : Calls Tryz.prog 79 #[.pointer (some ⟨p, 0, none⟩)] w fun e w' => e = .returned (.string (bs r.text.2)) ∧ RdRep w' p r.text.1 ∧ Fr (fun k => k = p) w w' := by
  have HN := hid (ONum_go h ok 2 (by omega))
  have HK := hid (ok.num 2)
  have hn2 := RM.num_lt r 2
  have hm : r.text = (undo r.at_ ((r.num 2).1.take (r.num 2).2).1, ((r.num 2).1.take (r.num 2).2).2) := rfl
  rw [hm]
  have c1 := h.c1
  clear h hm
  generalize (r.num 2).2 = n at *
  generalize (r.num 2).1 = r1 at *
  have HT0 := hid (fun (w : World) (h : RdRep w p r1) => OTake_go h HK.out n (by omega))
  generalize r1.take n = q at *
  obtain ⟨r2, s2⟩ := q
  go_enter Tryz.func79, Tryz.ntmps79
  go_wp2_with (go_at_call 70; refine HN.out.mono ?_; rintro e w1 ⟨rfl, h1, f1⟩)
  have HT := hid (HT0.out w1 h1)
  clear h1
  refine HT.out.mono ?_
  rintro e w2 ⟨rfl, h2, f2⟩
  have F2 := hid (f1.trans f2 (fun k hk _ => hk))
  clear f1 f2 HN HT
  replace h2 : RdRep w2 p r2 := h2
  have c2 := h2.c2
  have d1 := h2.c1
  have z1 := Blk.frozen h2 1
  have HH := hid h2
  have HB := hid (Blk.set h2 1 (.int .i64 r.at_))
  have HF := hid (F2.out.setCell ⟨p, 1, none⟩ (.int .i64 r.at_) (fun _ => rfl))
  clear h2 HT0
  have HQ := hid (show (rcells r2).set 1 (.int .i64 r.at_) = rcells { r2 with at_ := r.at_ } from rfl)
  cases hf : r2.failed with
  | true =>
    rw [hf] at c2
    go_wp2_with (fail)
    go_ret
    exact ⟨rfl, by have := HB.out; rw [HQ.out] at this; simpa [undo, hf] using this, HF.out⟩
  | false =>
    rw [hf] at c2
    go_wp2_with (fail)
    go_ret
    exact ⟨rfl, by simpa [undo, hf] using HH.out, F2.out⟩
end Go.Proofs.YtiimomgbklgicaaGreat
namespace Go.Proofs.YtiimomgbklgicaaGreat
open Go.RowKit Go.VB
/-- a builder in block b that holds l; v is its buffer -/
structure Bld (B : Nat) (w : World) (b : Nat) (l : List UInt8) (v : Value) : Prop where
  blk : Blk w b [.pointer none, v] 205 ∨ Blk w b [.pointer (some ⟨b, 0, none⟩), v] 205
  row : Row 5 1 B w v l.length (bv l)
namespace Bld
variable {B : Nat} {w w' : World} {b : Nat} {l : List UInt8} {v : Value}
theorem ne (h : Bld B w b l v) : ∀ k, v.ownBlock = some k → k ≠ b := by
  rcases h.blk with h1 | h1
  · exact h.row.ne h1 (by decide)
  · exact h.row.ne h1 (by decide)
theorem lt (h : Bld B w b l v) : b < w.heap.size := by
  rcases h.blk with h1 | h1
  · exact Blk.lt h1
  · exact Blk.lt h1
theorem fr {S : Nat → Prop} (h : Bld B w b l v) (f : Fr S w w') (hb : ¬ S b) (hv : ∀ k, v.ownBlock = some k → ¬ S k) : Bld B w' b l v :=
  ⟨h.blk.imp (fun h => h.fr f hb) (fun h => h.fr f hb), h.row.fr f hv⟩
theorem fre (h : Bld B w b l v) (f : Fr (fun _ => False) w w') : Bld B w' b l v := h.fr f (fun h => h) (fun _ _ h => h)
theorem cast {m : List UInt8} (h : Bld B w b l v) (e : l = m) : Bld B w b m v := e ▸ h
theorem new (w : World) (hB : B ≤ w.heap.size) : Bld B (w.alloc (.cells #[.pointer none, .slice none 0 0] 205)) w.heap.size [] (.slice none 0 0) :=
  ⟨.inl (Blk.new w [Value.pointer none, .slice none 0 0] _), Row.nil⟩
end Bld
/-- what a write leaves -/
structure BldW (B : Nat) (w w' : World) (b : Nat) (m : List UInt8) (v v' : Value) : Prop where
  bld : Bld B w' b m v'
  fr : Fr (fun k => k = b ∨ v.ownBlock = some k) w w'
  at_ : ∀ k, v'.ownBlock = some k → v.ownBlock = some k ∨ w.heap.size ≤ k
theorem BldW.frB {B : Nat} {w0 w w' : World} {b : Nat} {l m : List UInt8} {v v' : Value} (h : BldW B w w' b m v v') (r : Bld B w b l v) (f : Fr (fun _ => False) w0 w) (hB : w0.heap.size ≤ B) (hb : B ≤ b) : Fr (fun _ => False) w0 w' :=
  f.trans h.fr fun k hk hl => by
    rcases hk with rfl | hk
    · omega
    · have := r.row.new k hk; omega
variable {B : Nat} {w : World} {b : Nat} {l : List UInt8} {v : Value}
theorem copyCheck_used (h : Blk w b [.pointer (some ⟨b, 0, none⟩), v] 205) : Calls Tryz.prog 161 #[.pointer (some ⟨b, 0, none⟩)] w fun e w' => e = .returned (.tuple #[]) ∧ w' = w := by
  have h0 : w.cell? ⟨b, 0, none⟩ = some (.pointer (some ⟨b, 0, none⟩)) := h.cell 0
  obtain ⟨j, hj, _⟩ := Option.map_eq_some_iff.1 (show (Tryz.prog.info? 205).map (·.size) = some 2 by kernel_rfl)
  have hq := fun w => Lib.run_neq_ptr_same (P := Tryz.prog) w ⟨b, 0, none⟩ Tryz.underlying203 hj
  clear h
  go_enter Tryz.func161, Tryz.ntmps161
  go_wp2_with (fail)
  go_end0
  exact ⟨rfl, rfl⟩
theorem copyCheck_fresh (h : Blk w b [.pointer none, v] 205) : Calls Tryz.prog 161 #[.pointer (some ⟨b, 0, none⟩)] w fun e w' => e = .returned (.tuple #[]) ∧ w' = w.setCell ⟨b, 0, none⟩ (.pointer (some ⟨b, 0, none⟩)) := by
  have h0 : w.cell? ⟨b, 0, none⟩ = some (.pointer none) := h.cell 0
  have hfz := Blk.frozen h 0
  have hsh : w.shape? b = some (205, 2) := by have h' : w.heap[b]? = _ := h; simp [World.shape?, h']
  obtain ⟨j, hj, hjs⟩ := Option.map_eq_some_iff.1 (show (Tryz.prog.info? 205).map (·.size) = some 2 by kernel_rfl)
  have hu := Lib.run_to_unsafe (P := Tryz.prog) w ⟨b, 0, none⟩ Tryz.underlying203 Tryz.underlying257 hj (by rw [hjs]; decide) hsh (Nat.zero_lt_succ 1)
  have hfu := Lib.run_from_unsafe (P := Tryz.prog) w ⟨b, 0, none⟩ Tryz.underlying257 Tryz.underlying203 hj hsh (by kernel_rfl)
  have hex := run_callFunc_extern (P := Tryz.prog) (f := 175) (fn := Tryz.f175) (e := Extern.AbiNoEscape.same) (by kernel_rfl) (by kernel_rfl) (by kernel_rfl) (by kernel_rfl) (by kernel_rfl) #[.pointer (some ⟨b, 0, none⟩)] w
  rw [Lib.run_noEscape] at hex
  simp only [Result.andThen] at hex
  clear h hj hjs hsh
  go_enter Tryz.func161, Tryz.ntmps161
  go_wp2_with (fail)
  go_end0
  exact ⟨rfl, rfl⟩
theorem copyCheck_go (h : Bld B w b l v) : Calls Tryz.prog 161 #[.pointer (some ⟨b, 0, none⟩)] w fun e w' => e = .returned (.tuple #[]) ∧ Blk w' b [.pointer (some ⟨b, 0, none⟩), v] 205 ∧ Fr (fun k => k = b) w w' := by
  rcases h.blk with h1 | h1
  · refine (copyCheck_fresh h1).mono ?_
    rintro e w' ⟨rfl, rfl⟩
    exact ⟨rfl, h1.set 0 _, (Fr.refl _ w).setCell _ _ (fun _ => rfl)⟩
  · refine (copyCheck_used h1).mono ?_
    rintro e w' ⟨rfl, rfl⟩
    exact ⟨rfl, h1, Fr.refl _ _⟩
theorem info_u8 : (Tryz.prog.info? 5).map (fun i => (i.zero, i.size, i.bytes)) = some (some (.int .u8 0), 1, 1) := by kernel_rfl
theorem bld_ends {w1 wg : World} {m : List UInt8} {v' : Value} (hl : Bld B w b l v) (h1 : Blk w1 b [.pointer (some ⟨b, 0, none⟩), v] 205) (f1 : Fr (fun k => k = b) w w1) (fg : Fr (fun k => v.ownBlock = some k) w1 wg) (row : Row 5 1 B wg v' m.length (bv m)) (hat : ∀ k, v'.ownBlock = some k → v.ownBlock = some k ∨ w1.heap.size ≤ k) :
    BldW B w (wg.setCell ⟨b, 1, none⟩ v') b m v v' := by
  have hne := hl.ne
  have hlt := hl.lt
  have h2 : Blk wg b [.pointer (some ⟨b, 0, none⟩), v] 205 := Blk.fr h1 fg (fun h => hne _ h rfl)
  have hne' := row.ne h2 (by decide)
  have fs := (Fr.refl (fun k => k = b) wg).setCell ⟨b, 1, none⟩ v' (fun _ => rfl)
  refine ⟨⟨.inr (h2.set 1 v'), row.fr fs hne'⟩, ?_, fun k hk => ?_⟩
  · refine ((f1.mono (T := fun k => k = b ∨ v.ownBlock = some k) (fun _ h _ => .inl h)).trans fg (fun _ h _ => .inr h)).trans fs (fun _ h _ => .inl h)
  · rcases hat k hk with h | h
    · exact .inl h
    · exact .inr (Nat.le_trans f1.size h)
set_option maxRecDepth 20000 in
theorem WriteString_go (h : Bld B w b l v) (hB : B ≤ w.heap.size) (s : List UInt8) (hl : l.length + s.length ≤ 1099511627776) : Calls Tryz.prog 126 #[.pointer (some ⟨b, 0, none⟩), .string (bs s)] w fun e w' => e = .returned (.tuple #[.int .i64 s.length, .nilIface]) ∧ ∃ v', BldW B w w' b (l ++ s) v v' := by
  have HC := hid (copyCheck_go h)
  have HH := hid h
  have e1 := bs_size s
  clear h
  go_enter Tryz.func126, Tryz.ntmps126
  go_wp2_with (first | (go_at_call 161; refine HC.out.mono ?_; rintro e w1 ⟨rfl, h1, f1⟩; have c1 := h1.cell 1; have H1 := hid h1; have F1 := hid f1; have hrow := hid (HH.out.row.fr F1.out HH.out.ne); have hB1 := Nat.le_trans hB F1.out.size; clear h1 f1 HC) | (refine wpList_appS rfl (s := .tmp 12) (x := .tmp 13) (t := 74) (tx := 9) rfl Tryz.underlying74 Tryz.underlying9 (.inl rfl) info_u8 rfl rfl rfl hrow.out hB1 (Src.string s) (by omega) (by omega) ?_; intro ab ac wg APP; have g1 := Blk.fr H1.out APP.fr (fun h => HH.out.ne _ h rfl); have c2 := Blk.cell g1 1; have z2 := Blk.frozen g1 1; clear g1))
  go_ret2
  replace APP : AppS 5 1 B w1 wg v (.slice ab (l.length + s.length) ac) l.length s.length (bv l) (bv s) := APP
  refine ⟨rfl, _, bld_ends HH.out H1.out F1.out APP.fr (APP.row.cast (by simp) (by rw [bv_append])) (fun k hk => (APP.at_ k hk).imp (fun h => h) (fun h => by omega))⟩
end Go.Proofs.YtiimomgbklgicaaGreat
namespace Go.VB.Cat
open Go.VB.Oct
abbrev Bs := List UInt8
structure Col where
  name : Bs
  kind : Int
deriving DecidableEq
structure Ix where
  name : Bs
  cols : List Int
  root : Int
deriving DecidableEq
structure Tab where
  id : Int
  name : Bs
  cols : List Col
  ixs : List Ix
deriving DecidableEq
/-- what the catalog reads of a statement -/
structure St where
  kind : Int
  table : Bs
  name : Bs
  cols : List Col
  names : List Bs
  join : Bs
deriving DecidableEq
def named (s : Bs) : Bool := decide (1 ≤ s.length) && decide (s.length ≤ 12)
/-- the first place where p holds, or -1 -/
def pos {α : Type} (p : α → Bool) (l : List α) : Int := if l.findIdx p < l.length then (l.findIdx p : Int) else -1
def find (m : List Tab) (n : Bs) : Int := pos (fun t => t.name == n) m
def colOf (l : List Col) (n : Bs) : Int := pos (fun c => c.name == n) l
def dup (l : List Bs) : Bool := decide (¬ l.Nodup)
def createE (m : List Tab) (s : St) : Int :=
  if named s.table = false ∨ s.cols.length < 1 ∨ 6 < s.cols.length ∨ s.cols.any (fun c => !named c.name) = true then 1
  else if s.cols.any (fun c => c.kind != 1 && c.kind != 2) = true then 52
  else if dup (s.cols.map Col.name) = true ∨ 0 ≤ find m s.table then 51
  else if 8 ≤ m.length then 2 else 0
def create (m : List Tab) (s : St) : List Tab × Int :=
  if createE m s = 0 then (m ++ [⟨m.length + 1, s.table, s.cols, []⟩], 0) else (m, createE m s)
/-- the statement's index, its columns by the table t -/
def St.ix (s : St) (t : Tab) (root : Int) : Ix := ⟨s.name, s.names.map (colOf t.cols), root⟩
def indexE (m : List Tab) (s : St) (root : Int) : Int :=
  if named s.name = false ∨ s.names.length < 1 ∨ 6 < s.names.length ∨ root < 0 ∨ 400 ≤ root then 1
  else match m[(find m s.table).toNat]? with
    | none => 50
    | some t =>
      if find m s.table < 0 then 50
      else if s.names.any (fun n => colOf t.cols n == -1) = true then 50
      else if dup s.names = true ∨ m.any (fun t => t.ixs.any (fun x => x.name == s.name)) = true then 51
      else if 4 ≤ t.ixs.length then 2 else 0
/-- table i changed -/
abbrev setT (m : List Tab) (i : Nat) (f : Tab → Tab) : List Tab := m.modify i f
def index (m : List Tab) (s : St) (root : Int) : List Tab × Int :=
  if indexE m s root = 0 then (setT m (find m s.table).toNat (fun t => { t with ixs := t.ixs ++ [s.ix t root] }), 0) else (m, indexE m s root)
def renameE (m : List Tab) (s : St) : Int :=
  if named s.join = false then 1
  else match m[(find m s.table).toNat]? with
    | none => 50
    | some t =>
      if find m s.table < 0 then 50
      else if colOf t.cols s.name < 0 then 50
      else if 0 ≤ colOf t.cols s.join then 51 else 0
abbrev renCol (l : List Col) (i : Nat) (n : Bs) : List Col := l.modify i (fun c => { c with name := n })
def rename (m : List Tab) (s : St) : List Tab × Int :=
  if renameE m s = 0 then (setT m (find m s.table).toNat (fun t => { t with cols := renCol t.cols (colOf t.cols s.name).toNat s.join }), 0) else (m, renameE m s)
def doM (m : List Tab) (s : St) (root : Int) : List Tab × Int :=
  if s.kind = 1 then create m s else if s.kind = 2 then index m s root else if s.kind = 3 then rename m s else (m, 1)
/-- bytes -/
def Col.bytes (c : Col) : Bs := text c.name ++ be 1 c.kind.toNat
def Ix.bytes (x : Ix) : Bs := text x.name ++ be 1 x.cols.length ++ (x.cols.flatMap fun n => be 1 n.toNat) ++ be 2 x.root.toNat
def Tab.bytes (t : Tab) : Bs := text t.name ++ be 1 t.cols.length ++ t.cols.flatMap Col.bytes ++ be 1 t.ixs.length ++ t.ixs.flatMap Ix.bytes
def bytes (m : List Tab) : Bs := be 1 m.length ++ m.flatMap Tab.bytes
/-- what holds of every catalog -/
structure IxOk (n : Nat) (x : Ix) : Prop where
  name : named x.name = true
  pos : 1 ≤ x.cols.length
  le : x.cols.length ≤ 6
  nodup : x.cols.Nodup
  col : ∀ k ∈ x.cols, 0 ≤ k ∧ k < n
  root : 0 ≤ x.root ∧ x.root < 400
structure TabOk (t : Tab) : Prop where
  name : named t.name = true
  pos : 1 ≤ t.cols.length
  le : t.cols.length ≤ 6
  col : ∀ c ∈ t.cols, named c.name = true ∧ (c.kind = 1 ∨ c.kind = 2)
  nodup : (t.cols.map Col.name).Nodup
  ixs : t.ixs.length ≤ 4
  ix : ∀ x ∈ t.ixs, IxOk t.cols.length x
structure Ok (m : List Tab) : Prop where
  len : m.length ≤ 8
  ids : ∀ i (h : i < m.length), m[i].id = (i : Int) + 1
  nodup : (m.map Tab.name).Nodup
  tab : ∀ t ∈ m, TabOk t
  ixn : (m.flatMap fun t => t.ixs.map Ix.name).Nodup
theorem any_no {α : Type} {p : α → Bool} {l : List α} (h : ¬ l.any p = true) : ∀ x ∈ l, p x = false := by
  intro x hx
  cases hp : p x
  · rfl
  · exact absurd (List.any_eq_true.2 ⟨x, hx, hp⟩) h
theorem pos_lt {α : Type} {p : α → Bool} {l : List α} (h : l.findIdx p < l.length) : pos p l = (l.findIdx p : Int) := if_pos h
theorem pos_none {α : Type} {p : α → Bool} {l : List α} (h : ∀ x ∈ l, p x = false) : pos p l = -1 := by
  unfold pos
  rw [if_neg]
  rw [List.findIdx_lt_length]
  rintro ⟨x, hx, hp⟩
  rw [h x hx] at hp; cases hp
theorem pos_cases {α : Type} (p : α → Bool) (l : List α) : (pos p l = -1 ∧ ∀ x ∈ l, p x = false) ∨ ∃ (i : Nat) (h : i < l.length), pos p l = (i : Int) ∧ p l[i] = true ∧ ∀ j (hj : j < i), p l[j] = false := by
  by_cases h : l.findIdx p < l.length
  · refine .inr ⟨l.findIdx p, h, pos_lt h, List.findIdx_getElem, fun j hj => ?_⟩
    have := List.not_of_lt_findIdx hj
    simpa using this
  · refine .inl ⟨if_neg h, fun x hx => ?_⟩
    by_cases hp : p x = true
    · exact absurd (List.findIdx_lt_length.2 ⟨x, hx, hp⟩) h
    · simpa using hp
theorem pos_at {α : Type} {p : α → Bool} {l : List α} {i : Nat} (h : i < l.length) (hp : p l[i] = true) (hb : ∀ j (hj : j < i), p l[j] = false) : pos p l = (i : Int) := by
  rcases pos_cases p l with ⟨_, h2⟩ | ⟨k, hk, h1, h2, h3⟩
  · rw [h2 _ (List.getElem_mem h)] at hp; cases hp
  · rw [h1]
    rcases Nat.lt_trichotomy k i with g | g | g
    · rw [hb k g] at h2; cases h2
    · rw [g]
    · rw [h3 i g] at hp; cases hp
end Go.VB.Cat
