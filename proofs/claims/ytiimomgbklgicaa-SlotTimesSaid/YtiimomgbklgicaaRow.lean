import Derived.Test.YtiimomgbklgicaaOwn
/- Rows of the call's own, not below block B; append of one element that was just built. -/
set_option linter.unusedVariables false
namespace Go.VB
open Go.RowKit
structure Row (e : TypeId) (size B : Nat) (W : World) (v : Value) (n : Nat) (xs : List Value) : Prop where
  own : W.ownsRow 0 e size v n xs
  new : ∀ k, v.ownBlock = some k → B ≤ k
namespace Row
variable {e : TypeId} {size B n : Nat} {W W' : World} {v : Value} {xs : List Value}
theorem nil : Row e size B W (.slice none 0 0) 0 [] := ⟨own_nil, fun k hk => by simp [Value.ownBlock] at hk⟩
theorem fr {S : Nat → Prop} (h : Row e size B W v n xs) (f : Fr S W W') (hS : ∀ k, v.ownBlock = some k → ¬ S k) : Row e size B W' v n xs := ⟨own_fr h.own f hS, h.new⟩
theorem fre (h : Row e size B W v n xs) (f : Fr (fun _ => False) W W') : Row e size B W' v n xs := h.fr f (fun _ _ h => h)
theorem low {A : Nat} (h : Row e size B W v n xs) (hA : A ≤ B) : Row e size A W v n xs := ⟨h.own, fun k hk => Nat.le_trans hA (h.new k hk)⟩
theorem slice (h : Row e size B W v n xs) : ∃ a c, v = .slice a n c ∧ n ≤ c := own_slice h.own
theorem lt (h : Row e size B W v n xs) {k : Nat} (hk : v.ownBlock = some k) : k < W.heap.size := own_lt h.own hk
theorem sl (h : Row e size B W v n xs) : Sl (fun k => B ≤ k) W v n xs := own_sl h.own h.new
theorem sl' {R : Nat → Prop} (h : Row e size B W v n xs) (hR : ∀ k, B ≤ k → R k) : Sl R W v n xs := own_sl h.own (fun k hk => hR k (h.new k hk))
theorem length (h : Row e size B W v n xs) : xs.length = n * size := h.own.1
theorem built (w : World) {l : List Value} (hl : l.length = n * size) (hn : n ≤ maxLen) (hB : B ≤ w.heap.size) : Row e size B (w.alloc (.cells l.toArray e)) (.slice (some ⟨w.heap.size, 0, none⟩) n n) n l :=
  ⟨own_new hl hn, fun k hk => by simp [Value.ownBlock] at hk; omega⟩
theorem ne {d : Nat} {l : List Value} {t : TypeId} (h : Row e size B W v n xs) (hb : Blk W d l t) (hte : t ≠ e) : ∀ k, v.ownBlock = some k → k ≠ d := ownsRow_ne hb hte h.own
theorem cast {m : Nat} {ys : List Value} (h : Row e size B W v n xs) (hn : n = m) (hx : xs = ys) : Row e size B W v m ys := by subst hn; subst hx; exact h
end Row
theorem row_range {e : TypeId} {size B n : Nat} {W : World} {a : Option Addr} {c : Nat} {xs : List Value} (h : Row e size B W (.slice a n c) n xs) (hx : xs ≠ []) : ∃ g, a = some ⟨g, 0, none⟩ ∧ B ≤ g ∧ W.rangeAt g 0 xs := by
  rcases h.own.2 with ⟨h1, rfl⟩ | ⟨g, cap, cur, h1, hb, hgg, h2, h3, h4, h5⟩
  · exact absurd (List.eq_nil_of_length_eq_zero (by simpa using h.own.1)) hx
  · cases h1
    refine ⟨g, rfl, h.new g rfl, ?_⟩
    have hB : Blk W g cur.toList e := by unfold Blk; simpa using hgg
    have e1 : cur.toList = [] ++ xs ++ cur.toList.drop (n * size) := by
      rw [List.nil_append]
      conv => lhs; rw [← List.take_append_drop (n * size) cur.toList, h5]
    exact hB.range [] xs (cur.toList.drop (n * size)) e1
theorem row_cells {e : TypeId} {size B n : Nat} {W : World} {a : Option Addr} {c : Nat} {xs : List Value} (h : Row e size B W (.slice a n c) n xs) (hx : xs ≠ []) : ∃ g, a = some ⟨g, 0, none⟩ ∧ B ≤ g ∧ ∀ j u, xs[j]? = some u → W.cell? ⟨g, j, none⟩ = some u := by
  obtain ⟨g, h1, h2, h3⟩ := row_range h hx
  exact ⟨g, h1, h2, fun j u hu => by have := h3 j u hu; rwa [Nat.zero_add] at this⟩
/-- what an append of one element leaves -/
structure App (e : TypeId) (size B : Nat) (wb w' : World) (v v' : Value) (n : Nat) (xs news : List Value) : Prop where
  row : Row e size B w' v' (n + 1) (xs ++ news)
  fr : Fr (fun k => v.ownBlock = some k) wb w'
  at_ : ∀ k, v'.ownBlock = some k → v.ownBlock = some k ∨ k = wb.heap.size + 1
namespace App
variable {e : TypeId} {size B n : Nat} {wb w' w : World} {v v' : Value} {xs news : List Value}
theorem frB (h : App e size B wb w' v v' n xs news) (r : Row e size B wb v n xs) (f : Fr (fun _ => False) w wb) (hB : w.heap.size ≤ B) : Fr (fun _ => False) w w' :=
  f.trans h.fr fun k hk hl => by have := r.new k hk; omega
end App
theorem wpList_app1 {P : Program} {ops : Array Oper} {rest : List Oper} {op : Oper} {a : Act} {wb : World} {Q : Exit → Act → World → Prop} (hgd : op.guard = none) {s x : Operand} {t : TypeId}
    (ho : op.op = .call { callee := .builtin .append, args := #[s, x], argTypes := #[t, t] }) {e : TypeId} (hu : P.underlying t = some (.slice e))
    {z : Value} {size bytes : Nat} (hinfo : (P.info? e).map (fun i => (i.zero, i.size, i.bytes)) = some (some z, size, bytes)) (hzs : z.cells.size = size)
    {v : Value} (hs : a.eval s = v) (hxv : a.eval x = .slice (some ⟨wb.heap.size, 0, none⟩) 1 1) {B n : Nat} {xs news : List Value} (row : Row e size B wb v n xs) (hB : B ≤ wb.heap.size)
    (hl : news.length = size) (h1 : ∀ u ∈ news, u.oneCell' = true) (h63 : n + 1 ≤ 1099511627776) (hbytes : (n + 1) * bytes ≤ 140737488355328)
    (h : ∀ (b : Option Addr) (c : Nat) (w' : World), App e size B wb w' v (.slice b (n + 1) c) n xs news → wpList P ops Q rest (a.put op.dst (.slice b (n + 1) c)) w') : wpList P ops Q (op :: rest) a (wb.alloc (.cells news.toArray e)) := by
  have F1 := (Fr.refl (fun _ => False) wb).alloc (.cells news.toArray e)
  have hsrc : Src P (wb.alloc (.cells news.toArray e)) size (.slice (some ⟨wb.heap.size, 0, none⟩) 1 1) 1 news := Src.slice (by omega) h1 (Blk.new wb news e).all
  refine wpList_append hgd ho hu hu (.inr ⟨_, rfl⟩) hinfo hzs hs hxv (row.fre F1).own hsrc h63 hbytes ?_
  intro b c w' hown hg hat
  refine h b c w' ⟨⟨hown, fun k hk => ?_⟩, (F1.mono (fun _ h _ => h.elim)).grown hg (fun k hk _ => hk), fun k hk => ?_⟩
  · rcases hat k hk with h | h
    · exact row.new k h
    · rw [h, World.size_alloc]; omega
  · rcases hat k hk with h | h
    · exact .inl h
    · exact .inr (by rw [h, World.size_alloc])
/-- a row as a source of append -/
theorem Row.src {P : Program} {e : TypeId} {size B n : Nat} {W : World} {v : Value} {xs : List Value} (h : Row e size B W v n xs) (h1 : ∀ u ∈ xs, u.oneCell' = true) : Src P W size v n xs := by
  rcases h.own.2 with ⟨rfl, rfl⟩ | ⟨g, cap, cur, rfl, hb, hgg, h2, h3, h4, h5⟩
  · have : xs = [] := List.eq_nil_of_length_eq_zero (by simpa using h.own.1)
    subst this
    exact Src.nil size 0
  · refine Src.slice h.own.1 h1 ?_
    have hB : Blk W g cur.toList e := by unfold Blk; simpa using hgg
    have e1 : cur.toList = [] ++ xs ++ cur.toList.drop (n * size) := by
      rw [List.nil_append]
      conv => lhs; rw [← List.take_append_drop (n * size) cur.toList, h5]
    exact hB.range [] xs (cur.toList.drop (n * size)) e1
/-- what an append of many leaves -/
structure AppS (e : TypeId) (size B : Nat) (wb w' : World) (v v' : Value) (n m : Nat) (xs news : List Value) : Prop where
  row : Row e size B w' v' (n + m) (xs ++ news)
  fr : Fr (fun k => v.ownBlock = some k) wb w'
  at_ : ∀ k, v'.ownBlock = some k → v.ownBlock = some k ∨ k = wb.heap.size
theorem AppS.frB {e : TypeId} {size B n m : Nat} {wb w' w : World} {v v' : Value} {xs news : List Value} (h : AppS e size B wb w' v v' n m xs news) (r : Row e size B wb v n xs) (f : Fr (fun _ => False) w wb) (hB : w.heap.size ≤ B) : Fr (fun _ => False) w w' :=
  f.trans h.fr fun k hk hl => by have := r.new k hk; omega
theorem wpList_appS {P : Program} {ops : Array Oper} {rest : List Oper} {op : Oper} {a : Act} {wb : World} {Q : Exit → Act → World → Prop} (hgd : op.guard = none) {s x : Operand} {t tx : TypeId}
    (ho : op.op = .call { callee := .builtin .append, args := #[s, x], argTypes := #[t, tx] }) {e : TypeId} {dx : TypeDesc} (hu : P.underlying t = some (.slice e)) (hx : P.underlying tx = some dx) (hdx : dx = .string ∨ ∃ e', dx = .slice e')
    {z : Value} {size bytes : Nat} (hinfo : (P.info? e).map (fun i => (i.zero, i.size, i.bytes)) = some (some z, size, bytes)) (hzs : z.cells.size = size)
    {v xv : Value} (hs : a.eval s = v) (hxv : a.eval x = xv) {B n m : Nat} {xs news : List Value} (row : Row e size B wb v n xs) (hB : B ≤ wb.heap.size) (hsrc : Src P wb size xv m news)
    (h63 : n + m ≤ 1099511627776) (hbytes : (n + m) * bytes ≤ 140737488355328)
    (h : ∀ (b : Option Addr) (c : Nat) (w' : World), AppS e size B wb w' v (.slice b (n + m) c) n m xs news → wpList P ops Q rest (a.put op.dst (.slice b (n + m) c)) w') : wpList P ops Q (op :: rest) a wb := by
  refine wpList_append hgd ho hu hx hdx hinfo hzs hs hxv row.own hsrc h63 hbytes ?_
  intro b c w' hown hg hat
  refine h b c w' ⟨⟨hown, fun k hk => ?_⟩, (Fr.refl _ wb).grown hg (fun k hk _ => hk), hat⟩
  rcases hat k hk with h | h
  · exact row.new k h
  · omega
end Go.VB
