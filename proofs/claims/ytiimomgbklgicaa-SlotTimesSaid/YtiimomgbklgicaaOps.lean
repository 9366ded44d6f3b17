import Derived.Test.YtiimomgbklgicaaPlan
/- append onto an owned row, from whatever source. -/
set_option linter.unusedVariables false
namespace Go.VB
open Go.RowKit
/-- x is a source of m elements whose cells are news -/
def Src (P : Program) (w : World) (size : Nat) (x : Value) (m : Nat) (news : List Value) : Prop :=
  news.length = m * size ∧ (∀ u ∈ news, u.oneCell' = true) ∧ ∀ w1 : World, w1.heap = w.heap → (Builtin.lenOf x).run P w1 = .ok m w1 ∧ (Builtin.firstCells size m x).run P w1 = .ok news.toArray w1
theorem cell?_of_heap {w w1 : World} (h : w1.heap = w.heap) (a : Addr) : w1.cell? a = w.cell? a := by simp [World.cell?, h]
theorem Src.slice {P : Program} {w : World} {size b o m c : Nat} {news : List Value} (hl : news.length = m * size) (h1 : ∀ u ∈ news, u.oneCell' = true) (hr : w.rangeAt b o news) : Src P w size (.slice (some ⟨b, o, none⟩) m c) m news :=
  ⟨hl, h1, fun w1 hw => ⟨by simp [Builtin.lenOf], run_firstCells_some (P := P) w1 size m ⟨b, o, none⟩ m c news hl fun j v hj => by rw [Addr.add_mid, cell?_of_heap hw]; exact hr j v hj⟩⟩
theorem Src.nil {P : Program} {w : World} (size c : Nat) : Src P w size (.slice none 0 c) 0 [] :=
  ⟨by simp, by simp, fun w1 _ => ⟨by simp [Builtin.lenOf], by simpa using run_firstCells_none (P := P) w1 size 0 0 c⟩⟩
theorem Src.string {P : Program} {w : World} (l : List UInt8) : Src P w 1 (.string (bs l)) l.length (bv l) := by
  refine ⟨by simp [bv], bv_one l, fun w1 _ => ⟨by simp [Builtin.lenOf, bs_size], ?_⟩⟩
  simp only [Builtin.firstCells, Sem.run_pure]
  congr 1
  apply Array.ext'
  have : (bs l).extract 0 l.length = bs l := by apply ByteArray.ext; simp [bs]
  rw [this]
  simp [bs, bv]

theorem run_append {P : Program} {w : World} {t tx ty e : TypeId} {dx : TypeDesc} (hu : P.underlying t = some (.slice e)) (hx : P.underlying tx = some dx) (hdx : dx = .string ∨ ∃ e', dx = .slice e')
    {z : Value} {size bytes : Nat} (hinfo : (P.info? e).map (fun i => (i.zero, i.size, i.bytes)) = some (some z, size, bytes)) (hzs : z.cells.size = size)
    {v : Value} {n : Nat} {xs : List Value} (hown : w.ownsRow 0 e size v n xs) {x : Value} {m : Nat} {news : List Value} (hsrc : Src P w size x m news)
    (h63 : n + m ≤ 1099511627776) (hbytes : (n + m) * bytes ≤ 140737488355328) :
    ∃ v' w', (Builtin.append_ #[t, tx] ty #[v, x]).run P w = .ok v' w' ∧ w'.ownsRow 0 e size v' (n + m) (xs ++ news) ∧ w.grownBy w' v.ownBlock ∧
      (∀ k, v'.ownBlock = some k → v.ownBlock = some k ∨ k = w.heap.size) ∧ ∃ a c, v' = .slice a (n + m) c := by
  obtain ⟨i, hi, hz0, hz1, hz2⟩ := info_parts hinfo
  obtain ⟨hl, h1, hs⟩ := hsrc
  subst hz1
  subst hz2
  have hmax : n + m ≤ maxLen := by simp only [maxLen]; omega
  have hlen : (xs ++ news).length = (n + m) * i.size := by rw [List.length_append, hown.1, hl, Nat.add_mul]
  have grown : ∀ (old : Nat), old < n + m → ∀ (row : Option Nat),
      (w.drew.alloc (.cells (xs.toArray ++ news.toArray ++ Builtin.zeroCells z.cells (grownCap w (n + m) old e - (n + m))) e)).ownsRow 0 e i.size
        (.slice (some ⟨w.heap.size, 0, none⟩) (n + m) (grownCap w (n + m) old e)) (n + m) (xs ++ news) ∧
      w.grownBy (w.drew.alloc (.cells (xs.toArray ++ news.toArray ++ Builtin.zeroCells z.cells (grownCap w (n + m) old e - (n + m))) e)) row := by
    intro old ho row
    have hge := grownCap_ge w (n + m) old e
    have hcm : grownCap w (n + m) old e ≤ maxLen := grownCap_le_maxLen w (n + m) old e hmax
    refine ⟨⟨hlen, .inr ⟨w.heap.size, _, _, rfl, Nat.zero_le _, heap_alloc_new w.drew _, hge, hcm, ?_, ?_⟩⟩, ⟨rfl, rfl, rfl, by simp, fun k hk _ => Below.heap_alloc w.drew _ k hk⟩⟩
    · simp only [Array.size_append, List.size_toArray, size_zeroCells, hzs, hown.1, hl, ← Nat.add_mul]
      congr 1
      omega
    · simp only [Array.toList_append, List.append_assoc]
      rw [← List.append_assoc, ← hlen]
      exact List.take_left
  have fits : ∀ old, old < n + m → ¬ (281474976710656 < Builtin.nextslicecap (n + m) old * i.bytes) := by
    intro old ho
    have h2 := nextslicecap_le ho
    have : Builtin.nextslicecap (n + m) old * i.bytes ≤ 2 * (n + m) * i.bytes := Nat.mul_le_mul_right _ h2
    rw [Nat.mul_assoc] at this
    omega
  obtain ⟨q1, q2⟩ := hs w rfl
  obtain ⟨q3, q4⟩ := hs w.drew rfl
  have big : ¬ (9223372036854775807 < ((n : Int) + (m : Int))) := by omega
  -- the run, by what the row is
  have grow : ∀ (base : Option Addr) (cap : Nat), cap < n + m → (∀ w1 : World, w1.heap = w.heap → (Builtin.firstCells i.size n (.slice base n cap)).run P w1 = .ok xs.toArray w1) →
      (Builtin.append_ #[t, tx] ty #[.slice base n cap, x]).run P w = .ok (.slice (some ⟨w.heap.size, 0, none⟩) (n + m) (grownCap w (n + m) cap e))
        (w.drew.alloc (.cells (xs.toArray ++ news.toArray ++ Builtin.zeroCells z.cells (grownCap w (n + m) cap e - (n + m))) e)) := by
    intro base cap hc hfo
    have hn : ¬ (n + m ≤ cap) := by omega
    have h48' := fits cap hc
    have hf := hfo w.drew rfl
    rcases hdx with rfl | ⟨e', rfl⟩ <;>
    · simp [Builtin.append_, run_underlying hu, run_underlying hx, sizeOf, typeInfo, zeroValue, hi, hz0, q1, q4, hn, big, h48', Question.forced, hf, newRow, grownCap]
      congr 2
      apply Array.ext'
      simp [List.append_assoc]
  rcases hown.2 with ⟨rfl, rfl⟩ | ⟨g, cap, cur, rfl, hbg, hg, hnc, hcm, hcs, htake⟩
  · have hxs : xs = [] := List.eq_nil_of_length_eq_zero (by simpa using hown.1)
    by_cases hm : m = 0
    · subst hm
      subst hxs
      have hn : news = [] := List.eq_nil_of_length_eq_zero (by simpa using hl)
      subst hn
      refine ⟨.slice none 0 0, w, ?_, World.ownsRow_nil w 0 e i.size, ⟨rfl, rfl, rfl, Nat.le_refl _, fun _ _ _ => rfl⟩, by simp [Value.ownBlock], none, 0, rfl⟩
      rcases hdx with rfl | ⟨e', rfl⟩ <;> simp [Builtin.append_, run_underlying hu, run_underlying hx, sizeOf, typeInfo, hi, q1, q2]
    · have hgr := grown 0 (by omega) (Value.ownBlock (.slice none 0 0))
      refine ⟨_, _, grow none 0 (by omega) ?_, hgr.1, hgr.2, by simp [Value.ownBlock], _, _, rfl⟩
      intro w1 _
      rw [hxs]
      exact run_firstCells_none (P := P) w1 i.size 0 0 0
  · by_cases hroom : n + m ≤ cap
    · have hfit : n * i.size + news.length ≤ cur.size := by rw [hl, hcs, ← Nat.add_mul]; exact Nat.mul_le_mul_right _ hroom
      have hst := run_storeCells_at P g (n * i.size) e news 0 cur w hg (by simpa using hfit) h1
      simp only [Nat.add_zero] at hst
      refine ⟨.slice (some ⟨g, 0, none⟩) (n + m) cap, w.setRow g (cur.toList.take (n * i.size) ++ news ++ cur.toList.drop (n * i.size + news.length)).toArray, ?_, ⟨hlen, .inr ⟨g, cap, _, rfl, hbg, setRow_heap w g cur _ e _ hg, hroom, hcm, ?_, ?_⟩⟩, ⟨rfl, rfl, rfl, by simp, fun k _ hk => setRow_other w g k _ (fun e => hk (by simp [Value.ownBlock, e]))⟩, fun k hk => .inl hk, _, _, rfl⟩
      · rcases hdx with rfl | ⟨e', rfl⟩ <;> simp [Builtin.append_, run_underlying hu, run_underlying hx, sizeOf, typeInfo, hi, q1, q2, hroom, Addr.add_lit, hst]
      · simp only [List.size_toArray, List.length_append, List.length_take, List.length_drop, Array.length_toList]
        omega
      · rw [htake, ← hlen]
        exact List.take_left
    · have holds : ∀ j u, xs[j]? = some u → w.cell? ((⟨g, 0, none⟩ : Addr).add j) = some u := hown.cells (g := g) rfl
      have hgr := grown cap (by omega) (Value.ownBlock (.slice (some ⟨g, 0, none⟩) n cap))
      refine ⟨_, _, grow _ cap (by omega) ?_, hgr.1, hgr.2, by simp [Value.ownBlock], _, _, rfl⟩
      intro w1 hw1
      exact run_firstCells_some (P := P) w1 i.size n ⟨g, 0, none⟩ n cap xs hown.1 (fun j u hu => by rw [cell?_of_heap hw1]; exact holds j u hu)
theorem wpList_append {P : Program} {ops : Array Oper} {rest : List Oper} {op : Oper} {a : Act} {w : World} {Q : Exit → Act → World → Prop} (hgd : op.guard = none) {s x : Operand} {t tx : TypeId}
    (ho : op.op = .call { callee := .builtin .append, args := #[s, x], argTypes := #[t, tx] }) {e : TypeId} {dx : TypeDesc} (hu : P.underlying t = some (.slice e)) (hx : P.underlying tx = some dx) (hdx : dx = .string ∨ ∃ e', dx = .slice e')
    {z : Value} {size bytes : Nat} (hinfo : (P.info? e).map (fun i => (i.zero, i.size, i.bytes)) = some (some z, size, bytes)) (hzs : z.cells.size = size)
    {v xv : Value} (hs : a.eval s = v) (hxv : a.eval x = xv) {n : Nat} {xs : List Value} (hown : w.ownsRow 0 e size v n xs) {m : Nat} {news : List Value} (hsrc : Src P w size xv m news)
    (h63 : n + m ≤ 1099511627776) (hbytes : (n + m) * bytes ≤ 140737488355328)
    (h : ∀ (b : Option Addr) (c : Nat) (w' : World), w'.ownsRow 0 e size (.slice b (n + m) c) (n + m) (xs ++ news) → w.grownBy w' v.ownBlock → (∀ k, (Value.slice b (n + m) c).ownBlock = some k → v.ownBlock = some k ∨ k = w.heap.size) →
      wpList P ops Q rest (a.put op.dst (.slice b (n + m) c)) w') : wpList P ops Q (op :: rest) a w :=
  wpList_plain hgd fun _ hK => by
    obtain ⟨v', w', hr, h1, h2, h3, b, c, rfl⟩ := run_append (ty := op.type) hu hx hdx hinfo hzs hown hsrc h63 hbytes
    unfold Oper.wp execOp
    simp only [ho, resolve, invoke, builtin, Sem.run_bind, Sem.run_pure, Result.andThen_ok, List.map_toArray, List.map_cons, List.map_nil, hs, hxv, hr]
    exact hK _ _ (h b c w' h1 h2 h3)
theorem list_set_seg {α : Type} (l : List α) (k : Nat) (v : α) (r : List α) (hk : k + (r.length + 1) ≤ l.length) : (l.set k v).take (k + 1) ++ r ++ (l.set k v).drop (k + 1 + r.length) = l.take k ++ v :: r ++ l.drop (k + (r.length + 1)) := by
  have e1 : (l.set k v).take (k + 1) = l.take k ++ [v] := by
    rw [List.take_succ_eq_append_getElem (by simp; omega)]
    simp [List.take_set_of_le]
  have e2 : (l.set k v).drop (k + 1 + r.length) = l.drop (k + (r.length + 1)) := by
    rw [List.drop_set_of_lt (by omega)]; congr 1; omega
  rw [e1, e2]
  simp only [List.append_assoc, List.cons_append, List.nil_append]
theorem foldl_set (off : Nat) : ∀ (l : List Value) (k : Nat) (cs : Array Value), off + k + l.length ≤ cs.size →
    ((l.zipIdx k).foldl (fun cs (p : Value × Nat) => cs.setIfInBounds (off + p.2) p.1) cs).toList = cs.toList.take (off + k) ++ l ++ cs.toList.drop (off + k + l.length)
  | [], k, cs, _ => by simp
  | v :: r, k, cs, h => by
    simp only [List.length_cons] at h
    rw [List.zipIdx_cons, List.foldl_cons, foldl_set off r (k + 1) _ (by simp; omega)]
    have e : (cs.setIfInBounds (off + k) v).toList = cs.toList.set (off + k) v := by simp
    rw [e, ← Nat.add_assoc off k 1, list_set_seg _ _ _ _ (by simp; omega)]
    rfl
theorem fill_cons (place : Nat → Option (Nat × Nat)) (cells : Array Value) (i off size : Nat) (x : Value) (rest : List (Nat × Value)) (hp : place i = some (off, size)) (hx : x.cells.size = size) (hf : off + size ≤ cells.size) :
    Instr.fill place cells ((i, x) :: rest) = Instr.fill place (cells.toList.take off ++ x.cells.toList ++ cells.toList.drop (off + size)).toArray rest := by
  have h1 : (decide (x.cells.size ≠ size) || decide (off + x.cells.size > cells.size)) = false := by simp [hx]; omega
  have h := foldl_set off x.cells.toList 0 cells (by simp [hx]; omega)
  simp only [Nat.add_zero, Array.length_toList, hx] at h
  simp only [Instr.fill, hp, h1, Bool.false_eq_true, if_false]
  congr 1
  apply Array.ext'
  rw [List.toList_toArray, ← h, ← Array.foldl_toList]
  congr 1
  simp [Array.toList_zipIdx]
/-- '[]T{x}', x of many cells -/
theorem run_buildSlice_one {P : Program} {w : World} {t e : TypeId} (hu : P.underlying t = some (.slice e)) {z : Value} {size : Nat} (hinfo : (P.info? e).map (fun i => (i.zero, i.size)) = some (some z, size)) (hzs : z.cells.size = size) (h24 : size ≤ 16777216) (h0 : 0 < size)
    {cells : Array Value} (hc : cells.size = size) {x : Value} (hx : x.cells = cells) : (Instr.buildSlice t 1 #[(0, x)]).run P w = .ok (.slice (some ⟨w.heap.size, 0, none⟩) 1 1) (w.alloc (.cells cells e)) := by
  obtain ⟨i, hi, hzz⟩ := Option.map_eq_some_iff.1 hinfo
  simp only [Prod.mk.injEq] at hzz
  obtain ⟨hz0, hz1⟩ := hzz
  have h1 : ¬ (16777216 < size) := by omega
  have h2 : size ≠ 0 := by omega
  have hfill : Instr.fill (fun i => some (i * size, size)) ((Array.range size).map (z.cells[· % z.cells.size]!)) [(0, x)] = some cells := by
    rw [fill_cons _ _ 0 0 size x [] (by simp) (by rw [hx, hc]) (by simp)]
    simp only [Instr.fill]
    congr 1
    apply Array.ext'
    simp [hx]
  simp [Instr.buildSlice, run_underlying hu, sizeOf, typeInfo, zeroValue, hi, hz0, hz1, h1, h2, hfill, newRow]
theorem wpList_buildSlice_one {P : Program} {ops : Array Oper} {rest : List Oper} {op : Oper} {a : Act} {w : World} {Q : Exit → Act → World → Prop} (hgd : op.guard = none) {t e : TypeId} {xo : Operand} (ho : op.op = .buildSlice t 1 #[(0, xo)])
    (hu : P.underlying t = some (.slice e)) {z : Value} {size : Nat} (hinfo : (P.info? e).map (fun i => (i.zero, i.size)) = some (some z, size)) (hzs : z.cells.size = size) (h24 : size ≤ 16777216) (h0 : 0 < size)
    {x : Value} (hx : a.eval xo = x) {cells : Array Value} (hxc : x.cells = cells) (hc : cells.size = size)
    (h : wpList P ops Q rest (a.put op.dst (.slice (some ⟨w.heap.size, 0, none⟩) 1 1)) (w.alloc (.cells cells e))) : wpList P ops Q (op :: rest) a w :=
  wpList_plain hgd fun _ hK => by
    have hr := run_buildSlice_one (w := w) hu hinfo hzs h24 h0 hc hxc
    unfold Oper.wp execOp
    simp only [ho, List.map_toArray, List.map_cons, List.map_nil, hx, hr, Sem.run_bind, Sem.run_pure, Result.andThen_ok]
    exact hK _ _ h
theorem info_two {P : Program} {e : TypeId} {z : Value} {size bytes : Nat} (h : (P.info? e).map (fun i => (i.zero, i.size, i.bytes)) = some (some z, size, bytes)) : (P.info? e).map (fun i => (i.zero, i.size)) = some (some z, size) := by
  obtain ⟨i, hi, h0, h1, _⟩ := info_parts h
  simp [hi, h0, h1]
theorem ownsRow_heap {w w' : World} {b : Nat} {e : TypeId} {size : Nat} {v : Value} {n : Nat} {xs : List Value} (h : w.ownsRow b e size v n xs) (hh : ∀ k, v.ownBlock = some k → w'.heap[k]? = w.heap[k]?) : w'.ownsRow b e size v n xs := by
  refine ⟨h.1, ?_⟩
  rcases h.2 with hn | ⟨g, cap, cur, rfl, hb, hgg, rest⟩
  · exact .inl hn
  · exact .inr ⟨g, cap, cur, rfl, hb, by rw [hh g rfl]; exact hgg, rest⟩
theorem ownsRow_ne {w : World} {b0 d : Nat} {l : List Value} {t e : TypeId} (hb : Blk w d l t) (hte : t ≠ e) {size n : Nat} {v : Value} {xs : List Value} (h : w.ownsRow b0 e size v n xs) : ∀ k, v.ownBlock = some k → k ≠ d := by
  intro k hk e
  subst e
  rcases h.2 with ⟨rfl, _⟩ | ⟨g, cap, cur, rfl, -, hg, -⟩
  · simp [Value.ownBlock] at hk
  · simp [Value.ownBlock] at hk; subst hk
    exact hte (hb.uniq (show Blk w g cur.toList e by unfold Blk; simpa using hg)).2
end Go.VB
