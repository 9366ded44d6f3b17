import Derived.Test.YtfalehgngioheaaDiskA
import Derived.Test.YtfalehgngioheaaDiskB
set_option linter.unusedVariables false
namespace Go.Proofs.Ytfalehgngioheaa
open Go.RowKit Go.VB Go.VB.Disk
theorem Try.size_sheet : (Try.prog.info? 78).map (·.size) = some 513 := by kernel_rfl
set_option maxRecDepth 100000 in
theorem Safe_go (w : World) (d pb : Nat) (L : List (Bytes × Value)) (n : Int) (hd : w.cell? ⟨d, 0, none⟩ = some (.slice (some ⟨pb, 0, none⟩) L.length L.length)) (hp : Blk w pb (pcells L) 78) (hL : ∀ p ∈ L, p.1.length = 512) (hn : L.length ≤ 400)
    (p : Bytes × Value) (h0 : 0 ≤ n) (hi : L[n.toNat]? = some p) :
    Calls Try.prog 27 #[.pointer (some ⟨d, 0, none⟩), .int .i64 n] w fun e w' => e = .returned (.tuple #[.string (bs p.1), .int .i64 0]) ∧ Fr (fun _ => False) w w' := by
  have hlt := (List.getElem?_eq_some_iff.1 hi).1
  have hlt' : n < (L.length : Int) := by omega
  have R := rangeAt_left (pcells_range hp hL n.toNat p hi)
  have hs := hL p (List.mem_of_getElem? hi)
  have hsz : (Try.prog.info? 76).map (·.size) = some (bv p.1).length := by rw [bv_length, hs]; exact Try.size_halves
  have HS := hid hs
  have HZ := hid hsz
  clear hL hi hs hsz hp
  go_enter Try.func27, Try.ntmps27
  go_wp2_with (first
   | (go_at_call 38; refine (is_some _ _ _ _ _ _ hd).mono ?_; rintro e w' ⟨rfl, rfl⟩)
   | (refine wpList_load_mid rfl 76 _ rfl _ _ rfl (bv p.1) _ R Try.underlying76 rfl HZ.out ?_)
   | (go_at_call 43; refine (text_page _ _ HS.out).mono ?_; rintro e w' ⟨rfl, hf⟩))
  go_ret2
  exact ⟨rfl, hf⟩
theorem Safe_out (w : World) (d : Nat) (a : Option Addr) (len cap : Nat) (n : Int) (hd : w.cell? ⟨d, 0, none⟩ = some (.slice a len cap)) (hn : ¬ (0 ≤ n ∧ n < len)) :
    Calls Try.prog 27 #[.pointer (some ⟨d, 0, none⟩), .int .i64 n] w fun e w' => e = .returned (.tuple #[.string (bs []), .int .i64 22]) ∧ Fr (fun _ => False) w w' := by
  have hb : (decide (0 ≤ n) && decide (n < (len : Int))) = false := by
    simp only [Bool.and_eq_false_iff, decide_eq_false_iff_not]; omega
  clear hn
  go_enter Try.func27, Try.ntmps27
  go_wp2_with (first
   | (go_at_call 38; refine (is_some _ _ _ _ _ _ hd).mono ?_; rintro e w' ⟨rfl, rfl⟩; rw [hb]))
  go_ret2
  exact ⟨rfl, Fr.refl _ _⟩
theorem Safe_nil (w : World) (n : Int) : Calls Try.prog 27 #[.pointer none, .int .i64 n] w fun e w' => e = .returned (.tuple #[.string (bs []), .int .i64 22]) ∧ w = w' := by
  go_enter Try.func27, Try.ntmps27
  go_wp2_with (first
   | (go_at_call 38; refine (is_nil _ _).mono ?_; rintro e w' ⟨rfl, rfl⟩))
  go_ret2
  exact ⟨rfl, rfl⟩
theorem Read_nil (w : World) (n : Int) : Calls Try.prog 20 #[.pointer none, .int .i64 n] w fun e w' => e = .returned (.tuple #[.string (bs []), .int .i64 24]) ∧ w = w' := by
  go_enter Try.func20, Try.ntmps20
  go_wp2_with (first
   | (go_at_call 23; refine (On_nil _).mono ?_; rintro e w' ⟨rfl, rfl⟩))
  go_ret2
  exact ⟨rfl, rfl⟩
theorem Read_off (w : World) (d : Nat) (n : Int) (h3 : w.cell? ⟨d, 3, none⟩ = some (.bool true)) : Calls Try.prog 20 #[.pointer (some ⟨d, 0, none⟩), .int .i64 n] w fun e w' => e = .returned (.tuple #[.string (bs []), .int .i64 24]) ∧ w = w' := by
  go_enter Try.func20, Try.ntmps20
  go_wp2_with (first
   | (go_at_call 23; refine (On_some _ _ _ h3).mono ?_; rintro e w' ⟨rfl, rfl⟩))
  go_ret2
  exact ⟨rfl, rfl⟩
theorem Read_out (w : World) (d : Nat) (a : Option Addr) (len cap : Nat) (n : Int) (hd : w.cell? ⟨d, 0, none⟩ = some (.slice a len cap)) (h3 : w.cell? ⟨d, 3, none⟩ = some (.bool false)) (hn : ¬ (0 ≤ n ∧ n < len)) :
    Calls Try.prog 20 #[.pointer (some ⟨d, 0, none⟩), .int .i64 n] w fun e w' => e = .returned (.tuple #[.string (bs []), .int .i64 22]) ∧ Fr (fun _ => False) w w' := by
  have hb : (decide (0 ≤ n) && decide (n < (len : Int))) = false := by
    simp only [Bool.and_eq_false_iff, decide_eq_false_iff_not]; omega
  clear hn
  go_enter Try.func20, Try.ntmps20
  go_wp2_with (first
   | (go_at_call 23; refine (On_some _ _ _ h3).mono ?_; rintro e w' ⟨rfl, rfl⟩)
   | (go_at_call 38; refine (is_some _ _ _ _ _ _ hd).mono ?_; rintro e w' ⟨rfl, rfl⟩; rw [hb]))
  go_ret2
  exact ⟨rfl, Fr.refl _ _⟩
theorem Try.zero_sheet : Try.zeroCells78 = (zcells 512 ++ [Value.slice none 0 0]).toArray := by kernel_rfl
theorem flat_length (ws : List Bytes) (hws : ∀ s ∈ ws, s.length = 512) : (ws.flatMap bv).length = ws.length * 512 := by
  induction ws with
  | nil => rfl
  | cons s ws ih =>
    have h1 := hws s List.mem_cons_self
    have := ih fun q hq => hws q (List.mem_cons_of_mem _ hq)
    simp only [List.flatMap_cons, List.length_append, bv_length, List.length_cons] at this ⊢
    omega
theorem flat_range {w : World} {g n cap : Nat} {cur : Array Value} {t : TypeId} (hg : w.heap[g]? = some (.cells cur t (0, 0))) (ws : List Bytes) (hws : ∀ s ∈ ws, s.length = 512) (h : cur.toList.take (ws.length * 512) = ws.flatMap bv)
    (i : Nat) (s : Bytes) (hi : ws[i]? = some s) : w.rangeAt g (i * 512) (bv s) := by
  have hl : i < ws.length := (List.getElem?_eq_some_iff.1 hi).1
  have hs : ws[i] = s := (List.getElem?_eq_some_iff.1 hi).2
  have e : ws.flatMap bv = (ws.take i).flatMap bv ++ bv s ++ (ws.drop (i + 1)).flatMap bv := by
    conv => lhs; rw [← List.take_append_drop i ws, List.drop_eq_getElem_cons hl, hs]
    simp
  have hlen : ((ws.take i).flatMap bv).length = i * 512 := by
    rw [flat_length _ fun p hp => hws p (List.mem_of_mem_take hp), List.length_take, Nat.min_eq_left (Nat.le_of_lt hl)]
  have hB : Blk w g cur.toList t := by unfold Blk; simpa using hg
  have := hB.range ((ws.take i).flatMap bv) (bv s) ((ws.drop (i + 1)).flatMap bv ++ cur.toList.drop (ws.length * 512)) (by
    rw [← List.append_assoc, ← e, ← h, List.take_append_drop])
  rwa [hlen] at this
set_option maxRecDepth 100000 in
set_option maxHeartbeats 400000 in
theorem Read_safe (w : World) (d pb : Nat) (L : List (Bytes × Value)) (n : Int) (hd : w.cell? ⟨d, 0, none⟩ = some (.slice (some ⟨pb, 0, none⟩) L.length L.length)) (h3 : w.cell? ⟨d, 3, none⟩ = some (.bool false)) (hp : Blk w pb (pcells L) 78) (hL : ∀ p ∈ L, p.1.length = 512) (hn : L.length ≤ 400)
    (s : Bytes) (a : Option Addr) (cap : Nat) (h0 : 0 ≤ n) (hi : L[n.toNat]? = some (s, .slice a 0 cap)) :
    Calls Try.prog 20 #[.pointer (some ⟨d, 0, none⟩), .int .i64 n] w fun e w' => e = .returned (.tuple #[.string (bs s), .int .i64 0]) ∧ Fr (fun _ => False) w w' := by
  have hlt := (List.getElem?_eq_some_iff.1 hi).1
  have hlt' : n < (L.length : Int) := by omega
  have R := pcells_range hp hL n.toNat _ hi
  dsimp only at R
  have hs := hL _ (List.mem_of_getElem? hi)
  dsimp only at hs
  have hsz : (Try.prog.info? 78).map (·.size) = some (bv s ++ [Value.slice a 0 cap]).length := by rw [List.length_append, bv_length, hs]; exact Try.size_sheet
  have hsz2 : (Try.prog.info? 76).map (·.size) = some (bv s).length := by rw [bv_length, hs]; exact Try.size_halves
  have B0 : Blk (w.alloc (Obj.cells Try.zeroCells78 78)) w.heap.size (zcells 512 ++ [Value.slice none 0 0]) 78 := Blk.new_of _ _ Try.zero_sheet
  have hl : (bv s ++ [Value.slice a 0 cap]).length = 513 := by rw [List.length_append, bv_length, hs]; rfl
  have B1 := B0.put 0 (bv s ++ [Value.slice a 0 cap]) (by rw [hl, List.length_append, zcells_length]; exact Nat.le_refl _)
  have e1 : (zcells 512 ++ [Value.slice none 0 0]).take 0 ++ (bv s ++ [Value.slice a 0 cap]) ++ (zcells 512 ++ [Value.slice none 0 0]).drop (0 + (bv s ++ [Value.slice a 0 cap]).length) = bv s ++ [Value.slice a 0 cap] := by
    rw [List.take_zero, List.nil_append, List.drop_eq_nil_of_le (by rw [hl, List.length_append, zcells_length]; exact Nat.le_refl _), List.append_nil]
  rw [e1] at B1
  have HT := B0.there 0 (bv s ++ [Value.slice a 0 cap]).toArray.size (by rw [List.size_toArray, hl, List.length_append, zcells_length]; exact Nat.le_refl _)
  have H1 := all_oneCell_toArray (cs := bv s ++ [Value.slice a 0 cap]) (by
    intro v hv
    rcases List.mem_append.1 hv with hv | hv
    · exact bv_one s v hv
    · simp at hv; subst hv; rfl)
  have F1 : Fr (fun _ => False) w ((w.alloc (Obj.cells Try.zeroCells78 78)).setCells w.heap.size 0 (bv s ++ [Value.slice a 0 cap])) := ((Fr.refl _ _).alloc _).put _ _ _ (by intro h; omega)
  have c1 := rangeAt_one (rangeAt_right (B1.all) 512 (by rw [bv_length, hs]))
  have R1 := rangeAt_left B1.all
  have HS := hid hs
  have HZ := hid hsz
  have HZ2 := hid hsz2
  clear hL hi hs hsz hsz2 hp B0 B1 e1 hl
  generalize hW1 : ((w.alloc (Obj.cells Try.zeroCells78 78)).setCells w.heap.size 0 (bv s ++ [Value.slice a 0 cap])) = W1 at *
  have HW1 := hid hW1
  clear hW1
  go_enter Try.func20, Try.ntmps20
  go_wp2_with (first
   | (go_at_call 23; refine (On_some _ _ _ h3).mono ?_; rintro e w' ⟨rfl, rfl⟩)
   | (go_at_call 38; refine (is_some _ _ _ _ _ _ hd).mono ?_; rintro e w' ⟨rfl, rfl⟩)
   | (refine wpList_load_mid rfl 78 _ rfl _ _ rfl _ _ R Try.underlying78 rfl HZ.out ?_)
   | (refine wpList_store_mid rfl 78 _ _ rfl _ _ _ rfl rfl HT (by simpa using HZ.out) H1 ?_; rw [List.toList_toArray, HW1.out])
   | (refine wpList_load_mid rfl 76 _ rfl _ _ rfl _ _ R1 Try.underlying76 rfl HZ2.out ?_)
   | (go_at_call 43; refine (text_page _ _ HS.out).mono ?_; rintro e w' ⟨rfl, hf⟩))
  go_ret2
  exact ⟨rfl, F1.trans hf (by simp)⟩
set_option maxRecDepth 100000 in
set_option maxHeartbeats 400000 in
theorem Read_last (w : World) (d pb : Nat) (L : List (Bytes × Value)) (n : Int) (hd : w.cell? ⟨d, 0, none⟩ = some (.slice (some ⟨pb, 0, none⟩) L.length L.length)) (h3 : w.cell? ⟨d, 3, none⟩ = some (.bool false)) (hp : Blk w pb (pcells L) 78) (hL : ∀ p ∈ L, p.1.length = 512) (hn : L.length ≤ 400)
    (s : Bytes) (g k cap : Nat) (h0 : 0 ≤ n) (hi : L[n.toNat]? = some (s, .slice (some ⟨g, 0, none⟩) k cap)) (hk : 0 < k) (hk2 : k ≤ 1000000) (x : Bytes) (hx : x.length = 512) (hr : w.rangeAt g ((k - 1) * 512) (bv x)) :
    Calls Try.prog 20 #[.pointer (some ⟨d, 0, none⟩), .int .i64 n] w fun e w' => e = .returned (.tuple #[.string (bs x), .int .i64 0]) ∧ Fr (fun _ => False) w w' := by
  have hlt := (List.getElem?_eq_some_iff.1 hi).1
  have hlt' : n < (L.length : Int) := by omega
  have R := pcells_range hp hL n.toNat _ hi
  dsimp only at R
  have hs := hL _ (List.mem_of_getElem? hi)
  dsimp only at hs
  have hsz : (Try.prog.info? 78).map (·.size) = some (bv s ++ [Value.slice (some ⟨g, 0, none⟩) k cap]).length := by rw [List.length_append, bv_length, hs]; exact Try.size_sheet
  have hsz2 : (Try.prog.info? 76).map (·.size) = some (bv x).length := by rw [bv_length, hx]; exact Try.size_halves
  have B0 : Blk (w.alloc (Obj.cells Try.zeroCells78 78)) w.heap.size (zcells 512 ++ [Value.slice none 0 0]) 78 := Blk.new_of _ _ Try.zero_sheet
  have hl : (bv s ++ [Value.slice (some ⟨g, 0, none⟩) k cap]).length = 513 := by rw [List.length_append, bv_length, hs]; rfl
  have B1 := B0.put 0 (bv s ++ [Value.slice (some ⟨g, 0, none⟩) k cap]) (by rw [hl, List.length_append, zcells_length]; exact Nat.le_refl _)
  have e1 : (zcells 512 ++ [Value.slice none 0 0]).take 0 ++ (bv s ++ [Value.slice (some ⟨g, 0, none⟩) k cap]) ++ (zcells 512 ++ [Value.slice none 0 0]).drop (0 + (bv s ++ [Value.slice (some ⟨g, 0, none⟩) k cap]).length) = bv s ++ [Value.slice (some ⟨g, 0, none⟩) k cap] := by
    rw [List.take_zero, List.nil_append, List.drop_eq_nil_of_le (by rw [hl, List.length_append, zcells_length]; exact Nat.le_refl _), List.append_nil]
  rw [e1] at B1
  have HT := B0.there 0 (bv s ++ [Value.slice (some ⟨g, 0, none⟩) k cap]).toArray.size (by rw [List.size_toArray, hl, List.length_append, zcells_length]; exact Nat.le_refl _)
  have H1 := all_oneCell_toArray (cs := bv s ++ [Value.slice (some ⟨g, 0, none⟩) k cap]) (by
    intro v hv
    rcases List.mem_append.1 hv with hv | hv
    · exact bv_one s v hv
    · simp at hv; subst hv; rfl)
  have F1 : Fr (fun _ => False) w ((w.alloc (Obj.cells Try.zeroCells78 78)).setCells w.heap.size 0 (bv s ++ [Value.slice (some ⟨g, 0, none⟩) k cap])) := ((Fr.refl _ _).alloc _).put _ _ _ (by intro h; omega)
  have c1 := rangeAt_one (rangeAt_right (B1.all) 512 (by rw [bv_length, hs]))
  have R1 : ((w.alloc (Obj.cells Try.zeroCells78 78)).setCells w.heap.size 0 (bv s ++ [Value.slice (some ⟨g, 0, none⟩) k cap])).rangeAt g ((k - 1) * 512) (bv x) := by
    intro j v hj
    have hc := hr j v hj
    have hlt := block_lt_of_cell hc
    rw [← hc]
    exact World.cell?_of_block (F1.blk g hlt (by simp))
  have hk1 : ((k : Int) - 1).toNat = k - 1 := by omega
  have HS := hid hx
  have HZ := hid hsz
  have HZ2 := hid hsz2
  clear hL hi hs hsz hsz2 hp B0 B1 e1 hl hr hx
  generalize hW1 : ((w.alloc (Obj.cells Try.zeroCells78 78)).setCells w.heap.size 0 (bv s ++ [Value.slice (some ⟨g, 0, none⟩) k cap])) = W1 at *
  have HW1 := hid hW1
  clear hW1
  go_enter Try.func20, Try.ntmps20
  go_wp2_with (first
   | (go_at_call 23; refine (On_some _ _ _ h3).mono ?_; rintro e w' ⟨rfl, rfl⟩)
   | (go_at_call 38; refine (is_some _ _ _ _ _ _ hd).mono ?_; rintro e w' ⟨rfl, rfl⟩)
   | (refine wpList_load_mid rfl 78 _ rfl _ _ rfl _ _ R Try.underlying78 rfl HZ.out ?_)
   | (refine wpList_store_mid rfl 78 _ _ rfl _ _ _ rfl rfl HT (by simpa using HZ.out) H1 ?_; rw [List.toList_toArray, HW1.out])
   | (refine wpList_load_mid rfl 76 _ rfl _ _ rfl _ _ R1 Try.underlying76 rfl HZ2.out ?_)
   | (go_at_call 43; refine (text_page _ _ HS.out).mono ?_; rintro e w' ⟨rfl, hf⟩))
  go_ret2
  exact ⟨rfl, F1.trans hf (by simp)⟩
