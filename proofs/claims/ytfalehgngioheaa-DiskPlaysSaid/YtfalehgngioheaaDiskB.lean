import Derived.Test.YtfalehgngioheaaDiskM
import Derived.Test.YtfalehgngioheaaChecked
set_option linter.unusedVariables false
namespace Go.Proofs.Ytfalehgngioheaa
open Go.RowKit Go.VB Go.VB.Disk
theorem Try.size_u8 : (Try.prog.info? 5).map (·.size) = some 1 := by kernel_rfl
theorem Try.size_halves : (Try.prog.info? 76).map (·.size) = some 512 := by kernel_rfl
theorem Try.zero_halves : Try.zeroCells76 = (zcells 512).toArray := by kernel_rfl
theorem rest_any (w : World) (x n : Int) (hn : 0 < n) (hn2 : n ≤ 1099511627776) : Calls Try.prog 18 #[.int .i64 x, .int .i64 n] w fun e w' => e = .returned (.int .i64 (x % n)) ∧ w = w' := by
  have h1 := Int.tmod_lt_of_pos x hn
  have h2 : -n < x.tmod n := Int.lt_tmod_of_pos x hn
  have h3 := tmod_fix x n hn
  go_enter Try.func18, Try.ntmps18
  go_wp2
  go_ret
  exact ⟨rfl, rfl⟩
set_option maxHeartbeats 400000 in
theorem cut_any (w : World) (s : List UInt8) (hs : s.length = 512) : Calls Try.prog 40 #[.string (bs s)] w fun e w' => e = .returned (.agg (bv s).toArray) ∧ Fr (fun _ => False) w w' := by
  have x1 : (bs s).extract 0 256 = bs (s.take 256) := by apply ByteArray.ext; simp [bs]
  have x2 : (bs s).extract 256 512 = bs (s.drop 256) := by apply ByteArray.ext; simp [bs]; rw [List.take_of_length_le (by simp; omega)]
  have x3 : (bs s).size = 512 := by rw [bs_size, hs]
  have X4 : Hid ((s.take 256).length = 256) := by show _ = _; simp; omega
  have X5 : Hid ((s.drop 256).length = 256) := by show _ = _; simp; omega
  have X6 : Hid (s.length = 512) := hs
  clear hs
  go_enter Try.func40, Try.ntmps40
  go_wp2
  generalize hW : (w.alloc (Obj.cells Try.zeroCells76 76)).alloc (Obj.cells Try.zeroCells76 76) = W
  have B1 : Blk W w.heap.size (zcells 512) 76 := by rw [← hW]; exact (Blk.new_of w _ Try.zero_halves).alloc _
  have B2 : Blk W (w.heap.size + 1) (zcells 512) 76 := by rw [← hW, ← World.size_alloc (w := w)]; exact Blk.new_of _ _ Try.zero_halves
  have F0 : Fr (fun _ => False) w W := by rw [← hW]; exact ((Fr.refl _ _).alloc _).alloc _
  clear hW
  have l1 : Hid ((bv (s.take 256)).length = 256) := by show _ = _; rw [bv_length, X4.out]
  have l2 : Hid ((bv (s.drop 256)).length = 256) := by show _ = _; rw [bv_length, X5.out]
  have HT := B2.there 0 256 (by rw [zcells_length]; omega)
  go_region_law (refine step_copy_string rfl (.tmp 6) (.tmp 9) 37 9 5 rfl Try.underlying37 Try.size_u8 rfl rfl X4.out HT ?_)
  have B3 := B2.drew.put 0 (bv (s.take 256)) (by rw [l1.out, zcells_length]; omega)
  have B4 := B1.drew.put_ne (w.heap.size + 1) 0 (bv (s.take 256)) (by omega)
  have F1 := F0.drew.put (w.heap.size + 1) 0 (bv (s.take 256)) (by intro h; omega)
  generalize W.drew.setCells (w.heap.size + 1) 0 (bv (s.take 256)) = W2 at *
  clear B2 B1 F0 HT
  have L3 : Hid (((zcells 512).take 0 ++ bv (s.take 256) ++ (zcells 512).drop (0 + (bv (s.take 256)).length)).length = 512) := by
    show _ = _; rw [List.length_append, List.length_append, List.length_take, List.length_drop, l1.out, zcells_length]; omega
  have HT := B3.there 256 256 (by rw [L3.out]; omega)
  go_wp2
  go_region_law (refine step_copy_string rfl (.tmp 12) (.tmp 15) 37 9 5 rfl Try.underlying37 Try.size_u8 rfl rfl X5.out HT ?_)
  have B5 := B3.drew.put 256 (bv (s.drop 256)) (by rw [L3.out, l2.out]; omega)
  have B6 := B4.drew.put_ne (w.heap.size + 1) 256 (bv (s.drop 256)) (by omega)
  have F2 := F1.drew.put (w.heap.size + 1) 256 (bv (s.drop 256)) (by intro h; omega)
  generalize W2.drew.setCells (w.heap.size + 1) 256 (bv (s.drop 256)) = W3 at *
  have e := put_two (zcells 512) (bv (s.take 256)) (bv (s.drop 256)) (by rw [zcells_length, l1.out, l2.out])
  rw [l1.out, l2.out, ← bv_append, List.take_append_drop] at e
  rw [l1.out, l2.out, e] at B5
  clear B3 B4 F1 HT e L3 l1 l2
  have R5 := B5.all
  have T6 := B6.there 0 512 (by rw [zcells_length]; omega)
  have HL : Hid ((bv s).length = 512) := by show _ = _; rw [bv_length, X6.out]
  have h1 := all_oneCell_toArray (bv_one s)
  go_wp2_with (first
    | (refine wpList_load_mid rfl 76 _ rfl _ 0 rfl _ _ R5 Try.underlying76 rfl (by rw [HL.out]; exact Try.size_halves) ?_)
    | (refine wpList_store_mid rfl 76 _ _ rfl w.heap.size 0 _ rfl rfl (by simpa [HL.out] using T6) (by simpa [HL.out] using Try.size_halves) h1 ?_))
  have B7 := B6.put 0 (bv s) (by rw [HL.out, zcells_length]; omega)
  refine bodyPost_ret (results_cell_mid rfl _ _ rfl (cs := bv s) (o := 0) (b := w.heap.size) ?_ Try.underlying76 rfl (by rw [HL.out]; exact Try.size_halves)) rfl ⟨rfl, F2.put _ _ _ (by intro h; omega)⟩
  simpa using B7.range [] (bv s) (List.drop (0 + (bv s).length) (zcells 512)) (by simp)
