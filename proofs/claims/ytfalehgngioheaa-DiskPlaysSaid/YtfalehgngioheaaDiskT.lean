import Derived.Test.YtfalehgngioheaaDiskS
set_option linter.unusedVariables false
namespace Go.Proofs.Ytfalehgngioheaa
open Go.RowKit Go.VB Go.VB.Disk
theorem flatten_one {α : Type} (a : α) (n : Nat) : (List.replicate n [a]).flatten = List.replicate n a := by
  induction n with
  | zero => rfl
  | succ n ih => rw [List.replicate_succ, List.flatten_cons, ih, List.replicate_succ]; rfl
theorem run_make_u8 (w : World) (n : Nat) (hn : n ≤ 1048576) : (Instr.makeSlice 37 (.int .i64 n) (.int .i64 n)).run Try.prog w = .ok (.slice (some ⟨w.heap.size, 0, none⟩) n n) (w.alloc (.cells (zcells n).toArray 5)) := by
  have hi : (Try.prog.info? 5).map (fun i => (i.zero, i.size, i.bytes)) = some (some (.agg [Value.int .u8 0].toArray), 1, 1) ∨ (Try.prog.info? 5).map (fun i => (i.zero, i.size, i.bytes)) = some (some (.int .u8 0), 1, 1) := .inr (by kernel_rfl)
  rcases hi with hi | hi
  · exfalso; revert hi; rw [Try.info_u8]; intro h; cases h
  · obtain ⟨i, h0, h1, h2, h3⟩ := info_parts hi
    have := run_makeSlice w 37 5 i _ Try.underlying37 h0 h1 .i64 .i64 n n (by omega) (by omega) (by rw [h2, Int.toNat_natCast]; omega) (by rw [h3]; omega) (by omega)
    rw [this, h2, Int.toNat_natCast, Nat.mul_one]
    have e : madeCells (Value.int IntKind.u8 0).cells n = (zcells n).toArray := by
      apply Array.toList_inj.1
      rw [List.toList_toArray]
      exact toList_madeCells_one (.int .u8 0) n
    rw [e]
theorem Blank_go (w : World) : Calls Try.prog 15 #[] w fun e w' => e = .returned (.string (bs Disk.blank)) ∧ Fr (fun _ => False) w w' := by
  have hr := run_make_u8 w 512 (by omega)
  rw [show ((512 : Nat) : Int) = 512 from rfl] at hr
  have B := Blk.new w (zcells 512) 5
  have F1 := (Fr.refl (fun _ => False) w).alloc (.cells (zcells 512).toArray 5)
  generalize w.alloc (.cells (zcells 512).toArray 5) = w1 at *
  have R : w1.rangeAt w.heap.size 0 (bv Disk.blank) := by rw [bv_blank]; exact B.all
  have hbl : (512 : Nat) = Disk.blank.length := by unfold Disk.blank; rw [List.length_replicate]
  have hc := run_bytes_string (P := Try.prog) R (src := 37) (dst := 9) (e := 5) Try.underlying37 Try.underlying5 Try.underlying9 512 512 hbl
  clear R B hbl
  generalize bs Disk.blank = s at *
  have HR := hid hr
  have HF := hid F1
  clear hr F1
  go_enter Try.func15, Try.ntmps15
  go_wp2_with (refine wpList_makeSlice rfl (t := 37) (lo := .const (.int .i64 512)) (co := .const (.int .i64 512)) rfl (v := .slice (some ⟨w.heap.size, 0, none⟩) 512 512) (w' := w1) (by exact HR.out) ?_)
  go_ret
  exact ⟨rfl, HF.out⟩
