import Derived.Test.YtfhkmiifndhacaaDoorBld
import Derived.Test.YtfhkmiifndhacaaDoorOctB
import Derived.Test.YtfhkmiifndhacaaDoorShelf
/- What a builder says; strings put together. -/
set_option linter.unusedVariables false
namespace Go.Proofs.YtfhkmiifndhacaaDoor
open Go.RowKit Go.VB
theorem fr_below {w0 w w' : World} (f : Fr (fun _ => False) w0 w) (h : Below w0.heap.size w w') : Fr (fun _ => False) w0 w' :=
  f.trans (S := fun _ => False) (T := fun k => w0.heap.size ≤ k) ⟨h.os, h.tape, h.output, h.size, fun k _ hn => h.block k (by omega)⟩ (fun k hk hl => by omega)
theorem String_go {B : Nat} {w : World} {b : Nat} {l : List UInt8} {v : Value} (h : Bld B w b l v) (hB : B ≤ w.heap.size) (hb : B ≤ b) : Calls Tryd.prog 38 #[.pointer (some ⟨b, 0, none⟩)] w fun e w' => e = .returned (.string (bs l)) ∧ Below B w w' := by
  have own : w.ownsRow B 5 1 v (Lib.byteCells l).length (Lib.byteCells l) := by
    have h1 := h.row.own
    rw [Lib.byteCells_length]
    refine ⟨h1.1, ?_⟩
    rcases h1.2 with h2 | ⟨g, cap, cur, h2, h3, h4⟩
    · exact .inl h2
    · exact .inr ⟨g, cap, cur, h2, h.row.new g (by rw [h2]; rfl), h4⟩
  have hne : v.ownBlock ≠ some b := fun e => h.ne b e rfl
  refine Tryd.Builder_String_any B b l w ?_ hB
  rcases h.blk with h1 | h1
  · exact .inl ⟨hb, v, h1, own, hne⟩
  · exact .inr ⟨hb, v, h1, own, hne⟩
theorem bs_list (xs : List (List UInt8)) : (xs.map bs).map (fun x => x.data.toList) = xs := by
  rw [List.map_map]
  exact (List.map_congr_left (fun x _ => rfl)).trans (List.map_id _)
theorem join_flat (xs : List (List UInt8)) : Lib.join xs [] = xs.flatten := by
  unfold Lib.join
  induction xs with
  | nil => rfl
  | cons x xs ih =>
    cases xs with
    | nil => simp [List.intercalate]
    | cons y ys => simp only [List.intercalate, List.intersperse, List.flatten_cons] at ih ⊢; simpa using ih
/-- record.all of strings that lie in a block -/
theorem all_go (g : Nat) (xs : List (List UInt8)) (w : World) (h : Blk w g (xs.map fun x => .string (bs x)) 9) (hn : xs.length ≤ 1000) (hl : xs.flatten.length ≤ 1099511627776) :
    Calls Tryd.prog 25 #[.slice (some ⟨g, 0, none⟩) xs.length xs.length] w fun e w' => e = .returned (.string (bs xs.flatten)) ∧ Fr (fun _ => False) w w' := by
  have HJ := hid (Tryd.strings_Join g 0 xs.length (xs.map bs) .empty w (fun j x hx => by
    rw [Nat.zero_add, h.cell]
    rw [List.getElem?_map] at hx ⊢
    cases hh : xs[j]? with
    | none => rw [hh] at hx; cases hx
    | some y => rw [hh] at hx; cases hx; rfl) (Blk.lt h) (by simp; omega) (by simp) (by rw [bs_list]; exact (show (Lib.join xs []).length ≤ _ by rw [join_flat]; omega)))
  rw [bs_list, List.length_map, show ByteArray.empty.data.toList = [] from rfl, join_flat] at HJ
  clear h
  go_enter Tryd.func25, Tryd.ntmps25
  go_wp2_with (go_at_call 58; refine HJ.out.mono ?_; rintro e w' ⟨rfl, f⟩)
  go_ret
  exact ⟨rfl, Fr.of_below f⟩
theorem one_go (n : Nat) (hn : n < 9223372036854775808) (w : World) : Calls Tryd.prog 26 #[.int .i64 n] w fun e w' => e = .returned (.string (bs (Oct.be 1 n))) ∧ Fr (fun _ => False) w w' := by
  have HP := hid (Put_go n 1 hn (by omega) (by omega) w)
  go_enter Tryd.func26, Tryd.ntmps26
  go_wp2_with (go_at_call 42; refine HP.out.mono ?_; rintro e w' ⟨rfl, f⟩)
  go_ret
  exact ⟨rfl, f⟩
theorem two_go (n : Nat) (hn : n < 9223372036854775808) (w : World) : Calls Tryd.prog 27 #[.int .i64 n] w fun e w' => e = .returned (.string (bs (Oct.be 2 n))) ∧ Fr (fun _ => False) w w' := by
  have HP := hid (Put_go n 2 hn (by omega) (by omega) w)
  go_enter Tryd.func27, Tryd.ntmps27
  go_wp2_with (go_at_call 42; refine HP.out.mono ?_; rintro e w' ⟨rfl, f⟩)
  go_ret
  exact ⟨rfl, f⟩
end Go.Proofs.YtfhkmiifndhacaaDoor
