/-
  DERIVED. GIVEN WITH THE SEED: THE PROGRAM's TIES (one call each: nine closed facts by the kernel) AND EACH ROW's TIE, after the 31st guide's Derived/Test/Toyas{Tie, Card}.lean. No idea stands in it: it is a product of the set-up. Laid BY PROGRAM, IN A SANDBOX (cutbox-door.mjs). By AI agents, Wed Nov 11 2026. No macro, syntax, notation, axiom, sorry.
-/
import Derived.Test.YtgkfdlpijefgkaaGreatDoorRows
import Derived.LaidByTextLater
import Derived.SevenTiedAt
import Derived.LaidSub
import Derived.LaidOnce
namespace Go.Proofs.YtgkfdlpijefgkaaGreatDoor
open Go
set_option maxRecDepth 100000
theorem seatTie1 : Tryz.prog.laidByTextLater [("unicode/utf8.acceptRanges", Rows.laid_unicode_utf8_acceptRanges), ("vintner/value.kinds", Rows.laid_vintner_value_kinds)] [.data, .funcs] true :=
  Program.laidByTextLater_by_one 24 8 33 (by kernel_rfl) (by kernel_rfl) (by kernel_rfl) (by kernel_rfl) (by kernel_rfl) (by kernel_rfl) (fun _ _ => by kernel_rfl)
theorem pin_laid_unicode_utf8_first : Tryz.pinned.checked.prog.pinnedFits "unicode/utf8.first" = true := by kernel_rfl
theorem noOwnUnsafe : Tryz.pinned.checked.prog.headLifts.contains "ownunsafe" = false := by kernel_rfl
theorem fits1 : Tryz.pinned.checked.prog.listedFits [("unicode/utf8.acceptRanges", Rows.laid_unicode_utf8_acceptRanges), ("vintner/value.kinds", Rows.laid_vintner_value_kinds), ("unicode/utf8.first", Rows.laid_unicode_utf8_first)] = true := by
  unfold Program.listedFits
  rw [noOwnUnsafe]
  kernel_rfl
theorem tie : Tryz.prog.laidByTextLater [("unicode/utf8.acceptRanges", Rows.laid_unicode_utf8_acceptRanges), ("vintner/value.kinds", Rows.laid_vintner_value_kinds)] [.data, .funcs] true :=
  Program.laidByTextLater.sub seatTie1 ["unicode/utf8.acceptRanges", "vintner/value.kinds"] (by kernel_rfl) (by kernel_rfl)
theorem catalogRows_row_tie : Rows.catalogRowsRow.laidByTextAt .later Tryz.pinned [.data, .funcs, .pinned] true :=
  OpenClaim.laidByTextAt_pinned rfl rfl tie rfl rfl rfl rfl (fun y hy _e => by
    simp only [Rows.catalogRowsRow, List.zip_cons_cons, List.zip_nil_right, List.mem_cons, List.mem_nil_iff, or_false] at hy
    rcases hy with rfl | rfl | rfl
    · cases _e
    · cases _e
    · exact ⟨pin_laid_unicode_utf8_first, by kernel_rfl⟩) fits1
theorem tie2 : Tryz.prog.laidByTextLater [("vintner/value.kinds", Rows.laid_vintner_value_kinds)] [.funcs] true :=
  Program.laidByTextLater.sub seatTie1 ["vintner/value.kinds"] (by kernel_rfl) (by kernel_rfl)
theorem catalogPlays_row_tie : Rows.catalogPlaysRow.laidByTextAt .later Tryz.pinned [.funcs] true :=
  OpenClaim.laidByTextAt_later rfl rfl tie2 noOwnUnsafe
theorem catalogReads_row_tie : Rows.catalogReadsRow.laidByTextAt .later Tryz.pinned [.funcs] true :=
  OpenClaim.laidByTextAt_later rfl rfl tie2 noOwnUnsafe
theorem catalogRowsUpto_row_tie : Rows.catalogRowsUptoRow.laidByTextAt .later Tryz.pinned [.data, .funcs, .pinned] true :=
  OpenClaim.laidByTextAt_pinned rfl rfl tie rfl rfl rfl rfl (fun y hy _e => by
    simp only [Rows.catalogRowsUptoRow, List.zip_cons_cons, List.zip_nil_right, List.mem_cons, List.mem_nil_iff, or_false] at hy
    rcases hy with rfl | rfl | rfl
    · cases _e
    · cases _e
    · exact ⟨pin_laid_unicode_utf8_first, by kernel_rfl⟩) fits1
theorem catalogPlaysUpto_row_tie : Rows.catalogPlaysUptoRow.laidByTextAt .later Tryz.pinned [.funcs] true :=
  OpenClaim.laidByTextAt_later rfl rfl tie2 noOwnUnsafe
theorem catalogReadsUpto_row_tie : Rows.catalogReadsUptoRow.laidByTextAt .later Tryz.pinned [.funcs] true :=
  OpenClaim.laidByTextAt_later rfl rfl tie2 noOwnUnsafe
end Go.Proofs.YtgkfdlpijefgkaaGreatDoor
