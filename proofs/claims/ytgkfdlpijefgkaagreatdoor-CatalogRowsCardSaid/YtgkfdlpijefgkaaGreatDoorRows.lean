/-
  NARROWER THAN 'FOR EVERY INPUT', by the rows' own cells (each row's printed sentence says how): CatalogRows: laid · CatalogPlays: laid · CatalogReads: laid.
  DERIVED. THE GIVEN ROWS OF THIS SEAT. 3 by the template 'for every input the law returns true; each argument reads behind the call as it read before'; 0 by the template 'total and deterministic' (their statements: YtgkfdlpijefgkaaGreatDoorTotals.lean).
  GIVEN WITH THE SEED: the statements are not yours to turn. If you find one false, say at which input.
  Laid BY PROGRAM, IN A SANDBOX (cutbox-rows.mjs): the forced cells as the released guide's own fill.sh prints them over the translation 580819e73e27175d… (all of the seat's roots in one cut). By AI agents, Wed Nov 11 2026. No macro, syntax, notation, axiom, sorry.
-/
import Derived.Test.YtgkfdlpijefgkaaGreatDoorChecked
import GoSem.PinnedTables
import GoSem.Claim
import GoSem.ClaimJoined
import GoSem.ClaimMapViews
import Derived.JoinedTies
import Derived.KernelRfl
namespace Go.Proofs.YtgkfdlpijefgkaaGreatDoor
/- THE CELL 'sum', in the pinned program and in every row, IS THE sha256 OF THE DUMP (.gsa) THAT YtgkfdlpijefgkaaGreatDoorProg.lean LOADS. Nothing in Lean hashes anything: it is a label: what it is worth is what the hold of that sum in a sandbox is worth. -/
noncomputable def Tryz.pinned : Pinned := { name := "ytgkfdlpijefgkaagreatdoor", sum := "580819e73e27175df5e0fe88c8ea23cb0045d6174eda6747100a1190daa52479", checked := Tryz.checked }
namespace Rows
def none {H : Type} : Left H := { results := [], args := [] }

/- WHAT THE LISTED PACKAGE-LEVEL VARIABLES READ AS WHEN THE CALL BEGINS. Each datum BY PROGRAM (the guide's laid-datum.mjs) off the statement by which the dump's own 'gosem.cut.vars' lays the variable. In a bare row this is a premise. The card (YtgkfdlpijefgkaaGreatDoorCards.lean) ties it to the program's text. -/
def laid_unicode_utf8_acceptRanges {H : Type} : DataW H := .agg [.agg [.lit (.int .u8 128), .lit (.int .u8 191)], .agg [.lit (.int .u8 160), .lit (.int .u8 191)], .agg [.lit (.int .u8 128), .lit (.int .u8 159)], .agg [.lit (.int .u8 144), .lit (.int .u8 191)], .agg [.lit (.int .u8 128), .lit (.int .u8 143)], .agg [.lit (.int .u8 0), .lit (.int .u8 0)], .agg [.lit (.int .u8 0), .lit (.int .u8 0)], .agg [.lit (.int .u8 0), .lit (.int .u8 0)], .agg [.lit (.int .u8 0), .lit (.int .u8 0)], .agg [.lit (.int .u8 0), .lit (.int .u8 0)], .agg [.lit (.int .u8 0), .lit (.int .u8 0)], .agg [.lit (.int .u8 0), .lit (.int .u8 0)], .agg [.lit (.int .u8 0), .lit (.int .u8 0)], .agg [.lit (.int .u8 0), .lit (.int .u8 0)], .agg [.lit (.int .u8 0), .lit (.int .u8 0)], .agg [.lit (.int .u8 0), .lit (.int .u8 0)]]
def laid_vintner_value_kinds {H : Type} : DataW H := .iface "func table" (.agg [.iface "func" (.lit (.string [118, 105, 110, 116, 110, 101, 114, 47, 118, 97, 108, 117, 101, 46, 107, 105, 110, 100, 115, 36, 49])), .iface "func" (.lit (.string [118, 105, 110, 116, 110, 101, 114, 47, 118, 97, 108, 117, 101, 46, 107, 105, 110, 100, 115, 36, 50])), .iface "func" (.lit (.string [118, 105, 110, 116, 110, 101, 114, 47, 118, 97, 108, 117, 101, 46, 107, 105, 110, 100, 115, 36, 51]))])
/-- One of Go's own tables, pinned by name: the form's constant. -/
def laid_unicode_utf8_first : DataW Unit := Go.Pinned.utf8First

/-- 'vintnerlaw14.CatalogRows': WHATEVER THE INPUT: true; the input reads as it did. -/
def catalogRowsSpec : ChangeSpec := { name := "catalogRows", fn := fun _ => fun
  | [d1, d2, d3] => { results := [.lit (.bool true)], args := [d1, d2, d3] }
  | _ => none }
def catalogRowsRow : OpenClaim := { program := "ytgkfdlpijefgkaagreatdoor", sum := "580819e73e27175df5e0fe88c8ea23cb0045d6174eda6747100a1190daa52479", func := "vintner/vintnerlaw14.CatalogRows", spec := "catalogRows", inPlace := ["internal/abi.NoEscape", "internal/bytealg.CountString", "internal/bytealg.IndexByteString", "internal/bytealg.IndexString", "internal/bytealg.MakeNoZero"], unfollowed := true, recurses := true, named := ["vintner/value.kinds", "internal/bytealg.MaxLen", "unicode/utf8.first", "unicode/utf8.acceptRanges"], apart := false, laid := [("unicode/utf8.acceptRanges", laid_unicode_utf8_acceptRanges), ("vintner/value.kinds", laid_vintner_value_kinds), ("unicode/utf8.first", laid_unicode_utf8_first)] }
def CatalogRowsSaid : Prop := catalogRowsRow.holds Tryz.pinned (OpenSpec.ofChange catalogRowsSpec)

/-- ITS FALSE NEIGHBOUR: 'it returns false'. Refute it at one input. -/
def catalogRowsWrong : ChangeSpec := { name := "catalogRows", fn := fun _ => fun
  | [d1, d2, d3] => { results := [.lit (.bool false)], args := [d1, d2, d3] }
  | _ => none }
def CatalogRowsWrongFalsely : Prop := catalogRowsRow.holds Tryz.pinned (OpenSpec.ofChange catalogRowsWrong)

/-- 'vintnerlaw14.CatalogPlays': WHATEVER THE INPUT: true; the input reads as it did. -/
def catalogPlaysSpec : ChangeSpec := { name := "catalogPlays", fn := fun _ => fun
  | [d1, d2] => { results := [.lit (.bool true)], args := [d1, d2] }
  | _ => none }
def catalogPlaysRow : OpenClaim := { program := "ytgkfdlpijefgkaagreatdoor", sum := "580819e73e27175df5e0fe88c8ea23cb0045d6174eda6747100a1190daa52479", func := "vintner/vintnerlaw14.CatalogPlays", spec := "catalogPlays", inPlace := ["internal/abi.NoEscape"], unfollowed := true, recurses := true, named := ["vintner/value.kinds"], apart := false, laid := [("vintner/value.kinds", laid_vintner_value_kinds)] }
def CatalogPlaysSaid : Prop := catalogPlaysRow.holds Tryz.pinned (OpenSpec.ofChange catalogPlaysSpec)

/-- ITS FALSE NEIGHBOUR: 'it returns false'. Refute it at one input. -/
def catalogPlaysWrong : ChangeSpec := { name := "catalogPlays", fn := fun _ => fun
  | [d1, d2] => { results := [.lit (.bool false)], args := [d1, d2] }
  | _ => none }
def CatalogPlaysWrongFalsely : Prop := catalogPlaysRow.holds Tryz.pinned (OpenSpec.ofChange catalogPlaysWrong)

/-- 'vintnerlaw14.CatalogReads': WHATEVER THE INPUT: true; the input reads as it did. -/
def catalogReadsSpec : ChangeSpec := { name := "catalogReads", fn := fun _ => fun
  | [d1, d2, d3] => { results := [.lit (.bool true)], args := [d1, d2, d3] }
  | _ => none }
def catalogReadsRow : OpenClaim := { program := "ytgkfdlpijefgkaagreatdoor", sum := "580819e73e27175df5e0fe88c8ea23cb0045d6174eda6747100a1190daa52479", func := "vintner/vintnerlaw14.CatalogReads", spec := "catalogReads", inPlace := ["internal/abi.NoEscape"], unfollowed := true, recurses := true, named := ["vintner/value.kinds"], apart := false, laid := [("vintner/value.kinds", laid_vintner_value_kinds)] }
def CatalogReadsSaid : Prop := catalogReadsRow.holds Tryz.pinned (OpenSpec.ofChange catalogReadsSpec)

/-- ITS FALSE NEIGHBOUR: 'it returns false'. Refute it at one input. -/
def catalogReadsWrong : ChangeSpec := { name := "catalogReads", fn := fun _ => fun
  | [d1, d2, d3] => { results := [.lit (.bool false)], args := [d1, d2, d3] }
  | _ => none }
def CatalogReadsWrongFalsely : Prop := catalogReadsRow.holds Tryz.pinned (OpenSpec.ofChange catalogReadsWrong)

/- THE SECOND FORM. 'bulk': how many values and letters a reading holds, each counted each time it is reached (what is shared counts as often as it is met; a slice's spare places count too). A statement '..UptoSaid' is the law's where the arguments, and the package variables that the reading takes, are together of bulk at most 1048576: NARROWER than '..Said'. Prove '..Said' where nothing that the law and all that it calls make is longer than what came in: it says more and counts as full. Else prove '..UptoSaid'. A law counts once. -/
mutual
def uptoBulk {H : Type} : DataW H → Nat
  | .lit (.string bytes) => bytes.length + 1
  | .lit _ => 1
  | .nil => 1
  | .ptr d => uptoBulk d + 1
  | .slice elems spare => uptoBulkAll elems + uptoBulkAll spare + 1
  | .agg parts => uptoBulkAll parts + 1
  | .iface _ d => uptoBulk d + 1
  | .map entries => uptoBulkEntries entries + 1
  | .held _ => 1
def uptoBulkAll {H : Type} : List (DataW H) → Nat
  | [] => 0
  | d :: r => uptoBulk d + uptoBulkAll r
def uptoBulkEntries {H : Type} : List (Lit × DataW H) → Nat
  | [] => 0
  | x :: r => uptoBulkEntry x + uptoBulkEntries r
def uptoBulkEntry {H : Type} : Lit × DataW H → Nat
  | (.string bytes, d) => bytes.length + uptoBulk d + 1
  | (_, d) => uptoBulk d + 1
 end
def uptoSmall : (H : Type) → List (DataW H) → Bool := fun _ ds => decide (uptoBulkAll ds ≤ 1048576)
def OpenSpec.upto (s : _root_.Go.ChangeSpec) : _root_.Go.OpenSpec := { _root_.Go.OpenSpec.ofChange s with cond := some uptoSmall }

/-- 'vintnerlaw14.CatalogRows', WHERE WHAT IT READS IS OF BULK AT MOST 1048576: true; the input reads as it did. -/
def catalogRowsUptoRow : OpenClaim := { program := "ytgkfdlpijefgkaagreatdoor", sum := "580819e73e27175df5e0fe88c8ea23cb0045d6174eda6747100a1190daa52479", func := "vintner/vintnerlaw14.CatalogRows", spec := "catalogRows", inPlace := ["internal/abi.NoEscape", "internal/bytealg.CountString", "internal/bytealg.IndexByteString", "internal/bytealg.IndexString", "internal/bytealg.MakeNoZero"], unfollowed := true, recurses := true, named := ["vintner/value.kinds", "internal/bytealg.MaxLen", "unicode/utf8.first", "unicode/utf8.acceptRanges"], apart := false, laid := [("unicode/utf8.acceptRanges", laid_unicode_utf8_acceptRanges), ("vintner/value.kinds", laid_vintner_value_kinds), ("unicode/utf8.first", laid_unicode_utf8_first)], narrowed := true }
def CatalogRowsUptoSaid : Prop := catalogRowsUptoRow.holds Tryz.pinned (OpenSpec.upto catalogRowsSpec)

/-- 'vintnerlaw14.CatalogPlays', WHERE WHAT IT READS IS OF BULK AT MOST 1048576: true; the input reads as it did. -/
def catalogPlaysUptoRow : OpenClaim := { program := "ytgkfdlpijefgkaagreatdoor", sum := "580819e73e27175df5e0fe88c8ea23cb0045d6174eda6747100a1190daa52479", func := "vintner/vintnerlaw14.CatalogPlays", spec := "catalogPlays", inPlace := ["internal/abi.NoEscape"], unfollowed := true, recurses := true, named := ["vintner/value.kinds"], apart := false, laid := [("vintner/value.kinds", laid_vintner_value_kinds)], narrowed := true }
def CatalogPlaysUptoSaid : Prop := catalogPlaysUptoRow.holds Tryz.pinned (OpenSpec.upto catalogPlaysSpec)

/-- 'vintnerlaw14.CatalogReads', WHERE WHAT IT READS IS OF BULK AT MOST 1048576: true; the input reads as it did. -/
def catalogReadsUptoRow : OpenClaim := { program := "ytgkfdlpijefgkaagreatdoor", sum := "580819e73e27175df5e0fe88c8ea23cb0045d6174eda6747100a1190daa52479", func := "vintner/vintnerlaw14.CatalogReads", spec := "catalogReads", inPlace := ["internal/abi.NoEscape"], unfollowed := true, recurses := true, named := ["vintner/value.kinds"], apart := false, laid := [("vintner/value.kinds", laid_vintner_value_kinds)], narrowed := true }
def CatalogReadsUptoSaid : Prop := catalogReadsUptoRow.holds Tryz.pinned (OpenSpec.upto catalogReadsSpec)

end Rows
end Go.Proofs.YtgkfdlpijefgkaaGreatDoor
