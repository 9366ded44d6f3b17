/-
  No cell of these rows narrows 'for every input' (looked for: loops, veiled, ifaces, maps, wideKeys, modest, calm, conditions, laid).
  DERIVED. THE GIVEN ROWS OF THIS SEAT. 9 by the template 'for every input the law returns true; each argument reads behind the call as it read before'; 0 by the template 'total and deterministic' (their statements: YtfhkmiifndhacaaTotals.lean).
  GIVEN WITH THE SEED: the statements are not yours to turn. If you find one false, say at which input.
  Laid BY PROGRAM, IN A SANDBOX (cutbox-rows.mjs): the forced cells as the released guide's own fill.sh prints them over the translation 5ae93f9a85e266dd… (all of the seat's roots in one cut). By AI agents, Wed Nov 11 2026. No macro, syntax, notation, axiom, sorry.
-/
import Derived.Test.YtfhkmiifndhacaaChecked
import GoSem.Claim
import GoSem.ClaimJoined
import GoSem.ClaimMapViews
import Derived.JoinedTies
import Derived.KernelRfl
namespace Go.Proofs.Ytfhkmiifndhacaa
/- THE CELL 'sum', in the pinned program and in every row, IS THE sha256 OF THE DUMP (.gsa) THAT YtfhkmiifndhacaaProg.lean LOADS. Nothing in Lean hashes anything: it is a label: what it is worth is what the hold of that sum in a sandbox is worth. -/
noncomputable def Try.pinned : Pinned := { name := "ytfhkmiifndhacaa", sum := "5ae93f9a85e266dde2b141b243aa152e9436d284a93d5abf8f364c301a067a0d", checked := Try.checked }
namespace Rows
def none {H : Type} : Left H := { results := [], args := [] }

/-- 'vintnerlaw04.RecordBytes': WHATEVER THE INPUT: true; the input reads as it did. -/
def recordBytesSpec : ChangeSpec := { name := "recordBytes", fn := fun _ => fun
  | [d1, d2] => { results := [.lit (.bool true)], args := [d1, d2] }
  | _ => none }
def recordBytesRow : OpenClaim := { program := "ytfhkmiifndhacaa", sum := "5ae93f9a85e266dde2b141b243aa152e9436d284a93d5abf8f364c301a067a0d", func := "vintner/vintnerlaw04.RecordBytes", spec := "recordBytes", inPlace := ["internal/abi.NoEscape", "internal/bytealg.MakeNoZero"], unfollowed := true, recurses := true, apart := false }
def RecordBytesSaid : Prop := recordBytesRow.holds Try.pinned (OpenSpec.ofChange recordBytesSpec)

/-- ITS FALSE NEIGHBOUR: 'it returns false'. Refute it at one input. -/
def recordBytesWrong : ChangeSpec := { name := "recordBytes", fn := fun _ => fun
  | [d1, d2] => { results := [.lit (.bool false)], args := [d1, d2] }
  | _ => none }
def RecordBytesWrongFalsely : Prop := recordBytesRow.holds Try.pinned (OpenSpec.ofChange recordBytesWrong)

/-- 'vintnerlaw04.RecordReads': WHATEVER THE INPUT: true; the input reads as it did. -/
def recordReadsSpec : ChangeSpec := { name := "recordReads", fn := fun _ => fun
  | [d1, d2, d3] => { results := [.lit (.bool true)], args := [d1, d2, d3] }
  | _ => none }
def recordReadsRow : OpenClaim := { program := "ytfhkmiifndhacaa", sum := "5ae93f9a85e266dde2b141b243aa152e9436d284a93d5abf8f364c301a067a0d", func := "vintner/vintnerlaw04.RecordReads", spec := "recordReads", inPlace := ["internal/abi.NoEscape", "internal/bytealg.MakeNoZero"], unfollowed := true, recurses := true, apart := false }
def RecordReadsSaid : Prop := recordReadsRow.holds Try.pinned (OpenSpec.ofChange recordReadsSpec)

/-- ITS FALSE NEIGHBOUR: 'it returns false'. Refute it at one input. -/
def recordReadsWrong : ChangeSpec := { name := "recordReads", fn := fun _ => fun
  | [d1, d2, d3] => { results := [.lit (.bool false)], args := [d1, d2, d3] }
  | _ => none }
def RecordReadsWrongFalsely : Prop := recordReadsRow.holds Try.pinned (OpenSpec.ofChange recordReadsWrong)

/-- 'vintnerlaw04.RecordBack': WHATEVER THE INPUT: true; the input reads as it did. -/
def recordBackSpec : ChangeSpec := { name := "recordBack", fn := fun _ => fun
  | [d1, d2, d3] => { results := [.lit (.bool true)], args := [d1, d2, d3] }
  | _ => none }
def recordBackRow : OpenClaim := { program := "ytfhkmiifndhacaa", sum := "5ae93f9a85e266dde2b141b243aa152e9436d284a93d5abf8f364c301a067a0d", func := "vintner/vintnerlaw04.RecordBack", spec := "recordBack", inPlace := ["internal/abi.NoEscape", "internal/bytealg.MakeNoZero"], unfollowed := true, recurses := true, apart := false }
def RecordBackSaid : Prop := recordBackRow.holds Try.pinned (OpenSpec.ofChange recordBackSpec)

/-- ITS FALSE NEIGHBOUR: 'it returns false'. Refute it at one input. -/
def recordBackWrong : ChangeSpec := { name := "recordBack", fn := fun _ => fun
  | [d1, d2, d3] => { results := [.lit (.bool false)], args := [d1, d2, d3] }
  | _ => none }
def RecordBackWrongFalsely : Prop := recordBackRow.holds Try.pinned (OpenSpec.ofChange recordBackWrong)

/-- 'vintnerlaw04.RecordScans': WHATEVER THE INPUT: true; the input reads as it did. -/
def recordScansSpec : ChangeSpec := { name := "recordScans", fn := fun _ => fun
  | [d1, d2, d3] => { results := [.lit (.bool true)], args := [d1, d2, d3] }
  | _ => none }
def recordScansRow : OpenClaim := { program := "ytfhkmiifndhacaa", sum := "5ae93f9a85e266dde2b141b243aa152e9436d284a93d5abf8f364c301a067a0d", func := "vintner/vintnerlaw04.RecordScans", spec := "recordScans", inPlace := ["internal/abi.NoEscape", "internal/bytealg.MakeNoZero"], unfollowed := true, recurses := true, apart := false }
def RecordScansSaid : Prop := recordScansRow.holds Try.pinned (OpenSpec.ofChange recordScansSpec)

/-- ITS FALSE NEIGHBOUR: 'it returns false'. Refute it at one input. -/
def recordScansWrong : ChangeSpec := { name := "recordScans", fn := fun _ => fun
  | [d1, d2, d3] => { results := [.lit (.bool false)], args := [d1, d2, d3] }
  | _ => none }
def RecordScansWrongFalsely : Prop := recordScansRow.holds Try.pinned (OpenSpec.ofChange recordScansWrong)

/-- 'vintnerlaw04.RecordPrefix': WHATEVER THE INPUT: true; the input reads as it did. -/
def recordPrefixSpec : ChangeSpec := { name := "recordPrefix", fn := fun _ => fun
  | [d1, d2] => { results := [.lit (.bool true)], args := [d1, d2] }
  | _ => none }
def recordPrefixRow : OpenClaim := { program := "ytfhkmiifndhacaa", sum := "5ae93f9a85e266dde2b141b243aa152e9436d284a93d5abf8f364c301a067a0d", func := "vintner/vintnerlaw04.RecordPrefix", spec := "recordPrefix", inPlace := ["internal/abi.NoEscape", "internal/bytealg.MakeNoZero"], unfollowed := true, recurses := true, apart := false }
def RecordPrefixSaid : Prop := recordPrefixRow.holds Try.pinned (OpenSpec.ofChange recordPrefixSpec)

/-- ITS FALSE NEIGHBOUR: 'it returns false'. Refute it at one input. -/
def recordPrefixWrong : ChangeSpec := { name := "recordPrefix", fn := fun _ => fun
  | [d1, d2] => { results := [.lit (.bool false)], args := [d1, d2] }
  | _ => none }
def RecordPrefixWrongFalsely : Prop := recordPrefixRow.holds Try.pinned (OpenSpec.ofChange recordPrefixWrong)

/-- 'vintnerlaw04.RecordSame': WHATEVER THE INPUT: true; the input reads as it did. -/
def recordSameSpec : ChangeSpec := { name := "recordSame", fn := fun _ => fun
  | [d1, d2, d3] => { results := [.lit (.bool true)], args := [d1, d2, d3] }
  | _ => none }
def recordSameRow : OpenClaim := { program := "ytfhkmiifndhacaa", sum := "5ae93f9a85e266dde2b141b243aa152e9436d284a93d5abf8f364c301a067a0d", func := "vintner/vintnerlaw04.RecordSame", spec := "recordSame", inPlace := ["internal/abi.NoEscape", "internal/bytealg.MakeNoZero"], unfollowed := true, recurses := true, apart := false }
def RecordSameSaid : Prop := recordSameRow.holds Try.pinned (OpenSpec.ofChange recordSameSpec)

/-- ITS FALSE NEIGHBOUR: 'it returns false'. Refute it at one input. -/
def recordSameWrong : ChangeSpec := { name := "recordSame", fn := fun _ => fun
  | [d1, d2, d3] => { results := [.lit (.bool false)], args := [d1, d2, d3] }
  | _ => none }
def RecordSameWrongFalsely : Prop := recordSameRow.holds Try.pinned (OpenSpec.ofChange recordSameWrong)

/-- 'vintnerlaw04.RecordTorn': WHATEVER THE INPUT: true; the input reads as it did. -/
def recordTornSpec : ChangeSpec := { name := "recordTorn", fn := fun _ => fun
  | [d1, d2, d3] => { results := [.lit (.bool true)], args := [d1, d2, d3] }
  | _ => none }
def recordTornRow : OpenClaim := { program := "ytfhkmiifndhacaa", sum := "5ae93f9a85e266dde2b141b243aa152e9436d284a93d5abf8f364c301a067a0d", func := "vintner/vintnerlaw04.RecordTorn", spec := "recordTorn", inPlace := ["internal/abi.NoEscape", "internal/bytealg.MakeNoZero"], unfollowed := true, recurses := true, apart := false }
def RecordTornSaid : Prop := recordTornRow.holds Try.pinned (OpenSpec.ofChange recordTornSpec)

/-- ITS FALSE NEIGHBOUR: 'it returns false'. Refute it at one input. -/
def recordTornWrong : ChangeSpec := { name := "recordTorn", fn := fun _ => fun
  | [d1, d2, d3] => { results := [.lit (.bool false)], args := [d1, d2, d3] }
  | _ => none }
def RecordTornWrongFalsely : Prop := recordTornRow.holds Try.pinned (OpenSpec.ofChange recordTornWrong)

/-- 'vintnerlaw04.RecordMay': WHATEVER THE INPUT: true; the input reads as it did. -/
def recordMaySpec : ChangeSpec := { name := "recordMay", fn := fun _ => fun
  | [d1, d2] => { results := [.lit (.bool true)], args := [d1, d2] }
  | _ => none }
def recordMayRow : OpenClaim := { program := "ytfhkmiifndhacaa", sum := "5ae93f9a85e266dde2b141b243aa152e9436d284a93d5abf8f364c301a067a0d", func := "vintner/vintnerlaw04.RecordMay", spec := "recordMay", inPlace := ["internal/abi.NoEscape", "internal/bytealg.MakeNoZero"], unfollowed := true, recurses := true, apart := false }
def RecordMaySaid : Prop := recordMayRow.holds Try.pinned (OpenSpec.ofChange recordMaySpec)

/-- ITS FALSE NEIGHBOUR: 'it returns false'. Refute it at one input. -/
def recordMayWrong : ChangeSpec := { name := "recordMay", fn := fun _ => fun
  | [d1, d2] => { results := [.lit (.bool false)], args := [d1, d2] }
  | _ => none }
def RecordMayWrongFalsely : Prop := recordMayRow.holds Try.pinned (OpenSpec.ofChange recordMayWrong)

/-- 'vintnerlaw04.RecordFlips': WHATEVER THE INPUT: true; the input reads as it did. -/
def recordFlipsSpec : ChangeSpec := { name := "recordFlips", fn := fun _ => fun
  | [d1, d2, d3] => { results := [.lit (.bool true)], args := [d1, d2, d3] }
  | _ => none }
def recordFlipsRow : OpenClaim := { program := "ytfhkmiifndhacaa", sum := "5ae93f9a85e266dde2b141b243aa152e9436d284a93d5abf8f364c301a067a0d", func := "vintner/vintnerlaw04.RecordFlips", spec := "recordFlips", inPlace := ["internal/abi.NoEscape", "internal/bytealg.MakeNoZero"], unfollowed := true, recurses := true, apart := false }
def RecordFlipsSaid : Prop := recordFlipsRow.holds Try.pinned (OpenSpec.ofChange recordFlipsSpec)

/-- ITS FALSE NEIGHBOUR: 'it returns false'. Refute it at one input. -/
def recordFlipsWrong : ChangeSpec := { name := "recordFlips", fn := fun _ => fun
  | [d1, d2, d3] => { results := [.lit (.bool false)], args := [d1, d2, d3] }
  | _ => none }
def RecordFlipsWrongFalsely : Prop := recordFlipsRow.holds Try.pinned (OpenSpec.ofChange recordFlipsWrong)

/- THE SECOND FORM. 'bulk': how many values and letters a reading holds, each counted each time it is reached (what is shared counts as often as it is met; a slice's spare places count too). A statement '..UptoSaid' is the law's where the arguments, and the package variables that the reading takes, are together of bulk at most 1048576: NARROWER than '..Said'. Prove '..Said' where nothing that the law and all that it calls make is longer than what came in: it says more and counts as full. Else prove '..UptoSaid'. A law counts once. -/
mutual
def uptoBulk {H : Type} : DataW H → Nat
  | .lit (.string bytes) => bytes.length + 1
  | .lit _ => 1
  | .nil => 1
  | .ptr d => uptoBulk d + 1
  | .slice elems spare => uptoBulkAll elems + uptoBulkAll spare + 1
  | .agg parts => uptoBulkAll parts + 1
  | .iface _ d => uptoBulk d + 1
  | .map entries => uptoBulkEntries entries + 1
  | .held _ => 1
def uptoBulkAll {H : Type} : List (DataW H) → Nat
  | [] => 0
  | d :: r => uptoBulk d + uptoBulkAll r
def uptoBulkEntries {H : Type} : List (Lit × DataW H) → Nat
  | [] => 0
  | x :: r => uptoBulkEntry x + uptoBulkEntries r
def uptoBulkEntry {H : Type} : Lit × DataW H → Nat
  | (.string bytes, d) => bytes.length + uptoBulk d + 1
  | (_, d) => uptoBulk d + 1
 end
def uptoSmall : (H : Type) → List (DataW H) → Bool := fun _ ds => decide (uptoBulkAll ds ≤ 1048576)
def OpenSpec.upto (s : _root_.Go.ChangeSpec) : _root_.Go.OpenSpec := { _root_.Go.OpenSpec.ofChange s with cond := some uptoSmall }

/-- 'vintnerlaw04.RecordBytes', WHERE WHAT IT READS IS OF BULK AT MOST 1048576: true; the input reads as it did. -/
def recordBytesUptoRow : OpenClaim := { program := "ytfhkmiifndhacaa", sum := "5ae93f9a85e266dde2b141b243aa152e9436d284a93d5abf8f364c301a067a0d", func := "vintner/vintnerlaw04.RecordBytes", spec := "recordBytes", inPlace := ["internal/abi.NoEscape", "internal/bytealg.MakeNoZero"], unfollowed := true, recurses := true, apart := false, narrowed := true }
def RecordBytesUptoSaid : Prop := recordBytesUptoRow.holds Try.pinned (OpenSpec.upto recordBytesSpec)

/-- 'vintnerlaw04.RecordReads', WHERE WHAT IT READS IS OF BULK AT MOST 1048576: true; the input reads as it did. -/
def recordReadsUptoRow : OpenClaim := { program := "ytfhkmiifndhacaa", sum := "5ae93f9a85e266dde2b141b243aa152e9436d284a93d5abf8f364c301a067a0d", func := "vintner/vintnerlaw04.RecordReads", spec := "recordReads", inPlace := ["internal/abi.NoEscape", "internal/bytealg.MakeNoZero"], unfollowed := true, recurses := true, apart := false, narrowed := true }
def RecordReadsUptoSaid : Prop := recordReadsUptoRow.holds Try.pinned (OpenSpec.upto recordReadsSpec)

/-- 'vintnerlaw04.RecordBack', WHERE WHAT IT READS IS OF BULK AT MOST 1048576: true; the input reads as it did. -/
def recordBackUptoRow : OpenClaim := { program := "ytfhkmiifndhacaa", sum := "5ae93f9a85e266dde2b141b243aa152e9436d284a93d5abf8f364c301a067a0d", func := "vintner/vintnerlaw04.RecordBack", spec := "recordBack", inPlace := ["internal/abi.NoEscape", "internal/bytealg.MakeNoZero"], unfollowed := true, recurses := true, apart := false, narrowed := true }
def RecordBackUptoSaid : Prop := recordBackUptoRow.holds Try.pinned (OpenSpec.upto recordBackSpec)

/-- 'vintnerlaw04.RecordScans', WHERE WHAT IT READS IS OF BULK AT MOST 1048576: true; the input reads as it did. -/
def recordScansUptoRow : OpenClaim := { program := "ytfhkmiifndhacaa", sum := "5ae93f9a85e266dde2b141b243aa152e9436d284a93d5abf8f364c301a067a0d", func := "vintner/vintnerlaw04.RecordScans", spec := "recordScans", inPlace := ["internal/abi.NoEscape", "internal/bytealg.MakeNoZero"], unfollowed := true, recurses := true, apart := false, narrowed := true }
def RecordScansUptoSaid : Prop := recordScansUptoRow.holds Try.pinned (OpenSpec.upto recordScansSpec)

/-- 'vintnerlaw04.RecordPrefix', WHERE WHAT IT READS IS OF BULK AT MOST 1048576: true; the input reads as it did. -/
def recordPrefixUptoRow : OpenClaim := { program := "ytfhkmiifndhacaa", sum := "5ae93f9a85e266dde2b141b243aa152e9436d284a93d5abf8f364c301a067a0d", func := "vintner/vintnerlaw04.RecordPrefix", spec := "recordPrefix", inPlace := ["internal/abi.NoEscape", "internal/bytealg.MakeNoZero"], unfollowed := true, recurses := true, apart := false, narrowed := true }
def RecordPrefixUptoSaid : Prop := recordPrefixUptoRow.holds Try.pinned (OpenSpec.upto recordPrefixSpec)

/-- 'vintnerlaw04.RecordSame', WHERE WHAT IT READS IS OF BULK AT MOST 1048576: true; the input reads as it did. -/
def recordSameUptoRow : OpenClaim := { program := "ytfhkmiifndhacaa", sum := "5ae93f9a85e266dde2b141b243aa152e9436d284a93d5abf8f364c301a067a0d", func := "vintner/vintnerlaw04.RecordSame", spec := "recordSame", inPlace := ["internal/abi.NoEscape", "internal/bytealg.MakeNoZero"], unfollowed := true, recurses := true, apart := false, narrowed := true }
def RecordSameUptoSaid : Prop := recordSameUptoRow.holds Try.pinned (OpenSpec.upto recordSameSpec)

/-- 'vintnerlaw04.RecordTorn', WHERE WHAT IT READS IS OF BULK AT MOST 1048576: true; the input reads as it did. -/
def recordTornUptoRow : OpenClaim := { program := "ytfhkmiifndhacaa", sum := "5ae93f9a85e266dde2b141b243aa152e9436d284a93d5abf8f364c301a067a0d", func := "vintner/vintnerlaw04.RecordTorn", spec := "recordTorn", inPlace := ["internal/abi.NoEscape", "internal/bytealg.MakeNoZero"], unfollowed := true, recurses := true, apart := false, narrowed := true }
def RecordTornUptoSaid : Prop := recordTornUptoRow.holds Try.pinned (OpenSpec.upto recordTornSpec)

/-- 'vintnerlaw04.RecordMay', WHERE WHAT IT READS IS OF BULK AT MOST 1048576: true; the input reads as it did. -/
def recordMayUptoRow : OpenClaim := { program := "ytfhkmiifndhacaa", sum := "5ae93f9a85e266dde2b141b243aa152e9436d284a93d5abf8f364c301a067a0d", func := "vintner/vintnerlaw04.RecordMay", spec := "recordMay", inPlace := ["internal/abi.NoEscape", "internal/bytealg.MakeNoZero"], unfollowed := true, recurses := true, apart := false, narrowed := true }
def RecordMayUptoSaid : Prop := recordMayUptoRow.holds Try.pinned (OpenSpec.upto recordMaySpec)

/-- 'vintnerlaw04.RecordFlips', WHERE WHAT IT READS IS OF BULK AT MOST 1048576: true; the input reads as it did. -/
def recordFlipsUptoRow : OpenClaim := { program := "ytfhkmiifndhacaa", sum := "5ae93f9a85e266dde2b141b243aa152e9436d284a93d5abf8f364c301a067a0d", func := "vintner/vintnerlaw04.RecordFlips", spec := "recordFlips", inPlace := ["internal/abi.NoEscape", "internal/bytealg.MakeNoZero"], unfollowed := true, recurses := true, apart := false, narrowed := true }
def RecordFlipsUptoSaid : Prop := recordFlipsUptoRow.holds Try.pinned (OpenSpec.upto recordFlipsSpec)

end Rows
end Go.Proofs.Ytfhkmiifndhacaa
