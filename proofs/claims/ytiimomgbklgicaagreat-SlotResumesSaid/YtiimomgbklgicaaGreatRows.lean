/-
  No cell of these rows narrows 'for every input' (looked for: loops, veiled, ifaces, maps, wideKeys, modest, calm, conditions, laid).
  DERIVED. THE GIVEN ROWS OF THIS SEAT. 5 by the template 'for every input the law returns true; each argument reads behind the call as it read before'; 0 by the template 'total and deterministic' (their statements: YtiimomgbklgicaaGreatTotals.lean).
  GIVEN WITH THE SEED: the statements are not yours to turn. If you find one false, say at which input.
  Laid BY PROGRAM, IN A SANDBOX (cutbox-rows.mjs): the forced cells as the released guide's own fill.sh prints them over the translation de650a989bbc22f3… (all of the seat's roots in one cut). By AI agents, Wed Nov 11 2026. No macro, syntax, notation, axiom, sorry.
-/
import Derived.Test.YtiimomgbklgicaaGreatChecked
import GoSem.Claim
import GoSem.ClaimJoined
import GoSem.ClaimMapViews
import Derived.JoinedTies
import Derived.KernelRfl
namespace Go.Proofs.YtiimomgbklgicaaGreat
/- THE CELL 'sum', in the pinned program and in every row, IS THE sha256 OF THE DUMP (.gsa) THAT YtiimomgbklgicaaGreatProg.lean LOADS. Nothing in Lean hashes anything: it is a label: what it is worth is what the hold of that sum in a sandbox is worth. -/
noncomputable def Tryz.pinned : Pinned := { name := "ytiimomgbklgicaagreat", sum := "de650a989bbc22f3a6a1ad9b7ec8ea9a0f3d023052b69519b54a97b688bf260a", checked := Tryz.checked }
namespace Rows
def none {H : Type} : Left H := { results := [], args := [] }

/-- 'vintnerlaw16.SlotLog': WHATEVER THE INPUT: true; the input reads as it did. -/
def slotLogSpec : ChangeSpec := { name := "slotLog", fn := fun _ => fun
  | [d1, d2, d3] => { results := [.lit (.bool true)], args := [d1, d2, d3] }
  | _ => none }
def slotLogRow : OpenClaim := { program := "ytiimomgbklgicaagreat", sum := "de650a989bbc22f3a6a1ad9b7ec8ea9a0f3d023052b69519b54a97b688bf260a", func := "vintner/vintnerlaw16.SlotLog", spec := "slotLog", inPlace := ["internal/abi.NoEscape", "internal/bytealg.MakeNoZero"], unfollowed := true, recurses := true, apart := false }
def SlotLogSaid : Prop := slotLogRow.holds Tryz.pinned (OpenSpec.ofChange slotLogSpec)

/-- ITS FALSE NEIGHBOUR: 'it returns false'. Refute it at one input. -/
def slotLogWrong : ChangeSpec := { name := "slotLog", fn := fun _ => fun
  | [d1, d2, d3] => { results := [.lit (.bool false)], args := [d1, d2, d3] }
  | _ => none }
def SlotLogWrongFalsely : Prop := slotLogRow.holds Tryz.pinned (OpenSpec.ofChange slotLogWrong)

/-- 'vintnerlaw16.SlotTaken': WHATEVER THE INPUT: true; the input reads as it did. -/
def slotTakenSpec : ChangeSpec := { name := "slotTaken", fn := fun _ => fun
  | [d1, d2] => { results := [.lit (.bool true)], args := [d1, d2] }
  | _ => none }
def slotTakenRow : OpenClaim := { program := "ytiimomgbklgicaagreat", sum := "de650a989bbc22f3a6a1ad9b7ec8ea9a0f3d023052b69519b54a97b688bf260a", func := "vintner/vintnerlaw16.SlotTaken", spec := "slotTaken", unfollowed := true, recurses := true, apart := false }
def SlotTakenSaid : Prop := slotTakenRow.holds Tryz.pinned (OpenSpec.ofChange slotTakenSpec)

/-- ITS FALSE NEIGHBOUR: 'it returns false'. Refute it at one input. -/
def slotTakenWrong : ChangeSpec := { name := "slotTaken", fn := fun _ => fun
  | [d1, d2] => { results := [.lit (.bool false)], args := [d1, d2] }
  | _ => none }
def SlotTakenWrongFalsely : Prop := slotTakenRow.holds Tryz.pinned (OpenSpec.ofChange slotTakenWrong)

/-- 'vintnerlaw16.SlotResumes': WHATEVER THE INPUT: true; the input reads as it did. -/
def slotResumesSpec : ChangeSpec := { name := "slotResumes", fn := fun _ => fun
  | [d1, d2, d3] => { results := [.lit (.bool true)], args := [d1, d2, d3] }
  | _ => none }
def slotResumesRow : OpenClaim := { program := "ytiimomgbklgicaagreat", sum := "de650a989bbc22f3a6a1ad9b7ec8ea9a0f3d023052b69519b54a97b688bf260a", func := "vintner/vintnerlaw16.SlotResumes", spec := "slotResumes", inPlace := ["internal/abi.NoEscape"], unfollowed := true, recurses := true, apart := false }
def SlotResumesSaid : Prop := slotResumesRow.holds Tryz.pinned (OpenSpec.ofChange slotResumesSpec)

/-- ITS FALSE NEIGHBOUR: 'it returns false'. Refute it at one input. -/
def slotResumesWrong : ChangeSpec := { name := "slotResumes", fn := fun _ => fun
  | [d1, d2, d3] => { results := [.lit (.bool false)], args := [d1, d2, d3] }
  | _ => none }
def SlotResumesWrongFalsely : Prop := slotResumesRow.holds Tryz.pinned (OpenSpec.ofChange slotResumesWrong)

/-- 'vintnerlaw16.SlotPlays': WHATEVER THE INPUT: true; the input reads as it did. -/
def slotPlaysSpec : ChangeSpec := { name := "slotPlays", fn := fun _ => fun
  | [d] => { results := [.lit (.bool true)], args := [d] }
  | _ => none }
def slotPlaysRow : OpenClaim := { program := "ytiimomgbklgicaagreat", sum := "de650a989bbc22f3a6a1ad9b7ec8ea9a0f3d023052b69519b54a97b688bf260a", func := "vintner/vintnerlaw16.SlotPlays", spec := "slotPlays", inPlace := ["internal/abi.NoEscape"], unfollowed := true, recurses := true, apart := false }
def SlotPlaysSaid : Prop := slotPlaysRow.holds Tryz.pinned (OpenSpec.ofChange slotPlaysSpec)

/-- ITS FALSE NEIGHBOUR: 'it returns false'. Refute it at one input. -/
def slotPlaysWrong : ChangeSpec := { name := "slotPlays", fn := fun _ => fun
  | [d] => { results := [.lit (.bool false)], args := [d] }
  | _ => none }
def SlotPlaysWrongFalsely : Prop := slotPlaysRow.holds Tryz.pinned (OpenSpec.ofChange slotPlaysWrong)

/-- 'vintnerlaw16.SlotBytes': WHATEVER THE INPUT: true; the input reads as it did. -/
def slotBytesSpec : ChangeSpec := { name := "slotBytes", fn := fun _ => fun
  | [d] => { results := [.lit (.bool true)], args := [d] }
  | _ => none }
def slotBytesRow : OpenClaim := { program := "ytiimomgbklgicaagreat", sum := "de650a989bbc22f3a6a1ad9b7ec8ea9a0f3d023052b69519b54a97b688bf260a", func := "vintner/vintnerlaw16.SlotBytes", spec := "slotBytes", inPlace := ["internal/abi.NoEscape"], unfollowed := true, recurses := true, apart := false }
def SlotBytesSaid : Prop := slotBytesRow.holds Tryz.pinned (OpenSpec.ofChange slotBytesSpec)

/-- ITS FALSE NEIGHBOUR: 'it returns false'. Refute it at one input. -/
def slotBytesWrong : ChangeSpec := { name := "slotBytes", fn := fun _ => fun
  | [d] => { results := [.lit (.bool false)], args := [d] }
  | _ => none }
def SlotBytesWrongFalsely : Prop := slotBytesRow.holds Tryz.pinned (OpenSpec.ofChange slotBytesWrong)

/- THE SECOND FORM. 'bulk': how many values and letters a reading holds, each counted each time it is reached (what is shared counts as often as it is met; a slice's spare places count too). A statement '..UptoSaid' is the law's where the arguments, and the package variables that the reading takes, are together of bulk at most 1048576: NARROWER than '..Said'. Prove '..Said' where nothing that the law and all that it calls make is longer than what came in: it says more and counts as full. Else prove '..UptoSaid'. A law counts once. -/
mutual
def uptoBulk {H : Type} : DataW H → Nat
  | .lit (.string bytes) => bytes.length + 1
  | .lit _ => 1
  | .nil => 1
  | .ptr d => uptoBulk d + 1
  | .slice elems spare => uptoBulkAll elems + uptoBulkAll spare + 1
  | .agg parts => uptoBulkAll parts + 1
  | .iface _ d => uptoBulk d + 1
  | .map entries => uptoBulkEntries entries + 1
  | .held _ => 1
def uptoBulkAll {H : Type} : List (DataW H) → Nat
  | [] => 0
  | d :: r => uptoBulk d + uptoBulkAll r
def uptoBulkEntries {H : Type} : List (Lit × DataW H) → Nat
  | [] => 0
  | x :: r => uptoBulkEntry x + uptoBulkEntries r
def uptoBulkEntry {H : Type} : Lit × DataW H → Nat
  | (.string bytes, d) => bytes.length + uptoBulk d + 1
  | (_, d) => uptoBulk d + 1
 end
def uptoSmall : (H : Type) → List (DataW H) → Bool := fun _ ds => decide (uptoBulkAll ds ≤ 1048576)
def OpenSpec.upto (s : _root_.Go.ChangeSpec) : _root_.Go.OpenSpec := { _root_.Go.OpenSpec.ofChange s with cond := some uptoSmall }

/-- 'vintnerlaw16.SlotLog', WHERE WHAT IT READS IS OF BULK AT MOST 1048576: true; the input reads as it did. -/
def slotLogUptoRow : OpenClaim := { program := "ytiimomgbklgicaagreat", sum := "de650a989bbc22f3a6a1ad9b7ec8ea9a0f3d023052b69519b54a97b688bf260a", func := "vintner/vintnerlaw16.SlotLog", spec := "slotLog", inPlace := ["internal/abi.NoEscape", "internal/bytealg.MakeNoZero"], unfollowed := true, recurses := true, apart := false, narrowed := true }
def SlotLogUptoSaid : Prop := slotLogUptoRow.holds Tryz.pinned (OpenSpec.upto slotLogSpec)

/-- 'vintnerlaw16.SlotTaken', WHERE WHAT IT READS IS OF BULK AT MOST 1048576: true; the input reads as it did. -/
def slotTakenUptoRow : OpenClaim := { program := "ytiimomgbklgicaagreat", sum := "de650a989bbc22f3a6a1ad9b7ec8ea9a0f3d023052b69519b54a97b688bf260a", func := "vintner/vintnerlaw16.SlotTaken", spec := "slotTaken", unfollowed := true, recurses := true, apart := false, narrowed := true }
def SlotTakenUptoSaid : Prop := slotTakenUptoRow.holds Tryz.pinned (OpenSpec.upto slotTakenSpec)

/-- 'vintnerlaw16.SlotResumes', WHERE WHAT IT READS IS OF BULK AT MOST 1048576: true; the input reads as it did. -/
def slotResumesUptoRow : OpenClaim := { program := "ytiimomgbklgicaagreat", sum := "de650a989bbc22f3a6a1ad9b7ec8ea9a0f3d023052b69519b54a97b688bf260a", func := "vintner/vintnerlaw16.SlotResumes", spec := "slotResumes", inPlace := ["internal/abi.NoEscape"], unfollowed := true, recurses := true, apart := false, narrowed := true }
def SlotResumesUptoSaid : Prop := slotResumesUptoRow.holds Tryz.pinned (OpenSpec.upto slotResumesSpec)

/-- 'vintnerlaw16.SlotPlays', WHERE WHAT IT READS IS OF BULK AT MOST 1048576: true; the input reads as it did. -/
def slotPlaysUptoRow : OpenClaim := { program := "ytiimomgbklgicaagreat", sum := "de650a989bbc22f3a6a1ad9b7ec8ea9a0f3d023052b69519b54a97b688bf260a", func := "vintner/vintnerlaw16.SlotPlays", spec := "slotPlays", inPlace := ["internal/abi.NoEscape"], unfollowed := true, recurses := true, apart := false, narrowed := true }
def SlotPlaysUptoSaid : Prop := slotPlaysUptoRow.holds Tryz.pinned (OpenSpec.upto slotPlaysSpec)

/-- 'vintnerlaw16.SlotBytes', WHERE WHAT IT READS IS OF BULK AT MOST 1048576: true; the input reads as it did. -/
def slotBytesUptoRow : OpenClaim := { program := "ytiimomgbklgicaagreat", sum := "de650a989bbc22f3a6a1ad9b7ec8ea9a0f3d023052b69519b54a97b688bf260a", func := "vintner/vintnerlaw16.SlotBytes", spec := "slotBytes", inPlace := ["internal/abi.NoEscape"], unfollowed := true, recurses := true, apart := false, narrowed := true }
def SlotBytesUptoSaid : Prop := slotBytesUptoRow.holds Tryz.pinned (OpenSpec.upto slotBytesSpec)

end Rows
end Go.Proofs.YtiimomgbklgicaaGreat
