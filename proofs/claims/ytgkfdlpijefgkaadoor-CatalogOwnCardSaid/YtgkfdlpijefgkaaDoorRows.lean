/-
  NARROWER THAN 'FOR EVERY INPUT', by the rows' own cells (each row's printed sentence says how): CatalogChecks: laid · CatalogKeeps: laid · CatalogBackwards: laid · CatalogCounts: laid · CatalogLimits: laid · CatalogBack: laid · CatalogOwn: laid.
  DERIVED. THE GIVEN ROWS OF THIS SEAT. 7 by the template 'for every input the law returns true; each argument reads behind the call as it read before'; 0 by the template 'total and deterministic' (their statements: YtgkfdlpijefgkaaDoorTotals.lean).
  GIVEN WITH THE SEED: the statements are not yours to turn. If you find one false, say at which input.
  Laid BY PROGRAM, IN A SANDBOX (cutbox-rows.mjs): the forced cells as the released guide's own fill.sh prints them over the translation eb2bb18833fece00… (all of the seat's roots in one cut). By AI agents, Wed Nov 11 2026. No macro, syntax, notation, axiom, sorry.
-/
import Derived.Test.YtgkfdlpijefgkaaDoorChecked
import GoSem.Claim
import GoSem.ClaimJoined
import GoSem.ClaimMapViews
import Derived.JoinedTies
import Derived.KernelRfl
namespace Go.Proofs.YtgkfdlpijefgkaaDoor
/- THE CELL 'sum', in the pinned program and in every row, IS THE sha256 OF THE DUMP (.gsa) THAT YtgkfdlpijefgkaaDoorProg.lean LOADS. Nothing in Lean hashes anything: it is a label: what it is worth is what the hold of that sum in a sandbox is worth. -/
noncomputable def Tryd.pinned : Pinned := { name := "ytgkfdlpijefgkaadoor", sum := "eb2bb18833fece00f4f3126ed4c80c1ad9c012b7c7a92e9656380e2e4dc98769", checked := Tryd.checked }
namespace Rows
def none {H : Type} : Left H := { results := [], args := [] }

/- WHAT THE LISTED PACKAGE-LEVEL VARIABLES READ AS WHEN THE CALL BEGINS. Each datum BY PROGRAM (the guide's laid-datum.mjs) off the statement by which the dump's own 'gosem.cut.vars' lays the variable. In a bare row this is a premise. The card (YtgkfdlpijefgkaaDoorCards.lean) ties it to the program's text. -/
def laid_vintner_value_kinds {H : Type} : DataW H := .iface "func table" (.agg [.iface "func" (.lit (.string [118, 105, 110, 116, 110, 101, 114, 47, 118, 97, 108, 117, 101, 46, 107, 105, 110, 100, 115, 36, 49])), .iface "func" (.lit (.string [118, 105, 110, 116, 110, 101, 114, 47, 118, 97, 108, 117, 101, 46, 107, 105, 110, 100, 115, 36, 50])), .iface "func" (.lit (.string [118, 105, 110, 116, 110, 101, 114, 47, 118, 97, 108, 117, 101, 46, 107, 105, 110, 100, 115, 36, 51]))])

/-- 'vintnerlaw14.CatalogChecks': WHATEVER THE INPUT: true; the input reads as it did. -/
def catalogChecksSpec : ChangeSpec := { name := "catalogChecks", fn := fun _ => fun
  | [d1, d2, d3] => { results := [.lit (.bool true)], args := [d1, d2, d3] }
  | _ => none }
def catalogChecksRow : OpenClaim := { program := "ytgkfdlpijefgkaadoor", sum := "eb2bb18833fece00f4f3126ed4c80c1ad9c012b7c7a92e9656380e2e4dc98769", func := "vintner/vintnerlaw14.CatalogChecks", spec := "catalogChecks", inPlace := ["internal/abi.NoEscape"], unfollowed := true, recurses := true, named := ["vintner/value.kinds"], apart := false, laid := [("vintner/value.kinds", laid_vintner_value_kinds)] }
def CatalogChecksSaid : Prop := catalogChecksRow.holds Tryd.pinned (OpenSpec.ofChange catalogChecksSpec)

/-- ITS FALSE NEIGHBOUR: 'it returns false'. Refute it at one input. -/
def catalogChecksWrong : ChangeSpec := { name := "catalogChecks", fn := fun _ => fun
  | [d1, d2, d3] => { results := [.lit (.bool false)], args := [d1, d2, d3] }
  | _ => none }
def CatalogChecksWrongFalsely : Prop := catalogChecksRow.holds Tryd.pinned (OpenSpec.ofChange catalogChecksWrong)

/-- 'vintnerlaw14.CatalogKeeps': WHATEVER THE INPUT: true; the input reads as it did. -/
def catalogKeepsSpec : ChangeSpec := { name := "catalogKeeps", fn := fun _ => fun
  | [d] => { results := [.lit (.bool true)], args := [d] }
  | _ => none }
def catalogKeepsRow : OpenClaim := { program := "ytgkfdlpijefgkaadoor", sum := "eb2bb18833fece00f4f3126ed4c80c1ad9c012b7c7a92e9656380e2e4dc98769", func := "vintner/vintnerlaw14.CatalogKeeps", spec := "catalogKeeps", inPlace := ["internal/abi.NoEscape"], unfollowed := true, recurses := true, named := ["vintner/value.kinds"], apart := false, laid := [("vintner/value.kinds", laid_vintner_value_kinds)] }
def CatalogKeepsSaid : Prop := catalogKeepsRow.holds Tryd.pinned (OpenSpec.ofChange catalogKeepsSpec)

/-- ITS FALSE NEIGHBOUR: 'it returns false'. Refute it at one input. -/
def catalogKeepsWrong : ChangeSpec := { name := "catalogKeeps", fn := fun _ => fun
  | [d] => { results := [.lit (.bool false)], args := [d] }
  | _ => none }
def CatalogKeepsWrongFalsely : Prop := catalogKeepsRow.holds Tryd.pinned (OpenSpec.ofChange catalogKeepsWrong)

/-- 'vintnerlaw14.CatalogBackwards': WHATEVER THE INPUT: true; the input reads as it did. -/
def catalogBackwardsSpec : ChangeSpec := { name := "catalogBackwards", fn := fun _ => fun
  | [d1, d2] => { results := [.lit (.bool true)], args := [d1, d2] }
  | _ => none }
def catalogBackwardsRow : OpenClaim := { program := "ytgkfdlpijefgkaadoor", sum := "eb2bb18833fece00f4f3126ed4c80c1ad9c012b7c7a92e9656380e2e4dc98769", func := "vintner/vintnerlaw14.CatalogBackwards", spec := "catalogBackwards", inPlace := ["internal/abi.NoEscape"], unfollowed := true, recurses := true, named := ["vintner/value.kinds"], apart := false, laid := [("vintner/value.kinds", laid_vintner_value_kinds)] }
def CatalogBackwardsSaid : Prop := catalogBackwardsRow.holds Tryd.pinned (OpenSpec.ofChange catalogBackwardsSpec)

/-- ITS FALSE NEIGHBOUR: 'it returns false'. Refute it at one input. -/
def catalogBackwardsWrong : ChangeSpec := { name := "catalogBackwards", fn := fun _ => fun
  | [d1, d2] => { results := [.lit (.bool false)], args := [d1, d2] }
  | _ => none }
def CatalogBackwardsWrongFalsely : Prop := catalogBackwardsRow.holds Tryd.pinned (OpenSpec.ofChange catalogBackwardsWrong)

/-- 'vintnerlaw14.CatalogCounts': WHATEVER THE INPUT: true; the input reads as it did. -/
def catalogCountsSpec : ChangeSpec := { name := "catalogCounts", fn := fun _ => fun
  | [d1, d2, d3] => { results := [.lit (.bool true)], args := [d1, d2, d3] }
  | _ => none }
def catalogCountsRow : OpenClaim := { program := "ytgkfdlpijefgkaadoor", sum := "eb2bb18833fece00f4f3126ed4c80c1ad9c012b7c7a92e9656380e2e4dc98769", func := "vintner/vintnerlaw14.CatalogCounts", spec := "catalogCounts", inPlace := ["internal/abi.NoEscape"], unfollowed := true, recurses := true, named := ["vintner/value.kinds"], apart := false, laid := [("vintner/value.kinds", laid_vintner_value_kinds)] }
def CatalogCountsSaid : Prop := catalogCountsRow.holds Tryd.pinned (OpenSpec.ofChange catalogCountsSpec)

/-- ITS FALSE NEIGHBOUR: 'it returns false'. Refute it at one input. -/
def catalogCountsWrong : ChangeSpec := { name := "catalogCounts", fn := fun _ => fun
  | [d1, d2, d3] => { results := [.lit (.bool false)], args := [d1, d2, d3] }
  | _ => none }
def CatalogCountsWrongFalsely : Prop := catalogCountsRow.holds Tryd.pinned (OpenSpec.ofChange catalogCountsWrong)

/-- 'vintnerlaw14.CatalogLimits': WHATEVER THE INPUT: true; the input reads as it did. -/
def catalogLimitsSpec : ChangeSpec := { name := "catalogLimits", fn := fun _ => fun
  | [d1, d2] => { results := [.lit (.bool true)], args := [d1, d2] }
  | _ => none }
def catalogLimitsRow : OpenClaim := { program := "ytgkfdlpijefgkaadoor", sum := "eb2bb18833fece00f4f3126ed4c80c1ad9c012b7c7a92e9656380e2e4dc98769", func := "vintner/vintnerlaw14.CatalogLimits", spec := "catalogLimits", inPlace := ["internal/abi.NoEscape"], unfollowed := true, recurses := true, named := ["vintner/value.kinds"], apart := false, laid := [("vintner/value.kinds", laid_vintner_value_kinds)] }
def CatalogLimitsSaid : Prop := catalogLimitsRow.holds Tryd.pinned (OpenSpec.ofChange catalogLimitsSpec)

/-- ITS FALSE NEIGHBOUR: 'it returns false'. Refute it at one input. -/
def catalogLimitsWrong : ChangeSpec := { name := "catalogLimits", fn := fun _ => fun
  | [d1, d2] => { results := [.lit (.bool false)], args := [d1, d2] }
  | _ => none }
def CatalogLimitsWrongFalsely : Prop := catalogLimitsRow.holds Tryd.pinned (OpenSpec.ofChange catalogLimitsWrong)

/-- 'vintnerlaw14.CatalogBack': WHATEVER THE INPUT: true; the input reads as it did. -/
def catalogBackSpec : ChangeSpec := { name := "catalogBack", fn := fun _ => fun
  | [d1, d2] => { results := [.lit (.bool true)], args := [d1, d2] }
  | _ => none }
def catalogBackRow : OpenClaim := { program := "ytgkfdlpijefgkaadoor", sum := "eb2bb18833fece00f4f3126ed4c80c1ad9c012b7c7a92e9656380e2e4dc98769", func := "vintner/vintnerlaw14.CatalogBack", spec := "catalogBack", inPlace := ["internal/abi.NoEscape"], unfollowed := true, recurses := true, named := ["vintner/value.kinds"], apart := false, laid := [("vintner/value.kinds", laid_vintner_value_kinds)] }
def CatalogBackSaid : Prop := catalogBackRow.holds Tryd.pinned (OpenSpec.ofChange catalogBackSpec)

/-- ITS FALSE NEIGHBOUR: 'it returns false'. Refute it at one input. -/
def catalogBackWrong : ChangeSpec := { name := "catalogBack", fn := fun _ => fun
  | [d1, d2] => { results := [.lit (.bool false)], args := [d1, d2] }
  | _ => none }
def CatalogBackWrongFalsely : Prop := catalogBackRow.holds Tryd.pinned (OpenSpec.ofChange catalogBackWrong)

/-- 'vintnerlaw14.CatalogOwn': WHATEVER THE INPUT: true; the input reads as it did. -/
def catalogOwnSpec : ChangeSpec := { name := "catalogOwn", fn := fun _ => fun
  | [d] => { results := [.lit (.bool true)], args := [d] }
  | _ => none }
def catalogOwnRow : OpenClaim := { program := "ytgkfdlpijefgkaadoor", sum := "eb2bb18833fece00f4f3126ed4c80c1ad9c012b7c7a92e9656380e2e4dc98769", func := "vintner/vintnerlaw14.CatalogOwn", spec := "catalogOwn", inPlace := ["internal/abi.NoEscape"], unfollowed := true, recurses := true, named := ["vintner/value.kinds"], apart := false, laid := [("vintner/value.kinds", laid_vintner_value_kinds)] }
def CatalogOwnSaid : Prop := catalogOwnRow.holds Tryd.pinned (OpenSpec.ofChange catalogOwnSpec)

/-- ITS FALSE NEIGHBOUR: 'it returns false'. Refute it at one input. -/
def catalogOwnWrong : ChangeSpec := { name := "catalogOwn", fn := fun _ => fun
  | [d] => { results := [.lit (.bool false)], args := [d] }
  | _ => none }
def CatalogOwnWrongFalsely : Prop := catalogOwnRow.holds Tryd.pinned (OpenSpec.ofChange catalogOwnWrong)

/- THE SECOND FORM. 'bulk': how many values and letters a reading holds, each counted each time it is reached (what is shared counts as often as it is met; a slice's spare places count too). A statement '..UptoSaid' is the law's where the arguments, and the package variables that the reading takes, are together of bulk at most 1048576: NARROWER than '..Said'. Prove '..Said' where nothing that the law and all that it calls make is longer than what came in: it says more and counts as full. Else prove '..UptoSaid'. A law counts once. -/
mutual
def uptoBulk {H : Type} : DataW H → Nat
  | .lit (.string bytes) => bytes.length + 1
  | .lit _ => 1
  | .nil => 1
  | .ptr d => uptoBulk d + 1
  | .slice elems spare => uptoBulkAll elems + uptoBulkAll spare + 1
  | .agg parts => uptoBulkAll parts + 1
  | .iface _ d => uptoBulk d + 1
  | .map entries => uptoBulkEntries entries + 1
  | .held _ => 1
def uptoBulkAll {H : Type} : List (DataW H) → Nat
  | [] => 0
  | d :: r => uptoBulk d + uptoBulkAll r
def uptoBulkEntries {H : Type} : List (Lit × DataW H) → Nat
  | [] => 0
  | x :: r => uptoBulkEntry x + uptoBulkEntries r
def uptoBulkEntry {H : Type} : Lit × DataW H → Nat
  | (.string bytes, d) => bytes.length + uptoBulk d + 1
  | (_, d) => uptoBulk d + 1
 end
def uptoSmall : (H : Type) → List (DataW H) → Bool := fun _ ds => decide (uptoBulkAll ds ≤ 1048576)
def OpenSpec.upto (s : _root_.Go.ChangeSpec) : _root_.Go.OpenSpec := { _root_.Go.OpenSpec.ofChange s with cond := some uptoSmall }

/-- 'vintnerlaw14.CatalogChecks', WHERE WHAT IT READS IS OF BULK AT MOST 1048576: true; the input reads as it did. -/
def catalogChecksUptoRow : OpenClaim := { program := "ytgkfdlpijefgkaadoor", sum := "eb2bb18833fece00f4f3126ed4c80c1ad9c012b7c7a92e9656380e2e4dc98769", func := "vintner/vintnerlaw14.CatalogChecks", spec := "catalogChecks", inPlace := ["internal/abi.NoEscape"], unfollowed := true, recurses := true, named := ["vintner/value.kinds"], apart := false, laid := [("vintner/value.kinds", laid_vintner_value_kinds)], narrowed := true }
def CatalogChecksUptoSaid : Prop := catalogChecksUptoRow.holds Tryd.pinned (OpenSpec.upto catalogChecksSpec)

/-- 'vintnerlaw14.CatalogKeeps', WHERE WHAT IT READS IS OF BULK AT MOST 1048576: true; the input reads as it did. -/
def catalogKeepsUptoRow : OpenClaim := { program := "ytgkfdlpijefgkaadoor", sum := "eb2bb18833fece00f4f3126ed4c80c1ad9c012b7c7a92e9656380e2e4dc98769", func := "vintner/vintnerlaw14.CatalogKeeps", spec := "catalogKeeps", inPlace := ["internal/abi.NoEscape"], unfollowed := true, recurses := true, named := ["vintner/value.kinds"], apart := false, laid := [("vintner/value.kinds", laid_vintner_value_kinds)], narrowed := true }
def CatalogKeepsUptoSaid : Prop := catalogKeepsUptoRow.holds Tryd.pinned (OpenSpec.upto catalogKeepsSpec)

/-- 'vintnerlaw14.CatalogBackwards', WHERE WHAT IT READS IS OF BULK AT MOST 1048576: true; the input reads as it did. -/
def catalogBackwardsUptoRow : OpenClaim := { program := "ytgkfdlpijefgkaadoor", sum := "eb2bb18833fece00f4f3126ed4c80c1ad9c012b7c7a92e9656380e2e4dc98769", func := "vintner/vintnerlaw14.CatalogBackwards", spec := "catalogBackwards", inPlace := ["internal/abi.NoEscape"], unfollowed := true, recurses := true, named := ["vintner/value.kinds"], apart := false, laid := [("vintner/value.kinds", laid_vintner_value_kinds)], narrowed := true }
def CatalogBackwardsUptoSaid : Prop := catalogBackwardsUptoRow.holds Tryd.pinned (OpenSpec.upto catalogBackwardsSpec)

/-- 'vintnerlaw14.CatalogCounts', WHERE WHAT IT READS IS OF BULK AT MOST 1048576: true; the input reads as it did. -/
def catalogCountsUptoRow : OpenClaim := { program := "ytgkfdlpijefgkaadoor", sum := "eb2bb18833fece00f4f3126ed4c80c1ad9c012b7c7a92e9656380e2e4dc98769", func := "vintner/vintnerlaw14.CatalogCounts", spec := "catalogCounts", inPlace := ["internal/abi.NoEscape"], unfollowed := true, recurses := true, named := ["vintner/value.kinds"], apart := false, laid := [("vintner/value.kinds", laid_vintner_value_kinds)], narrowed := true }
def CatalogCountsUptoSaid : Prop := catalogCountsUptoRow.holds Tryd.pinned (OpenSpec.upto catalogCountsSpec)

/-- 'vintnerlaw14.CatalogLimits', WHERE WHAT IT READS IS OF BULK AT MOST 1048576: true; the input reads as it did. -/
def catalogLimitsUptoRow : OpenClaim := { program := "ytgkfdlpijefgkaadoor", sum := "eb2bb18833fece00f4f3126ed4c80c1ad9c012b7c7a92e9656380e2e4dc98769", func := "vintner/vintnerlaw14.CatalogLimits", spec := "catalogLimits", inPlace := ["internal/abi.NoEscape"], unfollowed := true, recurses := true, named := ["vintner/value.kinds"], apart := false, laid := [("vintner/value.kinds", laid_vintner_value_kinds)], narrowed := true }
def CatalogLimitsUptoSaid : Prop := catalogLimitsUptoRow.holds Tryd.pinned (OpenSpec.upto catalogLimitsSpec)

/-- 'vintnerlaw14.CatalogBack', WHERE WHAT IT READS IS OF BULK AT MOST 1048576: true; the input reads as it did. -/
def catalogBackUptoRow : OpenClaim := { program := "ytgkfdlpijefgkaadoor", sum := "eb2bb18833fece00f4f3126ed4c80c1ad9c012b7c7a92e9656380e2e4dc98769", func := "vintner/vintnerlaw14.CatalogBack", spec := "catalogBack", inPlace := ["internal/abi.NoEscape"], unfollowed := true, recurses := true, named := ["vintner/value.kinds"], apart := false, laid := [("vintner/value.kinds", laid_vintner_value_kinds)], narrowed := true }
def CatalogBackUptoSaid : Prop := catalogBackUptoRow.holds Tryd.pinned (OpenSpec.upto catalogBackSpec)

/-- 'vintnerlaw14.CatalogOwn', WHERE WHAT IT READS IS OF BULK AT MOST 1048576: true; the input reads as it did. -/
def catalogOwnUptoRow : OpenClaim := { program := "ytgkfdlpijefgkaadoor", sum := "eb2bb18833fece00f4f3126ed4c80c1ad9c012b7c7a92e9656380e2e4dc98769", func := "vintner/vintnerlaw14.CatalogOwn", spec := "catalogOwn", inPlace := ["internal/abi.NoEscape"], unfollowed := true, recurses := true, named := ["vintner/value.kinds"], apart := false, laid := [("vintner/value.kinds", laid_vintner_value_kinds)], narrowed := true }
def CatalogOwnUptoSaid : Prop := catalogOwnUptoRow.holds Tryd.pinned (OpenSpec.upto catalogOwnSpec)

end Rows
end Go.Proofs.YtgkfdlpijefgkaaDoor
