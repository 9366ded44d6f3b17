import Derived.Test.YtfhkmiifndhacaaRows
import Derived.Test.YtfhkmiifndhacaaLaw
set_option linter.unusedVariables false
namespace Go.Proofs.Ytfhkmiifndhacaa
open Go.RowKit Go.VB
theorem own : ownKnob Try.prog.godebug = none := by kernel_rfl
theorem sound : soundB Try.prog = true := by kernel_rfl
