import Derived.Test.YtfalehgngioheaaRows
import Derived.Test.YtfalehgngioheaaLaw
set_option linter.unusedVariables false
namespace Go.Proofs.Ytfalehgngioheaa
open Go.RowKit Go.VB
theorem own : ownKnob Try.prog.godebug = none := by kernel_rfl
theorem sound : soundB Try.prog = true := by kernel_rfl
