import Derived.Test.YtiimomgbklgicaaRows
import Derived.Test.YtiimomgbklgicaaLaw
set_option linter.unusedVariables false
namespace Go.Proofs.Ytiimomgbklgicaa
open Go.RowKit Go.VB
theorem own : ownKnob Try.prog.godebug = none := by kernel_rfl
theorem sound : soundB Try.prog = true := by kernel_rfl
