import Derived.Test.YtbkebjgoaeddjaaRows
import Derived.Test.YtbkebjgoaeddjaaLaw
set_option linter.unusedVariables false
namespace Go.Proofs.Ytbkebjgoaeddjaa
open Go.RowKit Go.VB
theorem own : ownKnob Try.prog.godebug = none := by kernel_rfl
theorem sound : soundB Try.prog = true := by kernel_rfl
