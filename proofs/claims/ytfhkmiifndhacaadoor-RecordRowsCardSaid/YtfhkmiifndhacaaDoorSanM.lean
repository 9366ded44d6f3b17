import Derived.Test.YtfhkmiifndhacaaDoorScM
import Derived.RowKit
/- The examples of the law's sanity, reckoned. -/
set_option linter.unusedVariables false
namespace Go.VB.Rec
open Go.VB.Oct
def r0 : R := ⟨5, 5, 0, [], [], [], [6], []⟩
def s0 : List UInt8 := [5, 5, 0, 0, 0, 1, 0, 0, 1, 0, 0, 1, 6, 0, 0]
def t0 : List UInt8 := [0, 0, 0, 15, 0, 199, 0, 20] ++ s0
theorem r0_bytes : r0.bytes = s0 := by decide +kernel
theorem r0_right : r0.right = true := by decide +kernel
theorem zero_right : R.zero.right = false := by decide +kernel
theorem s0_read : readR s0 = (r0, 0) := by decide +kernel
theorem s0_short : readR (s0.take 5) = (R.zero, 10) := by decide +kernel
theorem s0_long : readR (s0 ++ [120]) = (R.zero, 11) := by decide +kernel
theorem r0_frame : frame r0 = t0 := by decide +kernel
theorem t0_scan : scan (t0 ++ t0 ++ [109, 111, 114, 101]) = ([r0, r0], [23, 46]) := by decide +kernel
end Go.VB.Rec
