import Derived.Test.YtfalehgngioheaaDiskV
set_option linter.unusedVariables false
namespace Go.Proofs.Ytfalehgngioheaa
open Go.RowKit Go.VB Go.VB.Disk
namespace San
def x : Bytes := fill [120]
def m1 : DM := ((DM.new 2).write 1 x).1
def m2 : DM := m1.crash [1, 0]
def m3 : DM := (m2.append [97, 98, 99]).1
def m4 : DM := m3.flush.1
def m5 : DM := (m4.append [100, 101]).1
def m6 : DM := m5.crash [1]
def m7 : DM := m6.arm 1
def m8 : DM := (m7.append [97]).1
def m9 : DM := (m8.append [98]).1
theorem a0 : ((DM.new 2).write 1 x).2 = 0 := by decide +kernel
theorem r0 : m2.read 1 = (x.take 256 ++ Disk.blank.drop 256, 0) := by decide +kernel
theorem l0 : m6.log = [97, 98, 99, 100] := by decide +kernel
theorem e0 : (m7.append [97]).2 = 0 := by decide +kernel
theorem f0 : (m8.append [98]).2 = 24 := by decide +kernel
theorem o0 : m9.off = true := by decide +kernel
theorem xl : x.length = 512 := by decide +kernel
theorem k0 : (DM.new 2).Ok 0 := Ok_new 2 (by omega)
theorem k1 : m1.Ok 1 := Ok_write k0 _ _
theorem k2 : m2.Ok 1 := Ok_crash k1 _
theorem k3 : m3.Ok 1 := Ok_append k2 _
theorem k4 : m4.Ok 1 := Ok_flush k3
theorem k5 : m5.Ok 1 := Ok_append k4 _
theorem k6 : m6.Ok 1 := Ok_crash k5 _
theorem k7 : m7.Ok 1 := Ok_arm k6 _
theorem k8 : m8.Ok 1 := Ok_append k7 _
theorem k9 : m9.Ok 1 := Ok_append k8 _
end San
