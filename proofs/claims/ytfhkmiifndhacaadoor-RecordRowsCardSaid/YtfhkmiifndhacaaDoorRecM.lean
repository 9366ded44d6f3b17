import Derived.Test.YtfhkmiifndhacaaDoorOctM
/- Values, edits, records and their bytes (plain Lean). -/
set_option linter.unusedVariables false
namespace Go.VB.Rec
open Go.VB.Oct
structure V where
  k : Int
  n : Int
  s : List UInt8
deriving DecidableEq
structure E where
  page : Int
  slot : Int
  item : List UInt8
deriving DecidableEq
structure R where
  kind : Int
  xid : Int
  table : Int
  old : List V
  new : List V
  edits : List E
  xids : List Int
  note : List UInt8
deriving DecidableEq
def V.cells (v : V) : List Value := [.int .i64 v.k, .int .i64 v.n, .string (bs v.s)]
def E.cells (e : E) : List Value := [.int .i64 e.page, .int .i64 e.slot, .string (bs e.item)]
def icell (x : Int) : List Value := [.int .i64 x]
def V.right (v : V) : Bool := decide (0 ≤ v.k) && decide (v.k ≤ 2) && (decide (v.k ≠ 2) || decide (v.s.length ≤ 40))
def row (r : List V) : Bool := decide (r.length ≤ 6) && r.all V.right
def E.right (e : E) : Bool :=
  decide (0 ≤ e.page) && decide (e.page ≤ 399) && (if e.slot = -1 then e.item = [0] || e.item = [1] || e.item = [2] else decide (0 ≤ e.slot) && decide (e.slot ≤ 23) && decide (e.item.length ≤ 400))
def R.right (r : R) : Bool :=
  decide (1 ≤ r.kind) && decide (r.kind ≤ 10) && decide (0 ≤ r.xid) && decide (r.xid ≤ 127) && decide (0 ≤ r.table) && decide (r.table ≤ 65535) &&
  (decide (r.edits.length ≤ 64) && r.edits.all E.right) && (decide (r.xids.length ≤ 32) && r.xids.all fun x => decide (3 ≤ x) && decide (x ≤ 127)) && row r.old && row r.new && decide (r.note.length ≤ 60000)
/-- an int as a 64-bit word -/
def word (n : Int) : Nat := (n % 18446744073709551616).toNat
def V.bytes (v : V) : List UInt8 := UInt8.ofNat v.k.toNat :: (if v.k = 1 then be8 (word v.n) else if v.k = 2 then UInt8.ofNat v.s.length :: v.s else [])
def rowBytes (r : List V) : List UInt8 := if row r then UInt8.ofNat r.length :: r.flatMap V.bytes else []
def E.bytes (e : E) : List UInt8 := be 2 e.page.toNat ++ be 1 (e.slot + 1).toNat ++ text e.item
def R.raw (r : R) : List UInt8 :=
  be 1 r.kind.toNat ++ be 1 r.xid.toNat ++ be 2 r.table.toNat ++ text (rowBytes r.old) ++ text (rowBytes r.new) ++ be 1 r.edits.length ++ r.edits.flatMap E.bytes ++ be 1 r.xids.length ++ (r.xids.flatMap fun x => be 1 x.toNat) ++ text r.note
def R.bytes (r : R) : List UInt8 := if r.right then r.raw else []
def frame (r : R) : List UInt8 := if r.right then be 4 r.raw.length ++ be 4 (sum r.raw) ++ r.raw else []
end Go.VB.Rec
