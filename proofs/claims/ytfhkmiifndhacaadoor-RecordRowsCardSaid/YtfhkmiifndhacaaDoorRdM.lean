import Derived.Test.YtfhkmiifndhacaaDoorOctC
import Derived.Test.YtfhkmiifndhacaaDoorValM
/- record.Read as a plain function of bytes. -/
set_option linter.unusedVariables false
namespace Go.VB.Rec
open Go.VB.Oct
/-- a row out of a text: reader, whether all fitted, the row -/
def rowsM (b : RM) (fits : Bool) : RM × Bool × List V := if b.text.1.failed then (b.text.1, fits, []) else (b.text.1, fits && decide ((readV b.text.2).2 = 0), (readV b.text.2).1)
def editsAt : Nat → RM → RM × List E
  | 0, b => (b, [])
  | j + 1, b => ((((editsAt j b).1.num 2).1.num 1).1.text.1, (editsAt j b).2 ++ [⟨((editsAt j b).1.num 2).2, (((editsAt j b).1.num 2).1.num 1).2 - 1, (((editsAt j b).1.num 2).1.num 1).1.text.2⟩])
def xidsAt : Nat → RM → RM × List Int
  | 0, b => (b, [])
  | j + 1, b => (((xidsAt j b).1.num 1).1, (xidsAt j b).2 ++ [(((xidsAt j b).1.num 1).2 : Int)])
def R.zero : R := ⟨0, 0, 0, [], [], [], [], []⟩
def rd3 (s : List UInt8) : RM := (((RM.new s).num 1).1.num 1).1.num 2 |>.1
def rdO (s : List UInt8) := rowsM (rd3 s) true
def rdN (s : List UInt8) := rowsM (rdO s).1 (rdO s).2.1
def rdE (s : List UInt8) := editsAt ((rdN s).1.num 1).2 ((rdN s).1.num 1).1
def rdX (s : List UInt8) := xidsAt ((rdE s).1.num 1).2 ((rdE s).1.num 1).1
def rdT (s : List UInt8) := (rdX s).1.text
def rdR (s : List UInt8) : R := ⟨((RM.new s).num 1).2, (((RM.new s).num 1).1.num 1).2, ((((RM.new s).num 1).1.num 1).1.num 2).2, (rdO s).2.2, (rdN s).2.2, (rdE s).2, (rdX s).2, (rdT s).2⟩
def readR (s : List UInt8) : R × Int := if (rdT s).1.failed then (R.zero, 10) else if !(rdN s).2.1 || decide (0 < (rdT s).1.left) || !(rdR s).right then (R.zero, 11) else (rdR s, 0)
theorem ok_rowsM {b : RM} (h : b.Ok) (fits : Bool) : (rowsM b fits).1.Ok := by
  unfold rowsM
  split <;> exact h.text
theorem ok_editsAt {b : RM} (h : b.Ok) : ∀ j, (editsAt j b).1.Ok
  | 0 => h
  | j + 1 => (((ok_editsAt h j).num 2).num 1).text
theorem ok_xidsAt {b : RM} (h : b.Ok) : ∀ j, (xidsAt j b).1.Ok
  | 0 => h
  | j + 1 => (ok_xidsAt h j).num 1
theorem editsAt_len (b : RM) : ∀ j, (editsAt j b).2.length = j
  | 0 => rfl
  | j + 1 => by simp [editsAt, editsAt_len b j]
theorem xidsAt_len (b : RM) : ∀ j, (xidsAt j b).2.length = j
  | 0 => rfl
  | j + 1 => by simp [xidsAt, xidsAt_len b j]
theorem readV_len (s : List UInt8) : (readV s).1.length ≤ 6 := by
  have hN : ∀ n s l u, readN n s = .ok (l, u) → l.length = n := by
    intro n
    induction n with
    | zero => intro s l u h; cases h; rfl
    | succ n ih =>
      intro s l u h
      unfold readN at h
      split at h
      · cases h
      · split at h
        · cases h
        · rename_i hh
          cases h
          rw [List.length_cons, ih _ _ _ hh]
  unfold readV
  cases s with
  | nil => simp
  | cons n s =>
    dsimp only
    split
    · simp
    · split
      · simp
      · rename_i hh; rw [hN _ _ _ _ hh]; omega
      · simp
theorem rowsM_len (b : RM) (fits : Bool) : (rowsM b fits).2.2.length ≤ 6 := by
  unfold rowsM
  split
  · simp
  · exact readV_len _
theorem readR_eq (s : List UInt8) {m1 m2 m3 mc md : RM × Nat} {mo mn : RM × Bool × List V} {me : RM × List E} {mx : RM × List Int} {mt : RM × List UInt8} (h1 : (RM.new s).num 1 = m1) (h2 : m1.1.num 1 = m2) (h3 : m2.1.num 2 = m3) (ho : rowsM m3.1 true = mo) (hn : rowsM mo.1 mo.2.1 = mn) (hc : mn.1.num 1 = mc) (he : editsAt mc.2 mc.1 = me) (hd : me.1.num 1 = md) (hx : xidsAt md.2 md.1 = mx) (ht : mx.1.text = mt) :
    readR s = if mt.1.failed then (R.zero, 10) else if !mn.2.1 || decide (0 < mt.1.left) || !(R.mk m1.2 m2.2 m3.2 mo.2.2 mn.2.2 me.2 mx.2 mt.2).right then (R.zero, 11) else (R.mk m1.2 m2.2 m3.2 mo.2.2 mn.2.2 me.2 mx.2 mt.2, 0) := by
  subst h1 h2 h3 ho hn hc he hd hx ht
  rfl
end Go.VB.Rec
