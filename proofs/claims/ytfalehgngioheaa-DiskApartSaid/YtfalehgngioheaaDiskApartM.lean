import Derived.Test.YtfalehgngioheaaDiskY
import Derived.Test.YtfalehgngioheaaMap
/- A disk of five pages: what each page reads as. -/
set_option linter.unusedVariables false
namespace Go.Proofs.Ytfalehgngioheaa
open Go.RowKit Go.VB Go.VB.Disk
structure ApM (m : DM) (ls : Int → Bytes) (k : Nat) : Prop where
  ok : m.Ok k
  off : m.off = false
  armed : m.armed = false
  len : m.pages.length = 5
  rd : ∀ n : Nat, n < 5 → (m.pages.getD n ⟨[], []⟩).cur = if ls n = [] then Disk.blank else ls n
theorem ApM.read {m : DM} {ls : Int → Bytes} {k : Nat} (h : ApM m ls k) (n : Nat) (hn : n < 5) : m.read n = (if ls n = [] then Disk.blank else ls n, 0) := by
  unfold DM.read DM.is
  rw [h.off, if_neg (by simp), if_pos (by simp [h.len]; omega)]
  have := h.rd n hn
  rw [Int.toNat_natCast, this]
theorem ap_new : ApM (DM.new 5) (fun _ => []) 0 := by
  refine ⟨Ok_new 5 (by omega), rfl, rfl, rfl, fun n hn => ?_⟩
  rw [if_pos rfl]
  rcases (show n = 0 ∨ n = 1 ∨ n = 2 ∨ n = 3 ∨ n = 4 by omega) with rfl | rfl | rfl | rfl | rfl <;> rfl
theorem ap_write {m : DM} {ls : Int → Bytes} {k : Nat} (h : ApM m ls k) {n : Nat} (hn : n < 5) {s : Bytes} (hs : s.length = 512) : ∃ m', m.write n s = (m', 0) ∧ ApM m' (fun x => if x = n then s else ls x) (k + 1) := by
  have okw := Ok_write h.ok n s
  have his : m.is n = true := by simp [DM.is, h.len]; omega
  have hw : m.write n s = ({ m with left := wrap64 (m.left - 1), pages := m.pages.modify (n : Int).toNat (Pg.write s) }, 0) := by
    unfold DM.write DM.operate
    rw [his, h.off, h.armed, hs]
    rfl
  rw [hw] at okw
  refine ⟨_, hw, okw, h.off, h.armed, by simpa using h.len, fun x hx => ?_⟩
  have hr := h.rd x hx
  have hxl : x < m.pages.length := by rw [h.len]; exact hx
  simp only [Int.toNat_natCast, List.getD_eq_getElem?_getD, List.getElem?_modify, List.getElem?_eq_getElem hxl, Option.map_eq_map, Option.map_some, Option.getD_some] at hr ⊢
  by_cases e : x = n
  · subst e
    have hs0 : s ≠ [] := by intro e; rw [e] at hs; cases hs
    simp only [if_true]
    rw [if_neg hs0]
    simp [Pg.write, Pg.cur]
  · have e1 : ¬ n = x := fun h => e h.symm
    have e2 : ¬ (x : Int) = n := by omega
    simp only [e1, e2, if_false]
    exact hr
theorem ap_sync {m : DM} {ls : Int → Bytes} {k : Nat} (h : ApM m ls k) : ∃ m', m.sync = (m', 0) ∧ ApM m' ls k := by
  have okw := Ok_sync h.ok
  have hw : m.sync = ({ m with left := wrap64 (m.left - 1), pages := m.pages.map Pg.sync }, 0) := by
    unfold DM.sync DM.operate
    rw [h.off, h.armed]
    rfl
  rw [hw] at okw
  refine ⟨_, hw, okw, h.off, h.armed, by simpa using h.len, fun x hx => ?_⟩
  have hr := h.rd x hx
  have hxl : x < m.pages.length := by rw [h.len]; exact hx
  simp only [List.getD_eq_getElem?_getD, List.getElem?_map, List.getElem?_eq_getElem hxl, Option.map_some, Option.getD_some] at hr ⊢
  exact hr
end Go.Proofs.Ytfalehgngioheaa
