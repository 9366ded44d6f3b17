import Derived.Test.YtfhkmiifndhacaaPreM
/- One byte of a frame behind its length is changed (plain Lean). -/
set_option linter.unusedVariables false
namespace Go.VB.Rec
open Go.VB.Oct Go.Proofs.Ytfhkmiifndhacaa
def total (l : List UInt8) : Nat := (l.map UInt8.toNat).sum
theorem total_app (l m : List UInt8) : total (l ++ m) = total l + total m := by simp [total]
theorem total_cons (c : UInt8) (l : List UInt8) : total (c :: l) = c.toNat + total l := by simp [total]
theorem sums_total (l : List UInt8) : (sums l).1 = (1 + total l) % 65521 := by
  rw [← List.reverse_reverse l]
  induction l.reverse with
  | nil => simp [sums, total]
  | cons c l ih =>
    rw [List.reverse_cons, sums_snoc, total_app, ih]
    simp only [total, List.map_cons, List.map_nil, List.sum_cons, List.sum_nil]
    omega
theorem sum_mod (l : List UInt8) : sum l % 65536 = (1 + total l) % 65521 := by
  have := sums_lt l
  have h := sums_total l
  unfold sum
  omega
theorem sum_flip {l : List UInt8} {i : Nat} {y : UInt8} (hi : i < l.length) (hy : y ≠ l[i]) : sum (l.set i y) ≠ sum l := by
  intro h
  have h1 := sum_mod (l.set i y)
  have h2 := sum_mod l
  rw [h, h2] at h1
  have e1 : l = l.take i ++ l[i] :: l.drop (i + 1) := by rw [← List.drop_eq_getElem_cons hi, List.take_append_drop]
  have e2 : l.set i y = l.take i ++ y :: l.drop (i + 1) := by rw [List.set_eq_take_append_cons_drop, if_pos hi]
  have t1 : total l = total (l.take i) + l[i].toNat + total (l.drop (i + 1)) := by
    conv => lhs; rw [e1]
    rw [total_app, total_cons]
    omega
  have t2 : total (l.set i y) = total (l.take i) + y.toNat + total (l.drop (i + 1)) := by
    rw [e2, total_app, total_cons]
    omega
  have hne : y.toNat ≠ l[i].toNat := fun e => hy (UInt8.toNat_inj.1 e)
  have := y.toNat_lt
  have := l[i].toNat_lt
  rw [t1, t2] at h1
  omega
theorem set_ne {l : List UInt8} {i : Nat} {y : UInt8} (hi : i < l.length) (hy : y ≠ l[i]) : l.set i y ≠ l := by
  intro h
  have : (l.set i y)[i]'(by simpa using hi) = l[i] := by simp only [h]
  rw [List.getElem_set_self] at this
  exact hy this
/-- a changed frame is not taken -/
theorem scan1_flip {r : R} (h : GoodR r) (p t : List UInt8) {i : Nat} {y : UInt8} (hi : i < r.raw.length + 4) (hy : y ≠ (be 4 (sum r.raw) ++ r.raw)[i]'(by rw [List.length_append, be_length _ _ (by omega)]; omega)) :
    scan1 (p ++ (be 4 r.raw.length ++ ((be 4 (sum r.raw) ++ r.raw).set i y ++ t))) p.length = none := by
  have hl := raw_le h.right
  have hb4 : (be 4 (sum r.raw)).length = 4 := be_length _ _ (by omega)
  have hs := sum_lt r.raw
  have h0 := has_at p (be 4 r.raw.length ++ ((be 4 (sum r.raw) ++ r.raw).set i y ++ t))
  obtain ⟨r1, g1, h1, s1, a1⟩ := h0.num 4 (by omega) (by omega)
  unfold scan1
  dsimp only
  rw [g1]
  dsimp only
  by_cases h4 : i < 4
  · have e : (be 4 (sum r.raw) ++ r.raw).set i y = (be 4 (sum r.raw)).set i y ++ r.raw := List.set_append_left _ _ (by omega)
    rw [e, List.append_assoc] at h1
    have hlen : ((be 4 (sum r.raw)).set i y).length = 4 := by rw [List.length_set, hb4]
    obtain ⟨r2, g2, h2, s2, a2⟩ := h1.app hlen
    have hn : r1.num 4 = (r2, num ((be 4 (sum r.raw)).set i y)) := by unfold RM.num; rw [g2]
    rw [hn]
    dsimp only
    obtain ⟨r3, g3, h3, s3, a3⟩ := h2.app rfl
    rw [g3]
    dsimp only
    rw [if_pos]
    rw [Bool.or_eq_true]
    right
    apply decide_eq_true
    intro hh
    rw [List.getElem_append_left (by omega)] at hy
    have hnum : num (be 4 (sum r.raw)) = sum r.raw := num_be_lt (n := sum r.raw) (k := 4) (by decide) (Nat.lt_of_lt_of_le hs (by decide))
    have hi4 : i < (be 4 (sum r.raw)).length := by rw [hb4]; exact h4
    have hx : num ((be 4 (sum r.raw)).set i y) = num (be 4 (sum r.raw)) := by rw [hnum]; exact hh.symm
    exact set_ne hi4 hy (num_inj (by rw [List.length_set]) hx)
  · have e : (be 4 (sum r.raw) ++ r.raw).set i y = be 4 (sum r.raw) ++ r.raw.set (i - 4) y := by rw [List.set_append_right _ _ (by omega), hb4]
    rw [e, List.append_assoc] at h1
    obtain ⟨r2, g2, h2, s2, a2⟩ := h1.num 4 (by omega) (by omega)
    rw [g2]
    dsimp only
    have hsl : (r.raw.set (i - 4) y).length = r.raw.length := by rw [List.length_set]
    have h2a := RM.Has.app h2 hsl
    refine Exists.elim h2a (fun r3 hh => ?_)
    rw [hh.1]
    dsimp only
    rw [if_pos]
    rw [Bool.or_eq_true]
    right
    apply decide_eq_true
    rw [List.getElem_append_right (by omega)] at hy
    simp only [hb4] at hy
    exact sum_flip (by omega) hy
/-- frames ahead of a changed one -/
theorem scan_flip {l : List R} (h : ∀ r ∈ l, GoodR r) {r : R} (hr : GoodR r) (t : List UInt8) {i : Nat} {y : UInt8} (hi : i < r.raw.length + 4) (hy : y ≠ (be 4 (sum r.raw) ++ r.raw)[i]'(by rw [List.length_append, be_length _ _ (by omega)]; omega)) :
    scan (frames l ++ (be 4 r.raw.length ++ ((be 4 (sum r.raw) ++ r.raw).set i y ++ t))) = (l, ends 0 l) := scan_frames h _ (scan1_flip hr (frames l) t hi hy)
theorem ends_app : ∀ (a : Nat) (l m : List R), ends a (l ++ m) = ends a l ++ ends (a + (frames l).length) m
  | a, [], m => by simp [ends, frames]
  | a, r :: l, m => by
    have := ends_app (a + (frame r).length) l m
    simp only [List.cons_append, ends, this]
    congr 3
    simp [frames]
    omega
theorem frames_at {l : List R} (h : ∀ r ∈ l, GoodR r) {k : Nat} (hk : k < l.length) : frames l = frames (l.take k) ++ (be 4 l[k].raw.length ++ (be 4 (sum l[k].raw) ++ l[k].raw)) ++ frames (l.drop (k + 1)) := by
  have e : l = l.take k ++ l[k] :: l.drop (k + 1) := by rw [← List.drop_eq_getElem_cons hk, List.take_append_drop]
  have e2 : frame l[k] = be 4 l[k].raw.length ++ be 4 (sum l[k].raw) ++ l[k].raw := by unfold frame; rw [if_pos (h _ (List.getElem_mem hk)).right]
  conv => lhs; rw [e]
  rw [frames_app]
  have e3 : frames (l[k] :: l.drop (k + 1)) = frame l[k] ++ frames (l.drop (k + 1)) := by unfold frames; rw [List.flatMap_cons]
  rw [e3, e2]
  simp only [List.append_assoc]
/-- a log with one changed byte behind the length of frame k -/
theorem flip_log {l : List R} (h : ∀ r ∈ l, GoodR r) {k : Nat} (hk : k < l.length) {m : Nat} (hm : m < l[k].raw.length + 4) {y : UInt8} (hlt : upto l k + 4 + m < (frames l).length) (hy : y ≠ (frames l)[upto l k + 4 + m]) (t : List UInt8) :
    scan ((frames l).set (upto l k + 4 + m) y ++ t) = (l.take k, ends 0 (l.take k)) := by
  have hg := h _ (List.getElem_mem hk)
  have hl := raw_le hg.right
  have hb4 : (be 4 (sum l[k].raw)).length = 4 := be_length _ _ (by omega)
  have hc4 : (be 4 l[k].raw.length).length = 4 := be_length _ _ (by omega)
  have hfr := frames_at h hk
  have hu : (frames (l.take k)).length = upto l k := rfl
  have hset : (frames l).set (upto l k + 4 + m) y = frames (l.take k) ++ (be 4 l[k].raw.length ++ ((be 4 (sum l[k].raw) ++ l[k].raw).set m y)) ++ frames (l.drop (k + 1)) := by
    rw [hfr, List.set_append_left _ _ (by simp only [List.length_append, hb4, hc4, hu]; omega), List.set_append_right _ _ (by rw [hu]; omega), hu, List.set_append_right _ _ (by rw [hc4]; omega), hc4]
    congr 4
    omega
  have hat : (frames l)[upto l k + 4 + m] = (be 4 (sum l[k].raw) ++ l[k].raw)[m]'(by rw [List.length_append, hb4]; omega) := by
    apply Option.some.inj
    rw [← List.getElem?_eq_getElem, ← List.getElem?_eq_getElem, hfr, List.getElem?_append_left (by simp only [List.length_append, hb4, hc4, hu]; omega), List.getElem?_append_right (by rw [hu]; omega), hu, List.getElem?_append_right (by rw [hc4]; omega), hc4]
    congr 1
    omega
  rw [hset, List.append_assoc, List.append_assoc, List.append_assoc]
  exact scan_flip (l := l.take k) (fun r hr => h r (List.mem_of_mem_take hr)) hg (frames (l.drop (k + 1)) ++ t) hm (y := y) (by rw [← hat]; exact hy)
end Go.VB.Rec
