import Derived.Test.YtfhkmiifndhacaaScM
import Derived.Test.YtfhkmiifndhacaaRdN
import Derived.Test.YtfhkmiifndhacaaRecE
/- Scanning the frames of records, whole and cut (plain Lean). -/
set_option linter.unusedVariables false
namespace Go.VB.Rec
open Go.VB.Oct Go.Proofs.Ytfhkmiifndhacaa
/-- valid, and read back as it is -/
structure GoodR (r : R) : Prop where
  right : r.right = true
  back : readR r.raw = (r, 0)
def frames (l : List R) : List UInt8 := l.flatMap frame
def ends (a : Nat) : List R → List Int
  | [] => []
  | r :: l => ((a + (frame r).length : Nat) : Int) :: ends (a + (frame r).length) l
theorem good_frame {r : R} (h : GoodR r) : frame r = be 4 r.raw.length ++ (be 4 (sum r.raw) ++ r.raw) := by unfold frame; rw [if_pos h.right, List.append_assoc]
theorem good_len {r : R} (h : GoodR r) : (frame r).length = r.raw.length + 8 := by rw [good_frame h]; simp [be_length]; omega
theorem has_at (p t : List UInt8) : (RM.mk (p ++ t) p.length false).Has t := ⟨rfl, by simp, by simp⟩
theorem scan1_frame {r : R} (h : GoodR r) (p t : List UInt8) : scan1 (p ++ (frame r ++ t)) p.length = some (r, p.length + (frame r).length) := by
  have hl := raw_le h.right
  have h0 := has_at p (frame r ++ t)
  have hlen := good_len h
  rw [good_frame h, List.append_assoc, List.append_assoc] at h0
  rw [good_frame h, List.append_assoc, List.append_assoc]
  obtain ⟨r1, g1, h1, s1, a1⟩ := h0.num 4 (by omega) (by omega)
  obtain ⟨r2, g2, h2, s2, a2⟩ := h1.num 4 (by omega) (by have := sum_lt r.raw; omega)
  obtain ⟨r3, g3, h3, s3, a3⟩ := h2.app rfl
  unfold scan1
  rw [g1]
  dsimp only
  rw [g2]
  dsimp only
  rw [g3]
  dsimp only
  rw [if_neg (by rw [h3.ok]; simp), h.back]
  dsimp only
  rw [if_neg (by simp), a3, a2, a1]
  congr 2
  simp only [List.length_append, be_length _ _ (show 4 ≤ 8 by omega)]
  omega
theorem scan1_short {r : R} (h : GoodR r) (p : List UInt8) (m : Nat) (hm : m < (frame r).length) : scan1 (p ++ (frame r).take m) p.length = none := by
  have hl := raw_le h.right
  have hlen := good_len h
  have h0 := has_at p ((frame r).take m)
  have fin : ∀ rm : RM, rm.failed = true → (rm.take 0).1.failed = true := fun rm h => by rw [RM.take_failed h]; exact h
  unfold scan1
  dsimp only
  rw [if_pos]
  rw [Bool.or_eq_true]
  left
  by_cases h4 : m < 4
  · have hn : (RM.mk (p ++ (frame r).take m) p.length false).num 4 = ({ (RM.mk (p ++ (frame r).take m) p.length false) with failed := true }, 0) := by
      unfold RM.num
      rw [h0.bad (by rw [List.length_take]; omega)]
      rfl
    rw [hn]
    dsimp only
    rw [RM.num_failed rfl]
    dsimp only
    rw [RM.take_failed rfl]
  · have e4 : (frame r).take m = be 4 r.raw.length ++ ((be 4 (sum r.raw) ++ r.raw).take (m - 4)) := by
      rw [good_frame h, List.take_append, be_length _ _ (show 4 ≤ 8 by omega), List.take_of_length_le (by rw [be_length _ _ (by omega)]; omega)]
    rw [e4] at h0 ⊢
    obtain ⟨r1, g1, h1, s1, a1⟩ := h0.num 4 (by omega) (by omega)
    rw [g1]
    dsimp only
    by_cases h8 : m < 8
    · have hn : r1.num 4 = ({ r1 with failed := true }, 0) := by
        unfold RM.num
        rw [h1.bad (by rw [List.length_take]; omega)]
        rfl
      rw [hn]
      dsimp only
      rw [RM.take_failed rfl]
    · have e8 : (be 4 (sum r.raw) ++ r.raw).take (m - 4) = be 4 (sum r.raw) ++ r.raw.take (m - 8) := by
        rw [List.take_append, be_length _ _ (show 4 ≤ 8 by omega), List.take_of_length_le (by rw [be_length _ _ (by omega)]; omega), Nat.sub_sub]
      rw [e8] at h1
      obtain ⟨r2, g2, h2, s2, a2⟩ := h1.num 4 (by omega) (by have := sum_lt r.raw; omega)
      rw [g2]
      dsimp only
      rw [h2.bad (by rw [List.length_take]; omega)]
theorem scanF_frames : ∀ (l : List R), (∀ r ∈ l, GoodR r) → ∀ (p u : List UInt8) (f : Nat), l.length < f → scan1 (p ++ (frames l ++ u)) (p ++ frames l).length = none → scanF f (p ++ (frames l ++ u)) p.length = (l, ends p.length l)
  | [], _, p, u, f + 1, _, hu => by
    have e : p ++ frames [] = p := by simp [frames]
    rw [e] at hu
    rw [scanF_none hu]
    rfl
  | r :: l, hg, p, u, f + 1, hf, hu => by
    have e1 : frames (r :: l) ++ u = frame r ++ (frames l ++ u) := by simp [frames]
    have e2 : p ++ (frames (r :: l) ++ u) = (p ++ frame r) ++ (frames l ++ u) := by rw [e1]; simp
    have e3 : p ++ frames (r :: l) = (p ++ frame r) ++ frames l := by simp [frames]
    have hs := scan1_frame (hg r (by simp)) p (frames l ++ u)
    rw [← e1] at hs
    rw [scanF_some hs]
    rw [e2, e3] at hu
    rw [e2]
    have ih := scanF_frames l (fun x hx => hg x (by simp [hx])) (p ++ frame r) u f (by simpa using hf) hu
    rw [List.length_append] at ih
    rw [ih]
    rfl
theorem frames_len (l : List R) (h : ∀ r ∈ l, GoodR r) : l.length ≤ (frames l).length := by
  induction l with
  | nil => simp
  | cons r l ih =>
    have := good_len (h r (by simp))
    have := ih (fun x hx => h x (by simp [hx]))
    simp [frames] at *
    omega
/-- a log and what stands behind it -/
theorem scan_frames {l : List R} (h : ∀ r ∈ l, GoodR r) (u : List UInt8) (hu : scan1 (frames l ++ u) (frames l).length = none) : scan (frames l ++ u) = (l, ends 0 l) := by
  have := scanF_frames l h [] u ((frames l ++ u).length + 1) (by have := frames_len l h; rw [List.length_append]; omega) (by simpa using hu)
  simpa [scan] using this
theorem ends_len : ∀ (a : Nat) (l : List R), (ends a l).length = l.length
  | _, [] => rfl
  | a, r :: l => by simp [ends, ends_len _ l]
theorem frames_le {l : List R} (h : ∀ r ∈ l, GoodR r) (hl : l.length ≤ 24) : (frames l).length ≤ 3000000 := by
  have := flat_le frame 100008 l (fun r hr => by rw [good_len (h r hr)]; have := raw_le (h r hr).right; omega)
  unfold frames
  have : 100008 * l.length ≤ 100008 * 24 := Nat.mul_le_mul_left _ hl
  omega
end Go.VB.Rec
