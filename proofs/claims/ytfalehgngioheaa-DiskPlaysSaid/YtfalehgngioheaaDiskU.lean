import Derived.Test.YtfalehgngioheaaDiskT
import Derived.Lib.Strings
set_option linter.unusedVariables false
namespace Go.Proofs.Ytfalehgngioheaa
open Go.RowKit Go.VB Go.VB.Disk
def fill (s : Bytes) : Bytes := if s = [] then Disk.blank else if s.getLast? = some 33 then s else ((List.replicate 512 s).flatten).take 512
theorem bs_empty (l : Bytes) : (bs l).toList.isEmpty = l.isEmpty := by rw [Lib.toList_data]; simp [bs]
theorem Fill_empty (w : World) : Calls Try.prog 16 #[.string (bs [])] w fun e w' => e = .returned (.string (bs Disk.blank)) ∧ Fr (fun _ => False) w w' := by
  have HB := hid (Blank_go w)
  have he : (bs []).toList.isEmpty = true := by rw [bs_empty]; rfl
  generalize bs Disk.blank = b at *
  generalize bs [] = z at *
  go_enter Try.func16, Try.ntmps16
  go_wp2_with (first | (go_at_call 15; refine HB.out.mono ?_; rintro e w' ⟨rfl, hf⟩))
  go_ret
  exact ⟨rfl, hf⟩
theorem bs_last (l : Bytes) (x : UInt8) (i : Nat) (hi : i = l.length) (h : i < (bs (l ++ [x])).size) : (bs (l ++ [x]))[i]'h = x := by
  subst hi
  have : (bs (l ++ [x]))[l.length]'h = (l ++ [x])[l.length]'(by simp) := rfl
  rw [this]
  simp
theorem bs_nonempty (l : Bytes) (x : UInt8) : (bs (l ++ [x])).toList.isEmpty = false := by rw [bs_empty]; simp
theorem Fill_bang (w : World) (l : Bytes) (hs : l.length ≤ 1099511627776) : Calls Try.prog 16 #[.string (bs (l ++ [33]))] w fun e w' => e = .returned (.string (bs (l ++ [33]))) ∧ w = w' := by
  have hsz : (bs (l ++ [33])).size = l.length + 1 := by rw [bs_size]; simp
  have he := bs_nonempty l 33
  have hx := bs_last l 33
  generalize bs (l ++ [33]) = b at *
  have hwr : wrap64 ((b.size : Int) - 1) = l.length := by rw [hsz]; simp only [wrap64]; omega
  have hx' : ∀ h, ((b[(wrap64 ((b.size : Int) - 1)).toNat]'h).toNat : Int) = 33 := fun h => by rw [hx _ (by rw [hwr]; omega) h]; rfl
  go_enter Try.func16, Try.ntmps16
  go_wp2
  · go_ret
    exact ⟨rfl, rfl⟩
def strSize : Value → Nat
  | .string b => b.size
  | _ => 0
theorem flat_rep_len (s : Bytes) (k : Nat) : (List.replicate k s).flatten.length = k * s.length := by simp
theorem flat_rep_take (s : Bytes) (k : Nat) (hk : k ≤ 512) (h : 512 ≤ (List.replicate k s).flatten.length) : (List.replicate k s).flatten.take 512 = (List.replicate 512 s).flatten.take 512 := by
  obtain ⟨j, hj⟩ : ∃ j, 512 = k + j := ⟨512 - k, by omega⟩
  have e : (List.replicate 512 s).flatten = (List.replicate k s).flatten ++ (List.replicate j s).flatten := by
    rw [← List.flatten_append, List.replicate_append_replicate, ← hj]
  rw [e, List.take_append_of_le_length h]
set_option maxHeartbeats 400000 in
theorem Fill_rep (w : World) (l : Bytes) (x : UInt8) (hx33 : x ≠ 33) (hs : l.length ≤ 1099511627776) : Calls Try.prog 16 #[.string (bs (l ++ [x]))] w fun e w' => e = .returned (.string (bs ((List.replicate 512 (l ++ [x])).flatten.take 512))) ∧ w = w' := by
  have hsz : (bs (l ++ [x])).size = l.length + 1 := by rw [bs_size]; simp
  have he := bs_nonempty l x
  have hx := bs_last l x
  have hadd : ∀ k, k ≤ 512 → (List.replicate k (l ++ [x])).flatten.length < 512 → (Op.stringOp .add (bs (List.replicate k (l ++ [x])).flatten) (bs (l ++ [x]))).run Try.prog w = .ok (.string (bs (List.replicate (k + 1) (l ++ [x])).flatten)) w := by
    intro k hk hlt
    have := run_add_bs (P := Try.prog) w (List.replicate k (l ++ [x])).flatten (l ++ [x]) (by simp at hlt ⊢; omega)
    rw [this, List.replicate_succ', List.flatten_append]
    simp
  have hcut : ∀ k, k ≤ 512 → 512 ≤ (List.replicate k (l ++ [x])).flatten.length → (bs (List.replicate k (l ++ [x])).flatten).extract 0 512 = bs ((List.replicate 512 (l ++ [x])).flatten.take 512) := by
    intro k hk hge
    rw [← flat_rep_take _ k hk hge]
    apply ByteArray.ext
    simp [bs]
  have hsize : ∀ k, (bs (List.replicate k (l ++ [x])).flatten).size = k * (l.length + 1) := by
    intro k; rw [bs_size, flat_rep_len]; simp
  have hlen : ∀ k, (List.replicate k (l ++ [x])).flatten.length = k * (l.length + 1) := by intro k; rw [flat_rep_len]; simp
  generalize bs (l ++ [x]) = b at *
  have hwr : wrap64 ((b.size : Int) - 1) = l.length := by rw [hsz]; simp only [wrap64]; omega
  have hx' : ∀ h, ((b[(wrap64 ((b.size : Int) - 1)).toNat]'h).toNat : Int) ≠ 33 := fun h => by
    rw [hx _ (by rw [hwr]; omega) h]
    intro h; apply hx33
    exact UInt8.toNat_inj.1 (by simpa using Int.ofNat_inj.1 h)
  have hx3 : (x.toNat : Int) ≠ 33 := by
    intro h; apply hx33; exact UInt8.toNat_inj.1 (by simpa using Int.ofNat_inj.1 h)
  have h0 : bs (List.replicate 0 (l ++ [x])).flatten = ⟨#[]⟩ := rfl
  generalize bs (List.take 512 (List.replicate 512 (l ++ [x])).flatten) = r at *
  go_enter Try.func16, Try.ntmps16
  go_wp2
  · go_loop [3] (fun v => ∃ k : Nat, v = .string (bs (List.replicate k (l ++ [x])).flatten) ∧ k ≤ 512) (fun v => 512 - strSize v)
    case atStart => exact ⟨0, by rw [h0], by omega⟩
    case round =>
      obtain ⟨k, rfl, hk⟩ := hrel
      have hs1 := hsize k
      have hl1 := hlen k
      have hs2 := hsize (k + 1)
      have ha := hadd k hk
      have hc := hcut k hk
      have hk1 : k * (l.length + 1) < 512 → k + 1 ≤ 512 := by
        intro h
        have : k ≤ k * (l.length + 1) := Nat.le_mul_of_pos_right _ (by omega)
        omega
      rw [hl1] at ha hc
      have hm : (k + 1) * (l.length + 1) = k * (l.length + 1) + (l.length + 1) := Nat.succ_mul _ _
      generalize (k + 1) * (l.length + 1) = n2 at *
      generalize k * (l.length + 1) = n1 at *
      clear hx hx' hwr he hadd hcut hsize hlen
      by_cases hlt : n1 < 512
      · have hlti : (n1 : Int) < 512 := by omega
        have ha := ha hlt
        generalize hc1 : bs (List.replicate k (l ++ [x])).flatten = c1 at *
        generalize hc2 : bs (List.replicate (k + 1) (l ++ [x])).flatten = c2 at *
        go_wp2
        go_round
        case rel => exact ⟨k + 1, by rw [hc2], hk1 hlt⟩
        case measure => simp [strSize]; omega
      · have hlti : ¬ (n1 : Int) < 512 := by omega
        have hc := hc (by omega)
        generalize hc1 : bs (List.replicate k (l ++ [x])).flatten = c1 at *
        go_wp2
        go_ret
        exact ⟨rfl, rfl⟩
theorem Fill_go (w : World) (s : Bytes) (hs : s.length ≤ 1099511627776) : Calls Try.prog 16 #[.string (bs s)] w fun e w' => e = .returned (.string (bs (fill s))) ∧ Fr (fun _ => False) w w' := by
  rcases List.eq_nil_or_concat s with rfl | ⟨l, x, h⟩
  · have : fill [] = Disk.blank := by simp [fill]
    rw [this]
    exact Fill_empty w
  · rw [List.concat_eq_append] at h
    subst h
    by_cases hx : x = 33
    · subst hx
      have : fill (l ++ [33]) = l ++ [33] := by simp [fill]
      rw [this]
      refine (Fill_bang w l (by simp at hs; omega)).mono ?_
      rintro e w' ⟨rfl, rfl⟩
      exact ⟨rfl, Fr.refl _ _⟩
    · have : fill (l ++ [x]) = (List.replicate 512 (l ++ [x])).flatten.take 512 := by
        unfold fill
        rw [if_neg (by simp), if_neg (by simpa using hx)]
      rw [this]
      refine (Fill_rep w l x hx (by simp at hs; omega)).mono ?_
      rintro e w' ⟨rfl, rfl⟩
      exact ⟨rfl, Fr.refl _ _⟩
theorem fill_length (s : Bytes) (h : s.getLast? ≠ some 33) : (fill s).length = 512 := by
  unfold fill
  split
  · unfold Disk.blank; rw [List.length_replicate]
  · rename_i hs
    rw [List.length_take, flat_rep_len]
    have : 1 ≤ s.length := by
      cases s with
      | nil => exact absurd rfl hs
      | cons => simp
    omega
