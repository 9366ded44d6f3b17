import Derived.Test.YtfalehgngioheaaDiskW
set_option linter.unusedVariables false
namespace Go.Proofs.Ytfalehgngioheaa
open Go.RowKit Go.VB Go.VB.Disk
/-- a disk in memory that keeps off the blocks X -/
def G (X : Nat → Prop) (w : World) (d : Nat) (m : DM) : Prop := ∃ S, (∀ k, S k → ¬ X k) ∧ (∀ k, X k → k < w.heap.size) ∧ DRep S w d m
section
variable {X : Nat → Prop} {w : World} {d : Nat} {m : DM}
theorem G.step {S : Nat → Prop} {w' : World} {m' : DM} (h1 : ∀ k, S k → ¬ X k) (h2 : ∀ k, X k → k < w.heap.size) (hf : Fr S w w') (h : DRep (Ext S w w') w' d m') : G X w' d m' ∧ Fr (fun k => ¬ X k) w w' :=
  ⟨⟨Ext S w w', fun k hk hx => hk.elim (fun h => h1 k h hx) (fun h => by have := h2 k hx; omega), fun k hx => Nat.lt_of_lt_of_le (h2 k hx) hf.size, h⟩, hf.mono fun k hk _ => h1 k hk⟩
theorem G.fr {R : Nat → Prop} {w' : World} (g : G X w d m) (hf : Fr R w w') (hR : ∀ k, R k → X k) : G X w' d m := by
  obtain ⟨S, h1, h2, h⟩ := g
  exact ⟨S, h1, fun k hx => Nat.lt_of_lt_of_le (h2 k hx) hf.size, h.fr hf fun k hk hr => h1 k hk (hR k hr)⟩
/-- what has been made since is X's too -/
theorem G.own {w' : World} (g : G X w d m) (hf : Fr X w w') : G (fun k => X k ∨ (w.heap.size ≤ k ∧ k < w'.heap.size)) w' d m := by
  obtain ⟨S, h1, h2, h⟩ := g
  refine ⟨S, fun k hk hx => hx.elim (h1 k hk) (fun hx => by have := h.lt k hk; omega), fun k hx => hx.elim (fun hx => Nat.lt_of_lt_of_le (h2 k hx) hf.size) (·.2), h.fr hf fun k hk hr => h1 k hk hr⟩
theorem New_G (w : World) (n : Int) : Calls Try.prog 14 #[.int .i64 n] w fun e w' => e = .returned (.pointer (some ⟨w.heap.size + 1, 0, none⟩)) ∧ G (fun k => k < w.heap.size) w' (w.heap.size + 1) (DM.new (min n 400).toNat) ∧ Fr (fun _ => False) w w' := by
  refine (New_rep w n).mono ?_
  rintro e w' ⟨rfl, hf, hr⟩
  exact ⟨rfl, ⟨_, fun k hk hx => by omega, fun k hx => Nat.lt_of_lt_of_le hx hf.size, hr⟩, hf⟩
theorem Write_G {kk : Nat} (g : G X w d m) (ok : m.Ok kk) (hkk : kk ≤ 1000000) (n : Int) (l : Bytes) :
    Calls Try.prog 17 #[.pointer (some ⟨d, 0, none⟩), .int .i64 n, .string (bs l)] w fun e w' => e = .returned (.int .i64 (m.write n l).2) ∧ G X w' d (m.write n l).1 ∧ Fr (fun k => ¬ X k) w w' := by
  obtain ⟨S, h1, h2, h⟩ := g
  refine (Write_rep h ok hkk n l).mono ?_
  rintro e w' ⟨rfl, hf, hr⟩
  exact ⟨rfl, G.step h1 h2 hf hr⟩
theorem Sync_G {kk : Nat} (g : G X w d m) (ok : m.Ok kk) (hkk : kk ≤ 1000000) :
    Calls Try.prog 26 #[.pointer (some ⟨d, 0, none⟩)] w fun e w' => e = .returned (.int .i64 m.sync.2) ∧ G X w' d m.sync.1 ∧ Fr (fun k => ¬ X k) w w' := by
  obtain ⟨S, h1, h2, h⟩ := g
  refine (Sync_rep h ok hkk).mono ?_
  rintro e w' ⟨rfl, hf, hr⟩
  exact ⟨rfl, G.step h1 h2 hf hr⟩
theorem Append_G {kk : Nat} (g : G X w d m) (ok : m.Ok kk) (l : Bytes) (hl : l.length ≤ 140737488355328) :
    Calls Try.prog 21 #[.pointer (some ⟨d, 0, none⟩), .string (bs l)] w fun e w' => e = .returned (.int .i64 (m.append l).2) ∧ G X w' d (m.append l).1 ∧ Fr (fun k => ¬ X k) w w' := by
  obtain ⟨S, h1, h2, h⟩ := g
  refine (Append_rep h ok.log l hl).mono ?_
  rintro e w' ⟨rfl, hf, hr⟩
  exact ⟨rfl, G.step h1 h2 hf hr⟩
theorem Flush_G (g : G X w d m) :
    Calls Try.prog 24 #[.pointer (some ⟨d, 0, none⟩)] w fun e w' => e = .returned (.int .i64 m.flush.2) ∧ G X w' d m.flush.1 ∧ Fr (fun k => ¬ X k) w w' := by
  obtain ⟨S, h1, h2, h⟩ := g
  refine (Flush_rep h).mono ?_
  rintro e w' ⟨rfl, hf, hr⟩
  exact ⟨rfl, G.step h1 h2 hf hr⟩
theorem Cut_G (g : G X w d m) (n : Int) :
    Calls Try.prog 28 #[.pointer (some ⟨d, 0, none⟩), .int .i64 n] w fun e w' => e = .returned (.int .i64 (m.cut n).2) ∧ G X w' d (m.cut n).1 ∧ Fr (fun k => ¬ X k) w w' := by
  obtain ⟨S, h1, h2, h⟩ := g
  refine (Cut_rep h n).mono ?_
  rintro e w' ⟨rfl, hf, hr⟩
  exact ⟨rfl, G.step h1 h2 hf hr⟩
theorem Arm_G (g : G X w d m) (n : Int) :
    Calls Try.prog 29 #[.pointer (some ⟨d, 0, none⟩), .int .i64 n] w fun e w' => e = .returned (.tuple #[]) ∧ G X w' d (m.arm n) ∧ Fr (fun k => ¬ X k) w w' := by
  obtain ⟨S, h1, h2, h⟩ := g
  refine (Arm_rep h n).mono ?_
  rintro e w' ⟨rfl, hf, hr⟩
  exact ⟨rfl, G.step h1 h2 hf hr⟩
theorem Crash_G {kk : Nat} (g : G X w d m) (ok : m.Ok kk) (hkk : kk ≤ 1000000) {v : Value} {q : List Int} (hq : QRep X w v q) (hql : q.length ≤ 9223372036854775807) :
    Calls Try.prog 19 #[.pointer (some ⟨d, 0, none⟩), v] w fun e w' => e = .returned (.tuple #[]) ∧ G X w' d (m.crash q) ∧ Fr (fun k => ¬ X k) w w' := by
  obtain ⟨S, h1, h2, h⟩ := g
  refine (Crash_rep h ok hkk hq (fun k hk => ⟨fun hs => h1 k hs hk, h2 k hk⟩) hql).mono ?_
  rintro e w' ⟨rfl, hf, hr⟩
  exact ⟨rfl, G.step h1 h2 hf hr⟩
theorem Read_G {kk : Nat} (g : G X w d m) (ok : m.Ok kk) (hkk : kk ≤ 1000000) (n : Int) :
    Calls Try.prog 20 #[.pointer (some ⟨d, 0, none⟩), .int .i64 n] w fun e w' => e = .returned (.tuple #[.string (bs (m.read n).1), .int .i64 (m.read n).2]) ∧ G X w' d m ∧ Fr (fun _ => False) w w' := by
  have g' := g
  obtain ⟨S, h1, h2, h⟩ := g
  refine (Read_rep h ok hkk n).mono ?_
  rintro e w' ⟨rfl, hf⟩
  exact ⟨rfl, g'.fr hf (by simp), hf⟩
theorem Safe_G {kk : Nat} (g : G X w d m) (ok : m.Ok kk) (n : Int) :
    Calls Try.prog 27 #[.pointer (some ⟨d, 0, none⟩), .int .i64 n] w fun e w' => e = .returned (.tuple #[.string (bs (m.safeOf n).1), .int .i64 (m.safeOf n).2]) ∧ G X w' d m ∧ Fr (fun _ => False) w w' := by
  have g' := g
  obtain ⟨S, h1, h2, h⟩ := g
  refine (Safe_rep h ok n).mono ?_
  rintro e w' ⟨rfl, hf⟩
  exact ⟨rfl, g'.fr hf (by simp), hf⟩
theorem Log_G (g : G X w d m) : Calls Try.prog 22 #[.pointer (some ⟨d, 0, none⟩)] w fun e w' => e = .returned (.string (bs m.log)) ∧ w = w' := by
  obtain ⟨S, h1, h2, h⟩ := g; exact Log_rep h
theorem Flushed_G (g : G X w d m) : Calls Try.prog 25 #[.pointer (some ⟨d, 0, none⟩)] w fun e w' => e = .returned (.int .i64 m.flushed) ∧ w = w' := by
  obtain ⟨S, h1, h2, h⟩ := g; exact Flushed_rep h
theorem On_G (g : G X w d m) : Calls Try.prog 23 #[.pointer (some ⟨d, 0, none⟩)] w fun e w' => e = .returned (.bool (!m.off)) ∧ w = w' := by
  obtain ⟨S, h1, h2, h⟩ := g; exact On_rep h
theorem Pages_G (g : G X w d m) : Calls Try.prog 35 #[.pointer (some ⟨d, 0, none⟩)] w fun e w' => e = .returned (.int .i64 m.pages.length) ∧ w = w' := by
  obtain ⟨S, h1, h2, h⟩ := g; exact Pages_rep h
end
