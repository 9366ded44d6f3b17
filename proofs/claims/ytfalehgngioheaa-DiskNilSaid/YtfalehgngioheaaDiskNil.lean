/- Proved: for every call the law DiskNil of chapter 05 returns true, and its argument reads afterwards as before. Conditions: none beyond the given statement. -/
import Derived.Test.YtfalehgngioheaaDiskNilM
import Derived.Test.YtfalehgngioheaaDiskArgs
import Derived.Test.YtfalehgngioheaaFin
set_option linter.unusedVariables false
namespace Go.Proofs.Ytfalehgngioheaa
open Go.RowKit Go.VB Go.VB.Disk
set_option maxHeartbeats 2000000 in
theorem DiskNil_walk (c : Ca) (qa : Option Addr) (qc : Nat) (w : World) (hs : c.s.length ≤ 9223372036854775807) (hql : c.q.length ≤ 9223372036854775807) (hqc : c.q.length ≤ qc) (hq : QRep (fun j => j < w.heap.size) w (.slice qa c.q.length qc) c.q) :
    Calls Try.prog 12 #[.agg #[.int .i64 c.kind, .int .i64 c.n, .string (bs c.s), .slice qa c.q.length qc]] w fun e w' => e = .returned (.bool true) ∧ Fr (fun _ => False) w w' := by
  have B0 := Blk.new w [.int .i64 c.kind, .int .i64 c.n, .string (bs c.s), .slice qa c.q.length qc] 52
  have F0 := (Fr.refl (fun _ => False) w).alloc (.cells [Value.int .i64 c.kind, .int .i64 c.n, .string (bs c.s), .slice qa c.q.length qc].toArray 52)
  generalize hW0 : w.alloc (.cells [Value.int .i64 c.kind, .int .i64 c.n, .string (bs c.s), .slice qa c.q.length qc].toArray 52) = W0 at *
  have HW0 := hid hW0
  clear hW0
  go_enter Try.func12, Try.ntmps12
  go_wp2_with (fail)
  rw [HW0.out]
  refine (sanity_go _).mono ?_
  rintro e w1 ⟨rfl, f1⟩
  have F1 := F0.trans f1 (fun _ h _ => h)
  have B1 := B0.fr f1 (fun h => h)
  have r1 : w1.rangeAt w.heap.size 0 [.int .i64 c.kind, .int .i64 c.n, .string (bs c.s), .slice qa c.q.length qc] := B1.all
  have f2 := (Fr.refl (fun _ => False) w1).alloc (.cells [Value.int .i64 c.kind, .int .i64 c.n, .string (bs c.s), .slice qa c.q.length qc].toArray 52)
  have B2 := Blk.new w1 [Value.int .i64 c.kind, .int .i64 c.n, .string (bs c.s), .slice qa c.q.length qc] 52
  have F2 := F1.trans f2 (fun _ h _ => h)
  have hfew := few_go (fun j => j < w.heap.size) [(c, .slice qa c.q.length qc)] (by simp) (fun p hp => by rw [List.mem_singleton.1 hp]; exact ⟨hs, hql⟩) _ (fun p hp => by rw [List.mem_singleton.1 hp]; exact hq.fr F2 (fun _ _ h => h)) (.slice (some ⟨w1.heap.size, 0, none⟩) 1 1) ⟨some ⟨w1.heap.size, 0, none⟩, 1, rfl, Nat.le_refl _, fun _ => ⟨_, _, rfl, trivial, by simpa [ccs] using B2.all⟩⟩
  have B12 := B1.fr f2 (fun h => h)
  clear f1 F0 B0 F1 f2 B2 hq
  go_wp2_with (first
    | (refine wpList_load_mid rfl 52 _ rfl _ _ rfl _ _ r1 Try.underlying52 rfl Try.size_call ?_)
    | (refine wpList_buildSlice_one (x := .agg #[.int .i64 c.kind, .int .i64 c.n, .string (bs c.s), .slice qa c.q.length qc]) (cells := #[.int .i64 c.kind, .int .i64 c.n, .string (bs c.s), .slice qa c.q.length qc]) rfl rfl Try.underlying54 (info_two Try.info_call) rfl (by omega) (by omega) rfl rfl rfl ?_)
    | fail)
  refine hfew.mono ?_
  rintro e w3 ⟨vf, rfl, fp⟩
  obtain ⟨ho, -, f3⟩ := fp
  have F3 := F2.trans f3 (fun _ h _ => h)
  have B3 := B12.fr f3 (fun h => h)
  have hfl : fewL [(c, Value.slice qa c.q.length qc)] = [(c.cut, .slice qa (min 12 c.q.length) qc)] := rfl
  rw [hfl] at ho
  obtain ⟨ao, cp, rfl, hcp, hrow⟩ := own_sl (R := fun _ => True) ho (fun _ _ => trivial)
  obtain ⟨g1, o1, rfl, -, hrow⟩ := hrow (by simp [ccs])
  have r3 : w3.rangeAt g1 (o1 + 0) [.int .i64 c.kind, .int .i64 c.n, .string (bs (c.s.take 40)), .slice qa (min 12 c.q.length) qc] := hrow
  have k3 : w3.cell? ⟨w.heap.size, 0, none⟩ = some (.int .i64 c.kind) := B3.cell 0
  have hD := do_nil w3 c.kind c.n (c.s.take 40) (by simp; omega) qa (min 12 c.q.length) qc
  have he : bs [] = ⟨#[]⟩ := rfl
  have hLog := fun w => Log_nil w
  rw [he] at hLog
  have HLOG := hid hLog
  clear hLog he hrow ho hfew r1 hfl F2 f3 B12 hs hql
  have hl1 : [(c.cut, Value.slice qa (min 12 c.q.length) qc)].length = 1 := rfl
  rw [hl1] at hcp ⊢
  clear hl1
  have hc : c.kind % 9 = 0 ∨ c.kind % 9 = 1 ∨ c.kind % 9 = 2 ∨ c.kind % 9 = 3 ∨ c.kind % 9 = 4 ∨ c.kind % 9 = 5 ∨ c.kind % 9 = 6 ∨ c.kind % 9 = 7 ∨ c.kind % 9 = 8 := by omega
  have r4 : ∀ x : Int, nilRes c.kind = x → (Calls Try.prog 30 #[.pointer none, .agg #[.int .i64 c.kind, .int .i64 c.n, .string (bs (c.s.take 40)), .slice qa (min 12 c.q.length) qc]] w3 fun e w' => e = .returned (.tuple #[.string ⟨#[]⟩, .int .i64 x]) ∧ Fr (fun _ => False) w3 w') := fun x hx => hx ▸ hD
  have HD := hid r4
  clear r4 hD
  rcases hc with hc | hc | hc | hc | hc | hc | hc | hc | hc
  all_goals
    have HC := hid hc
    first
    | have hd := HD.out 24 (by unfold nilRes; rw [hc]; rfl)
    | have hd := HD.out 22 (by unfold nilRes; rw [hc]; rfl)
    | have hd := HD.out 0 (by unfold nilRes; rw [hc]; rfl)
    clear hc HD
    go_wp2_with (first
      | (refine wpList_load_mid rfl 52 _ rfl _ _ rfl _ _ r3 Try.underlying52 rfl Try.size_call ?_)
      | (go_at_call 30; refine hd.mono ?_; rintro e w4 ⟨rfl, f4⟩; have k4 := cell_fr k3 f4 (fun h => h))
      | (go_at_call 18; refine (rest_any _ _ _ (by omega) (by omega)).mono ?_; rintro e w' ⟨rfl, rfl⟩; rw [HC.out])
      | (go_at_call 23; refine (On_nil _).mono ?_; rintro e w' ⟨rfl, rfl⟩)
      | (go_at_call 22; refine (HLOG.out _).mono ?_; rintro e w' ⟨rfl, rfl⟩)
      | (go_at_call 35; refine (Pages_nil _).mono ?_; rintro e w' ⟨rfl, rfl⟩)
      | (go_at_call 25; refine (Flushed_nil _).mono ?_; rintro e w' ⟨rfl, rfl⟩))
    go_ret
    exact ⟨rfl, F3.trans f4 (fun _ h _ => h)⟩
theorem call_agg {H : Type} {enc : TypeId × Value → H} {w w0 : World} {r : Reach} {b0 base : Nat} {sp : Nat → Bool} {held : Bool} {v : Value} {d : DataW H} {ps : List MemPlace}
    (hval : Value.okWide Try.prog w0 r b0 52 v) (h : DataW.Trod enc Try.prog w base sp held 52 v d ps) : ∃ p : Ca × Value, v = .agg (ccs p).toArray ∧ GoodCall w p := by
  obtain ⟨fuel, h⟩ := h
  simp only [Value.okWide, Try.underlying52] at hval
  obtain ⟨cs, rfl, hs, -⟩ := hval
  rw [cells_call] at hs
  obtain ⟨p, hp, hg⟩ := elem_call _ _ _ (by simpa [Value.cells] using hs) h
  refine ⟨p, ?_, hg⟩
  rw [← hp]
  simp [Value.cells]
end Go.Proofs.Ytfalehgngioheaa
namespace Go.Proofs.Ytfalehgngioheaa.diskNil
open Go.ChangeShapes Go.WideShapes Go.ChangeAt Go.RowKit Go.VB Go.VB.Disk
set_option maxHeartbeats 400000 in
set_option maxRecDepth 100000 in
theorem lifted (os : Os) (started : os.Started) (H : Type) (enc : TypeId × Value → H) :
    ReturnsInHanded {} Try.checked os 12 .any (Rows.diskNilSpec.pre6 enc Try.prog Try.f12 Rows.diskNilRow.domain false) (Rows.diskNilSpec.post enc Try.prog Try.f12 false true false false) := by
  refine returnsInHanded_of_change (C := Try.checked) own started (by kernel_rfl) Try.func12
    (ChangeSpec.witness6 (enc := enc) (C := Try.checked) false ⟨#[], #[.agg #[.int .i64 0, .int .i64 0, .string ⟨#[]⟩, .slice none 0 0]], []⟩ 8 (by kernel_rfl) (by kernel_rfl) (by kernel_rfl) (by kernel_rfl)) ?_
  intro W base args ds gs before hval0 hW hcnd _
  have hval : ∀ (j : Nat) t v, Try.f12.params[j]? = some t → args[j]? = some v → Value.okWide Try.prog W .any base t v := hval0
  have hW' := hW
  obtain ⟨p, q, hA0, hV, rfl, hfz, hnd⟩ := hW
  have hA : DataW.TrodAll enc Try.prog W 0 (fun _ => true) true Try.f12.params.toList args.toList ds p := hA0
  rw [Try.params12] at hA hval
  obtain ⟨v0, vs0, d0, ds0, p0, q0, hargs, rfl, rfl, h0, r0⟩ := trodAll_cons hA
  obtain ⟨rfl, rfl, rfl⟩ := trodAll_nil r0
  obtain rfl : args = #[v0] := by cases args; simp_all
  obtain ⟨rfl, rfl⟩ := trodVars_none hV
  clear hA0 hval0
  refine Calls.mono (R := fun e w' => e = .returned (.bool true) ∧ Fr (fun _ => False) W w') ?_ fun e W' ⟨he, hf⟩ => ⟨_, he, post_law sound (by decide +kernel) rfl rfl (ht := Try.underlying4) (by rfl) hW' hf⟩
  obtain ⟨⟨c, vq⟩, rfl, h1, h2, qa, qc, hvq, hqc, hq⟩ := call_agg (hval 0 52 v0 rfl rfl) h0
  dsimp only at hvq h1 h2 hqc hq
  subst hvq
  exact DiskNil_walk c qa qc W h1 h2 hqc ⟨qa, qc, rfl, hqc, hq⟩
theorem proved : Rows.DiskNilSaid :=
  OpenClaim.holds_of_wide 12 Try.f12 rfl rfl rfl rfl rfl rfl rfl ⟨rfl, rfl, rfl, rfl, rfl⟩ rfl rfl rfl rfl rfl (by kernel_rfl) Try.func12 (by kernel_rfl)
    (of_decide_eq_true (by kernel_rfl)) (by unfold Func.isWrapper; first | (rw [if_pos (by decide +kernel)]; kernel_rfl) | (rw [if_neg (by decide +kernel)]; exact ⟨rfl, rfl⟩))
    (fun os started H enc _ => lifted os started H enc)
end Go.Proofs.Ytfalehgngioheaa.diskNil
