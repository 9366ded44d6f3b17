import Derived.Test.YtfhkmiifndhacaaDoorRPc
import Derived.Lib.Replace
import Derived.Lib.Bytealg
import Derived.Lib.Small
import Derived.Lib.SplitLaws
import Derived.Lib.ItoaNum
import Derived.Lib.LaidTab
import Derived.Laws.BitsAllLaws
/- Values compared, as keys, as texts: plain. -/
set_option linter.unusedVariables false
namespace Go.VB.Rec
open Go.VB.Oct
def rank (k : Int) : Int := if 0 ≤ k ∧ k ≤ 2 then k else 3
/-- one value against another -/
def V.cmp (a b : V) : Int := if rank a.k ≠ rank b.k then Lib.compareInt (rank a.k) (rank b.k) else if a.k = 1 then Lib.compareInt a.n b.n else if a.k = 2 then Lib.compareBytes a.s b.s else 0
def rowsCmp : List V → List V → Int
  | a :: l, b :: m => if V.cmp a b ≠ 0 then V.cmp a b else rowsCmp l m
  | [], [] => 0
  | [], _ :: _ => -1
  | _ :: _, [] => 1
/-- every c of s turned into new -/
def esc (c : UInt8) (new : List UInt8) (s : List UInt8) : List UInt8 := s.flatMap fun x => if x = c then new else [x]
def V.key (v : V) : List UInt8 := UInt8.ofNat (v.k.toNat + 1) :: (if v.k = 1 then be8 ((word v.n + 9223372036854775808) % 18446744073709551616) else if v.k = 2 then esc 0 [0, 255] v.s ++ [0, 1] else [])
def rowKey (r : List V) : List UInt8 := if row r then r.flatMap V.key else []
def V.text (v : V) : List UInt8 := if v.k = 0 then [110, 117, 108, 108] else if v.k = 1 then Lib.itoa v.n else if v.k = 2 then 39 :: esc 39 [39, 39] v.s ++ [39] else []
/-- the six operators on the sign of a comparison -/
def opHolds (op c : Int) : Bool := if op = 1 then c == 0 else if op = 2 then c != 0 else if op = 3 then decide (c < 0) else if op = 4 then decide (c ≤ 0) else if op = 5 then decide (0 < c) else if op = 6 then decide (0 ≤ c) else false
def V.fits (a : V) (op : Int) (b : V) : Bool := if a.k = 0 ∨ b.k = 0 ∨ rank a.k = 3 ∨ rank b.k = 3 then false else if a.k ≠ b.k then decide (op = 2) else opHolds op (V.cmp a b)
theorem repl_nil (old new : List UInt8) (h : old ≠ []) : ∀ k, Lib.replaceK old new k [] = []
  | 0 => rfl
  | k + 1 => by
    unfold Lib.replaceK
    have : Lib.index [] old = -1 := by unfold Lib.index; cases old with | nil => exact absurd rfl h | cons a l => rfl
    rw [this]; rfl
theorem repl_skip (c : UInt8) (new : List UInt8) (b : UInt8) (l : List UInt8) (h : b ≠ c) (k : Nat) : Lib.replaceK [c] new k (b :: l) = b :: Lib.replaceK [c] new k l := by
  cases k with
  | zero => rfl
  | succ k =>
    have hp : ([c].isPrefixOf (b :: l)) = false := by simp [List.isPrefixOf, Ne.symm h]
    by_cases hi : Lib.index l [c] = -1
    · have h2 : Lib.index (b :: l) [c] = -1 := by unfold Lib.index; rw [hp, hi]; rfl
      unfold Lib.replaceK
      rw [h2, hi]; rfl
    · have hge := Lib.index_ge l [c]
      obtain ⟨i, hi2⟩ : ∃ i : Nat, Lib.index l [c] = i := ⟨(Lib.index l [c]).toNat, by omega⟩
      have h2 : Lib.index (b :: l) [c] = ((i + 1 : Nat) : Int) := by
        unfold Lib.index
        rw [hp, hi2]
        simp
      rw [Lib.replaceK_hit _ _ _ _ _ h2, Lib.replaceK_hit _ _ _ _ _ hi2]
      simp
theorem repl_hit (c : UInt8) (new : List UInt8) (l : List UInt8) (k : Nat) : Lib.replaceK [c] new (k + 1) (c :: l) = new ++ Lib.replaceK [c] new k l := by
  have h2 : Lib.index (c :: l) [c] = ((0 : Nat) : Int) := by unfold Lib.index; simp [List.isPrefixOf]
  rw [Lib.replaceK_hit _ _ _ _ _ h2]
  simp
theorem repl_esc (c : UInt8) (new : List UInt8) : ∀ s : List UInt8, Lib.replaceK [c] new (s.count c) s = esc c new s
  | [] => repl_nil _ _ (by simp) _
  | b :: l => by
    by_cases h : b = c
    · subst h
      rw [List.count_cons_self, repl_hit, repl_esc b new l]
      simp [esc]
    · rw [List.count_cons_of_ne h, repl_skip c new b l h, repl_esc c new l]
      simp [esc, h]
theorem replaceAll_esc (c : UInt8) (new : List UInt8) (hn : [c] ≠ new) (s : List UInt8) : Lib.replaceAll s [c] new = esc c new s := by
  unfold Lib.replaceAll Lib.replace
  have h1 : ([c] == new) = false := by simpa using hn
  have h2 : Lib.replaceNum s [c] (-1) = s.count c := by unfold Lib.replaceNum; rw [if_pos (.inl (by decide)), Lib.count_one]
  rw [h1, h2]
  exact repl_esc c new s
theorem esc_len (c : UInt8) (new : List UInt8) (hn : new.length ≤ 2) : ∀ s, (esc c new s).length ≤ 2 * s.length
  | [] => by simp [esc]
  | b :: l => by
    have := esc_len c new hn l
    unfold esc at this ⊢
    rw [List.flatMap_cons, List.length_append, List.length_cons]
    split <;> (first | omega | (simp only [List.length_singleton]; omega))
theorem esc_append (c : UInt8) (new s t : List UInt8) : esc c new (s ++ t) = esc c new s ++ esc c new t := by simp [esc]
end Go.VB.Rec
/- value.Compare and what it calls: the table of comparing functions in memory. -/
namespace Go.Proofs.YtfhkmiifndhacaaDoor
open Go.RowKit Go.VB Go.VB.Oct Go.VB.Rec
/-- the three comparing functions lie in the table -/
structure Kn (w : World) : Prop where
  k0 : w.cell? ⟨0, 0, none⟩ = some (.func (.func 106) #[] #[])
  k1 : w.cell? ⟨0, 1, none⟩ = some (.func (.func 107) #[] #[])
  k2 : w.cell? ⟨0, 2, none⟩ = some (.func (.func 109) #[] #[])
theorem Kn.fre {w w' : World} (h : Kn w) (f : Fr (fun _ => False) w w') : Kn w' := ⟨cell_fr h.k0 f (fun h => h), cell_fr h.k1 f (fun h => h), cell_fr h.k2 f (fun h => h)⟩
theorem Kn.fr {S : Nat → Prop} {w w' : World} (h : Kn w) (f : Fr S w w') (hS : ¬ S 0) : Kn w' := ⟨cell_fr h.k0 f hS, cell_fr h.k1 f hS, cell_fr h.k2 f hS⟩
theorem rank_go (k : Int) (w : World) : Calls Tryd.prog 61 #[.int .i64 k] w fun e w' => e = .returned (.int .i64 (rank k)) ∧ w' = w := by
  by_cases h : 0 ≤ k ∧ k ≤ 2
  · have h1 : (decide (0 ≤ k) && decide (k ≤ 2)) = true := by simp [h]
    have HK := hid (fun w => h1 ▸ known_go k w)
    have hr : rank k = k := by unfold rank; rw [if_pos h]
    rw [hr]
    clear h1 h hr
    go_enter Tryd.func61, Tryd.ntmps61
    go_wp2_with (go_at_call 33; refine (HK.out _).mono ?_; rintro e w1 ⟨rfl, rfl⟩)
    go_ret
    exact ⟨rfl, rfl⟩
  · have h1 : (decide (0 ≤ k) && decide (k ≤ 2)) = false := by
      rw [Bool.and_eq_false_iff, decide_eq_false_iff_not, decide_eq_false_iff_not]; omega
    have HK := hid (fun w => h1 ▸ known_go k w)
    have hr : rank k = 3 := by unfold rank; rw [if_neg h]
    rw [hr]
    clear h1 h hr
    go_enter Tryd.func61, Tryd.ntmps61
    go_wp2_with (go_at_call 33; refine (HK.out _).mono ?_; rintro e w1 ⟨rfl, rfl⟩)
    go_ret
    exact ⟨rfl, rfl⟩
theorem nan64_go (x : Int) (w : World) : Calls Tryd.prog 111 #[.int .i64 x] w fun e w' => e = .returned (.bool false) ∧ w' = w := by
  have hx : (x != x) = false := bne_self_eq_false _
  go_enter Tryd.func111, Tryd.ntmps111
  go_wp2
  go_ret
  exact ⟨rfl, rfl⟩
theorem cmp64_go (x y : Int) (w : World) : Calls Tryd.prog 108 #[.int .i64 x, .int .i64 y] w fun e w' => e = .returned (.int .i64 (Lib.compareInt x y)) ∧ w' = w := by
  rcases (by omega : x < y ∨ x = y ∨ y < x) with h | h | h
  · have hc : Lib.compareInt x y = -1 := by unfold Lib.compareInt; rw [if_pos h]
    rw [hc]
    go_enter Tryd.func108, Tryd.ntmps108
    go_wp2_with (go_at_call 111; refine (nan64_go _ _).mono ?_; rintro e w1 ⟨rfl, rfl⟩)
    go_ret
    exact ⟨rfl, rfl⟩
  · subst h
    have hc : Lib.compareInt x x = 0 := by unfold Lib.compareInt; rw [if_neg (by omega), if_neg (by omega)]
    rw [hc]
    have h1 : ¬ x < x := by omega
    go_enter Tryd.func108, Tryd.ntmps108
    go_wp2_with (go_at_call 111; refine (nan64_go _ _).mono ?_; rintro e w1 ⟨rfl, rfl⟩)
    go_ret
    exact ⟨rfl, rfl⟩
  · have hc : Lib.compareInt x y = 1 := by unfold Lib.compareInt; rw [if_neg (by omega), if_pos (by omega)]
    have h1 : ¬ x < y := by omega
    rw [hc]
    go_enter Tryd.func108, Tryd.ntmps108
    go_wp2_with (go_at_call 111; refine (nan64_go _ _).mono ?_; rintro e w1 ⟨rfl, rfl⟩)
    go_ret
    exact ⟨rfl, rfl⟩
theorem kind0_go (a b : V) (w : World) : Calls Tryd.prog 106 #[vagg a, vagg b] w fun e w' => e = .returned (.int .i64 0) ∧ Fr (fun _ => False) w w' := by
  unfold vagg V.cells
  go_enter Tryd.func106, Tryd.ntmps106
  go_wp2
  go_ret
  exact ⟨rfl, ((Fr.refl (fun _ => False) w).alloc _).alloc _⟩
theorem kind1_go (a b : V) (w : World) : Calls Tryd.prog 107 #[vagg a, vagg b] w fun e w' => e = .returned (.int .i64 (Lib.compareInt a.n b.n)) ∧ Fr (fun _ => False) w w' := by
  unfold vagg V.cells
  go_enter Tryd.func107, Tryd.ntmps107
  go_wp2_with (go_at_call 108; refine (cmp64_go _ _ _).mono ?_; rintro e w1 ⟨rfl, rfl⟩)
  go_ret
  exact ⟨rfl, ((Fr.refl (fun _ => False) w).alloc _).alloc _⟩
theorem kind2_go (a b : V) (w : World) : Calls Tryd.prog 109 #[vagg a, vagg b] w fun e w' => e = .returned (.int .i64 (Lib.compareBytes a.s b.s)) ∧ Fr (fun _ => False) w w' := by
  unfold vagg V.cells
  go_enter Tryd.func109, Tryd.ntmps109
  go_wp2_with (go_at_call 110; refine (Tryd.strings_Compare _ _ _).mono ?_; rintro e w1 ⟨rfl, rfl⟩)
  go_ret
  exact ⟨rfl, ((Fr.refl (fun _ => False) w).alloc _).alloc _⟩
theorem size_V : (Tryd.prog.info? 50).map (·.size) = some 3 := by kernel_rfl
theorem VCompare_go (a b : V) {w : World} (K : Kn w) : Calls Tryd.prog 39 #[vagg a, vagg b] w fun e w' => e = .returned (.int .i64 (V.cmp a b)) ∧ Fr (fun _ => False) w w' := by
  have KH := hid K
  have HC := hid (fun w => Tryd.cmp_Compare_int (rank a.k) (rank b.k) w)
  have HA := hid (fun w => rank_go a.k w)
  have HB := hid (fun w => rank_go b.k w)
  have B0 := hid ((Blk.new w a.cells 50).alloc (.cells b.cells.toArray 50)).drew
  have B1 := hid (Blk.new (w.alloc (.cells a.cells.toArray 50)) b.cells 50).drew
  have FZ := hid (((Fr.refl (fun _ => False) w).alloc (.cells a.cells.toArray 50)).alloc (.cells b.cells.toArray 50)).drew
  have HK0 := hid (fun w => kind0_go a b w)
  have HK1 := hid (fun w => kind1_go a b w)
  have HK2 := hid (fun w => kind2_go a b w)
  have hvc : V.cmp a b = (if rank a.k ≠ rank b.k then Lib.compareInt (rank a.k) (rank b.k) else if a.k = 1 then Lib.compareInt a.n b.n else if a.k = 2 then Lib.compareBytes a.s b.s else 0) := rfl
  rw [hvc]
  obtain ⟨z, hz⟩ : ∃ z, (if rank a.k ≠ rank b.k then Lib.compareInt (rank a.k) (rank b.k) else if a.k = 1 then Lib.compareInt a.n b.n else if a.k = 2 then Lib.compareBytes a.s b.s else 0) = z := ⟨_, rfl⟩
  rw [hz]
  have HZ := hid hz
  clear hz
  have hrk : ∀ k : Int, (rank k = k ∧ 0 ≤ k ∧ k ≤ 2) ∨ (rank k = 3 ∧ ¬ (0 ≤ k ∧ k ≤ 2)) := fun k => by
    by_cases h : 0 ≤ k ∧ k ≤ 2
    · exact .inl ⟨by unfold rank; rw [if_pos h], h⟩
    · exact .inr ⟨by unfold rank; rw [if_neg h], h⟩
  have HRA := hid (hrk a.k)
  have HRB := hid (hrk b.k)
  have HKA := hid (fun w => known_go a.k w)
  unfold vagg V.cells at *
  obtain ⟨ak, an, ax⟩ := a
  obtain ⟨bk, bn, bx⟩ := b
  dsimp only at *
  clear hvc hrk K
  generalize hra : rank ak = ra at *
  generalize hrb : rank bk = rb at *
  obtain ⟨c, hc⟩ : ∃ c, Lib.compareInt ra rb = c := ⟨_, rfl⟩
  have hcz : c = 0 ↔ ra = rb := by
    rw [← hc]; unfold Lib.compareInt; split
    · omega
    · split <;> omega
  rw [hc] at HC HZ
  have HCZ := hid hcz
  clear hc hcz hra hrb
  go_enter Tryd.func39, Tryd.ntmps39
  go_upto_region 1 with fail
  simp only [World.size_alloc] at B1
  generalize w.heap.size = p at *
  refine wp_region_scr (.take 0 (.take 1 (.take 3 (.take 4 (.op 2 (.op 5 (.op 6 (.take 7 .done)))))))) (fun kz w => (kz ≤ 8 → w.cell? ⟨p, 0, none⟩ = some (.int .i64 ak) ∧ w.cell? ⟨p + 1, 0, none⟩ = some (.int .i64 bk)) ∧ True) (by kernel_rfl) (by kernel_rfl) (by intro c a d v w h; cases d <;> exact h) ?_
  repeat
    first
    | (refine wpT_pure rfl rfl rfl ?_; apply Exists.intro; refine ⟨?_, ?_⟩; intro w; (first | (first | (obtain ⟨qa1, qa2⟩ := qa; go_simp <;> rfl)) | (go_simp <;> rfl)); simp only [Act.put, List.setIfInBounds_toArray, List.set_cons_zero, List.set_cons_succ])
    | (refine wpT_take 8 rfl rfl (by decide +kernel) ⟨fun _ => ⟨B0.out.cell 0, B1.out.cell 0⟩, trivial⟩ ?_; apply Exists.intro; refine ⟨?_, ?_⟩; intro w hw; (have qa := hw.1 (Nat.le_refl _); have qb := hw.2); (first | (first | (obtain ⟨qa1, qa2⟩ := qa; go_simp <;> rfl)) | (go_simp <;> rfl)); simp only [Act.put, List.setIfInBounds_toArray, List.set_cons_zero, List.set_cons_succ])
    | (refine wpT_skip rfl rfl ?_; simp only [Act.put, List.setIfInBounds_toArray, List.set_cons_zero, List.set_cons_succ])
  refine wpT_op rfl ?_
  go_wp2_with ((go_at_call 61; refine (HA.out _).mono ?_; rintro e w1 ⟨rfl, rfl⟩))
  (refine ⟨?_, ?_⟩; focus (intro kz hk hk2 hh; first | (exfalso; simp at hk2; omega) | exact hh | exact (fun h => absurd h (by omega)) | obtain ⟨qa, qb⟩ := hh; first | exact ⟨qa, qb⟩ | (refine ⟨fun h => absurd h (by omega), ?_⟩; first | exact qb | (exact ⟨B0.out.cell 0, B1.out.cell 0⟩)) | (refine ⟨fun h => ?_, ?_⟩; (have qa := qa h); all_goals (first | exact qa | exact qb | (exact ⟨B0.out.cell 0, B1.out.cell 0⟩)))))
  refine wpT_op rfl ?_
  go_wp2_with ((go_at_call 61; refine (HB.out _).mono ?_; rintro e w1 ⟨rfl, rfl⟩))
  (refine ⟨?_, ?_⟩; focus (intro kz hk hk2 hh; first | (exfalso; simp at hk2; omega) | exact hh | exact (fun h => absurd h (by omega)) | obtain ⟨qa, qb⟩ := hh; first | exact ⟨qa, qb⟩ | (refine ⟨fun h => absurd h (by omega), ?_⟩; first | exact qb | (exact ⟨B0.out.cell 0, B1.out.cell 0⟩)) | (refine ⟨fun h => ?_, ?_⟩; (have qa := qa h); all_goals (first | exact qa | exact qb | (exact ⟨B0.out.cell 0, B1.out.cell 0⟩)))))
  refine wpT_op rfl ?_
  go_wp2_with ((go_at_call 40; refine (HC.out _).mono ?_; rintro e w1 ⟨rfl, rfl⟩))
  (refine ⟨?_, ?_⟩; focus (intro kz hk hk2 hh; first | (exfalso; simp at hk2; omega) | exact hh | exact (fun h => absurd h (by omega)) | obtain ⟨qa, qb⟩ := hh; first | exact ⟨qa, qb⟩ | (refine ⟨fun h => absurd h (by omega), ?_⟩; first | exact qb | (exact ⟨B0.out.cell 0, B1.out.cell 0⟩)) | (refine ⟨fun h => ?_, ?_⟩; (have qa := qa h); all_goals (first | exact qa | exact qb | (exact ⟨B0.out.cell 0, B1.out.cell 0⟩)))))
  repeat
    first
    | (refine wpT_pure rfl rfl rfl ?_; apply Exists.intro; refine ⟨?_, ?_⟩; intro w; ((go_simp <;> rfl)); simp only [Act.put, List.setIfInBounds_toArray, List.set_cons_zero, List.set_cons_succ])
    | (refine wpT_take 8 rfl rfl (by decide +kernel) ⟨fun _ => ⟨B0.out.cell 0, B1.out.cell 0⟩, trivial⟩ ?_; apply Exists.intro; refine ⟨?_, ?_⟩; intro w hw; (have qa := hw.1 (Nat.le_refl _); have qb := hw.2); ((go_simp <;> rfl)); simp only [Act.put, List.setIfInBounds_toArray, List.set_cons_zero, List.set_cons_succ])
    | (refine wpT_skip rfl rfl ?_; simp only [Act.put, List.setIfInBounds_toArray, List.set_cons_zero, List.set_cons_succ])
  refine wpT_nil ?_
  by_cases hne : ra = rb
  · obtain rfl : c = 0 := HCZ.out.2 hne
    by_cases hr : 0 ≤ ak ∧ ak ≤ 2
    · have h1 : (decide (0 ≤ ak) && decide (ak ≤ 2)) = true := by simp [hr]
      rw [h1] at HKA
      have HR := hid hr
      have HNE := hid hne
      have c0 : ((w.alloc (.cells #[.int .i64 ak, .int .i64 an, .string (bs ax)] 50)).alloc (.cells #[.int .i64 bk, .int .i64 bn, .string (bs bx)] 50)).drew.cell? ⟨p, 0, none⟩ = some (.int .i64 ak) := B0.out.cell 0
      clear h1 hr hne
      rcases (by have := HR.out; omega : ak = 0 ∨ ak = 1 ∨ ak = 2) with hk | hk | hk
      · obtain rfl : ak = 0 := hk
        go_upto_region 4 with (go_at_call 33; refine (HKA.out _).mono ?_; rintro e w1 ⟨rfl, rfl⟩)
        have KD := hid (KH.out.fre FZ.out.drew)
        have R0 := hid (B0.out.drew.all)
        have R1 := hid (B1.out.drew.all)
        clear HKA HA HB HC HCZ HRA HRB
        refine wp_region_scr (.take 0 (.take 1 (.take 2 (.take 3 (.take 4 (.take 5 (.op 6 (.take 7 .done)))))))) (fun kz w => (kz ≤ 8 → w.rangeAt p 0 [.int .i64 0, .int .i64 an, .string (bs ax)]) ∧ (w.rangeAt (p + 1) 0 [.int .i64 bk, .int .i64 bn, .string (bs bx)] ∧ w.cell? ⟨p, 0, none⟩ = some (.int .i64 0) ∧ w.cell? ⟨0, 0, none⟩ = some (.func (.func 106) #[] #[]))) (by kernel_rfl) (by kernel_rfl) (by intro c a d v w h; cases d <;> exact h) ?_
        repeat
          first
          | (refine wpT_pure rfl rfl rfl ?_; apply Exists.intro; refine ⟨?_, ?_⟩; intro w; (first | (first | exact run_load_mid _ _ rfl p _ rfl _ _ qa Tryd.underlying50 rfl size_V | exact run_load_mid _ _ rfl (p + 1) _ rfl _ _ qb.1 Tryd.underlying50 rfl size_V | (obtain ⟨qb1, qb2, qb3⟩ := qb; go_simp <;> rfl)) | (go_simp <;> rfl)); simp only [Act.put, List.setIfInBounds_toArray, List.set_cons_zero, List.set_cons_succ])
          | (refine wpT_take 8 rfl rfl (by decide +kernel) ⟨fun _ => R0.out, R1.out, B0.out.drew.cell 0, KD.out.k0⟩ ?_; apply Exists.intro; refine ⟨?_, ?_⟩; intro w hw; (have qa := hw.1 (Nat.le_refl _); have qb := hw.2); (first | (first | exact run_load_mid _ _ rfl p _ rfl _ _ qa Tryd.underlying50 rfl size_V | exact run_load_mid _ _ rfl (p + 1) _ rfl _ _ qb.1 Tryd.underlying50 rfl size_V | (obtain ⟨qb1, qb2, qb3⟩ := qb; go_simp <;> rfl)) | (go_simp <;> rfl)); simp only [Act.put, List.setIfInBounds_toArray, List.set_cons_zero, List.set_cons_succ])
          | (refine wpT_skip rfl rfl ?_; simp only [Act.put, List.setIfInBounds_toArray, List.set_cons_zero, List.set_cons_succ])
        refine wpT_op rfl ?_
        go_wp2_with ((go_at_call 106; refine (HK0.out _).mono ?_; rintro e w9 ⟨rfl, f⟩; have F9 := hid f; have R2 := hid (fun i u hu => cell_fr (R0.out i u hu) f (fun h => h) : w9.rangeAt p 0 [.int .i64 0, .int .i64 an, .string (bs ax)]); have R3 := hid (fun i u hu => cell_fr (R1.out i u hu) f (fun h => h) : w9.rangeAt (p + 1) 0 [.int .i64 bk, .int .i64 bn, .string (bs bx)]); have R4 := hid (cell_fr (B0.out.drew.cell 0) f (fun h => h)); have R5 := hid (KD.out.fre f); clear f))
        (refine ⟨?_, ?_⟩; focus (intro kz hk hk2 hh; first | (exfalso; simp at hk2; omega) | exact hh | exact (fun h => absurd h (by omega)) | obtain ⟨qa, qb⟩ := hh; first | exact ⟨qa, qb⟩ | (refine ⟨fun h => absurd h (by omega), ?_⟩; first | exact qb | (first | exact R2.out | exact ⟨R3.out, R4.out, R5.out.k0⟩)) | (refine ⟨fun h => ?_, ?_⟩; (have qa := qa h); all_goals (first | exact qa | exact qb | (first | exact R2.out | exact ⟨R3.out, R4.out, R5.out.k0⟩)))))
        repeat
          first
          | (refine wpT_pure rfl rfl rfl ?_; apply Exists.intro; refine ⟨?_, ?_⟩; intro w; ((go_simp <;> rfl)); simp only [Act.put, List.setIfInBounds_toArray, List.set_cons_zero, List.set_cons_succ])
          | (refine wpT_take 8 rfl rfl (by decide +kernel) ⟨fun h => absurd h (by omega), trivial⟩ ?_; apply Exists.intro; refine ⟨?_, ?_⟩; intro w hw; (have qa := hw.1 (Nat.le_refl _); have qb := hw.2); ((go_simp <;> rfl)); simp only [Act.put, List.setIfInBounds_toArray, List.set_cons_zero, List.set_cons_succ])
          | (refine wpT_skip rfl rfl ?_; simp only [Act.put, List.setIfInBounds_toArray, List.set_cons_zero, List.set_cons_succ])
        refine wpT_nil ?_
        go_wp2_with (fail)
        go_ret
        exact ⟨ret_int (by rw [← HZ.out, if_neg (fun h => h HNE.out)]; simp), FZ.out.drew.trans F9.out (fun _ h _ => h)⟩
      · obtain rfl : ak = 1 := hk
        go_upto_region 4 with (go_at_call 33; refine (HKA.out _).mono ?_; rintro e w1 ⟨rfl, rfl⟩)
        have KD := hid (KH.out.fre FZ.out.drew)
        have R0 := hid (B0.out.drew.all)
        have R1 := hid (B1.out.drew.all)
        clear HKA HA HB HC HCZ HRA HRB
        refine wp_region_scr (.take 0 (.take 1 (.take 2 (.take 3 (.take 4 (.take 5 (.op 6 (.take 7 .done)))))))) (fun kz w => (kz ≤ 8 → w.rangeAt p 0 [.int .i64 1, .int .i64 an, .string (bs ax)]) ∧ (w.rangeAt (p + 1) 0 [.int .i64 bk, .int .i64 bn, .string (bs bx)] ∧ w.cell? ⟨p, 0, none⟩ = some (.int .i64 1) ∧ w.cell? ⟨0, 1, none⟩ = some (.func (.func 107) #[] #[]))) (by kernel_rfl) (by kernel_rfl) (by intro c a d v w h; cases d <;> exact h) ?_
        repeat
          first
          | (refine wpT_pure rfl rfl rfl ?_; apply Exists.intro; refine ⟨?_, ?_⟩; intro w; (first | (first | exact run_load_mid _ _ rfl p _ rfl _ _ qa Tryd.underlying50 rfl size_V | exact run_load_mid _ _ rfl (p + 1) _ rfl _ _ qb.1 Tryd.underlying50 rfl size_V | (obtain ⟨qb1, qb2, qb3⟩ := qb; go_simp <;> rfl)) | (go_simp <;> rfl)); simp only [Act.put, List.setIfInBounds_toArray, List.set_cons_zero, List.set_cons_succ])
          | (refine wpT_take 8 rfl rfl (by decide +kernel) ⟨fun _ => R0.out, R1.out, B0.out.drew.cell 0, KD.out.k1⟩ ?_; apply Exists.intro; refine ⟨?_, ?_⟩; intro w hw; (have qa := hw.1 (Nat.le_refl _); have qb := hw.2); (first | (first | exact run_load_mid _ _ rfl p _ rfl _ _ qa Tryd.underlying50 rfl size_V | exact run_load_mid _ _ rfl (p + 1) _ rfl _ _ qb.1 Tryd.underlying50 rfl size_V | (obtain ⟨qb1, qb2, qb3⟩ := qb; go_simp <;> rfl)) | (go_simp <;> rfl)); simp only [Act.put, List.setIfInBounds_toArray, List.set_cons_zero, List.set_cons_succ])
          | (refine wpT_skip rfl rfl ?_; simp only [Act.put, List.setIfInBounds_toArray, List.set_cons_zero, List.set_cons_succ])
        refine wpT_op rfl ?_
        go_wp2_with ((go_at_call 107; refine (HK1.out _).mono ?_; rintro e w9 ⟨rfl, f⟩; have F9 := hid f; have R2 := hid (fun i u hu => cell_fr (R0.out i u hu) f (fun h => h) : w9.rangeAt p 0 [.int .i64 1, .int .i64 an, .string (bs ax)]); have R3 := hid (fun i u hu => cell_fr (R1.out i u hu) f (fun h => h) : w9.rangeAt (p + 1) 0 [.int .i64 bk, .int .i64 bn, .string (bs bx)]); have R4 := hid (cell_fr (B0.out.drew.cell 0) f (fun h => h)); have R5 := hid (KD.out.fre f); clear f))
        (refine ⟨?_, ?_⟩; focus (intro kz hk hk2 hh; first | (exfalso; simp at hk2; omega) | exact hh | exact (fun h => absurd h (by omega)) | obtain ⟨qa, qb⟩ := hh; first | exact ⟨qa, qb⟩ | (refine ⟨fun h => absurd h (by omega), ?_⟩; first | exact qb | (first | exact R2.out | exact ⟨R3.out, R4.out, R5.out.k1⟩)) | (refine ⟨fun h => ?_, ?_⟩; (have qa := qa h); all_goals (first | exact qa | exact qb | (first | exact R2.out | exact ⟨R3.out, R4.out, R5.out.k1⟩)))))
        repeat
          first
          | (refine wpT_pure rfl rfl rfl ?_; apply Exists.intro; refine ⟨?_, ?_⟩; intro w; ((go_simp <;> rfl)); simp only [Act.put, List.setIfInBounds_toArray, List.set_cons_zero, List.set_cons_succ])
          | (refine wpT_take 8 rfl rfl (by decide +kernel) ⟨fun h => absurd h (by omega), trivial⟩ ?_; apply Exists.intro; refine ⟨?_, ?_⟩; intro w hw; (have qa := hw.1 (Nat.le_refl _); have qb := hw.2); ((go_simp <;> rfl)); simp only [Act.put, List.setIfInBounds_toArray, List.set_cons_zero, List.set_cons_succ])
          | (refine wpT_skip rfl rfl ?_; simp only [Act.put, List.setIfInBounds_toArray, List.set_cons_zero, List.set_cons_succ])
        refine wpT_nil ?_
        go_wp2_with (fail)
        go_ret
        exact ⟨ret_int (by rw [← HZ.out, if_neg (fun h => h HNE.out)]; simp), FZ.out.drew.trans F9.out (fun _ h _ => h)⟩
      · obtain rfl : ak = 2 := hk
        go_upto_region 4 with (go_at_call 33; refine (HKA.out _).mono ?_; rintro e w1 ⟨rfl, rfl⟩)
        have KD := hid (KH.out.fre FZ.out.drew)
        have R0 := hid (B0.out.drew.all)
        have R1 := hid (B1.out.drew.all)
        clear HKA HA HB HC HCZ HRA HRB
        refine wp_region_scr (.take 0 (.take 1 (.take 2 (.take 3 (.take 4 (.take 5 (.op 6 (.take 7 .done)))))))) (fun kz w => (kz ≤ 8 → w.rangeAt p 0 [.int .i64 2, .int .i64 an, .string (bs ax)]) ∧ (w.rangeAt (p + 1) 0 [.int .i64 bk, .int .i64 bn, .string (bs bx)] ∧ w.cell? ⟨p, 0, none⟩ = some (.int .i64 2) ∧ w.cell? ⟨0, 2, none⟩ = some (.func (.func 109) #[] #[]))) (by kernel_rfl) (by kernel_rfl) (by intro c a d v w h; cases d <;> exact h) ?_
        repeat
          first
          | (refine wpT_pure rfl rfl rfl ?_; apply Exists.intro; refine ⟨?_, ?_⟩; intro w; (first | (first | exact run_load_mid _ _ rfl p _ rfl _ _ qa Tryd.underlying50 rfl size_V | exact run_load_mid _ _ rfl (p + 1) _ rfl _ _ qb.1 Tryd.underlying50 rfl size_V | (obtain ⟨qb1, qb2, qb3⟩ := qb; go_simp <;> rfl)) | (go_simp <;> rfl)); simp only [Act.put, List.setIfInBounds_toArray, List.set_cons_zero, List.set_cons_succ])
          | (refine wpT_take 8 rfl rfl (by decide +kernel) ⟨fun _ => R0.out, R1.out, B0.out.drew.cell 0, KD.out.k2⟩ ?_; apply Exists.intro; refine ⟨?_, ?_⟩; intro w hw; (have qa := hw.1 (Nat.le_refl _); have qb := hw.2); (first | (first | exact run_load_mid _ _ rfl p _ rfl _ _ qa Tryd.underlying50 rfl size_V | exact run_load_mid _ _ rfl (p + 1) _ rfl _ _ qb.1 Tryd.underlying50 rfl size_V | (obtain ⟨qb1, qb2, qb3⟩ := qb; go_simp <;> rfl)) | (go_simp <;> rfl)); simp only [Act.put, List.setIfInBounds_toArray, List.set_cons_zero, List.set_cons_succ])
          | (refine wpT_skip rfl rfl ?_; simp only [Act.put, List.setIfInBounds_toArray, List.set_cons_zero, List.set_cons_succ])
        refine wpT_op rfl ?_
        go_wp2_with ((go_at_call 109; refine (HK2.out _).mono ?_; rintro e w9 ⟨rfl, f⟩; have F9 := hid f; have R2 := hid (fun i u hu => cell_fr (R0.out i u hu) f (fun h => h) : w9.rangeAt p 0 [.int .i64 2, .int .i64 an, .string (bs ax)]); have R3 := hid (fun i u hu => cell_fr (R1.out i u hu) f (fun h => h) : w9.rangeAt (p + 1) 0 [.int .i64 bk, .int .i64 bn, .string (bs bx)]); have R4 := hid (cell_fr (B0.out.drew.cell 0) f (fun h => h)); have R5 := hid (KD.out.fre f); clear f))
        (refine ⟨?_, ?_⟩; focus (intro kz hk hk2 hh; first | (exfalso; simp at hk2; omega) | exact hh | exact (fun h => absurd h (by omega)) | obtain ⟨qa, qb⟩ := hh; first | exact ⟨qa, qb⟩ | (refine ⟨fun h => absurd h (by omega), ?_⟩; first | exact qb | (first | exact R2.out | exact ⟨R3.out, R4.out, R5.out.k2⟩)) | (refine ⟨fun h => ?_, ?_⟩; (have qa := qa h); all_goals (first | exact qa | exact qb | (first | exact R2.out | exact ⟨R3.out, R4.out, R5.out.k2⟩)))))
        repeat
          first
          | (refine wpT_pure rfl rfl rfl ?_; apply Exists.intro; refine ⟨?_, ?_⟩; intro w; ((go_simp <;> rfl)); simp only [Act.put, List.setIfInBounds_toArray, List.set_cons_zero, List.set_cons_succ])
          | (refine wpT_take 8 rfl rfl (by decide +kernel) ⟨fun h => absurd h (by omega), trivial⟩ ?_; apply Exists.intro; refine ⟨?_, ?_⟩; intro w hw; (have qa := hw.1 (Nat.le_refl _); have qb := hw.2); ((go_simp <;> rfl)); simp only [Act.put, List.setIfInBounds_toArray, List.set_cons_zero, List.set_cons_succ])
          | (refine wpT_skip rfl rfl ?_; simp only [Act.put, List.setIfInBounds_toArray, List.set_cons_zero, List.set_cons_succ])
        refine wpT_nil ?_
        go_wp2_with (fail)
        go_ret
        exact ⟨ret_int (by rw [← HZ.out, if_neg (fun h => h HNE.out)]; simp), FZ.out.drew.trans F9.out (fun _ h _ => h)⟩
    · have h1 : (decide (0 ≤ ak) && decide (ak ≤ 2)) = false := by
        rw [Bool.and_eq_false_iff, decide_eq_false_iff_not, decide_eq_false_iff_not]; omega
      rw [h1] at HKA
      have HR := hid hr
      have HNE := hid hne
      have c0 : ((w.alloc (.cells #[.int .i64 ak, .int .i64 an, .string (bs ax)] 50)).alloc (.cells #[.int .i64 bk, .int .i64 bn, .string (bs bx)] 50)).drew.cell? ⟨p, 0, none⟩ = some (.int .i64 ak) := B0.out.cell 0
      clear h1 hr hne
      go_wp2_with (go_at_call 33; refine (HKA.out _).mono ?_; rintro e w1 ⟨rfl, rfl⟩)
      go_ret
      exact ⟨ret_int (by rw [← HZ.out, if_neg (fun h => h HNE.out), if_neg (by have := HR.out; omega), if_neg (by have := HR.out; omega)]), FZ.out⟩
  · have hcb : (c != 0) = true := by simp; intro h; exact hne (HCZ.out.1 h)
    have hcn : ¬ c = 0 := fun h => hne (HCZ.out.1 h)
    go_wp2_with (fail)
    go_ret
    exact ⟨ret_int (by rw [← HZ.out, if_pos hne]), FZ.out⟩
end Go.Proofs.YtfhkmiifndhacaaDoor
/- value.Key: strings.ReplaceAll of one byte, the builder. -/
namespace Go.VB
theorem xor_top (a : Nat) (ha : a < 18446744073709551616) : a ^^^ 9223372036854775808 = (a + 9223372036854775808) % 18446744073709551616 := by
  have e63 : (9223372036854775808 : Nat) = 2 ^ 63 := by decide
  have e64 : (18446744073709551616 : Nat) = 2 ^ 64 := by decide
  rw [e63, e64, Nat.add_comm]
  rw [e64] at ha
  apply Nat.eq_of_testBit_eq
  intro i
  rw [Nat.testBit_xor, Nat.testBit_two_pow, Nat.testBit_mod_two_pow]
  rcases (by omega : i < 63 ∨ i = 63 ∨ 64 ≤ i) with h | h | h
  · rw [Nat.testBit_two_pow_add_gt h, decide_eq_true (show i < 64 by omega), decide_eq_false (show ¬ 63 = i by omega)]; simp
  · subst h
    rw [Nat.testBit_two_pow_add_eq, decide_eq_true (show 63 < 64 by omega)]; simp
  · rw [decide_eq_false (show ¬ i < 64 by omega), decide_eq_false (show ¬ 63 = i by omega), Nat.testBit_lt_two_pow (Nat.lt_of_lt_of_le ha (Nat.pow_le_pow_right (by omega) h))]; rfl
end Go.VB
namespace Go.VB.Rec
open Go.VB.Oct
theorem vkey_le (v : V) (h : v.right = true) : v.key.length ≤ 83 := by
  unfold V.right at h
  simp at h
  unfold V.key
  rw [List.length_cons]
  split
  · rw [be8_length]; omega
  · split
    · have := esc_len 0 [0, 255] (by simp) v.s
      rw [List.length_append]
      simp only [List.length_cons, List.length_nil]
      omega
    · simp
theorem ksum_le (r : List V) (h : ∀ v ∈ r, v.right = true) (hn : r.length ≤ 6) : (r.flatMap V.key).length ≤ 498 := by
  have key : ∀ l : List V, (∀ v ∈ l, v.right = true) → (l.flatMap V.key).length ≤ 83 * l.length := by
    intro l hl
    induction l with
    | nil => simp
    | cons v l ih =>
      have := ih (fun x hx => hl x (List.mem_cons_of_mem _ hx))
      have := vkey_le v (hl v List.mem_cons_self)
      rw [List.flatMap_cons, List.length_append, List.length_cons]
      omega
  have := key r h
  omega
end Go.VB.Rec
namespace Go.Proofs.YtfhkmiifndhacaaDoor
open Go.RowKit Go.VB Go.VB.Oct Go.VB.Rec
/-- the library's variable that strings.Index reads -/
def Ml (w : World) : Prop := ∃ m, w.cell? ⟨1, 0, none⟩ = some (.int .i64 m)
theorem Ml.fre {w w' : World} (h : Ml w) (f : Fr (fun _ => False) w w') : Ml w' := by
  obtain ⟨m, hm⟩ := h
  exact ⟨m, cell_fr hm f (fun h => h)⟩
theorem Ml.fr {S : Nat → Prop} {w w' : World} (h : Ml w) (f : Fr S w w') (hS : ¬ S 1) : Ml w' := by
  obtain ⟨m, hm⟩ := h
  exact ⟨m, cell_fr hm f hS⟩
theorem Repl_go (s : List UInt8) (hs : s.length ≤ 65536) (c : UInt8) (new : List UInt8) (hn : new.length = 2) (hne : [c] ≠ new) {w : World} (hm : Ml w) :
    Calls Tryd.prog 41 #[.string (bs s), .string (bs [c]), .string (bs new)] w fun e w' => e = .returned (.string (bs (esc c new s))) ∧ Fr (fun _ => False) w w' := by
  obtain ⟨m, hm⟩ := hm
  have h1 : (bs s).size = s.length := bs_size s
  have h2 : (bs new).size = 2 := by rw [bs_size, hn]
  have h3 : Lib.countB (bs s) (bs [c]) ≤ s.length + 1 := Lib.count_le _ _
  refine (Tryd.strings_ReplaceAll (bs s) (bs [c]) (bs new) m w (by rw [h1]; omega) hm (by rw [bs_size]; simp) (by rw [h1, h2]; omega)).mono ?_
  rintro e w' ⟨rfl, hb⟩
  refine ⟨?_, Fr.of_below hb⟩
  have e1 : (bs s).data.toList = s := rfl
  have e2 : (bs [c]).data.toList = [c] := rfl
  have e3 : (bs new).data.toList = new := rfl
  rw [e1, e2, e3, replaceAll_esc c new hne s]
  rfl
set_option maxRecDepth 20000 in
set_option maxHeartbeats 4000000 in
theorem VKey_go {R : Nat → Prop} {w : World} {va : Value} {r : List V} (h : Sl R w va r.length (r.flatMap V.cells)) (hR : ∀ k, R k → k < w.heap.size) (hn : r.length ≤ 1099511627776) (hm : Ml w) : Calls Tryd.prog 13 #[va] w fun e w' => e = .returned (.string (bs (rowKey r))) ∧ Fr (fun _ => False) w w' := by
  have HR := hid (right_go h hR hn)
  have HM := hid hm
  obtain ⟨a, c, rfl, hc, hx⟩ := h
  have HX := hid (show Sl R w (.slice a r.length c) r.length (r.flatMap V.cells) from ⟨a, c, rfl, hc, hx⟩)
  clear hx hm
  cases hr : row r with
  | false =>
    rw [hr] at HR
    have hb : rowKey r = [] := by unfold rowKey; rw [hr]; rfl
    rw [hb]
    go_enter Tryd.func13, Tryd.ntmps13
    go_wp2_with (go_at_call 34; refine HR.out.mono ?_; rintro e w1 ⟨rfl, f1⟩; clear HR)
    go_ret
    exact ⟨rfl, f1⟩
  | true =>
    have hb : rowKey r = r.flatMap V.key := by unfold rowKey; rw [hr]; rfl
    rw [hr] at HR
    rw [hb]
    have hlen : r.length ≤ 6 := by unfold row at hr; simp at hr; exact hr.1
    have hall := hid (show ∀ v ∈ r, v.right = true by unfold row at hr; simp at hr; exact hr.2)
    clear hb hr
    go_enter Tryd.func13, Tryd.ntmps13
    go_upto_region 4 with (go_at_call 34; refine HR.out.mono ?_; rintro e w1 ⟨rfl, f1⟩; have F1 := hid f1; clear HR f1)
    have HB0 := hid (Bld.new w1 (Nat.le_refl _))
    have HF2 := hid (F1.out.alloc (.cells #[.pointer none, .slice none 0 0] 69))
    have HS2 := hid (show w1.heap.size + 1 ≤ (w1.alloc (.cells #[.pointer none, .slice none 0 0] 69)).heap.size by simp)
    generalize w1.alloc _ = w2 at *
    generalize hb : w1.heap.size = b at *
    have HBB := hid hb
    clear hb
    go_wp2_with (fail)
    go_loopw [11] (fun i wr => ∃ (j : Nat) (v' : Value), j ≤ r.length ∧ i = .int .i64 j ∧ Bld b wr b ((r.take j).flatMap V.key) v' ∧ Fr (fun _ => False) w wr ∧ b < wr.heap.size) (fun i _ => r.length - (intOf i).toNat)
    case atStart => exact ⟨0, _, by omega, rfl, HB0.out, HF2.out, by have := HS2.out; omega⟩
    case round =>
      obtain ⟨j, v3, hj, rfl, hbl, fr, hbs⟩ := hrel
      by_cases hjl : j < r.length
      · obtain ⟨g, o, rfl, hg, hcell⟩ := sl_cell3 (f := V.cells) vcells_len (HX.out.fr fr (fun _ _ h => h)) (fun h => by subst h; cases hjl)
        have q0 : wr.cell? ⟨g, o + j * 3, none⟩ = some (.int .i64 r[j].k) := hcell j hjl 0 (by omega)
        have q1 : wr.cell? ⟨g, o + j * 3 + 1, none⟩ = some (.int .i64 r[j].n) := hcell j hjl 1 (by omega)
        have q2 : wr.cell? ⟨g, o + j * 3 + 2, none⟩ = some (.string (bs r[j].s)) := hcell j hjl 2 (by omega)
        have FR := hid fr
        have i1 : (0 : Int) ≤ (j : Int) := by omega
        have i2 : (j : Int) < r.length := by omega
        have HT := hid (take_flat r V.key j hjl)
        have hright := hall.out r[j] (List.getElem_mem hjl)
        have HLE := hid (vkey_le r[j] hright)
        have HSUM := hid (show ((r.take j).flatMap V.key).length ≤ 498 from ksum_le _ (fun v hv => hall.out v (List.mem_of_mem_take hv)) (by rw [List.length_take]; omega))
        have HBL := hid hbl
        clear hcell fr hbl HB0 HF2
        generalize r[j] = x at *
        obtain ⟨k, n, s⟩ := x
        have hk : k = 0 ∨ k = 1 ∨ k = 2 := by unfold V.right at hright; simp at hright; omega
        have HB4 := hid ((HBL.out.fre ((Fr.refl (fun _ => False) wr).alloc (.cells #[.int .i64 k, .int .i64 n, .string (bs s)] 50))))
        have HD4 := hid (show Blk (wr.alloc (.cells #[.int .i64 k, .int .i64 n, .string (bs s)] 50)) wr.heap.size [.int .i64 k, .int .i64 n, .string (bs s)] 50 from Blk.new wr [.int .i64 k, .int .i64 n, .string (bs s)] 50)
        have HF4 := hid (FR.out.alloc (.cells #[.int .i64 k, .int .i64 n, .string (bs s)] 50))
        have hb4 : b ≤ (wr.alloc (.cells #[.int .i64 k, .int .i64 n, .string (bs s)] 50)).heap.size := by rw [World.size_alloc]; omega
        have hl4 : ((r.take j).flatMap V.key).length + 1 ≤ 1099511627776 := by have := HSUM.out; omega
        have hsz : w.heap.size ≤ b := Nat.le_trans F1.out.size (Nat.le_of_eq HBB.out)
        have HSZ := hid hsz
        clear hsz
        rcases hk with rfl | rfl | rfl
        · have HWK := hid (WriteByteN_go HB4.out hb4 hl4 1 (by omega))
          go_wp2_with (go_at_call 35; refine HWK.out.mono ?_; rintro e w5 ⟨rfl, v5, hw5⟩; have D5 := hid (Blk.fr HD4.out hw5.fr (fun h => h.elim (fun h => by omega) (fun h => HB4.out.row.ne HD4.out (by decide) _ h rfl))); have k50 := Blk.cell D5.out 0; have k51 := Blk.cell D5.out 1; have k52 := Blk.cell D5.out 2; have HW5 := hid hw5; clear hw5)
          go_roundw
          case rel => exact ⟨j + 1, v5, by omega, by go_num, HW5.out.bld.cast (by rw [HT.out]; simp [V.key]), HW5.out.frB HB4.out HF4.out HSZ.out (Nat.le_refl _), by have := HW5.out.fr.size; rw [World.size_alloc] at this; omega⟩
          case measure => simp [intOf]; omega
        · have HWK := hid (WriteByteN_go HB4.out hb4 hl4 2 (by omega))
          have hwr := word_wrap n
          have hxr : bits .xor .u64 ((word n : Nat) : Int) 9223372036854775808 = (((word n + 9223372036854775808) % 18446744073709551616 : Nat) : Int) := by
            rw [← xor_top (word n) (word_lt n)]
            exact u64_xor_nat (word n) 9223372036854775808 (word_lt n) (by decide)
          obtain ⟨X, hX⟩ : ∃ X : Nat, (word n + 9223372036854775808) % 18446744073709551616 = X := ⟨_, rfl⟩
          have HWH := hid (fun w => whole_go X (by omega) w)
          rw [hX] at hxr
          have HXX := hid hX
          clear hX
          go_wp2_with (first
            | (go_at_call 35; refine HWK.out.mono ?_; rintro e w5 ⟨rfl, v5, hw5⟩; have D5 := hid (Blk.fr HD4.out hw5.fr (fun h => h.elim (fun h => by omega) (fun h => HB4.out.row.ne HD4.out (by decide) _ h rfl))); have k50 := Blk.cell D5.out 0; have k51 := Blk.cell D5.out 1; have k52 := Blk.cell D5.out 2; have HW5 := hid hw5; clear hw5)
            | (go_at_call 37; refine (HWH.out _).mono ?_; rintro e w6 ⟨rfl, f6⟩; have F6 := hid f6; clear f6)
            | (go_at_call 36; refine (WriteString_go (HW5.out.bld.fre F6.out) (Nat.le_trans hb4 (Nat.le_trans HW5.out.fr.size F6.out.size)) (be8 X) (by have := HSUM.out; simp only [List.length_append, List.length_cons, List.length_nil, be8_length]; omega)).mono ?_; rintro e w7 ⟨rfl, v7, hw7⟩; have HW7 := hid hw7; clear hw7))
          go_roundw
          case rel => exact ⟨j + 1, v7, by omega, by go_num, HW7.out.bld.cast (by rw [HT.out]; simp [V.key, HXX.out]), HW7.out.frB (HW5.out.bld.fre F6.out) ((HW5.out.frB HB4.out HF4.out HSZ.out (Nat.le_refl _)).trans F6.out (fun _ h _ => h)) HSZ.out (Nat.le_refl _), by have := HW5.out.fr.size; have := F6.out.size; have := HW7.out.fr.size; rw [World.size_alloc] at *; omega⟩
          case measure => simp [intOf]; omega
        · have HWK := hid (WriteByteN_go HB4.out hb4 hl4 3 (by omega))
          have hs40 : s.length ≤ 40 := by unfold V.right at hright; simp at hright; exact hright
          have HES := hid (esc_len 0 [0, 255] (by simp) s)
          have HRA := hid (fun w' (f : Fr (fun _ => False) w w') => Repl_go s (by omega) 0 [0, 255] rfl (by simp) (HM.out.fre f))
          generalize hes : esc 0 [0, 255] s = es at *
          have HEQ := hid hes
          clear hes
          go_wp2_with (fail)
          refine HWK.out.mono ?_
          rintro e w5 ⟨rfl, v5, hw5⟩
          have D5 := hid (Blk.fr HD4.out hw5.fr (fun h => h.elim (fun h => by omega) (fun h => HB4.out.row.ne HD4.out (by decide) _ h rfl)))
          have k50 := Blk.cell D5.out 0
          have k51 := Blk.cell D5.out 1
          have k52 := Blk.cell D5.out 2
          have HW5 := hid hw5
          clear hw5 q0 q1 q2
          have F5 := hid (HW5.out.frB HB4.out HF4.out HSZ.out (Nat.le_refl _))
          go_wp2_with (fail)
          refine (HRA.out _ F5.out).mono ?_
          rintro e w6 ⟨rfl, f6⟩
          have F6 := hid f6
          clear f6 k50 k51 k52
          have HWS := hid (WriteString_go (HW5.out.bld.fre F6.out) (Nat.le_trans hb4 (Nat.le_trans HW5.out.fr.size F6.out.size)) es (by have := HSUM.out; have := HES.out; simp only [List.length_append, List.length_cons, List.length_nil]; omega))
          go_wp2_with (fail)
          refine HWS.out.mono ?_
          rintro e w7 ⟨rfl, v7, hw7⟩
          have HW7 := hid hw7
          clear hw7 HWS
          have HWS : Hid (Calls Tryd.prog 36 #[.pointer (some ⟨b, 0, none⟩), .string ⟨#[0, 1]⟩] w7 _) := hid (WriteString_go HW7.out.bld (Nat.le_trans hb4 (Nat.le_trans HW5.out.fr.size (Nat.le_trans F6.out.size HW7.out.fr.size))) [0, 1] (by have := HSUM.out; have := HES.out; simp only [List.length_append, List.length_cons, List.length_nil]; omega))
          go_wp2_with (fail)
          refine HWS.out.mono ?_
          rintro e w8 ⟨rfl, v8, hw8⟩
          have HW8 := hid hw8
          clear hw8 HWS
          go_wp2_with (fail)
          go_roundw
          case rel => exact ⟨j + 1, v8, by omega, by go_num, HW8.out.bld.cast (by rw [HT.out]; simp [V.key, HEQ.out]), HW8.out.frB HW7.out.bld (HW7.out.frB (HW5.out.bld.fre F6.out) ((HW5.out.frB HB4.out HF4.out HSZ.out (Nat.le_refl _)).trans F6.out (fun _ h _ => h)) HSZ.out (Nat.le_refl _)) HSZ.out (Nat.le_refl _), by have := HW5.out.fr.size; have := F6.out.size; have := HW7.out.fr.size; have := HW8.out.fr.size; rw [World.size_alloc] at *; omega⟩
          case measure => simp [intOf]; omega
      · obtain rfl : j = r.length := by omega
        rw [List.take_length] at hbl
        have HST := hid (String_go hbl (Nat.le_of_lt hbs) (Nat.le_refl _))
        have FR := hid fr
        clear hbl fr HX hc HB0 HF2
        go_wp2_with (go_at_call 38; refine HST.out.mono ?_; rintro e w9 ⟨rfl, f9⟩)
        go_ret
        have hsz : w.heap.size ≤ b := Nat.le_trans F1.out.size (Nat.le_of_eq HBB.out)
        exact ⟨rfl, FR.out.trans (S := fun _ => False) (T := fun k => b ≤ k) ⟨f9.os, f9.tape, f9.output, f9.size, fun k _ hn => f9.block k (by omega)⟩ (fun k hk hl => by omega)⟩
end Go.Proofs.YtfhkmiifndhacaaDoor
/- value.Rows. -/
namespace Go.VB.Rec
theorem rowsCmp_step : ∀ (l m : List V) (j : Nat) (h1 : j < l.length) (h2 : j < m.length), rowsCmp (l.drop j) (m.drop j) = if V.cmp l[j] m[j] ≠ 0 then V.cmp l[j] m[j] else rowsCmp (l.drop (j + 1)) (m.drop (j + 1)) := by
  intro l m j h1 h2
  rw [List.drop_eq_getElem_cons h1, List.drop_eq_getElem_cons h2]
  rfl
theorem rowsCmp_end (l m : List V) (j : Nat) (h : l.length ≤ j ∨ m.length ≤ j) (hj : j ≤ l.length) (hk : j ≤ m.length) : rowsCmp (l.drop j) (m.drop j) = Lib.compareInt l.length m.length := by
  unfold Lib.compareInt
  rcases (by omega : l.length = m.length ∨ l.length < m.length ∨ m.length < l.length) with e | e | e
  · rw [List.drop_of_length_le (by omega), List.drop_of_length_le (by omega), if_neg (by omega), if_neg (by omega)]; rfl
  · obtain ⟨x, t, ht⟩ : ∃ x t, m.drop j = x :: t := by
      cases hh : m.drop j with
      | nil => have := congrArg List.length hh; rw [List.length_drop] at this; simp at this; omega
      | cons x t => exact ⟨x, t, rfl⟩
    rw [List.drop_of_length_le (by omega), ht, if_pos (by omega)]; rfl
  · obtain ⟨x, t, ht⟩ : ∃ x t, l.drop j = x :: t := by
      cases hh : l.drop j with
      | nil => have := congrArg List.length hh; rw [List.length_drop] at this; simp at this; omega
      | cons x t => exact ⟨x, t, rfl⟩
    rw [List.drop_of_length_le (l := m) (by omega), ht, if_neg (by omega), if_pos (by omega)]; rfl
end Go.VB.Rec
namespace Go.Proofs.YtfhkmiifndhacaaDoor
open Go.RowKit Go.VB Go.VB.Oct Go.VB.Rec
set_option maxRecDepth 20000 in
theorem VRows_go {R R' : Nat → Prop} {w : World} {va vb : Value} {l m : List V} (h : Sl R w va l.length (l.flatMap V.cells)) (k : Sl R' w vb m.length (m.flatMap V.cells)) (hn : l.length ≤ 1099511627776) (hm : m.length ≤ 1099511627776) (K : Kn w) :
    Calls Tryd.prog 12 #[va, vb] w fun e w' => e = .returned (.int .i64 (rowsCmp l m)) ∧ Fr (fun _ => False) w w' := by
  obtain ⟨a, c, rfl, hc, hx⟩ := h
  obtain ⟨b, d, rfl, hd, hy⟩ := k
  have HX := hid (show Sl R w (.slice a l.length c) l.length (l.flatMap V.cells) from ⟨a, c, rfl, hc, hx⟩)
  have HY := hid (show Sl R' w (.slice b m.length d) m.length (m.flatMap V.cells) from ⟨b, d, rfl, hd, hy⟩)
  have KH := hid K
  have F0 := hid (Fr.refl (fun _ => False) w)
  have HC := hid (fun w => Tryd.cmp_Compare_int l.length m.length w)
  obtain ⟨z, hz⟩ : ∃ z, rowsCmp l m = z := ⟨_, rfl⟩
  rw [hz]
  have HZ := hid hz
  obtain ⟨N, hN⟩ : ∃ N : Nat, N = min l.length m.length := ⟨_, rfl⟩
  have HN := hid hN
  have hmin : min (l.length : Int) (m.length : Int) = (N : Int) := by omega
  have hmin2 : (if (m.length : Int) < (l.length : Int) then (m.length : Int) else (l.length : Int)) = (N : Int) := by split <;> omega
  have hN1 : N ≤ l.length := by omega
  have hN2 : N ≤ m.length := by omega
  clear hx hy K hz hN
  go_enter Tryd.func12, Tryd.ntmps12
  go_wp2_with (fail)
  go_loopw [12] (fun i wr => ∃ j : Nat, j ≤ N ∧ i = .int .i64 j ∧ rowsCmp (l.drop j) (m.drop j) = z ∧ Fr (fun _ => False) w wr) (fun i _ => N - (intOf i).toNat)
  case atStart => exact ⟨0, by omega, rfl, HZ.out, F0.out⟩
  case round =>
    obtain ⟨j, hj, rfl, hall, fr⟩ := hrel
    have FR := hid fr
    have HA := hid hall
    clear fr hall
    by_cases hjn : j < N
    · have hjl : j < l.length := by omega
      have hjm : j < m.length := by omega
      obtain ⟨g, o, rfl, hg, q0, q1, q2⟩ := sl_three (f := V.cells) vcells_len (HX.out.fr FR.out (fun _ _ h => h)) hjl
      obtain ⟨g', o', rfl, hg', r0, r1, r2⟩ := sl_three (f := V.cells) vcells_len (HY.out.fr FR.out (fun _ _ h => h)) hjm
      have i1 : (0 : Int) ≤ (j : Int) := by omega
      have i2 : (j : Int) < l.length := by omega
      have i3 : (j : Int) < m.length := by omega
      have i4 : (j : Int) < N := by omega
      simp only [V.cells, List.getElem?_cons_zero, List.getElem?_cons_succ] at q0 q1 q2 r0 r1 r2
      have HST := hid (rowsCmp_step l m j hjl hjm)
      obtain ⟨x, hx⟩ : ∃ x, x = l[j] := ⟨_, rfl⟩
      obtain ⟨y, hy⟩ : ∃ y, y = m[j] := ⟨_, rfl⟩
      rw [← hx] at q0 q1 q2 HST
      rw [← hy] at r0 r1 r2 HST
      clear hx hy
      have RX := hid (fun i u hu => cell_fr (range3 q0 q1 q2 i u hu) ((Fr.refl (fun _ => False) wr).drew) (fun h => h) : wr.drew.rangeAt g (o + j * 3) (V.cells x))
      have RY := hid (fun i u hu => cell_fr (range3 r0 r1 r2 i u hu) ((Fr.refl (fun _ => False) wr).drew) (fun h => h) : wr.drew.rangeAt g' (o' + j * 3) (V.cells y))
      have HVC := hid (VCompare_go x y ((KH.out.fre FR.out).fre ((Fr.refl (fun _ => False) wr).drew)))
      clear q0 q1 q2 r0 r1 r2
      obtain ⟨cc, hcc⟩ : ∃ cc, V.cmp x y = cc := ⟨_, rfl⟩
      rw [hcc] at HST HVC
      clear hcc
      go_upto_region 4 with fail
      refine wp_region_scr (.take 0 (.take 1 (.take 2 (.take 3 (.take 4 (.take 5 (.take 6 (.take 7 (.op 8 (.take 9 .done)))))))))) (fun kz w => (kz ≤ 9 → w.rangeAt g (o + j * 3) (V.cells x) ∧ w.rangeAt g' (o' + j * 3) (V.cells y)) ∧ True) (by kernel_rfl) (by kernel_rfl) (by intro c a d v w h; cases d <;> exact h) ?_
      repeat
        first
        | (refine wpT_pure rfl rfl rfl ?_; apply Exists.intro; refine ⟨?_, ?_⟩; intro w; (first | (first | exact run_load_mid _ _ rfl g _ rfl _ _ qa.1 Tryd.underlying50 rfl size_V | exact run_load_mid _ _ rfl g' _ rfl _ _ qa.2 Tryd.underlying50 rfl size_V | (go_simp; rw [if_pos ⟨i1, i2⟩]; done) | (go_simp; rw [if_pos ⟨i1, i3⟩]; done)) | (go_simp <;> rfl)); simp only [Act.put, List.setIfInBounds_toArray, List.set_cons_zero, List.set_cons_succ])
        | (refine wpT_take 9 rfl rfl (by decide +kernel) ⟨fun _ => ⟨RX.out, RY.out⟩, trivial⟩ ?_; apply Exists.intro; refine ⟨?_, ?_⟩; intro w hw; (have qa := hw.1 (Nat.le_refl _); have qb := hw.2); (first | (first | exact run_load_mid _ _ rfl g _ rfl _ _ qa.1 Tryd.underlying50 rfl size_V | exact run_load_mid _ _ rfl g' _ rfl _ _ qa.2 Tryd.underlying50 rfl size_V | (go_simp; rw [if_pos ⟨i1, i2⟩]; done) | (go_simp; rw [if_pos ⟨i1, i3⟩]; done)) | (go_simp <;> rfl)); simp only [Act.put, List.setIfInBounds_toArray, List.set_cons_zero, List.set_cons_succ])
        | (refine wpT_skip rfl rfl ?_; simp only [Act.put, List.setIfInBounds_toArray, List.set_cons_zero, List.set_cons_succ])
      refine wpT_op rfl ?_
      go_wp2_with ((go_at_call 39; refine HVC.out.mono ?_; rintro e w8 ⟨rfl, f⟩; have F8 := hid (FR.out.trans (((Fr.refl (fun _ => False) wr).drew).trans f (fun _ h _ => h)) (fun _ h _ => h)); have R2 := hid (fun i u hu => cell_fr (RX.out i u hu) f (fun h => h) : w8.rangeAt g (o + j * 3) (V.cells x)); have R3 := hid (fun i u hu => cell_fr (RY.out i u hu) f (fun h => h) : w8.rangeAt g' (o' + j * 3) (V.cells y)); clear f))
      (refine ⟨?_, ?_⟩; focus (intro kz hk hk2 hh; first | (exfalso; simp at hk2; omega) | exact hh | exact (fun h => absurd h (by omega)) | obtain ⟨qa, qb⟩ := hh; first | exact ⟨qa, qb⟩ | (refine ⟨fun h => absurd h (by omega), ?_⟩; first | exact qb | (exact ⟨R2.out, R3.out⟩)) | (refine ⟨fun h => ?_, ?_⟩; (have qa := qa h); all_goals (first | exact qa | exact qb | (exact ⟨R2.out, R3.out⟩)))))
      repeat
        first
        | (refine wpT_pure rfl rfl rfl ?_; apply Exists.intro; refine ⟨?_, ?_⟩; intro w; ((go_simp <;> rfl)); simp only [Act.put, List.setIfInBounds_toArray, List.set_cons_zero, List.set_cons_succ])
        | (refine wpT_take 9 rfl rfl (by decide +kernel) ⟨fun _ => ⟨R2.out, R3.out⟩, trivial⟩ ?_; apply Exists.intro; refine ⟨?_, ?_⟩; intro w hw; (have qa := hw.1 (Nat.le_refl _); have qb := hw.2); ((go_simp <;> rfl)); simp only [Act.put, List.setIfInBounds_toArray, List.set_cons_zero, List.set_cons_succ])
        | (refine wpT_skip rfl rfl ?_; simp only [Act.put, List.setIfInBounds_toArray, List.set_cons_zero, List.set_cons_succ])
      refine wpT_nil ?_
      by_cases hc0 : cc = 0
      · subst hc0
        go_wp2_with (fail)
        go_roundw
        case rel => exact ⟨j + 1, by omega, by go_num, by rw [← HA.out, HST.out]; simp, F8.out⟩
        case measure => simp [intOf]; omega
      · have hcb : (cc != 0) = true := by simpa using hc0
        go_wp2_with (fail)
        go_ret
        exact ⟨ret_int (by rw [← HA.out, HST.out, if_pos hc0]), F8.out⟩
    · obtain rfl : j = N := by omega
      have hend := rowsCmp_end l m j (by have := HN.out; omega) hN1 hN2
      have HE := hid hend
      clear hend
      go_wp2_with (go_at_call 40; refine (HC.out _).mono ?_; rintro e w1 ⟨rfl, rfl⟩)
      go_ret
      exact ⟨ret_int (by rw [← HE.out, HA.out]), FR.out⟩
end Go.Proofs.YtfhkmiifndhacaaDoor
