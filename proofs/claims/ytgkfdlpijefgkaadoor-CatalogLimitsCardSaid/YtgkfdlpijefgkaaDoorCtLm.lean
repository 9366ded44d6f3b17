import Derived.Test.YtgkfdlpijefgkaaDoorCtOs
import Derived.Test.YtgkfdlpijefgkaaDoorCtFr
import Derived.Test.YtgkfdlpijefgkaaDoorMk
import Derived.Test.YtgkfdlpijefgkaaDoorCards
import Derived.Test.YtgkfdlpijefgkaaDoorTie
import Derived.SevenTiedAt
/-
For every count and every name length the program's catalog takes eight tables, four indexes, one to six columns and names of one to twelve bytes, and no more (CatalogLimits).
Conditions: none beyond the row's own.
-/
set_option linter.unusedVariables false
namespace Go.VB.Cat
open Go.VB.Oct
def ab2 : List Col := [⟨[97], 1⟩, ⟨[98], 2⟩]
def tst (i : Nat) : St := ⟨1, [116, UInt8.ofNat (97 + i)], [], ab2, [], []⟩
def mT : Nat → List Tab
  | 0 => []
  | i + 1 => (doM (mT i) (tst i) 0).1
theorem mT_err : ∀ i : Fin 12, (doM (mT i) (tst i) 0).2 = if i.val < 8 then 0 else 2 := by decide +kernel
def mU (n : Nat) : List Tab := (doM (mT n) tabSt 0).1
def ist (i : Nat) : St := ⟨2, [116, 97], [105, UInt8.ofNat (97 + i)], [], [[97]], []⟩
def mI (n : Nat) : Nat → List Tab
  | 0 => mU n
  | i + 1 => (doM (mI n i) (ist i) 5).1
theorem mI_err : ∀ n : Fin 13, ∀ i : Fin 12, i.val < n.val → (doM (mI n i) (ist i) 5).2 = if i.val < 4 then 0 else 2 := by decide +kernel
def colN (n : Nat) : List Col := (List.range n).map fun i => ⟨[UInt8.ofNat (97 + i)], 2⟩
def nameL (n : Nat) : Bs := (List.range n).map fun i => UInt8.ofNat (97 + i)
theorem colN_len (n : Nat) : (colN n).length = n := by simp [colN]
theorem nameL_len (n : Nat) : (nameL n).length = n := by simp [nameL]
theorem colN_small (n : Nat) : ∀ c ∈ colN n, c.name.length ≤ 1048576 := by
  intro c hc
  simp only [colN, List.mem_map] at hc
  obtain ⟨i, _, rfl⟩ := hc
  exact (by decide : 1 ≤ 1048576)
theorem lim_err : ∀ n : Fin 13, ∀ L : Fin 16, (doM [] ⟨1, nameL L, [], colN n, [], []⟩ 0).2 = if 1 ≤ n.val ∧ n.val ≤ 6 ∧ 1 ≤ L.val ∧ L.val ≤ 12 then 0 else 1 := by decide +kernel
theorem ex_abc : ∀ i : Fin 13, (⟨#[97, 98, 99, 100, 101, 102, 103, 104, 105, 106, 107, 108, 109]⟩ : ByteArray).extract i (i + 1) = bs [UInt8.ofNat (97 + i)] := by decide +kernel
theorem ex_abo : ∀ i : Fin 16, (⟨#[97, 98, 99, 100, 101, 102, 103, 104, 105, 106, 107, 108, 109, 110, 111]⟩ : ByteArray).extract 0 i = bs (nameL i) := by decide +kernel
end Go.VB.Cat
namespace Go.Proofs.YtgkfdlpijefgkaaDoor
open Go.RowKit Go.VB Go.VB.Oct Go.VB.Cat Go.VB.Rec
set_option maxRecDepth 20000 in
set_option maxHeartbeats 4000000 in
theorem Lim_walk (n0 k0 : Int) {w : World} (G : Gv w) : Calls Tryd.prog 7 #[.int .i64 n0, .int .i64 k0] w fun e w' => e = .returned (.bool true) ∧ Fr (fun _ => False) w w' := by
  obtain ⟨a, ha, ha2, -⟩ := and_16 n0
  obtain ⟨b, hb, hb2, -⟩ := and_16 k0
  obtain ⟨n, hn, hn13⟩ : ∃ n : Nat, (a : Int).tmod 13 = (n : Int) ∧ n < 13 := ⟨a % 13, by rw [Int.tmod_eq_emod_of_nonneg (by omega)]; omega, Nat.mod_lt _ (by omega)⟩
  obtain ⟨q, hq, hq16⟩ : ∃ n : Nat, (b : Int).tmod 16 = (n : Int) ∧ n < 16 := ⟨b % 16, by rw [Int.tmod_eq_emod_of_nonneg (by omega)]; omega, Nat.mod_lt _ (by omega)⟩
  have HSA := hid (sanity_go G.kn)
  have hex := ex_abo ⟨q, hq16⟩
  dsimp only at hex
  go_enter Tryd.func7, Tryd.ntmps7
  go_upto_region 2 with (go_at_call 10; refine HSA.out.mono ?_; rintro e w1 ⟨rfl, f1⟩; have F1 := hid f1; clear f1)
  go_upto_region 4 with fail
  clear hex hb ha hn hq HSA
  have HNW := hid (New_go w1)
  go_upto_region 8 with (go_at_call 17; refine HNW.out.mono ?_; rintro e w2 ⟨rfl, hc, f⟩; have HC2 := hid ((OS.new hc f).base F1.out); clear hc f)
  obtain ⟨c, hce⟩ : ∃ c, c = w1.heap.size := ⟨_, rfl⟩
  rw [← hce] at HC2 ⊢
  clear hce HNW
  go_wp2_with (fail)
  go_loopw [8, 9] (fun s8 s9 wr => ∃ (i : Nat) (S : Nat → Prop), i ≤ n ∧ s9 = .int .i64 i ∧ s8 = .int .i64 ((min i 8 : Nat) : Int) ∧ OS w S wr c (mT i)) (fun _ s9 _ => n - (intOf s9).toNat)
  case atStart => exact ⟨0, _, by omega, rfl, rfl, HC2.out⟩
  case round =>
    obtain ⟨i, S, hi, rfl, rfl, hos⟩ := hrel
    have HOS := hid hos
    clear hos HC2
    by_cases hin : i < n
    · have i1 : (0 : Int) ≤ (i : Int) := by omega
      have i2 : (i : Int) < (n : Int) := by omega
      have i3 : IntKind.i64.wrap ((i : Int) + 1) = (i : Int) + 1 := IntWalk.i64_in _ (by omega)
      have i4 : (i : Int) ≤ (i : Int) + 1 := by omega
      have i5 : ((i : Int) + 1).toNat = i + 1 := by omega
      have hex := ex_abc ⟨i, by omega⟩
      dsimp only at hex
      have HER := hid (mT_err ⟨i, by omega⟩)
      dsimp only at HER
      obtain ⟨x, hx⟩ : ∃ x, UInt8.ofNat (97 + i) = x := ⟨_, rfl⟩
      have HMS := hid (show mT (i + 1) = (doM (mT i) ⟨1, [116, UInt8.ofNat (97 + i)], [], ab2, [], []⟩ 0).1 from rfl)
      unfold tst at HER
      rw [hx] at hex HER HMS
      clear hx
      have hadd : ∀ w, (Op.stringOp .add ⟨#[116]⟩ (bs [x])).run Tryd.prog w = .ok (.string (bs [116, x])) w := fun w => run_add_bs w [116] [x] (by simp)
      have HTB := hid (table_go wr)
      unfold stc nilS at HTB
      go_upto_region 12 with (go_at_call 25; refine HTB.out.mono ?_; rintro e w3 ⟨g, rfl, hr, f⟩; have HR3 := hid hr; have HO3 := hid (HOS.out.fre f); have HZ3 := hid f.size; clear hr f)
      have f4 := (Fr.refl (fun _ => False) w3).alloc (.cells (stc 1 [116] [] (.slice (some ⟨g, 0, none⟩) 2 2) nilS).toArray 51)
      have HB4 := hid (Blk.new w3 (stc 1 [116] [] (.slice (some ⟨g, 0, none⟩) 2 2) nilS) 51)
      have HO4 := hid (HO3.out.fre f4)
      have HR4 := hid (HR3.out.fre f4)
      have HD := hid (show ¬ S w3.heap.size ∧ w.heap.size ≤ w3.heap.size from ⟨fun h => by have := HO3.out.lt h; omega, HO3.out.fr.size⟩)
      clear f4 HO3 HR3 HZ3 HTB
      unfold stc nilS at HB4 HO4 HR4
      generalize w3.heap.size = d at *
      generalize w3.alloc _ = W4 at *
      have y1 : W4.cell? ⟨d, 1, none⟩ = some (.string (bs [116])) := HB4.out.cell 1
      have z1 : W4.frozen? ⟨d, 1, none⟩ = false := HB4.out.frozen 1
      have HB5 := hid (HB4.out.set 1 (.string (bs [116, x])))
      have f5 := (Fr.refl (fun k => k = d) W4).setCell ⟨d, 1, none⟩ (.string (bs [116, x])) (fun _ => rfl)
      have HO5 := hid (HO4.out.keep f5 (fun k hk => hk ▸ HD.out))
      have HR5 := hid (HR4.out.fr f5 (HR4.out.ne HB4.out (by decide)))
      clear f5
      go_upto_region 13 with fail
      clear HO4 HR4 HB4 z1 y1 hex hadd
      have HDO := hid (HO5.out.st 1 [116, x] [] [] (l := ab2) (ns := []) (P := fun _ => True) (by decide) (HR5.out.sl' (fun _ _ => trivial)) (Sl.none _ _) (by decide) (by decide) (by decide) (by simp) 0)
      rw [HER.out, ← HMS.out] at HDO
      clear HER HMS HR5 HO5
      generalize W4.setCell _ _ = W5 at *
      have B5 : Blk W5 d [.int .i64 1, .string (bs [116, x]), .string (bs []), .slice (some ⟨g, 0, none⟩) 2 2, .slice none 0 0, .slice none 0 0, .slice none 0 0, .slice none 0 0, .string ⟨#[]⟩, .string ⟨#[]⟩, .string ⟨#[]⟩, .int .i64 0, .slice none 0 0, .int .i64 0, .int .i64 0] 51 := HB5.out
      have HB6 := hid B5
      clear B5 HB5
      by_cases h8 : i < 8
      · rw [if_pos h8] at HDO
        have j1 : (i : Int) < 8 := by omega
        have j2 : IntKind.i64.wrap (((min i 8 : Nat) : Int) + 1) = ((min (i + 1) 8 : Nat) : Int) := by rw [IntWalk.i64_in _ (by omega)]; omega
        go_wp2_with (first
          | (refine wpList_load_mid rfl 51 (.tmp 10) rfl d 0 rfl _ _ HB6.out.all Tryd.underlying51 rfl size_st ?_)
          | (go_at_call 21; refine HDO.out.mono ?_; rintro e w6 ⟨rfl, ho, -⟩; have HO6 := hid ho; clear ho))
        exact ⟨⟨i + 1, _, by omega, rfl, rfl, HO6.out⟩, by simp only [intOf, i5, Int.toNat_natCast]; omega⟩
      · rw [if_neg h8] at HDO
        have j1 : ¬ (i : Int) < 8 := by omega
        go_wp2_with (first
          | (refine wpList_load_mid rfl 51 (.tmp 10) rfl d 0 rfl _ _ HB6.out.all Tryd.underlying51 rfl size_st ?_)
          | (go_at_call 21; refine HDO.out.mono ?_; rintro e w6 ⟨rfl, ho, -⟩; have HO6 := hid ho; clear ho))
        exact ⟨⟨i + 1, _, by omega, rfl, by rw [show min (i + 1) 8 = min i 8 by omega], HO6.out⟩, by simp only [intOf, i5, Int.toNat_natCast]; omega⟩
    · obtain rfl : i = n := by omega
      have i1 : ¬ (i : Int) < (i : Int) := by omega
      have HTB := hid (table_go wr)
      unfold stc nilS at HTB
      go_upto_region 18 with fail
      go_upto_region 19 with (first
        | (go_at_call 25; refine HTB.out.mono ?_; rintro e w3 ⟨g, rfl, hr, f⟩; have HDO := hid ((HOS.out.fre f).st 1 [116] [] [] (l := ab2) (ns := []) (P := fun _ => True) (by decide) (hr.sl' (fun _ _ => trivial)) (Sl.none _ _) (by decide) (by decide) (by decide) (by simp) 0); clear hr f)
        | (go_at_call 21; refine HDO.out.mono ?_; rintro e w4 ⟨rfl, ho, -⟩; have HO4 := hid ho; clear ho))
      obtain ⟨S2, hS2⟩ : ∃ S2 : Nat → Prop, OS w S2 w4 c (mI i 0) := ⟨_, HO4.out⟩
      have HO5 := hid hS2
      clear HTB HDO HO4 HOS hS2 hi hin i1
      go_wp2_with (fail)
      go_loopw [12, 13] (fun s12 s13 wr => ∃ (r : Nat) (S : Nat → Prop), r ≤ i ∧ s13 = .int .i64 r ∧ s12 = .int .i64 ((min r 4 : Nat) : Int) ∧ OS w S wr c (mI i r)) (fun _ s13 _ => i - (intOf s13).toNat)
      case atStart => exact ⟨0, _, by omega, rfl, rfl, HO5.out⟩
      case round =>
        obtain ⟨r, S, hr, rfl, rfl, hos⟩ := hrel
        have HOS := hid hos
        clear hos HO5
        by_cases hri : r < i
        · have i1 : (0 : Int) ≤ (r : Int) := by omega
          have i2 : (r : Int) < (i : Int) := by omega
          have i3 : IntKind.i64.wrap ((r : Int) + 1) = (r : Int) + 1 := IntWalk.i64_in _ (by omega)
          have i4 : (r : Int) ≤ (r : Int) + 1 := by omega
          have i5 : ((r : Int) + 1).toNat = r + 1 := by omega
          have i6 : (0 : Int) < ((min i 8 : Nat) : Int) := by omega
          have hex := ex_abc ⟨r, by omega⟩
          dsimp only at hex
          have HER := hid (mI_err ⟨i, hn13⟩ ⟨r, by omega⟩ hri)
          dsimp only at HER
          obtain ⟨x, hx⟩ : ∃ x, UInt8.ofNat (97 + r) = x := ⟨_, rfl⟩
          have HMS := hid (show mI i (r + 1) = (doM (mI i r) ⟨2, [116, 97], [105, UInt8.ofNat (97 + r)], [], [[97]], []⟩ 5).1 from rfl)
          unfold ist at HER
          rw [hx] at hex HER HMS
          clear hx
          have hadd : ∀ w, (Op.stringOp .add ⟨#[105]⟩ (bs [x])).run Tryd.prog w = .ok (.string (bs [105, x])) w := fun w => run_add_bs w [105] [x] (by simp)
          have HN := hid (Row.built (e := 9) (size := 1) (n := 1) (B := 0) wr (l := [.string ⟨#[97]⟩]) rfl (by decide) (by simp))
          have HO1 := hid (HOS.out.fre ((Fr.refl (fun _ => False) wr).alloc (.cells #[.string ⟨#[97]⟩] 9)))
          have HDO := hid (HO1.out.st 2 [116, 97] [105, x] [] (l := []) (ns := [[97]]) (P := fun _ => True) (by decide) (Sl.none _ _) (HN.out.sl' (fun _ _ => trivial)) (by decide) (by decide) (by decide) (by simp) 5)
          rw [HER.out, ← HMS.out] at HDO
          clear HER HMS HN HO1 HOS
          go_upto_region 23 with fail
          by_cases h4 : r < 4
          · rw [if_pos h4] at HDO
            have j1 : (r : Int) < 4 := by omega
            have j2 : IntKind.i64.wrap (((min r 4 : Nat) : Int) + 1) = ((min (r + 1) 4 : Nat) : Int) := by rw [IntWalk.i64_in _ (by omega)]; omega
            go_wp2_with (go_at_call 21; refine HDO.out.mono ?_; rintro e w6 ⟨rfl, ho, -⟩; have HO6 := hid ho; clear ho)
            exact ⟨⟨r + 1, _, by omega, rfl, rfl, HO6.out⟩, by simp only [intOf, i5, Int.toNat_natCast]; omega⟩
          · rw [if_neg h4] at HDO
            have j1 : ¬ (r : Int) < 4 := by omega
            go_wp2_with (go_at_call 21; refine HDO.out.mono ?_; rintro e w6 ⟨rfl, ho, -⟩; have HO6 := hid ho; clear ho)
            exact ⟨⟨r + 1, _, by omega, rfl, by rw [show min (r + 1) 4 = min r 4 by omega], HO6.out⟩, by simp only [intOf, i5, Int.toNat_natCast]; omega⟩
        · obtain rfl : r = i := by omega
          have i1 : ¬ (r : Int) < (r : Int) := by omega
          have F5 := hid HOS.out.fr
          clear HOS
          go_upto_region 28 with fail
          go_upto_region 29 with fail
          have f6 := (Fr.refl (fun _ => False) wr).alloc (.cells #[.int .i64 1, .string (bs (nameL q)), .string ⟨#[]⟩, .slice none 0 0, .slice none 0 0, .slice none 0 0, .slice none 0 0, .slice none 0 0, .string ⟨#[]⟩, .string ⟨#[]⟩, .string ⟨#[]⟩, .int .i64 0, .slice none 0 0, .int .i64 0, .int .i64 0] 51)
          have HB6 := hid (Blk.new wr [.int .i64 1, .string (bs (nameL q)), .string ⟨#[]⟩, .slice none 0 0, .slice none 0 0, .slice none 0 0, .slice none 0 0, .slice none 0 0, .string ⟨#[]⟩, .string ⟨#[]⟩, .string ⟨#[]⟩, .int .i64 0, .slice none 0 0, .int .i64 0, .int .i64 0] 51)
          have HD := hid F5.out.size
          have HR6 := hid (show Row 40 2 w.heap.size (wr.alloc (.cells #[.int .i64 1, .string (bs (nameL q)), .string ⟨#[]⟩, .slice none 0 0, .slice none 0 0, .slice none 0 0, .slice none 0 0, .slice none 0 0, .string ⟨#[]⟩, .string ⟨#[]⟩, .string ⟨#[]⟩, .int .i64 0, .slice none 0 0, .int .i64 0, .int .i64 0] 51)) (.slice none 0 0) 0 [] from Row.nil)
          have F6 := hid (F5.out.trans f6 (fun _ h _ => h))
          clear f6 F5
          generalize wr.heap.size = d at *
          generalize wr.alloc _ = W6 at *
          go_wp2_with (fail)
          go_loopw [16] (fun s16 wr => ∃ (j : Nat) (ac : Option Addr) (cc : Nat), j ≤ r ∧ s16 = .int .i64 j ∧ Fr (fun _ => False) w wr ∧ Blk wr d [.int .i64 1, .string (bs (nameL q)), .string ⟨#[]⟩, .slice ac j cc, .slice none 0 0, .slice none 0 0, .slice none 0 0, .slice none 0 0, .string ⟨#[]⟩, .string ⟨#[]⟩, .string ⟨#[]⟩, .int .i64 0, .slice none 0 0, .int .i64 0, .int .i64 0] 51 ∧ Row 40 2 w.heap.size wr (.slice ac j cc) j ((colN j).flatMap Col.cells)) (fun s16 _ => r - (intOf s16).toNat)
          case atStart => exact ⟨0, none, 0, by omega, rfl, F6.out, HB6.out, HR6.out⟩
          case round =>
            obtain ⟨j, ac, cc, hj, rfl, hf, hb, hrow⟩ := hrel
            have FA := hid hf
            have HBA := hid hb
            have HRA := hid hrow
            clear hf hb hrow F6 HB6 HR6
            by_cases hjr : j < r
            · have i1 : (0 : Int) ≤ (j : Int) := by omega
              have i2 : (j : Int) < (r : Int) := by omega
              have i3 : IntKind.i64.wrap ((j : Int) + 1) = (j : Int) + 1 := IntWalk.i64_in _ (by omega)
              have i4 : (j : Int) ≤ (j : Int) + 1 := by omega
              have i5 : ((j : Int) + 1).toNat = j + 1 := by omega
              have i6 : (j : Int) + 1 ≤ 13 := by omega
              have hex := ex_abc ⟨j, by omega⟩
              dsimp only at hex
              have HCS := hid (show (colN (j + 1)).flatMap Col.cells = (colN j).flatMap Col.cells ++ [.string (bs [UInt8.ofNat (97 + j)]), .int .i64 2] from by simp [colN, List.range_succ, Col.cells])
              obtain ⟨x, hx⟩ : ∃ x, UInt8.ofNat (97 + j) = x := ⟨_, rfl⟩
              rw [hx] at hex HCS
              clear hx
              have HLE := hid (show j ≤ 12 from by omega)
              go_upto_region 32 with fail
              have fd := (Fr.refl (fun _ => False) wr).drew
              have FB := hid (FA.out.trans fd (fun _ h _ => h))
              have HBB := hid (Blk.fr HBA.out fd (fun h => h))
              have HRB := hid (HRA.out.fre fd)
              clear fd HBA HRA FA
              refine wp_region_scr (.take 0 (.take 1 (.take 2 (.take 3 (.take 4 (.take 5 (.op 6 (.op 7 (.op 8 (.take 9 (.op 10 .done))))))))))) (fun kz w => (kz ≤ 10 → w.cell? ⟨d, 3, none⟩ = some (.slice ac j cc)) ∧ Hid True) (by kernel_rfl) (by kernel_rfl) (by intro c a d v w h; cases d <;> exact h) ?_
              repeat
                first
                | (refine wpT_pure rfl rfl rfl ?_; apply Exists.intro; refine ⟨?_, ?_⟩; intro w; ((go_simp <;> rfl)); simp only [Act.put, List.setIfInBounds_toArray, List.set_cons_zero, List.set_cons_succ])
                | (refine wpT_take 10 rfl rfl (by decide +kernel) ⟨fun _ => HBB.out.cell 3, hid trivial⟩ ?_; apply Exists.intro; refine ⟨?_, ?_⟩; intro w hw; (have qa := hw.1 (Nat.le_refl _); have qb := hw.2); ((go_simp <;> rfl)); simp only [Act.put, List.setIfInBounds_toArray, List.set_cons_zero, List.set_cons_succ])
                | (refine wpT_skip rfl rfl ?_; simp only [Act.put, List.setIfInBounds_toArray, List.set_cons_zero, List.set_cons_succ])
              generalize wr.drew = WA at *
              refine wpT_op rfl ?_
              go_wp2_with (fail)
              (refine ⟨?_, ?_⟩; focus (intro kz hk hk2 hh; first | (exfalso; simp at hk2; omega) | exact hh | exact (fun h => absurd h (by omega)) | obtain ⟨qa, qb⟩ := hh; first | exact ⟨qa, qb⟩ | (refine ⟨fun h => absurd h (by omega), ?_⟩; first | exact qb | (exact qa)) | (refine ⟨fun h => ?_, ?_⟩; (have qa := qa h); all_goals (first | exact qa | exact qb | (exact qa)))))
              have FN := hid (fun o => (Fr.refl (fun _ => False) WA).alloc o)
              have HSZ := hid FB.out.size
              refine wpT_op rfl ?_
              go_wp2_with (fail)
              (refine ⟨?_, ?_⟩; focus (intro kz hk hk2 hh; first | (exfalso; simp at hk2; omega) | exact hh | exact (fun h => absurd h (by omega)) | obtain ⟨qa, qb⟩ := hh; first | exact ⟨qa, qb⟩ | (refine ⟨fun h => absurd h (by omega), ?_⟩; first | exact qb | (exact (Blk.fr HBB.out (FN.out _) (fun h => h)).cell 3)) | (refine ⟨fun h => ?_, ?_⟩; (have qa := qa h); all_goals (first | exact qa | exact qb | (exact (Blk.fr HBB.out (FN.out _) (fun h => h)).cell 3)))))
              refine wpT_op rfl ?_
              go_wp2_with ((at_builtin; refine wpList_app1 rfl (s := .tmp 109) (x := .tmp 115) (t := 22) rfl Tryd.underlying22 info_col rfl rfl rfl HRB.out HSZ.out rfl (by simp [Value.oneCell']) (by have := HLE.out; omega) (by have := HLE.out; omega) ?_; intro ab ac7 wg APP; have FE := hid (FB.out.trans APP.fr (fun k hk hl => by have := HRB.out.new k hk; omega)); have HBE := hid (Blk.fr HBB.out APP.fr (fun hk => HRB.out.ne HBB.out (by decide) _ hk rfl)); have HRE := hid (APP.row.cast (m := j + 1) (ys := (colN (j + 1)).flatMap Col.cells) rfl HCS.out.symm); clear APP))
              (refine ⟨?_, ?_⟩; focus (intro kz hk hk2 hh; first | (exfalso; simp at hk2; omega) | exact hh | exact (fun h => absurd h (by omega)) | obtain ⟨qa, qb⟩ := hh; first | exact ⟨qa, qb⟩ | (refine ⟨fun h => absurd h (by omega), ?_⟩; first | exact qb | (exact HBE.out.cell 3)) | (refine ⟨fun h => ?_, ?_⟩; (have qa := qa h); all_goals (first | exact qa | exact qb | (exact HBE.out.cell 3)))))
              clear FB HBB HRB FN
              repeat
                first
                | (refine wpT_pure rfl rfl rfl ?_; apply Exists.intro; refine ⟨?_, ?_⟩; intro w; ((go_simp <;> rfl)); simp only [Act.put, List.setIfInBounds_toArray, List.set_cons_zero, List.set_cons_succ])
                | (refine wpT_take 10 rfl rfl (by decide +kernel) ⟨fun _ => HBE.out.cell 3, hid trivial⟩ ?_; apply Exists.intro; refine ⟨?_, ?_⟩; intro w hw; (have qa := hw.1 (Nat.le_refl _); have qb := hw.2); ((go_simp <;> rfl)); simp only [Act.put, List.setIfInBounds_toArray, List.set_cons_zero, List.set_cons_succ])
                | (refine wpT_skip rfl rfl ?_; simp only [Act.put, List.setIfInBounds_toArray, List.set_cons_zero, List.set_cons_succ])
              have k5 : wg.cell? ⟨d, 3, none⟩ = some (.slice ac j cc) := HBE.out.cell 3
              have z5 : wg.frozen? ⟨d, 3, none⟩ = false := HBE.out.frozen 3
              have fs := (Fr.refl (fun k => k = d) wg).setCell ⟨d, 3, none⟩ (.slice ab (j + 1) ac7) (fun _ => rfl)
              have FF := hid (FE.out.trans fs (fun k hk hl => by have := HD.out; omega))
              have HBF := hid (HBE.out.set 3 (.slice ab (j + 1) ac7))
              have HRF := hid (HRE.out.fr fs (fun k hk e => HRE.out.ne HBE.out (by decide) k hk e))
              clear fs FE HBE HRE
              refine wpT_op rfl ?_
              go_wp2_with (fail)
              (refine ⟨?_, ?_⟩; focus (intro kz hk hk2 hh; first | (exfalso; simp at hk2; omega) | exact hh | exact (fun h => absurd h (by omega)) | obtain ⟨qa, qb⟩ := hh; first | exact ⟨qa, qb⟩ | (refine ⟨fun h => absurd h (by omega), ?_⟩; first | exact qb | (exact hid trivial)) | (refine ⟨fun h => ?_, ?_⟩; (have qa := qa h); all_goals (first | exact qa | exact qb | (exact hid trivial)))))
              refine wpT_nil ?_
              go_wp2_with (fail)
              go_roundw
              case rel => exact ⟨j + 1, ab, ac7, by omega, rfl, FF.out, HBF.out, HRF.out⟩
              case measure => simp [intOf]; omega
            · obtain rfl : j = r := by omega
              have i1 : ¬ (j : Int) < (j : Int) := by omega
              have HN := hid (New_go wr)
              go_upto_region 36 with (go_at_call 17; refine HN.out.mono ?_; rintro e w8 ⟨rfl, hc, f⟩; have HO8 := hid ((OS.new hc f).base FA.out); have HB8 := hid (Blk.fr HBA.out f (fun h => h)); have HR8 := hid (HRA.out.fre f); clear hc f)
              clear HN HBA HRA FA
              have HDO := hid (HO8.out.st 1 (nameL q) [] [] (l := colN j) (ns := []) (oc := ac) (cc := cc) (P := fun _ => True) (by decide) (by rw [colN_len]; exact HR8.out.sl' (fun _ _ => trivial)) (Sl.none _ _) (by rw [colN_len]; omega) (by decide) (colN_small j) (by simp) 0)
              rw [colN_len, lim_err ⟨j, hn13⟩ ⟨q, hq16⟩] at HDO
              dsimp only at HDO
              have HQL := hid (show (bs (nameL q)).size = q from (show (nameL q).toArray.size = q from by rw [List.size_toArray, nameL_len]))
              go_wp2_with (first
                | (refine wpList_load_mid rfl 51 (.tmp 15) rfl d 0 rfl _ _ HB8.out.all Tryd.underlying51 rfl size_st ?_)
                | (go_at_call 21; go_must (refine HDO.out.mono ?_; rintro e w9 ⟨rfl, ho, -⟩; have FZ := hid ho.fr; clear ho)))
              all_goals have hql := HQL.out
              all_goals first
                | (exfalso; omega)
                | (go_ret; exact ⟨rfl, FZ.out⟩)
                | (have hd : decide (((bs (nameL q)).size : Int) ≤ 12) = false := decide_eq_false (by omega); simp only [hd]; go_ret; exact ⟨rfl, FZ.out⟩)
end Go.Proofs.YtgkfdlpijefgkaaDoor
namespace Go.Proofs.YtgkfdlpijefgkaaDoor.catalogLimits
open Go.ChangeShapes Go.WideShapes Go.ChangeAt Go.RowKit Go.VB Go.VB.Rec
set_option maxHeartbeats 400000 in
set_option maxRecDepth 100000 in
theorem lifted (os : Os) (started : os.Started) (H : Type) (enc : TypeId × Value → H) :
    ReturnsInHanded {} Tryd.checked os 7 .any (fun w args => (Rows.catalogLimitsSpec.pre enc Tryd.prog Tryd.f7 Rows.catalogLimitsRow.domain false w args ∧ laidMetH Tryd.prog Rows.catalogLimitsRow.laid w) ∧ sizedMet enc Tryd.prog Tryd.f7 (OpenSpec.ofChange Rows.catalogLimitsSpec) false w args) (Rows.catalogLimitsSpec.post enc Tryd.prog Tryd.f7 false true false false) := by
  refine handed_and_shaped (C := Tryd.checked) (X := fun w _ => laidMetH Tryd.prog Rows.catalogLimitsRow.laid w) (fun _ _ _ hh h => h.of_heap hh) own started (by kernel_rfl) Tryd.func7
    (ChangeSpec.witness_shaped (enc := enc) (C := Tryd.checked) (os := os) (X := fun w _ => laidMetH Tryd.prog Rows.catalogLimitsRow.laid w) false (startW os) #[.int .i64 0, .int .i64 0] 8 rfl (start_shaped os _) (by kernel_rfl) (by kernel_rfl) (by kernel_rfl) (start_met os _)) ?_
  intro W base args ds gs before hval0 hW hL hsh
  have GV : Hid (Gv W) := hid (gv_of hL hsh)
  clear hL hsh
  have hval : ∀ (j : Nat) t v, Tryd.f7.params[j]? = some t → args[j]? = some v → Value.okWide Tryd.prog W .any base t v := hval0
  have hW' := hW
  obtain ⟨p, q, hA0, hV, rfl, hfz, hnd⟩ := hW
  have hA : DataW.TrodAll enc Tryd.prog W 0 (fun _ => true) true Tryd.f7.params.toList args.toList ds p := hA0
  rw [Tryd.params7] at hA hval
  obtain ⟨v0, vs0, d0, ds0, p0, q0, hargs, rfl, rfl, h0, r0⟩ := trodAll_cons hA
  obtain ⟨v1, vs1, d1, ds1, p1, q1, rfl, rfl, rfl, h1, r1⟩ := trodAll_cons r0
  obtain ⟨rfl, rfl, rfl⟩ := trodAll_nil r1
  obtain rfl : args = #[v0, v1] := by cases args; simp_all
  obtain ⟨rfl, rfl⟩ := trodVars_none hV
  clear hA0 hval0
  refine Calls.mono (R := fun e w' => e = .returned (.bool true) ∧ Fr (fun _ => False) W w') ?_ fun e W' ⟨he, hf⟩ => ⟨_, he, post_law sound (by decide +kernel) rfl rfl (ht := Tryd.underlying4) (by rfl) hW' hf⟩
  obtain ⟨a, rfl, -, -, ha⟩ := open_int (k := .i64) Tryd.underlying3 (hval 0 3 v0 rfl rfl) h0
  obtain ⟨b, rfl, -, -, hb⟩ := open_int (k := .i64) Tryd.underlying3 (hval 1 3 v1 rfl rfl) h1
  exact Lim_walk a b GV.out
theorem row_holds : Rows.CatalogLimitsSaid :=
  OpenClaim.holds_of_wide 7 Tryd.f7 rfl rfl rfl rfl rfl rfl rfl ⟨rfl, rfl, rfl, rfl, rfl⟩ rfl rfl rfl rfl rfl (by kernel_rfl) Tryd.func7 (by kernel_rfl)
    (of_decide_eq_true (by kernel_rfl)) (by unfold Func.isWrapper; first | (rw [if_pos (by decide +kernel)]; kernel_rfl) | (rw [if_neg (by decide +kernel)]; exact ⟨rfl, rfl⟩))
    (fun os started H enc _ => lifted os started H enc)
theorem proved : Rows.CatalogLimitsCardSaid :=
  Claim7.holds_tied_plain_at .later [] Rows.catalogLimitsCard.laidKinds true Rows.catalogLimitsCard.stood.harness Rows.catalogLimitsCard.stood.looks row_holds (fun _ h => by cases h) (by kernel_rfl) (fun _ h => by cases h) catalogLimits_row_tie rfl ⟨rfl, rfl⟩ (by kernel_rfl) rfl
    (fun f fn hf hfn => by
      obtain rfl : f = 7 := Option.some.inj ((show Tryd.prog.funcNamed "vintner/vintnerlaw14.CatalogLimits" = some 7 by kernel_rfl).symm.trans hf) |>.symm
      obtain rfl : fn = Tryd.f7 := (Option.some.inj (Tryd.func7.symm.trans hfn)).symm
      exact ⟨by kernel_rfl, fun j t ht => by
        rw [Tryd.params7] at ht
        have hm : t ∈ [3, 3] := by simpa using Array.mem_of_getElem? ht
        have hall : ([3, 3].all fun u => !Tryd.prog.wantsStandIn u) = true := by kernel_rfl
        exact (show Tryd.prog.wantsStandIn t = false by simpa using List.all_eq_true.1 hall t hm)⟩)
    (by kernel_rfl)
end Go.Proofs.YtgkfdlpijefgkaaDoor.catalogLimits
