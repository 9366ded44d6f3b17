import Derived.Test.YtknpncpoojjbfaaDoorShelf
import Derived.Test.YtknpncpoojjbfaaDoorScript
import Derived.Test.YtknpncpoojjbfaaDoorTree
import Derived.Test.YtknpncpoojjbfaaDoorLoad
import Derived.Test.YtknpncpoojjbfaaDoorRound
import Derived.Test.YtknpncpoojjbfaaDoorOwn
import Derived.Test.YtknpncpoojjbfaaDoorOps
import Derived.Test.YtknpncpoojjbfaaDoorRow
import Derived.Test.YtknpncpoojjbfaaDoorStr
import Derived.IntWalk
import Derived.Laws.BitsAllLaws
import Derived.Laws.Externs
import Derived.Lib.Builder
import Derived.Lib.UnsafeStr
/- from XOctM.lean.tpl -/
set_option linter.unusedVariables false
namespace Go.VB.Oct
/-- byte j (of 8, the first the greatest) of n -/
def byteAt (n j : Nat) : UInt8 := UInt8.ofNat (n / 256 ^ (7 - j))
def be8 (n : Nat) : List UInt8 := (List.range 8).map (byteAt n)
/-- the last k bytes of n, the greatest first -/
def be (k n : Nat) : List UInt8 := (be8 n).drop (8 - k)
theorem be8_length (n : Nat) : (be8 n).length = 8 := by simp [be8]
theorem be_length (k n : Nat) (hk : k ≤ 8) : (be k n).length = k := by simp [be, be8_length]; omega
theorem be8_at (n j : Nat) (hj : j < 8) : (be8 n)[j]? = some (byteAt n j) := by simp [be8, hj]
/-- the number that bytes stand for -/
def num (l : List UInt8) : Nat := l.foldl (fun n c => n * 256 + c.toNat) 0
theorem num_snoc (l : List UInt8) (c : UInt8) : num (l ++ [c]) = num l * 256 + c.toNat := by simp [num]
theorem num_lt : ∀ (l : List UInt8), num l < 256 ^ l.length := by
  intro l
  rw [← List.reverse_reverse l]
  induction l.reverse with
  | nil => simp [num]
  | cons c l ih =>
    rw [List.reverse_cons, num_snoc, List.length_append, List.length_singleton, Nat.pow_succ]
    have := c.toNat_lt
    omega
/-- the checksum's two sums -/
def sums (l : List UInt8) : Nat × Nat := l.foldl (fun p c => let a := (p.1 + c.toNat) % 65521; (a, (p.2 + a) % 65521)) (1, 0)
def sum (l : List UInt8) : Nat := (sums l).2 * 65536 + (sums l).1
theorem sums_snoc (l : List UInt8) (c : UInt8) : sums (l ++ [c]) = (((sums l).1 + c.toNat) % 65521, ((sums l).2 + ((sums l).1 + c.toNat) % 65521) % 65521) := by simp [sums]
theorem sums_lt (l : List UInt8) : (sums l).1 < 65521 ∧ (sums l).2 < 65521 := by
  rw [← List.reverse_reverse l]
  cases l.reverse with
  | nil => simp [sums]
  | cons c l => rw [List.reverse_cons, sums_snoc]; exact ⟨Nat.mod_lt _ (by omega), Nat.mod_lt _ (by omega)⟩
theorem sum_lt (l : List UInt8) : sum l < 4294967296 := by have := sums_lt l; unfold sum; omega
/-- a string with its length in two bytes -/
def text (s : List UInt8) : List UInt8 := be 2 s.length ++ s
end Go.VB.Oct

/- from XOctA.lean.tpl -/
namespace Go.Proofs.YtknpncpoojjbfaaDoor
open Go.RowKit Go.VB Go.VB.Oct
theorem ret_bool {a b : Bool} (h : a = b) : Ending.returned (.bool a) = .returned (.bool b) := by rw [h]
theorem ret_int {k : IntKind} {a b : Int} (h : a = b) : Ending.returned (.int k a) = .returned (.int k b) := by rw [h]
theorem ret_bs {a b : List UInt8} (h : a = b) : Ending.returned (.string (bs a)) = .returned (.string (bs b)) := by rw [h]
theorem bv_take_set (l : List UInt8) (j : Nat) (hj : j < l.length) : (bv (l.take j) ++ List.replicate (l.length - j) (Value.int .u8 0)).set j (.int .u8 ((l[j]).toNat : Int)) = bv (l.take (j + 1)) ++ List.replicate (l.length - (j + 1)) (Value.int .u8 0) := by
  rw [List.set_append_right _ _ (by rw [bv_length, List.length_take]; omega), bv_length, List.length_take, Nat.min_eq_left (by omega), Nat.sub_self, show l.length - j = (l.length - (j + 1)) + 1 by omega, List.replicate_succ, List.set_cons_zero, List.take_add_one, List.getElem?_eq_getElem hj, bv_append]
  simp [bv]
theorem sl8_run (b k : Nat) (hk1 : 1 ≤ k) (hk : k ≤ 8) (w : World) : (Instr.sliceAt 78 (.pointer (some ⟨b, 0, none⟩)) (some (.int .i64 (8 - (k : Int)))) none none).run Tryd.prog w = .ok (.slice (some ⟨b, 8 - k, none⟩) k k) w := by
  have ha : Tryd.prog.arrayLen 78 = 8 := by kernel_rfl
  have hs : (sizeOf (Tryd.prog.elem 78)).run Tryd.prog w = .ok 1 w := by kernel_rfl
  rw [run_sliceAt_array_l w 78 ⟨b, 0, none⟩ (by kernel_rfl) .i64 _ (by omega) (by rw [ha]; omega), hs, ha]
  simp only [Result.andThen, slicedAt]
  rw [if_neg (by omega), show ((8 : Int) - k).toNat = 8 - k by omega, show 8 - (8 - k) = k by omega]
  simp [Addr.add]
  intro h
  omega
theorem byteAt_val (n : Nat) {j : Nat} (hj : j < 8) : (n : Int) / 2 ^ (56 - 8 * j) % 256 = ((byteAt n j).toNat : Int) := by
  unfold byteAt
  rw [UInt8.toNat_ofNat', show 56 - 8 * j = 8 * (7 - j) by omega]
  have : ((2 : Int) ^ (8 * (7 - j))) = ((256 ^ (7 - j) : Nat) : Int) := by
    rw [Int.pow_mul, show ((2 : Int) ^ 8) = ((256 : Nat) : Int) from rfl]
    exact (Int.natCast_pow 256 _).symm
  rw [this, show (2 : Nat) ^ 8 = 256 from rfl]
  generalize 256 ^ (7 - j) = p
  rw [Int.natCast_emod, Int.natCast_ediv]
  rfl
end Go.Proofs.YtknpncpoojjbfaaDoor

/- from XOctB.lean.tpl -/
namespace Go.Proofs.YtknpncpoojjbfaaDoor
open Go.RowKit Go.VB Go.VB.Oct
theorem bs_at (l : List UInt8) (i : Nat) (h : i < (bs l).size) : ((bs l)[i]'h) = l[i]'(by rwa [bs_size] at h) := rfl
theorem bs_all (l : List UInt8) : (bs l).extract 0 l.length = bs l := by
  apply ByteArray.ext
  simp [bs]
theorem or_u32 (y x : Nat) (hy : y < 65536) (hx : x < 65536) : bits .or .u32 ((y : Int) * 65536) (x : Int) = ((y * 65536 + x : Nat) : Int) := by
  have h := u32_or_nat (y * 65536) x (by omega) (by omega)
  rw [show ((y * 65536 : Nat) : Int) = (y : Int) * 65536 by omega] at h
  rw [h, Nat.mul_comm y 65536, ← Nat.two_pow_add_eq_or_of_lt (i := 16) (by simpa using hx) y]
end Go.Proofs.YtknpncpoojjbfaaDoor

/- from XOctC.lean.tpl -/
namespace Go.VB.Oct
open Go.RowKit
structure RM where
  s : List UInt8
  at_ : Nat
  failed : Bool
def RM.left (r : RM) : Nat := r.s.length - r.at_
structure RM.Ok (r : RM) : Prop where
  le : r.at_ ≤ r.s.length
  len : r.s.length ≤ 1099511627776
def RM.bad (r : RM) (n : Nat) : Bool := r.failed || decide (r.left < n)
def RM.take (r : RM) (n : Nat) : RM × List UInt8 := if r.bad n then ({ r with failed := true }, []) else ({ r with at_ := r.at_ + n }, (r.s.drop r.at_).take n)
def RM.num (r : RM) (k : Nat) : RM × Nat := ((r.take k).1, Go.VB.Oct.num (r.take k).2)
def RM.text (r : RM) : RM × List UInt8 :=
  let r2 := ((r.num 2).1.take (r.num 2).2).1
  (if r2.failed then { r2 with at_ := r.at_ } else r2, ((r.num 2).1.take (r.num 2).2).2)
def RM.new (s : List UInt8) : RM := { s := s, at_ := 0, failed := false }
theorem RM.Ok.take {r : RM} (ok : r.Ok) (n : Nat) : (r.take n).1.Ok := by
  unfold RM.take
  split
  · exact ⟨ok.le, ok.len⟩
  · rename_i h
    have hl : ¬ (r.s.length - r.at_ < n) := fun hc => h (by show (r.failed || decide (r.s.length - r.at_ < n)) = true; simp [hc])
    have h2 := ok.le
    exact ⟨by show r.at_ + n ≤ r.s.length; omega, ok.len⟩
theorem RM.Ok.num {r : RM} (ok : r.Ok) (k : Nat) : (r.num k).1.Ok := ok.take k
theorem RM.take_s (r : RM) (n : Nat) : (r.take n).1.s = r.s := by unfold RM.take; split <;> rfl
theorem RM.Ok.text {r : RM} (ok : r.Ok) : r.text.1.Ok := by
  unfold RM.text
  dsimp only
  split
  · refine ⟨?_, ((ok.num 2).take _).len⟩
    show r.at_ ≤ ((r.num 2).1.take (r.num 2).2).1.s.length
    rw [RM.take_s]
    show r.at_ ≤ (r.take 2).1.s.length
    rw [RM.take_s]
    exact ok.le
  · exact (ok.num 2).take _
theorem RM.take_len (r : RM) (n : Nat) : (r.take n).2.length ≤ n := by
  unfold RM.take
  split
  · simp
  · exact List.length_take_le _ _
theorem RM.num_lt (r : RM) (k : Nat) : (r.num k).2 < 256 ^ k := by
  refine Nat.lt_of_lt_of_le (Go.VB.Oct.num_lt _) (Nat.pow_le_pow_right (by omega) (r.take_len k))
def rcells (r : RM) : List Value := [.string (bs r.s), .int .i64 r.at_, .bool r.failed]
end Go.VB.Oct
namespace Go.Proofs.YtknpncpoojjbfaaDoor
open Go.RowKit Go.VB Go.VB.Oct
variable {w : World} {p : Nat} {r : RM}
theorem ex_take (s : List UInt8) (a n : Nat) : (bs s).extract a (a + n) = bs ((s.drop a).take n) := by
  apply ByteArray.ext
  simp [bs, List.take_drop]
end Go.Proofs.YtknpncpoojjbfaaDoor

/- from XOctD.lean.tpl -/
namespace Go.Proofs.YtknpncpoojjbfaaDoor
open Go.RowKit Go.VB Go.VB.Oct
theorem i64_or_nat (a b : Nat) (ha : a < 9223372036854775808) (hb : b < 9223372036854775808) : bits .or .i64 (a : Int) (b : Int) = ((a ||| b : Nat) : Int) := by
  have hx : a ||| b < 2 ^ 63 := Nat.or_lt_two_pow (by omega) (by omega)
  show IntKind.i64.wrap ((BitVec.ofInt 64 (a : Int) ||| BitVec.ofInt 64 (b : Int)).toNat : Int) = _
  rw [BitVec.toNat_or, ofInt_u64 a (by omega), ofInt_u64 b (by omega)]
  exact IntWalk.i64_in _ (by omega)
theorem or_i64 (y x : Nat) (hy : y < 281474976710656) (hx : x < 256) : bits .or .i64 ((y : Int) * 256) (x : Int) = ((y * 256 + x : Nat) : Int) := by
  have h := i64_or_nat (y * 256) x (by omega) (by omega)
  rw [show ((y * 256 : Nat) : Int) = (y : Int) * 256 by omega] at h
  rw [h, Nat.mul_comm y 256, ← Nat.two_pow_add_eq_or_of_lt (i := 8) (by simpa using hx) y]
variable {w : World} {p : Nat} {r : RM}
def undo (a : Nat) (r : RM) : RM := if r.failed then { r with at_ := a } else r
end Go.Proofs.YtknpncpoojjbfaaDoor

/- from XBld.lean.tpl -/
namespace Go.Proofs.YtknpncpoojjbfaaDoor
open Go.RowKit Go.VB
/-- a builder in block b that holds l; v is its buffer -/
structure Bld (B : Nat) (w : World) (b : Nat) (l : List UInt8) (v : Value) : Prop where
  blk : Blk w b [.pointer none, v] 62 ∨ Blk w b [.pointer (some ⟨b, 0, none⟩), v] 62
  row : Row 5 1 B w v l.length (bv l)
namespace Bld
variable {B : Nat} {w w' : World} {b : Nat} {l : List UInt8} {v : Value}
theorem ne (h : Bld B w b l v) : ∀ k, v.ownBlock = some k → k ≠ b := by
  rcases h.blk with h1 | h1
  · exact h.row.ne h1 (by decide)
  · exact h.row.ne h1 (by decide)
theorem lt (h : Bld B w b l v) : b < w.heap.size := by
  rcases h.blk with h1 | h1
  · exact Blk.lt h1
  · exact Blk.lt h1
theorem fr {S : Nat → Prop} (h : Bld B w b l v) (f : Fr S w w') (hb : ¬ S b) (hv : ∀ k, v.ownBlock = some k → ¬ S k) : Bld B w' b l v :=
  ⟨h.blk.imp (fun h => h.fr f hb) (fun h => h.fr f hb), h.row.fr f hv⟩
theorem fre (h : Bld B w b l v) (f : Fr (fun _ => False) w w') : Bld B w' b l v := h.fr f (fun h => h) (fun _ _ h => h)
theorem cast {m : List UInt8} (h : Bld B w b l v) (e : l = m) : Bld B w b m v := e ▸ h
theorem new (w : World) (hB : B ≤ w.heap.size) : Bld B (w.alloc (.cells #[.pointer none, .slice none 0 0] 62)) w.heap.size [] (.slice none 0 0) :=
  ⟨.inl (Blk.new w [Value.pointer none, .slice none 0 0] _), Row.nil⟩
end Bld
/-- what a write leaves -/
structure BldW (B : Nat) (w w' : World) (b : Nat) (m : List UInt8) (v v' : Value) : Prop where
  bld : Bld B w' b m v'
  fr : Fr (fun k => k = b ∨ v.ownBlock = some k) w w'
  at_ : ∀ k, v'.ownBlock = some k → v.ownBlock = some k ∨ w.heap.size ≤ k
theorem BldW.frB {B : Nat} {w0 w w' : World} {b : Nat} {l m : List UInt8} {v v' : Value} (h : BldW B w w' b m v v') (r : Bld B w b l v) (f : Fr (fun _ => False) w0 w) (hB : w0.heap.size ≤ B) (hb : B ≤ b) : Fr (fun _ => False) w0 w' :=
  f.trans h.fr fun k hk hl => by
    rcases hk with rfl | hk
    · omega
    · have := r.row.new k hk; omega
variable {B : Nat} {w : World} {b : Nat} {l : List UInt8} {v : Value}
theorem copyCheck_used (h : Blk w b [.pointer (some ⟨b, 0, none⟩), v] 62) : Calls Tryd.prog 59 #[.pointer (some ⟨b, 0, none⟩)] w fun e w' => e = .returned (.tuple #[]) ∧ w' = w := by
  have h0 : w.cell? ⟨b, 0, none⟩ = some (.pointer (some ⟨b, 0, none⟩)) := h.cell 0
  obtain ⟨j, hj, _⟩ := Option.map_eq_some_iff.1 (show (Tryd.prog.info? 62).map (·.size) = some 2 by kernel_rfl)
  have hq := fun w => Lib.run_neq_ptr_same (P := Tryd.prog) w ⟨b, 0, none⟩ Tryd.underlying60 hj
  clear h
  go_enter Tryd.func59, Tryd.ntmps59
  go_wp2_with (fail)
  go_end0
  exact ⟨rfl, rfl⟩
theorem copyCheck_fresh (h : Blk w b [.pointer none, v] 62) : Calls Tryd.prog 59 #[.pointer (some ⟨b, 0, none⟩)] w fun e w' => e = .returned (.tuple #[]) ∧ w' = w.setCell ⟨b, 0, none⟩ (.pointer (some ⟨b, 0, none⟩)) := by
  have h0 : w.cell? ⟨b, 0, none⟩ = some (.pointer none) := h.cell 0
  have hfz := Blk.frozen h 0
  have hsh : w.shape? b = some (62, 2) := by have h' : w.heap[b]? = _ := h; simp [World.shape?, h']
  obtain ⟨j, hj, hjs⟩ := Option.map_eq_some_iff.1 (show (Tryd.prog.info? 62).map (·.size) = some 2 by kernel_rfl)
  have hu := Lib.run_to_unsafe (P := Tryd.prog) w ⟨b, 0, none⟩ Tryd.underlying60 Tryd.underlying81 hj (by rw [hjs]; decide) hsh (Nat.zero_lt_succ 1)
  have hfu := Lib.run_from_unsafe (P := Tryd.prog) w ⟨b, 0, none⟩ Tryd.underlying81 Tryd.underlying60 hj hsh (by kernel_rfl)
  have hex := run_callFunc_extern (P := Tryd.prog) (f := 62) (fn := Tryd.f62) (e := Extern.AbiNoEscape.same) (by kernel_rfl) (by kernel_rfl) (by kernel_rfl) (by kernel_rfl) (by kernel_rfl) #[.pointer (some ⟨b, 0, none⟩)] w
  rw [Lib.run_noEscape] at hex
  simp only [Result.andThen] at hex
  clear h hj hjs hsh
  go_enter Tryd.func59, Tryd.ntmps59
  go_wp2_with (fail)
  go_end0
  exact ⟨rfl, rfl⟩
theorem copyCheck_go (h : Bld B w b l v) : Calls Tryd.prog 59 #[.pointer (some ⟨b, 0, none⟩)] w fun e w' => e = .returned (.tuple #[]) ∧ Blk w' b [.pointer (some ⟨b, 0, none⟩), v] 62 ∧ Fr (fun k => k = b) w w' := by
  rcases h.blk with h1 | h1
  · refine (copyCheck_fresh h1).mono ?_
    rintro e w' ⟨rfl, rfl⟩
    exact ⟨rfl, h1.set 0 _, (Fr.refl _ w).setCell _ _ (fun _ => rfl)⟩
  · refine (copyCheck_used h1).mono ?_
    rintro e w' ⟨rfl, rfl⟩
    exact ⟨rfl, h1, Fr.refl _ _⟩
theorem info_u8 : (Tryd.prog.info? 5).map (fun i => (i.zero, i.size, i.bytes)) = some (some (.int .u8 0), 1, 1) := by kernel_rfl
theorem bld_ends {w1 wg : World} {m : List UInt8} {v' : Value} (hl : Bld B w b l v) (h1 : Blk w1 b [.pointer (some ⟨b, 0, none⟩), v] 62) (f1 : Fr (fun k => k = b) w w1) (fg : Fr (fun k => v.ownBlock = some k) w1 wg) (row : Row 5 1 B wg v' m.length (bv m)) (hat : ∀ k, v'.ownBlock = some k → v.ownBlock = some k ∨ w1.heap.size ≤ k) :
    BldW B w (wg.setCell ⟨b, 1, none⟩ v') b m v v' := by
  have hne := hl.ne
  have hlt := hl.lt
  have h2 : Blk wg b [.pointer (some ⟨b, 0, none⟩), v] 62 := Blk.fr h1 fg (fun h => hne _ h rfl)
  have hne' := row.ne h2 (by decide)
  have fs := (Fr.refl (fun k => k = b) wg).setCell ⟨b, 1, none⟩ v' (fun _ => rfl)
  refine ⟨⟨.inr (h2.set 1 v'), row.fr fs hne'⟩, ?_, fun k hk => ?_⟩
  · refine ((f1.mono (T := fun k => k = b ∨ v.ownBlock = some k) (fun _ h _ => .inl h)).trans fg (fun _ h _ => .inr h)).trans fs (fun _ h _ => .inl h)
  · rcases hat k hk with h | h
    · exact .inl h
    · exact .inr (Nat.le_trans f1.size h)
set_option maxRecDepth 20000 in
theorem WriteByte_go (h : Bld B w b l v) (hB : B ≤ w.heap.size) (hl : l.length + 1 ≤ 1099511627776) (c : UInt8) : Calls Tryd.prog 46 #[.pointer (some ⟨b, 0, none⟩), .int .u8 (c.toNat : Int)] w fun e w' => e = .returned .nilIface ∧ ∃ v', BldW B w w' b (l ++ [c]) v v' := by
  have HC := hid (copyCheck_go h)
  have HH := hid h
  clear h
  go_enter Tryd.func46, Tryd.ntmps46
  go_wp2_with (first | (go_at_call 59; refine HC.out.mono ?_; rintro e w1 ⟨rfl, h1, f1⟩; have c1 := h1.cell 1; have H1 := hid h1; have F1 := hid f1; have hrow := hid (HH.out.row.fr F1.out HH.out.ne); have hB1 := Nat.le_trans hB F1.out.size; clear h1 f1 HC) | (refine wpList_app1 rfl (s := .tmp 11) (x := .tmp 13) (t := 42) rfl Tryd.underlying42 info_u8 rfl rfl rfl hrow.out hB1 rfl (by simp [Value.oneCell']) (by omega) (by omega) ?_; intro ab ac wg APP; have g1 := Blk.fr H1.out APP.fr (fun h => HH.out.ne _ h rfl); have c2 := Blk.cell g1 1; have z2 := Blk.frozen g1 1; clear g1))
  go_ret
  replace APP : App 5 1 B w1 wg v (.slice ab (l.length + 1) ac) l.length (bv l) [.int .u8 (c.toNat : Int)] := APP
  refine ⟨rfl, _, bld_ends HH.out H1.out F1.out APP.fr (APP.row.cast (by simp) (by rw [bv_append]; rfl)) (fun k hk => (APP.at_ k hk).imp (fun h => h) (fun h => by omega))⟩
set_option maxRecDepth 20000 in
theorem WriteString_go (h : Bld B w b l v) (hB : B ≤ w.heap.size) (s : List UInt8) (hl : l.length + s.length ≤ 1099511627776) : Calls Tryd.prog 47 #[.pointer (some ⟨b, 0, none⟩), .string (bs s)] w fun e w' => e = .returned (.tuple #[.int .i64 s.length, .nilIface]) ∧ ∃ v', BldW B w w' b (l ++ s) v v' := by
  have HC := hid (copyCheck_go h)
  have HH := hid h
  have e1 := bs_size s
  clear h
  go_enter Tryd.func47, Tryd.ntmps47
  go_wp2_with (first | (go_at_call 59; refine HC.out.mono ?_; rintro e w1 ⟨rfl, h1, f1⟩; have c1 := h1.cell 1; have H1 := hid h1; have F1 := hid f1; have hrow := hid (HH.out.row.fr F1.out HH.out.ne); have hB1 := Nat.le_trans hB F1.out.size; clear h1 f1 HC) | (refine wpList_appS rfl (s := .tmp 12) (x := .tmp 13) (t := 42) (tx := 9) rfl Tryd.underlying42 Tryd.underlying9 (.inl rfl) info_u8 rfl rfl rfl hrow.out hB1 (Src.string s) (by omega) (by omega) ?_; intro ab ac wg APP; have g1 := Blk.fr H1.out APP.fr (fun h => HH.out.ne _ h rfl); have c2 := Blk.cell g1 1; have z2 := Blk.frozen g1 1; clear g1))
  go_ret2
  replace APP : AppS 5 1 B w1 wg v (.slice ab (l.length + s.length) ac) l.length s.length (bv l) (bv s) := APP
  refine ⟨rfl, _, bld_ends HH.out H1.out F1.out APP.fr (APP.row.cast (by simp) (by rw [bv_append])) (fun k hk => (APP.at_ k hk).imp (fun h => h) (fun h => by omega))⟩
end Go.Proofs.YtknpncpoojjbfaaDoor

/- from XJoin.lean.tpl -/
namespace Go.Proofs.YtknpncpoojjbfaaDoor
open Go.RowKit Go.VB
theorem fr_below {w0 w w' : World} (f : Fr (fun _ => False) w0 w) (h : Below w0.heap.size w w') : Fr (fun _ => False) w0 w' :=
  f.trans (S := fun _ => False) (T := fun k => w0.heap.size ≤ k) ⟨h.os, h.tape, h.output, h.size, fun k _ hn => h.block k (by omega)⟩ (fun k hk hl => by omega)
theorem String_go {B : Nat} {w : World} {b : Nat} {l : List UInt8} {v : Value} (h : Bld B w b l v) (hB : B ≤ w.heap.size) (hb : B ≤ b) : Calls Tryd.prog 49 #[.pointer (some ⟨b, 0, none⟩)] w fun e w' => e = .returned (.string (bs l)) ∧ Below B w w' := by
  have own : w.ownsRow B 5 1 v (Lib.byteCells l).length (Lib.byteCells l) := by
    have h1 := h.row.own
    rw [Lib.byteCells_length]
    refine ⟨h1.1, ?_⟩
    rcases h1.2 with h2 | ⟨g, cap, cur, h2, h3, h4⟩
    · exact .inl h2
    · exact .inr ⟨g, cap, cur, h2, h.row.new g (by rw [h2]; rfl), h4⟩
  have hne : v.ownBlock ≠ some b := fun e => h.ne b e rfl
  refine Tryd.Builder_String_any B b l w ?_ hB
  rcases h.blk with h1 | h1
  · exact .inl ⟨hb, v, h1, own, hne⟩
  · exact .inr ⟨hb, v, h1, own, hne⟩
theorem bs_list (xs : List (List UInt8)) : (xs.map bs).map (fun x => x.data.toList) = xs := by
  rw [List.map_map]
  exact (List.map_congr_left (fun x _ => rfl)).trans (List.map_id _)
end Go.Proofs.YtknpncpoojjbfaaDoor

/- from XRecM.lean.tpl -/
namespace Go.VB.Rec
open Go.VB.Oct
structure V where
  k : Int
  n : Int
  s : List UInt8
deriving DecidableEq
structure E where
  page : Int
  slot : Int
  item : List UInt8
deriving DecidableEq
structure R where
  kind : Int
  xid : Int
  table : Int
  old : List V
  new : List V
  edits : List E
  xids : List Int
  note : List UInt8
deriving DecidableEq
def V.cells (v : V) : List Value := [.int .i64 v.k, .int .i64 v.n, .string (bs v.s)]
def E.cells (e : E) : List Value := [.int .i64 e.page, .int .i64 e.slot, .string (bs e.item)]
def icell (x : Int) : List Value := [.int .i64 x]
def V.right (v : V) : Bool := decide (0 ≤ v.k) && decide (v.k ≤ 2) && (decide (v.k ≠ 2) || decide (v.s.length ≤ 40))
def row (r : List V) : Bool := decide (r.length ≤ 6) && r.all V.right
def E.right (e : E) : Bool :=
  decide (0 ≤ e.page) && decide (e.page ≤ 399) && (if e.slot = -1 then e.item = [0] || e.item = [1] || e.item = [2] else decide (0 ≤ e.slot) && decide (e.slot ≤ 23) && decide (e.item.length ≤ 400))
def R.right (r : R) : Bool :=
  decide (1 ≤ r.kind) && decide (r.kind ≤ 10) && decide (0 ≤ r.xid) && decide (r.xid ≤ 127) && decide (0 ≤ r.table) && decide (r.table ≤ 65535) &&
  (decide (r.edits.length ≤ 64) && r.edits.all E.right) && (decide (r.xids.length ≤ 32) && r.xids.all fun x => decide (3 ≤ x) && decide (x ≤ 127)) && row r.old && row r.new && decide (r.note.length ≤ 60000)
/-- an int as a 64-bit word -/
def word (n : Int) : Nat := (n % 18446744073709551616).toNat
def V.bytes (v : V) : List UInt8 := UInt8.ofNat v.k.toNat :: (if v.k = 1 then be8 (word v.n) else if v.k = 2 then UInt8.ofNat v.s.length :: v.s else [])
def rowBytes (r : List V) : List UInt8 := if row r then UInt8.ofNat r.length :: r.flatMap V.bytes else []
def E.bytes (e : E) : List UInt8 := be 2 e.page.toNat ++ be 1 (e.slot + 1).toNat ++ text e.item
def R.raw (r : R) : List UInt8 :=
  be 1 r.kind.toNat ++ be 1 r.xid.toNat ++ be 2 r.table.toNat ++ text (rowBytes r.old) ++ text (rowBytes r.new) ++ be 1 r.edits.length ++ r.edits.flatMap E.bytes ++ be 1 r.xids.length ++ (r.xids.flatMap fun x => be 1 x.toNat) ++ text r.note
def R.bytes (r : R) : List UInt8 := if r.right then r.raw else []
def frame (r : R) : List UInt8 := if r.right then be 4 r.raw.length ++ be 4 (sum r.raw) ++ r.raw else []
end Go.VB.Rec

/- from XValA.lean.tpl -/
namespace Go.Proofs.YtknpncpoojjbfaaDoor
open Go.RowKit Go.VB Go.VB.Oct Go.VB.Rec
def vagg (v : V) : Value := .agg v.cells.toArray
theorem known_go (k : Int) (w : World) : Calls Tryd.prog 36 #[.int .i64 k] w fun e w' => e = .returned (.bool (decide (0 ≤ k) && decide (k ≤ 2))) ∧ w = w' := by
  go_enter Tryd.func36, Tryd.ntmps36
  go_wp2
  all_goals (go_ret; exact ⟨ret_bool (by simp_all <;> omega), rfl⟩)
theorem VRight_go (v : V) (w : World) : Calls Tryd.prog 15 #[vagg v] w fun e w' => e = .returned (.bool v.right) ∧ Fr (fun _ => False) w w' := by
  obtain ⟨k, n, s⟩ := v
  have e1 := bs_size s
  have HK := hid (fun k w => known_go k w)
  unfold vagg V.cells V.right
  dsimp only
  go_enter Tryd.func15, Tryd.ntmps15
  go_wp2_with (go_at_call 36; refine (HK.out _ _).mono ?_; rintro e w' ⟨rfl, rfl⟩)
  all_goals (go_ret; exact ⟨ret_bool (by simp_all <;> omega), (Fr.refl _ w).alloc _⟩)
theorem vcells_len (v : V) : v.cells.length = 3 := rfl
theorem flat3 {α : Type} (f : α → List Value) (hf : ∀ x, (f x).length = 3) : ∀ (L : List α) (j : Nat) (h : j < L.length) (i : Nat), i < 3 → (L.flatMap f)[j * 3 + i]? = (f L[j])[i]?
  | x :: L, 0, _, i, hi => by simp [List.getElem?_append, hf, hi]
  | x :: L, j + 1, h, i, hi => by
    rw [List.flatMap_cons, List.getElem?_append_right (by rw [hf]; omega), hf, show (j + 1) * 3 + i - 3 = j * 3 + i by omega, flat3 f hf L j (by simpa using h) i hi]
    rfl
theorem sl_cell3 {α : Type} {R : Nat → Prop} {w : World} {a : Option Addr} {c : Nat} {f : α → List Value} (hf : ∀ x, (f x).length = 3) {L : List α} (h : Sl R w (.slice a L.length c) L.length (L.flatMap f)) (hL : L ≠ []) :
    ∃ g o, a = some ⟨g, o, none⟩ ∧ R g ∧ ∀ j (hj : j < L.length) i, i < 3 → w.cell? ⟨g, o + (j * 3 + i), none⟩ = (f L[j])[i]? := by
  obtain ⟨a', cap, he, hc, hx⟩ := h
  cases he
  obtain ⟨g, o, rfl, hR, hr⟩ := hx (by
    cases L with
    | nil => exact absurd rfl hL
    | cons x L => intro hh; have := congrArg List.length hh; simp [hf] at this)
  refine ⟨g, o, rfl, hR, fun j hj i hi => ?_⟩
  have hfl := flat3 f hf L j hj i hi
  cases hh : (f L[j])[i]? with
  | none => rw [List.getElem?_eq_none_iff, hf] at hh; omega
  | some u => rw [hh] at hfl; exact hr _ u hfl
set_option maxRecDepth 20000 in
theorem right_go {R : Nat → Prop} {w : World} {va : Value} {r : List V} (h : Sl R w va r.length (r.flatMap V.cells)) (hR : ∀ k, R k → k < w.heap.size) (hn : r.length ≤ 1099511627776) : Calls Tryd.prog 45 #[va] w fun e w' => e = .returned (.bool (row r)) ∧ Fr (fun _ => False) w w' := by
  obtain ⟨a, c, rfl, hc, hx⟩ := h
  have HX := hid (show Sl R w (.slice a r.length c) r.length (r.flatMap V.cells) from ⟨a, c, rfl, hc, hx⟩)
  clear hx
  have HV := hid (fun v w => VRight_go v w)
  have F0 := hid (Fr.refl (fun _ => False) w)
  go_enter Tryd.func45, Tryd.ntmps45
  go_wp2_with (fail)
  go_loopw [7] (fun i wr => ∃ j : Nat, j ≤ r.length ∧ i = .int .i64 j ∧ (r.take j).all V.right = true ∧ Fr (fun _ => False) w wr) (fun i _ => r.length - (intOf i).toNat)
  case atStart => exact ⟨0, by omega, rfl, rfl, F0.out⟩
  case round =>
    obtain ⟨j, hj, rfl, hall, fr⟩ := hrel
    by_cases hjl : j < r.length
    · obtain ⟨g, o, rfl, hg, hcell⟩ := sl_cell3 (f := V.cells) vcells_len (HX.out.fr fr (fun _ _ h => h)) (fun h => by subst h; cases hjl)
      have q0 : wr.cell? ⟨g, o + j * 3, none⟩ = some (.int .i64 r[j].k) := hcell j hjl 0 (by omega)
      have q1 : wr.cell? ⟨g, o + j * 3 + 1, none⟩ = some (.int .i64 r[j].n) := hcell j hjl 1 (by omega)
      have q2 : wr.cell? ⟨g, o + j * 3 + 2, none⟩ = some (.string (bs r[j].s)) := hcell j hjl 2 (by omega)
      have FR := hid fr
      have i1 : (0 : Int) ≤ (j : Int) := by omega
      have i2 : (j : Int) < r.length := by omega
      clear hcell fr
      go_wp2_with (fail)
      refine (HV.out r[j] _).mono ?_
      rintro e w1 ⟨rfl, f1⟩
      have F1 := hid ((FR.out.alloc (.cells #[.int .i64 r[j].k, .int .i64 r[j].n, .string (bs r[j].s)] 28)).trans f1 (fun _ h _ => h))
      have HT := hid (show r.take (j + 1) = r.take j ++ [r[j]] by rw [List.take_add_one, List.getElem?_eq_getElem hjl]; rfl)
      clear f1 q0 q1 q2
      cases hr : r[j].right with
      | true =>
        go_wp2_with (fail)
        go_roundw
        case rel => exact ⟨j + 1, by omega, by go_num, by rw [HT.out, List.all_append, hall]; simp [hr], F1.out⟩
        case measure => simp [intOf]; omega
      | false =>
        go_wp2_with (fail)
        go_ret
        refine ⟨ret_bool ?_, F1.out⟩
        have : r.all V.right = false := by
          rw [List.all_eq_false]
          exact ⟨r[j], List.getElem_mem hjl, by simp [hr]⟩
        unfold row
        rw [this, Bool.and_false]
    · obtain rfl : j = r.length := by omega
      rw [List.take_length] at hall
      clear HX hc
      go_wp2_with (fail)
      go_ret
      refine ⟨ret_bool ?_, fr⟩
      unfold row
      rw [hall, Bool.and_true]
      exact decide_eq_decide.2 (by omega)
theorem rep_set (n : Nat) (v z : Value) : (List.replicate (n + 1) z).set n v = List.replicate n z ++ [v] := by
  induction n with
  | zero => rfl
  | succ n ih => rw [List.replicate_succ, List.set_cons_succ, ih, List.replicate_succ]; rfl
theorem bv_back_set (l : List UInt8) (j : Nat) (hj : j < l.length) : (List.replicate (j + 1) (Value.int .u8 0) ++ bv (l.drop (j + 1))).set j (.int .u8 ((l[j]).toNat : Int)) = List.replicate j (Value.int .u8 0) ++ bv (l.drop j) := by
  rw [List.set_append_left _ _ (by simp), rep_set, List.append_assoc, List.drop_eq_getElem_cons hj]
  rfl
set_option maxRecDepth 20000 in
set_option maxHeartbeats 2000000 in
theorem whole_go (x : Nat) (hx : x < 18446744073709551616) (w : World) : Calls Tryd.prog 48 #[.int .u64 x] w fun e w' => e = .returned (.string (bs (be8 x))) ∧ Fr (fun _ => False) w w' := by
  have n1 : (0 : Int) ≤ x := by omega
  have n2 : (x : Int) < 18446744073709551616 := by omega
  have HL8 := hid (be8_length x)
  have HB0 := hid (Blk.new w (List.replicate 8 (Value.int .u8 0)) 78)
  have HF0 := hid ((Fr.refl (fun _ => False) w).alloc (.cells (List.replicate 8 (Value.int .u8 0)).toArray 78))
  go_enter Tryd.func48, Tryd.ntmps48
  go_wp2_with (fail)
  generalize hb : w.heap.size = b at *
  have HBB := hid hb
  clear hb
  go_loopw [5] (fun i wr => ∃ j : Nat, j ≤ 8 ∧ i = .int .i64 j ∧ Blk wr b (List.replicate (8 - j) (.int .u8 0) ++ bv ((be8 x).drop (8 - j))) 78 ∧ Fr (fun _ => False) w wr) (fun i _ => 8 - (intOf i).toNat)
  case atStart => exact ⟨0, by omega, rfl, by rw [List.drop_of_length_le (by rw [HL8.out]; exact Nat.le_refl _)]; exact HB0.out, HF0.out⟩
  case round =>
    obtain ⟨j, hj, rfl, hB, fr⟩ := hrel
    by_cases hj8 : j < 8
    · have hj' : 7 - j < (be8 x).length := by rw [HL8.out]; omega
      have i1 : (0 : Int) ≤ (j : Int) := by omega
      have i2 : (j : Int) < 8 := by omega
      have z := hB.frozen (7 - j)
      rw [show 8 - j = (7 - j) + 1 by omega] at hB
      have c0 : wr.cell? ⟨b, 7 - j, none⟩ = some (.int .u8 0) := by
        rw [hB.cell, List.getElem?_append_left (by simp)]
        simp
      have hB2 := hB.set (7 - j) (.int .u8 (((be8 x)[7 - j]).toNat : Int))
      rw [bv_back_set _ _ hj'] at hB2
      have hval : (be8 x)[7 - j] = byteAt x (7 - j) := by
        have := be8_at x (7 - j) (by omega)
        rw [List.getElem?_eq_getElem hj'] at this
        exact Option.some.inj this
      rw [hval, ← byteAt_val x (show 7 - j < 8 by omega), show 56 - 8 * (7 - j) = 8 * j by omega] at hB2
      have HB2 := hid hB2
      have HF2 := hid (fr.setCell ⟨b, 7 - j, none⟩ (.int .u8 ((x : Int) / 2 ^ (8 * j) % 256)) (fun h => absurd (show b < w.heap.size from h) (by have := HBB.out; omega)))
      have t7 : ((7 : Int) - j).toNat = 7 - j := by omega
      clear hB hB2 fr hval hj'
      go_wp2_with (fail)
      go_roundw
      case rel => exact ⟨j + 1, by omega, by go_num, by rw [show 8 - (j + 1) = 7 - j by omega]; exact HB2.out, HF2.out⟩
      case measure => simp [intOf]; omega
    · obtain rfl : j = 8 := by omega
      have hB' : Blk wr b (bv (be8 x)) 78 := hB
      have hr : wr.rangeAt b 0 (bv (be8 x)) := hB'.range [] (bv (be8 x)) [] (by simp)
      have HR := hid hr
      have FR := hid fr
      have hcv := run_bytes_string (P := Tryd.prog) (w := wr) (l := be8 x) HR.out (src := 42) (dst := 9) Tryd.underlying42 Tryd.underlying5 Tryd.underlying9 8 8 (be8_length x).symm
      clear hB hB' hr fr
      go_wp2_with (fail)
      go_ret
      exact ⟨rfl, FR.out⟩
theorem WriteByteN_go {B : Nat} {w : World} {b : Nat} {l : List UInt8} {v : Value} (h : Bld B w b l v) (hB : B ≤ w.heap.size) (hl : l.length + 1 ≤ 1099511627776) (n : Nat) (hn : n < 256) : Calls Tryd.prog 46 #[.pointer (some ⟨b, 0, none⟩), .int .u8 (n : Int)] w fun e w' => e = .returned .nilIface ∧ ∃ v', BldW B w w' b (l ++ [UInt8.ofNat n]) v v' := by
  have := WriteByte_go h hB hl (UInt8.ofNat n)
  rwa [UInt8.toNat_ofNat', Nat.mod_eq_of_lt (show n < 2 ^ 8 from hn)] at this
theorem vbytes_le (v : V) (h : v.right = true) : v.bytes.length ≤ 42 := by
  unfold V.right at h
  unfold V.bytes
  split
  · simp [be8_length]
  · split
    · simp_all
    · simp
theorem vsum_le (r : List V) (h : ∀ v ∈ r, v.right = true) (hn : r.length ≤ 6) : (r.flatMap V.bytes).length ≤ 252 := by
  have : ∀ l : List V, (∀ v ∈ l, v.right = true) → (l.flatMap V.bytes).length ≤ 42 * l.length := by
    intro l
    induction l with
    | nil => simp
    | cons x l ih =>
      intro h
      rw [List.flatMap_cons, List.length_append, List.length_cons]
      have h1 := vbytes_le x (h x (by simp))
      have h2 := ih (fun v hv => h v (by simp [hv]))
      omega
  have := this r h
  omega
theorem take_flat {α : Type} (r : List α) (f : α → List UInt8) (j : Nat) (hj : j < r.length) : (r.take (j + 1)).flatMap f = (r.take j).flatMap f ++ f r[j] := by
  rw [List.take_add_one, List.getElem?_eq_getElem hj, List.flatMap_append]
  simp
theorem word_wrap (n : Int) : IntKind.u64.wrap n = ((word n : Nat) : Int) := by
  rw [IntKind.wrap_u64]
  unfold word
  omega
theorem word_lt (n : Int) : word n < 18446744073709551616 := by unfold word; omega
set_option maxRecDepth 20000 in
set_option maxHeartbeats 4000000 in
theorem VBytes_go {R : Nat → Prop} {w : World} {va : Value} {r : List V} (h : Sl R w va r.length (r.flatMap V.cells)) (hR : ∀ k, R k → k < w.heap.size) (hn : r.length ≤ 1099511627776) : Calls Tryd.prog 22 #[va] w fun e w' => e = .returned (.string (bs (rowBytes r))) ∧ Fr (fun _ => False) w w' := by
  have HR := hid (right_go h hR hn)
  obtain ⟨a, c, rfl, hc, hx⟩ := h
  have HX := hid (show Sl R w (.slice a r.length c) r.length (r.flatMap V.cells) from ⟨a, c, rfl, hc, hx⟩)
  clear hx
  cases hr : row r with
  | false =>
    rw [hr] at HR
    have hb : rowBytes r = [] := by unfold rowBytes; rw [hr]; rfl
    rw [hb]
    go_enter Tryd.func22, Tryd.ntmps22
    go_wp2_with (go_at_call 45; refine HR.out.mono ?_; rintro e w1 ⟨rfl, f1⟩; clear HR)
    go_ret
    exact ⟨rfl, f1⟩
  | true =>
    have hb : rowBytes r = UInt8.ofNat r.length :: r.flatMap V.bytes := by unfold rowBytes; rw [hr]; rfl
    rw [hr] at HR
    rw [hb]
    have hlen : r.length ≤ 6 := by unfold row at hr; simp at hr; exact hr.1
    have hall := hid (show ∀ v ∈ r, v.right = true by unfold row at hr; simp at hr; exact hr.2)
    clear hb hr
    go_enter Tryd.func22, Tryd.ntmps22
    go_wp2_with (go_at_call 45; refine HR.out.mono ?_; rintro e w1 ⟨rfl, f1⟩; clear HR)
    have F1 := hid f1
    have hlt : r.length < 256 := by omega
    have HB0 := hid (Bld.new w1 (Nat.le_refl _))
    have HW0 := hid (WriteByteN_go HB0.out (by simp) (by simp) r.length hlt)
    clear f1
    go_wp2_with (go_at_call 46; refine HW0.out.mono ?_; rintro e w2 ⟨rfl, v2, hw2⟩)
    have HF2 := hid (hw2.frB HB0.out (F1.out.alloc _) F1.out.size (Nat.le_refl _))
    have HB2 := hid hw2.bld
    have HS2 := hid (Nat.le_trans (by simp) hw2.fr.size : w1.heap.size + 1 ≤ w2.heap.size)
    clear hw2 HW0 HB0
    generalize hb : w1.heap.size = b at *
    have HBB := hid hb
    clear hb
    go_loopw [15] (fun i wr => ∃ (j : Nat) (v' : Value), j ≤ r.length ∧ i = .int .i64 j ∧ Bld b wr b (UInt8.ofNat r.length :: (r.take j).flatMap V.bytes) v' ∧ Fr (fun _ => False) w wr ∧ b < wr.heap.size) (fun i _ => r.length - (intOf i).toNat)
    case atStart => exact ⟨0, v2, by omega, rfl, HB2.out, HF2.out, by have := HS2.out; omega⟩
    case round =>
      obtain ⟨j, v3, hj, rfl, hbl, fr, hbs⟩ := hrel
      by_cases hjl : j < r.length
      · obtain ⟨g, o, rfl, hg, hcell⟩ := sl_cell3 (f := V.cells) vcells_len (HX.out.fr fr (fun _ _ h => h)) (fun h => by subst h; cases hjl)
        have q0 : wr.cell? ⟨g, o + j * 3, none⟩ = some (.int .i64 r[j].k) := hcell j hjl 0 (by omega)
        have q1 : wr.cell? ⟨g, o + j * 3 + 1, none⟩ = some (.int .i64 r[j].n) := hcell j hjl 1 (by omega)
        have q2 : wr.cell? ⟨g, o + j * 3 + 2, none⟩ = some (.string (bs r[j].s)) := hcell j hjl 2 (by omega)
        have FR := hid fr
        have i1 : (0 : Int) ≤ (j : Int) := by omega
        have i2 : (j : Int) < r.length := by omega
        have HT := hid (take_flat r V.bytes j hjl)
        have hright := hall.out r[j] (List.getElem_mem hjl)
        have HLE := hid (vbytes_le r[j] hright)
        have HSUM := hid (show ((r.take j).flatMap V.bytes).length ≤ 252 from vsum_le _ (fun v hv => hall.out v (List.mem_of_mem_take hv)) (by rw [List.length_take]; omega))
        have HBL := hid hbl
        clear hcell fr hbl
        generalize r[j] = x at *
        obtain ⟨k, n, s⟩ := x
        have hk : k = 0 ∨ k = 1 ∨ k = 2 := by unfold V.right at hright; simp at hright; omega
        have HB4 := hid ((HBL.out.fre ((Fr.refl (fun _ => False) wr).alloc (.cells #[.int .i64 k, .int .i64 n, .string (bs s)] 28))))
        have HD4 := hid (show Blk (wr.alloc (.cells #[.int .i64 k, .int .i64 n, .string (bs s)] 28)) wr.heap.size [.int .i64 k, .int .i64 n, .string (bs s)] 28 from Blk.new wr [.int .i64 k, .int .i64 n, .string (bs s)] 28)
        have HF4 := hid (FR.out.alloc (.cells #[.int .i64 k, .int .i64 n, .string (bs s)] 28))
        have hb4 : b ≤ (wr.alloc (.cells #[.int .i64 k, .int .i64 n, .string (bs s)] 28)).heap.size := by rw [World.size_alloc]; omega
        have hl4 : (UInt8.ofNat r.length :: (r.take j).flatMap V.bytes).length + 1 ≤ 1099511627776 := by have := HSUM.out; rw [List.length_cons]; omega
        rcases hk with rfl | rfl | rfl
        · have HWK := hid (WriteByteN_go HB4.out hb4 hl4 0 (by omega))
          go_wp2_with (go_at_call 46; refine HWK.out.mono ?_; rintro e w5 ⟨rfl, v5, hw5⟩; have D5 := hid (Blk.fr HD4.out hw5.fr (fun h => h.elim (fun h => by omega) (fun h => HB4.out.row.ne HD4.out (by decide) _ h rfl))); have k50 := Blk.cell D5.out 0; have k51 := Blk.cell D5.out 1; have k52 := Blk.cell D5.out 2; have HW5 := hid hw5; clear hw5)
          go_roundw
          case rel => exact ⟨j + 1, v5, by omega, by go_num, HW5.out.bld.cast (by rw [HT.out]; simp [V.bytes]), HW5.out.frB HB4.out HF4.out (Nat.le_trans F1.out.size (Nat.le_of_eq HBB.out)) (Nat.le_refl _), by have := HW5.out.fr.size; rw [World.size_alloc] at this; omega⟩
          case measure => simp [intOf]; omega
        · have HWK := hid (WriteByteN_go HB4.out hb4 hl4 1 (by omega))
          have HWH := hid (fun w => whole_go (word n) (word_lt n) w)
          have hwr := word_wrap n
          go_wp2_with (first
            | (go_at_call 46; refine HWK.out.mono ?_; rintro e w5 ⟨rfl, v5, hw5⟩; have D5 := hid (Blk.fr HD4.out hw5.fr (fun h => h.elim (fun h => by omega) (fun h => HB4.out.row.ne HD4.out (by decide) _ h rfl))); have k50 := Blk.cell D5.out 0; have k51 := Blk.cell D5.out 1; have k52 := Blk.cell D5.out 2; have HW5 := hid hw5; clear hw5)
            | (go_at_call 48; refine (HWH.out _).mono ?_; rintro e w6 ⟨rfl, f6⟩; have F6 := hid f6; clear f6)
            | (go_at_call 47; refine (WriteString_go (HW5.out.bld.fre F6.out) (Nat.le_trans hb4 (Nat.le_trans HW5.out.fr.size F6.out.size)) (be8 (word n)) (by have := HSUM.out; simp only [List.length_append, List.length_cons, List.length_nil, be8_length]; omega)).mono ?_; rintro e w7 ⟨rfl, v7, hw7⟩; have HW7 := hid hw7; clear hw7))
          go_roundw
          case rel => exact ⟨j + 1, v7, by omega, by go_num, HW7.out.bld.cast (by rw [HT.out]; simp [V.bytes]), HW7.out.frB (HW5.out.bld.fre F6.out) ((HW5.out.frB HB4.out HF4.out (Nat.le_trans F1.out.size (Nat.le_of_eq HBB.out)) (Nat.le_refl _)).trans F6.out (fun _ h _ => h)) (Nat.le_trans F1.out.size (Nat.le_of_eq HBB.out)) (Nat.le_refl _), by have := HW5.out.fr.size; have := F6.out.size; have := HW7.out.fr.size; rw [World.size_alloc] at *; omega⟩
          case measure => simp [intOf]; omega
        · have HWK := hid (WriteByteN_go HB4.out hb4 hl4 2 (by omega))
          have hs40 : s.length ≤ 40 := by unfold V.right at hright; simp at hright; exact hright
          have e1 := bs_size s
          go_wp2_with (first
            | (go_at_call 47; refine (WriteString_go HW6.out.bld (Nat.le_trans hb4 (Nat.le_trans HW5.out.fr.size HW6.out.fr.size)) s (by have := HSUM.out; simp only [List.length_append, List.length_cons, List.length_nil]; omega)).mono ?_; rintro e w7 ⟨rfl, v7, hw7⟩; have HW7 := hid hw7; clear hw7)
            | (go_at_call 46; refine (WriteByteN_go HW5.out.bld (Nat.le_trans hb4 HW5.out.fr.size) (by have := HSUM.out; simp only [List.length_append, List.length_cons, List.length_nil]; omega) s.length (by omega)).mono ?_; rintro e w6 ⟨rfl, v6, hw6⟩; have D6 := hid (Blk.fr D5.out hw6.fr (fun h => h.elim (fun h => by omega) (fun h => HW5.out.bld.row.ne D5.out (by decide) _ h rfl))); have k60 := Blk.cell D6.out 0; have k61 := Blk.cell D6.out 1; have k62 := Blk.cell D6.out 2; have HW6 := hid hw6; clear hw6)
            | (go_at_call 46; refine HWK.out.mono ?_; rintro e w5 ⟨rfl, v5, hw5⟩; have D5 := hid (Blk.fr HD4.out hw5.fr (fun h => h.elim (fun h => by omega) (fun h => HB4.out.row.ne HD4.out (by decide) _ h rfl))); have k50 := Blk.cell D5.out 0; have k51 := Blk.cell D5.out 1; have k52 := Blk.cell D5.out 2; have HW5 := hid hw5; clear hw5))
          go_roundw
          case rel => exact ⟨j + 1, v7, by omega, by go_num, HW7.out.bld.cast (by rw [HT.out]; simp [V.bytes]), HW7.out.frB HW6.out.bld (HW6.out.frB HW5.out.bld (HW5.out.frB HB4.out HF4.out (Nat.le_trans F1.out.size (Nat.le_of_eq HBB.out)) (Nat.le_refl _)) (Nat.le_trans F1.out.size (Nat.le_of_eq HBB.out)) (Nat.le_refl _)) (Nat.le_trans F1.out.size (Nat.le_of_eq HBB.out)) (Nat.le_refl _), by have := HW5.out.fr.size; have := HW6.out.fr.size; have := HW7.out.fr.size; rw [World.size_alloc] at *; omega⟩
          case measure => simp [intOf]; omega
      · obtain rfl : j = r.length := by omega
        rw [List.take_length] at hbl
        have HST := hid (String_go hbl (Nat.le_of_lt hbs) (Nat.le_refl _))
        have FR := hid fr
        clear hbl fr HX hc
        go_wp2_with (go_at_call 49; refine HST.out.mono ?_; rintro e w9 ⟨rfl, f9⟩)
        go_ret
        have hsz : w.heap.size ≤ b := Nat.le_trans F1.out.size (Nat.le_of_eq HBB.out)
        exact ⟨rfl, FR.out.trans (S := fun _ => False) (T := fun k => b ≤ k) ⟨f9.os, f9.tape, f9.output, f9.size, fun k _ hn => f9.block k (by omega)⟩ (fun k hk hl => by omega)⟩
end Go.Proofs.YtknpncpoojjbfaaDoor

