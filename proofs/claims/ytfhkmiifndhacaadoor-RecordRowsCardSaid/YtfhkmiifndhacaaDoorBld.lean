import Derived.Test.YtfhkmiifndhacaaDoorOctA
import Derived.Test.YtfhkmiifndhacaaDoorTree
import Derived.Test.YtfhkmiifndhacaaDoorStr
import Derived.Lib.Builder
import Derived.Lib.UnsafeStr
import Derived.Laws.Externs
/- strings.Builder: written and read. -/
set_option linter.unusedVariables false
namespace Go.Proofs.YtfhkmiifndhacaaDoor
open Go.RowKit Go.VB
/-- a builder in block b that holds l; v is its buffer -/
structure Bld (B : Nat) (w : World) (b : Nat) (l : List UInt8) (v : Value) : Prop where
  blk : Blk w b [.pointer none, v] 69 ∨ Blk w b [.pointer (some ⟨b, 0, none⟩), v] 69
  row : Row 5 1 B w v l.length (bv l)
namespace Bld
variable {B : Nat} {w w' : World} {b : Nat} {l : List UInt8} {v : Value}
theorem ne (h : Bld B w b l v) : ∀ k, v.ownBlock = some k → k ≠ b := by
  rcases h.blk with h1 | h1
  · exact h.row.ne h1 (by decide)
  · exact h.row.ne h1 (by decide)
theorem lt (h : Bld B w b l v) : b < w.heap.size := by
  rcases h.blk with h1 | h1
  · exact Blk.lt h1
  · exact Blk.lt h1
theorem fr {S : Nat → Prop} (h : Bld B w b l v) (f : Fr S w w') (hb : ¬ S b) (hv : ∀ k, v.ownBlock = some k → ¬ S k) : Bld B w' b l v :=
  ⟨h.blk.imp (fun h => h.fr f hb) (fun h => h.fr f hb), h.row.fr f hv⟩
theorem fre (h : Bld B w b l v) (f : Fr (fun _ => False) w w') : Bld B w' b l v := h.fr f (fun h => h) (fun _ _ h => h)
theorem cast {m : List UInt8} (h : Bld B w b l v) (e : l = m) : Bld B w b m v := e ▸ h
theorem new (w : World) (hB : B ≤ w.heap.size) : Bld B (w.alloc (.cells #[.pointer none, .slice none 0 0] 69)) w.heap.size [] (.slice none 0 0) :=
  ⟨.inl (Blk.new w [Value.pointer none, .slice none 0 0] _), Row.nil⟩
end Bld
/-- what a write leaves -/
structure BldW (B : Nat) (w w' : World) (b : Nat) (m : List UInt8) (v v' : Value) : Prop where
  bld : Bld B w' b m v'
  fr : Fr (fun k => k = b ∨ v.ownBlock = some k) w w'
  at_ : ∀ k, v'.ownBlock = some k → v.ownBlock = some k ∨ w.heap.size ≤ k
theorem BldW.frB {B : Nat} {w0 w w' : World} {b : Nat} {l m : List UInt8} {v v' : Value} (h : BldW B w w' b m v v') (r : Bld B w b l v) (f : Fr (fun _ => False) w0 w) (hB : w0.heap.size ≤ B) (hb : B ≤ b) : Fr (fun _ => False) w0 w' :=
  f.trans h.fr fun k hk hl => by
    rcases hk with rfl | hk
    · omega
    · have := r.row.new k hk; omega
variable {B : Nat} {w : World} {b : Nat} {l : List UInt8} {v : Value}
theorem copyCheck_used (h : Blk w b [.pointer (some ⟨b, 0, none⟩), v] 69) : Calls Tryd.prog 60 #[.pointer (some ⟨b, 0, none⟩)] w fun e w' => e = .returned (.tuple #[]) ∧ w' = w := by
  have h0 : w.cell? ⟨b, 0, none⟩ = some (.pointer (some ⟨b, 0, none⟩)) := h.cell 0
  obtain ⟨j, hj, _⟩ := Option.map_eq_some_iff.1 (show (Tryd.prog.info? 69).map (·.size) = some 2 by kernel_rfl)
  have hq := fun w => Lib.run_neq_ptr_same (P := Tryd.prog) w ⟨b, 0, none⟩ Tryd.underlying67 hj
  clear h
  go_enter Tryd.func60, Tryd.ntmps60
  go_wp2_with (fail)
  go_end0
  exact ⟨rfl, rfl⟩
theorem copyCheck_fresh (h : Blk w b [.pointer none, v] 69) : Calls Tryd.prog 60 #[.pointer (some ⟨b, 0, none⟩)] w fun e w' => e = .returned (.tuple #[]) ∧ w' = w.setCell ⟨b, 0, none⟩ (.pointer (some ⟨b, 0, none⟩)) := by
  have h0 : w.cell? ⟨b, 0, none⟩ = some (.pointer none) := h.cell 0
  have hfz := Blk.frozen h 0
  have hsh : w.shape? b = some (69, 2) := by have h' : w.heap[b]? = _ := h; simp [World.shape?, h']
  obtain ⟨j, hj, hjs⟩ := Option.map_eq_some_iff.1 (show (Tryd.prog.info? 69).map (·.size) = some 2 by kernel_rfl)
  have hu := Lib.run_to_unsafe (P := Tryd.prog) w ⟨b, 0, none⟩ Tryd.underlying67 Tryd.underlying104 hj (by rw [hjs]; decide) hsh (Nat.zero_lt_succ 1)
  have hfu := Lib.run_from_unsafe (P := Tryd.prog) w ⟨b, 0, none⟩ Tryd.underlying104 Tryd.underlying67 hj hsh (by kernel_rfl)
  have hex := run_callFunc_extern (P := Tryd.prog) (f := 71) (fn := Tryd.f71) (e := Extern.AbiNoEscape.same) (by kernel_rfl) (by kernel_rfl) (by kernel_rfl) (by kernel_rfl) (by kernel_rfl) #[.pointer (some ⟨b, 0, none⟩)] w
  rw [Lib.run_noEscape] at hex
  simp only [Result.andThen] at hex
  clear h hj hjs hsh
  go_enter Tryd.func60, Tryd.ntmps60
  go_wp2_with (fail)
  go_end0
  exact ⟨rfl, rfl⟩
theorem copyCheck_go (h : Bld B w b l v) : Calls Tryd.prog 60 #[.pointer (some ⟨b, 0, none⟩)] w fun e w' => e = .returned (.tuple #[]) ∧ Blk w' b [.pointer (some ⟨b, 0, none⟩), v] 69 ∧ Fr (fun k => k = b) w w' := by
  rcases h.blk with h1 | h1
  · refine (copyCheck_fresh h1).mono ?_
    rintro e w' ⟨rfl, rfl⟩
    exact ⟨rfl, h1.set 0 _, (Fr.refl _ w).setCell _ _ (fun _ => rfl)⟩
  · refine (copyCheck_used h1).mono ?_
    rintro e w' ⟨rfl, rfl⟩
    exact ⟨rfl, h1, Fr.refl _ _⟩
theorem info_u8 : (Tryd.prog.info? 5).map (fun i => (i.zero, i.size, i.bytes)) = some (some (.int .u8 0), 1, 1) := by kernel_rfl
theorem bld_ends {w1 wg : World} {m : List UInt8} {v' : Value} (hl : Bld B w b l v) (h1 : Blk w1 b [.pointer (some ⟨b, 0, none⟩), v] 69) (f1 : Fr (fun k => k = b) w w1) (fg : Fr (fun k => v.ownBlock = some k) w1 wg) (row : Row 5 1 B wg v' m.length (bv m)) (hat : ∀ k, v'.ownBlock = some k → v.ownBlock = some k ∨ w1.heap.size ≤ k) :
    BldW B w (wg.setCell ⟨b, 1, none⟩ v') b m v v' := by
  have hne := hl.ne
  have hlt := hl.lt
  have h2 : Blk wg b [.pointer (some ⟨b, 0, none⟩), v] 69 := Blk.fr h1 fg (fun h => hne _ h rfl)
  have hne' := row.ne h2 (by decide)
  have fs := (Fr.refl (fun k => k = b) wg).setCell ⟨b, 1, none⟩ v' (fun _ => rfl)
  refine ⟨⟨.inr (h2.set 1 v'), row.fr fs hne'⟩, ?_, fun k hk => ?_⟩
  · refine ((f1.mono (T := fun k => k = b ∨ v.ownBlock = some k) (fun _ h _ => .inl h)).trans fg (fun _ h _ => .inr h)).trans fs (fun _ h _ => .inl h)
  · rcases hat k hk with h | h
    · exact .inl h
    · exact .inr (Nat.le_trans f1.size h)
set_option maxRecDepth 20000 in
theorem WriteByte_go (h : Bld B w b l v) (hB : B ≤ w.heap.size) (hl : l.length + 1 ≤ 1099511627776) (c : UInt8) : Calls Tryd.prog 35 #[.pointer (some ⟨b, 0, none⟩), .int .u8 (c.toNat : Int)] w fun e w' => e = .returned .nilIface ∧ ∃ v', BldW B w w' b (l ++ [c]) v v' := by
  have HC := hid (copyCheck_go h)
  have HH := hid h
  clear h
  go_enter Tryd.func35, Tryd.ntmps35
  go_wp2_with (first | (go_at_call 60; refine HC.out.mono ?_; rintro e w1 ⟨rfl, h1, f1⟩; have c1 := h1.cell 1; have H1 := hid h1; have F1 := hid f1; have hrow := hid (HH.out.row.fr F1.out HH.out.ne); have hB1 := Nat.le_trans hB F1.out.size; clear h1 f1 HC) | (refine wpList_app1 rfl (s := .tmp 11) (x := .tmp 13) (t := 64) rfl Tryd.underlying64 info_u8 rfl rfl rfl hrow.out hB1 rfl (by simp [Value.oneCell']) (by omega) (by omega) ?_; intro ab ac wg APP; have g1 := Blk.fr H1.out APP.fr (fun h => HH.out.ne _ h rfl); have c2 := Blk.cell g1 1; have z2 := Blk.frozen g1 1; clear g1))
  go_ret
  replace APP : App 5 1 B w1 wg v (.slice ab (l.length + 1) ac) l.length (bv l) [.int .u8 (c.toNat : Int)] := APP
  refine ⟨rfl, _, bld_ends HH.out H1.out F1.out APP.fr (APP.row.cast (by simp) (by rw [bv_append]; rfl)) (fun k hk => (APP.at_ k hk).imp (fun h => h) (fun h => by omega))⟩
set_option maxRecDepth 20000 in
theorem WriteString_go (h : Bld B w b l v) (hB : B ≤ w.heap.size) (s : List UInt8) (hl : l.length + s.length ≤ 1099511627776) : Calls Tryd.prog 36 #[.pointer (some ⟨b, 0, none⟩), .string (bs s)] w fun e w' => e = .returned (.tuple #[.int .i64 s.length, .nilIface]) ∧ ∃ v', BldW B w w' b (l ++ s) v v' := by
  have HC := hid (copyCheck_go h)
  have HH := hid h
  have e1 := bs_size s
  clear h
  go_enter Tryd.func36, Tryd.ntmps36
  go_wp2_with (first | (go_at_call 60; refine HC.out.mono ?_; rintro e w1 ⟨rfl, h1, f1⟩; have c1 := h1.cell 1; have H1 := hid h1; have F1 := hid f1; have hrow := hid (HH.out.row.fr F1.out HH.out.ne); have hB1 := Nat.le_trans hB F1.out.size; clear h1 f1 HC) | (refine wpList_appS rfl (s := .tmp 12) (x := .tmp 13) (t := 64) (tx := 9) rfl Tryd.underlying64 Tryd.underlying9 (.inl rfl) info_u8 rfl rfl rfl hrow.out hB1 (Src.string s) (by omega) (by omega) ?_; intro ab ac wg APP; have g1 := Blk.fr H1.out APP.fr (fun h => HH.out.ne _ h rfl); have c2 := Blk.cell g1 1; have z2 := Blk.frozen g1 1; clear g1))
  go_ret2
  replace APP : AppS 5 1 B w1 wg v (.slice ab (l.length + s.length) ac) l.length s.length (bv l) (bv s) := APP
  refine ⟨rfl, _, bld_ends HH.out H1.out F1.out APP.fr (APP.row.cast (by simp) (by rw [bv_append])) (fun k hk => (APP.at_ k hk).imp (fun h => h) (fun h => by omega))⟩
end Go.Proofs.YtfhkmiifndhacaaDoor
