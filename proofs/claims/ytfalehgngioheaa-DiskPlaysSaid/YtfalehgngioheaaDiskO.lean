import Derived.Test.YtfalehgngioheaaDiskN
set_option linter.unusedVariables false
namespace Go.Proofs.Ytfalehgngioheaa
open Go.RowKit Go.VB Go.VB.Disk
theorem madeCells_flat (z : List Value) (n : Nat) : (madeCells z.toArray (n * z.length)).toList = (List.replicate n z).flatten := by
  have h : ∀ n, (List.range (n * z.length)).map (fun i => z.toArray[i % z.toArray.size]!) = (List.replicate n z).flatten := by
    intro n
    induction n with
    | zero => simp
    | succ n ih =>
      rw [Nat.succ_mul, List.range_add, List.map_append, ih, List.replicate_succ', List.flatten_append]
      congr 1
      simp only [List.map_map, List.flatten_singleton]
      apply List.ext_getElem
      · simp
      · intro i h1 h2
        simp at h1
        simp [Nat.mod_eq_of_lt h1, Nat.add_mod, h1]
  simpa [madeCells] using h n
theorem run_make_rows {P : Program} (w : World) {t e : TypeId} {z : List Value} {size bytes : Nat} (ht : P.underlying t = some (.slice e)) (hi : (P.info? e).map (fun i => (i.zero, i.size, i.bytes)) = some (some (.agg z.toArray), size, bytes)) (hs : z.length = size)
    (n : Nat) (hc : n * size ≤ 16777216) (hb : bytes * n ≤ 281474976710656) (h63 : n ≤ 1099511627776) :
    (Instr.makeSlice t (.int .i64 n) (.int .i64 n)).run P w = .ok (.slice (some ⟨w.heap.size, 0, none⟩) n n) (w.alloc (.cells (List.replicate n z).flatten.toArray e)) := by
  obtain ⟨i, h0, h1, h2, h3⟩ := info_parts hi
  subst h2; subst h3
  have := run_makeSlice w t e i _ ht h0 h1 .i64 .i64 n n (by omega) (by omega) (by rw [Int.toNat_natCast]; exact hc) (by rw [← Int.natCast_mul]; omega) (by omega)
  rw [this]
  have e2 : madeCells (Value.agg z.toArray).cells (n * i.size) = (List.replicate n z).flatten.toArray := by
    apply Array.toList_inj.1
    rw [List.toList_toArray, ← madeCells_flat, ← hs]
    rfl
  simp only [Int.toNat_natCast, e2]
theorem Try.info_sheet : (Try.prog.info? 78).map (fun i => (i.zero, i.size, i.bytes)) = some (some (.agg (zcells 512 ++ [Value.slice none 0 0]).toArray), 513, 536) := by kernel_rfl
theorem wpList_makeSlice {P : Program} {ops : Array Oper} {rest : List Oper} {op : Oper} {a : Act} {w : World} {Q : Exit → Act → World → Prop} (hgd : op.guard = none) {t : TypeId} {lo co : Operand} (ho : op.op = .makeSlice t lo co)
    {v : Value} {w' : World} (hr : (Instr.makeSlice t (a.eval lo) (a.eval co)).run P w = .ok v w') (h : wpList P ops Q rest (a.put op.dst v) w') : wpList P ops Q (op :: rest) a w :=
  wpList_plain hgd fun _ hK => by
    unfold Oper.wp execOp
    simp only [ho, hr, Sem.run_bind, Sem.run_pure, Result.andThen_ok]
    exact hK _ _ h
theorem bv_blank : bv Disk.blank = zcells 512 := by
  unfold Disk.blank bv zcells
  rw [List.map_replicate]
  rfl
theorem pcells_blank (n : Nat) : pcells (List.replicate n (Disk.blank, Value.slice none 0 0)) = (List.replicate n (zcells 512 ++ [Value.slice none 0 0])).flatten := by
  simp only [pcells, List.flatMap, List.map_replicate, bv_blank]
set_option maxRecDepth 100000 in
theorem New_go (w : World) (n : Int) (k : Nat) (hk : k = (min n 400).toNat) :
    Calls Try.prog 14 #[.int .i64 n] w fun e w' => e = .returned (.pointer (some ⟨w.heap.size + 1, 0, none⟩)) ∧ Fr (fun _ => False) w w' ∧ Blk w' w.heap.size (pcells (List.replicate k (Disk.blank, Value.slice none 0 0))) 78 ∧
      Blk w' (w.heap.size + 1) [.slice (some ⟨w.heap.size, 0, none⟩) k k, .slice none 0 0, .int .i64 0, .bool false, .bool false, .int .i64 0] 69 ∧ w'.heap.size = w.heap.size + 2 := by
  have hr : ∀ x : Int, x = max 0 (min n 400) → (Instr.makeSlice 67 (.int .i64 x) (.int .i64 x)).run Try.prog w = .ok (.slice (some ⟨w.heap.size, 0, none⟩) k k) (w.alloc (.cells (pcells (List.replicate k (Disk.blank, Value.slice none 0 0))).toArray 78)) := fun x hx => by
    obtain rfl : x = k := by omega
    rw [pcells_blank]
    exact run_make_rows (P := Try.prog) w (t := 67) (e := 78) (z := zcells 512 ++ [Value.slice none 0 0]) rfl Try.info_sheet (by rw [List.length_append, zcells_length]; rfl) k (by omega) (by omega) (by omega)
  have F1 := (Fr.refl (fun _ => False) w).alloc (.cells (pcells (List.replicate k (Disk.blank, Value.slice none 0 0))).toArray 78)
  have B1 := Blk.new w (pcells (List.replicate k (Disk.blank, Value.slice none 0 0))) 78
  have hsz : (w.alloc (.cells (pcells (List.replicate k (Disk.blank, Value.slice none 0 0))).toArray 78)).heap.size = w.heap.size + 1 := by simp
  generalize w.alloc (.cells (pcells (List.replicate k (Disk.blank, Value.slice none 0 0))).toArray 78) = w1 at *
  have HR := hid hr
  have HF := hid F1
  have HB := hid B1
  clear hr F1 B1 hk
  have HB2 := Blk.new w1 [.slice (some ⟨w.heap.size, 0, none⟩) k k, .slice none 0 0, .int .i64 0, .bool false, .bool false, .int .i64 0] 69
  rw [hsz] at HB2
  have HB3 := hid HB2
  clear HB2
  go_enter Try.func14, Try.ntmps14
  go_wp2_with (refine wpList_makeSlice rfl (t := 67) (lo := .tmp 5) (co := .tmp 5) rfl (v := .slice (some ⟨w.heap.size, 0, none⟩) k k) (w' := w1) (by exact HR.out _ (by omega)) ?_)
  all_goals go_ret
  all_goals exact ⟨rfl, HF.out.alloc _, HB.out.alloc _, HB3.out, by rw [World.size_alloc]; omega⟩
theorem New_rep (w : World) (n : Int) :
    Calls Try.prog 14 #[.int .i64 n] w fun e w' => e = .returned (.pointer (some ⟨w.heap.size + 1, 0, none⟩)) ∧ Fr (fun _ => False) w w' ∧ DRep (fun k => w.heap.size ≤ k ∧ k < w'.heap.size) w' (w.heap.size + 1) (DM.new (min n 400).toNat) := by
  refine (New_go w n _ rfl).mono ?_
  rintro e w' ⟨rfl, hf, hb, hd, hs⟩
  generalize (min n 400).toNat = k at *
  refine ⟨rfl, hf, w.heap.size, .slice none 0 0, List.replicate k (.slice none 0 0), by omega, by omega, fun k hk => hk.2, ?_, ?_, by simp [DM.new], ⟨⟨by simp [DM.new, bv], .inl ⟨rfl, rfl⟩⟩, by simp [Value.ownBlock]⟩, ?_, ?_⟩
  · simpa [DM.new] using hd
  · have : pcs (DM.new k).pages (List.replicate k (.slice none 0 0)) = List.replicate k (Disk.blank, Value.slice none 0 0) := by simp [pcs, DM.new]
    rw [this]; exact hb
  · intro i p v hp hv
    have e1 := List.mem_of_getElem? hp
    have e2 := List.mem_of_getElem? hv
    simp only [DM.new, List.mem_replicate] at e1 e2
    obtain ⟨-, rfl⟩ := e1
    obtain ⟨-, rfl⟩ := e2
    exact ⟨⟨by simp, .inl ⟨rfl, rfl⟩⟩, by simp [Value.ownBlock]⟩
  · intro i j v v' k _ hv _ h1
    have e2 := List.mem_of_getElem? hv
    simp only [List.mem_replicate] at e2
    obtain ⟨-, rfl⟩ := e2
    simp [Value.ownBlock] at h1
theorem Ok_new (k : Nat) (hk : k ≤ 400) : (DM.new k).Ok 0 := by
  refine ⟨by simpa [DM.new] using hk, ?_, ?_, ?_, by simp [DM.new], by simp [DM.new]⟩
  · intro p hp
    simp only [DM.new, List.mem_replicate] at hp
    rw [hp.2]
    exact List.length_replicate
  · intro p hp
    simp only [DM.new, List.mem_replicate] at hp
    rw [hp.2]; simp
  · intro p hp
    simp only [DM.new, List.mem_replicate] at hp
    rw [hp.2]; simp
