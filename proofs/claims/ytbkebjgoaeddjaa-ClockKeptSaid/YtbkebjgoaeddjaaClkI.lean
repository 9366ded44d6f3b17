import Derived.Test.YtbkebjgoaeddjaaClkH
/- The clock under test: Bytes. -/
set_option linter.unusedVariables false
namespace Go.VB.Clk
open Go.RowKit
def CM.bytesN (m : CM) (i : Nat) : List UInt8 := [UInt8.ofNat m.next, UInt8.ofNat m.low] ++ (m.known.take i).flatMap fun x => [UInt8.ofNat (m.st x).toNat, UInt8.ofNat (m.above x)]
theorem CM.bytesN_zero (m : CM) : m.bytesN 0 = [UInt8.ofNat m.next, UInt8.ofNat m.low] := by simp [CM.bytesN]
theorem CM.bytesN_all (m : CM) : m.bytesN m.n = m.bytes := by
  unfold CM.bytesN CM.bytes
  rw [List.take_of_length_le (by rw [CM.known_length]; exact Nat.le_refl _)]
theorem CM.bytesN_succ (m : CM) (i : Nat) (h : i < m.n) : m.bytesN (i + 1) = m.bytesN i ++ [UInt8.ofNat (m.st (xat m.low i)).toNat, UInt8.ofNat (m.above (xat m.low i))] := by
  unfold CM.bytesN
  rw [m.known_take' i h, List.flatMap_append]
  simp
theorem flat_len (l : List Nat) (f g : Nat → UInt8) : (l.flatMap fun x => [f x, g x]).length = l.length * 2 := by
  induction l with
  | nil => rfl
  | cons a l ih => rw [List.flatMap_cons, List.length_append, ih]; simp; omega
theorem CM.bytesN_length (m : CM) (i : Nat) (h : i ≤ m.n) : (m.bytesN i).length = 2 + i * 2 := by
  unfold CM.bytesN
  rw [List.length_append, flat_len, List.length_take, CM.known_length, Nat.min_eq_left h]
  simp
theorem CM.bytes_length (m : CM) : m.bytes.length = 2 + m.n * 2 := by rw [← m.bytesN_all, m.bytesN_length _ (Nat.le_refl _)]
theorem u8_cell {n : Nat} (h : n < 256) : Value.int .u8 ((UInt8.ofNat n).toNat : Int) = .int .u8 n := by
  rw [UInt8.toNat_ofNat', Nat.mod_eq_of_lt (by omega)]
end Go.VB.Clk
namespace Go.Proofs.Ytbkebjgoaeddjaa
open Go.RowKit Go.VB Go.VB.Clk
attribute [local go_sem] Oper.semAt_some
theorem own_of_blk {w : World} {b size n : Nat} {l : List Value} {t : TypeId} (h : Blk w b l t) (hl : l.length = n * size) (hn : n ≤ 1099511627776) : w.ownsRow 0 t size (.slice (some ⟨b, 0, none⟩) n n) n l := by
  refine ⟨hl, .inr ⟨b, n, l.toArray, rfl, Nat.zero_le _, h, Nat.le_refl _, ?_, ?_, ?_⟩⟩
  · simp only [maxLen]; omega
  · simpa using hl
  · simp [← hl]
theorem Try.info_u8 : (Try.prog.info? 5).map (fun i => (i.zero, i.size, i.bytes)) = some (some (.int .u8 0), 1, 1) := by kernel_rfl
structure BRow (w w' : World) (v : Value) (l : List UInt8) : Prop where
  own : w'.ownsRow 0 5 1 v l.length (bv l)
  new : ∀ k, v.ownBlock = some k → w.heap.size ≤ k
theorem BRow.app {w Wb w5 wg : World} {v v' : Value} {m : CM} {i : Nat} (h : BRow w Wb v (m.bytesN i)) (F : Fr (fun _ => False) Wb (w5.alloc (.cells #[Value.int .u8 (m.st (xat m.low i)), .int .u8 (m.above (xat m.low i))] 5))) (hs : w.heap.size ≤ w5.heap.size)
    (hown : wg.ownsRow 0 5 1 v' ((m.bytesN i).length + 2) (bv (m.bytesN i) ++ [.int .u8 (m.st (xat m.low i)), .int .u8 (m.above (xat m.low i))])) (hg : World.grownBy (w5.alloc (.cells #[Value.int .u8 (m.st (xat m.low i)), .int .u8 (m.above (xat m.low i))] 5)) wg v.ownBlock)
    (hat : ∀ k, v'.ownBlock = some k → v.ownBlock = some k ∨ k = (w5.alloc (.cells #[Value.int .u8 (m.st (xat m.low i)), .int .u8 (m.above (xat m.low i))] 5)).heap.size)
    (hsu : m.bytesN (i + 1) = m.bytesN i ++ [UInt8.ofNat (m.st (xat m.low i)).toNat, UInt8.ofNat (m.above (xat m.low i))]) (hst : 0 ≤ m.st (xat m.low i) ∧ m.st (xat m.low i) ≤ 4) (hab : m.above (xat m.low i) < 128) :
    (BRow w wg v' (m.bytesN (i + 1)) ∧ ∀ k, v'.ownBlock = some k → v.ownBlock = some k ∨ k = w5.heap.size + 1) ∧ Fr (fun k => v.ownBlock = some k) Wb wg := by
  refine ⟨⟨⟨?_, fun k hk => ?_⟩, fun k hk => ?_⟩, (F.mono (fun _ h _ => h.elim)).grown hg (fun k hk _ => hk)⟩
  · rw [hsu, List.length_append, bv_append]
    have e : bv [UInt8.ofNat (m.st (xat m.low i)).toNat, UInt8.ofNat (m.above (xat m.low i))] = [.int .u8 (m.st (xat m.low i)), .int .u8 (m.above (xat m.low i))] := by
      simp only [bv, List.map_cons, List.map_nil]
      rw [u8_cell (by omega), u8_cell (by omega), show (((m.st (xat m.low i)).toNat : Nat) : Int) = m.st (xat m.low i) by omega]
    rw [e]
    exact hown
  · rcases hat k hk with h' | rfl
    · exact h.new k h'
    · rw [World.size_alloc]; omega
  · have := hat k hk
    rwa [World.size_alloc] at this
structure BytInv (w W : World) (c b3 p : Nat) (m : CM) (i : Nat) : Prop where
  fr : Fr (fun _ => False) w W
  bc : Blk W w.heap.size [.pointer (some ⟨c, 0, none⟩)] 27
  bo : ∃ v, Blk W b3 [v] 64 ∧ BRow w W v (m.bytesN i) ∧ ∀ k, v.ownBlock = some k → k ≠ p + 1 ∧ k ≠ p + 2
  bi : Blk W p [.pointer (some ⟨c, 0, none⟩)] 27
  ge : w.heap.size < b3
  lt : b3 < p
theorem BytInv.keep {w W W' : World} {c b3 p : Nat} {m : CM} {i : Nat} (h : BytInv w W c b3 p m i) (f : Fr (fun k => k = p + 1 ∨ k = p + 2) W W') : BytInv w W' c b3 p m i := by
  obtain ⟨h1, h2, ⟨v, h8, h9, h10⟩, h11, h12, h13⟩ := h
  refine ⟨h1.trans f (fun i hi hl => by omega), h2.fr f (by omega), ⟨v, h8.fr f (by omega), ⟨own_fr h9.own f (fun k hk hn => by have := h10 k hk; omega), h9.new⟩, h10⟩, h11.fr f (by omega), h12, h13⟩
theorem byt_zero {w W : World} {c b0 b3 bs p : Nat} {m : CM} (hl : 3 ≤ m.low ∧ m.low ≤ 127) (hx : 3 ≤ m.next ∧ m.next ≤ 127) (hb : w.heap.size = b0) (f : Fr (fun _ => False) w W) (h0 : Blk W b0 [.pointer (some ⟨c, 0, none⟩)] 27)
    (q1 : Blk W bs [.int .u8 m.next, .int .u8 m.low] 5) (q2 : Blk W b3 [.slice (some ⟨bs, 0, none⟩) 2 2] 64) (q3 : Blk W p [.pointer (some ⟨c, 0, none⟩)] 27) (h1 : b0 < b3) (h2 : b3 < p) (h3 : b0 ≤ bs) (h4 : bs < p) : BytInv w W c b3 p m 0 := by
  subst hb
  refine ⟨f, h0, ⟨_, q2, ⟨?_, fun k hk => ?_⟩, fun k hk => ?_⟩, q3, h1, h2⟩
  · rw [CM.bytesN_zero]
    have e : bv [UInt8.ofNat m.next, UInt8.ofNat m.low] = [.int .u8 m.next, .int .u8 m.low] := by
      simp only [bv, List.map_cons, List.map_nil]
      rw [u8_cell (by omega), u8_cell (by omega)]
    rw [e]
    exact own_of_blk q1 rfl (by simp)
  · obtain rfl : bs = k := by simpa [Value.ownBlock] using hk
    exact h3
  · obtain rfl : bs = k := by simpa [Value.ownBlock] using hk
    omega
variable {w : World} {c : Nat} {m : CM}
set_option maxRecDepth 20000 in
set_option maxHeartbeats 2000000 in
theorem Bytes_go (h : CRep w c m) (ok : m.Ok) : Calls Try.prog 41 #[.pointer (some ⟨c, 0, none⟩)] w fun e w' => e = .returned (.string (bs m.bytes)) ∧ Fr (fun _ => False) w w' := by
  have l0 := h.low
  have l1 := h.next
  have hl := ok.lo
  have hx := ok.nx
  have hlt := lt_of_cell l0
  have HH := hid h
  have F0 := (Fr.refl (fun _ => False) w).alloc (.cells #[Value.pointer (some ⟨c, 0, none⟩)] 27)
  have B0 := Blk.new w [Value.pointer (some ⟨c, 0, none⟩)] 27
  refine calls_of_wp_marks Try.func41 rfl ?_
  simp only [Try.ntmps41, List.size_toArray, List.length_cons, List.length_nil, Nat.reduceAdd, Nat.reduceSub, Array.replicate_succ, Array.replicate_zero, List.push_toArray, List.append_toArray, List.nil_append, List.cons_append]
  have c0 : (w.alloc (.cells #[Value.pointer (some ⟨c, 0, none⟩)] 27)).cell? ⟨w.heap.size, 0, none⟩ = some (.pointer (some ⟨c, 0, none⟩)) := B0.cell 0
  replace l0 := cell_fr l0 F0 (fun h => h)
  replace l1 := cell_fr l1 F0 (fun h => h)
  have HF0 := hid F0
  have HB0 := hid B0
  clear h F0 B0
  go_wp2_with (fail)
  obtain ⟨w0, hw0⟩ : ∃ w0, w0 = w.alloc (.cells #[Value.pointer (some ⟨c, 0, none⟩)] 27) := ⟨_, rfl⟩
  have hz0 : w0.heap.size = w.heap.size + 1 := by rw [hw0]; simp
  have HB0 : Hid (Blk w0 w.heap.size [Value.pointer (some ⟨c, 0, none⟩)] 27) := by rw [hw0]; exact HB0
  rw [← hw0] at HF0 c0 l0 l1 ⊢
  clear hw0
  generalize hb0 : w.heap.size = b0 at *
  refine wp_region_scrQ (.take 0 (.take 1 (.take 2 (.take 3 (.take 4 (.take 5 (.take 6 (.take 7 (.take 8 (.take 9 (.two 10 11 (.op 11 (.op 12 .done)) (.op 10 (.op 12 .done))))))))))))) (fun kz w => (kz ≤ 13 → w.cell? ⟨b0, 0, none⟩ = some (.pointer (some ⟨c, 0, none⟩)) ∧ w.cell? ⟨c, 0, none⟩ = some (.int .i64 m.low) ∧ w.cell? ⟨c, 1, none⟩ = some (.int .i64 m.next)) ∧ True) (by kernel_rfl) (by kernel_rfl) ?_
  repeat
    first
    | (refine wpT_pure rfl rfl rfl ?_; apply Exists.intro; refine ⟨?_, ?_⟩; intro w; ((go_simp <;> rfl)); simp only [Act.put, List.setIfInBounds_toArray, List.set_cons_zero, List.set_cons_succ])
    | (refine wpT_take 13 rfl rfl (by decide +kernel) ⟨fun _ => ⟨c0, l0, l1⟩, trivial⟩ ?_; apply Exists.intro; refine ⟨?_, ?_⟩; intro w hw; (have qa := hw.1 (Nat.le_refl _); have qb := hw.2); ((go_simp <;> rfl)); simp only [Act.put, List.setIfInBounds_toArray, List.set_cons_zero, List.set_cons_succ])
    | (refine wpT_skip rfl rfl ?_; simp only [Act.put, List.setIfInBounds_toArray, List.set_cons_zero, List.set_cons_succ])
  refine wpT_two ?h1 ?h2
  case' h1 =>
    skip
    refine wpT_op rfl ?_
    go_wp2_with (fail)
    (refine ⟨?_, ?_⟩; focus (intro kz hk hk2; rintro ⟨qa, qb⟩; first | (exfalso; simp at hk2; omega) | exact ⟨qa, qb⟩ | (refine ⟨fun h => absurd h (by omega), ?_⟩; first | exact qb | (exact ⟨cell_fr c0 (((Fr.refl (fun _ => False) w0).alloc _).drew) (fun h => h), cell_fr l0 (((Fr.refl (fun _ => False) w0).alloc _).drew) (fun h => h), cell_fr l1 (((Fr.refl (fun _ => False) w0).alloc _).drew) (fun h => h)⟩)) | (refine ⟨fun h => ?_, ?_⟩; (have qa := qa h); all_goals (first | exact qa | exact qb | (exact ⟨cell_fr c0 (((Fr.refl (fun _ => False) w0).alloc _).drew) (fun h => h), cell_fr l0 (((Fr.refl (fun _ => False) w0).alloc _).drew) (fun h => h), cell_fr l1 (((Fr.refl (fun _ => False) w0).alloc _).drew) (fun h => h)⟩)))))
    refine wpT_op rfl ?_
    go_wp2_with (fail)
    (refine ⟨?_, ?_⟩; focus (intro kz hk hk2; rintro ⟨qa, qb⟩; first | (exfalso; simp at hk2; omega) | exact ⟨qa, qb⟩ | (refine ⟨fun h => absurd h (by omega), ?_⟩; first | exact qb | (exact ⟨cell_fr c0 ((((Fr.refl (fun _ => False) w0).alloc _).alloc _).drew) (fun h => h), cell_fr l0 ((((Fr.refl (fun _ => False) w0).alloc _).alloc _).drew) (fun h => h), cell_fr l1 ((((Fr.refl (fun _ => False) w0).alloc _).alloc _).drew) (fun h => h)⟩)) | (refine ⟨fun h => ?_, ?_⟩; (have qa := qa h); all_goals (first | exact qa | exact qb | (exact ⟨cell_fr c0 ((((Fr.refl (fun _ => False) w0).alloc _).alloc _).drew) (fun h => h), cell_fr l0 ((((Fr.refl (fun _ => False) w0).alloc _).alloc _).drew) (fun h => h), cell_fr l1 ((((Fr.refl (fun _ => False) w0).alloc _).alloc _).drew) (fun h => h)⟩)))))
    refine wpT_op rfl ?_
    go_wp2_with (fail)
    (refine ⟨?_, ?_⟩; focus (intro kz hk hk2; rintro ⟨qa, qb⟩; first | (exfalso; simp at hk2; omega) | exact ⟨qa, qb⟩ | (refine ⟨fun h => absurd h (by omega), ?_⟩; first | exact qb | (exact ⟨cell_fr c0 ((((Fr.refl (fun _ => False) w0).alloc _).alloc _).drew) (fun h => h), cell_fr l0 ((((Fr.refl (fun _ => False) w0).alloc _).alloc _).drew) (fun h => h), cell_fr l1 ((((Fr.refl (fun _ => False) w0).alloc _).alloc _).drew) (fun h => h)⟩)) | (refine ⟨fun h => ?_, ?_⟩; (have qa := qa h); all_goals (first | exact qa | exact qb | (exact ⟨cell_fr c0 ((((Fr.refl (fun _ => False) w0).alloc _).alloc _).drew) (fun h => h), cell_fr l0 ((((Fr.refl (fun _ => False) w0).alloc _).alloc _).drew) (fun h => h), cell_fr l1 ((((Fr.refl (fun _ => False) w0).alloc _).alloc _).drew) (fun h => h)⟩)))))
    refine wpT_nil (quietX_normal ?_)
    have hc1 : ((w0.alloc (.cells #[Value.int .u8 m.next, .int .u8 m.low] 5)).alloc (.cells #[Value.slice (some ⟨b0 + 1, 0, none⟩) 2 2] 64)).drew.cell? ⟨b0, 0, none⟩ = some (.pointer (some ⟨c, 0, none⟩)) := cell_fr c0 (((Fr.refl (fun _ => False) w0).alloc _).alloc _).drew (fun h => h)
    go_wp2_with (first | (go_at_call 57; refine (all_go _ _).mono ?_; rintro e w1 ⟨rfl, rfl⟩))
    have hz : ((((w0.alloc (.cells #[Value.int .u8 m.next, .int .u8 m.low] 5)).alloc (.cells #[Value.slice (some ⟨b0 + 1, 0, none⟩) 2 2] 64)).alloc (.cells #[Value.pointer (some ⟨c, 0, none⟩)] 27)).drew).heap.size = b0 + 1 + 1 + 1 + 1 := by simp [hz0]
    have inv0 : BytInv w ((((w0.alloc (.cells #[Value.int .u8 m.next, .int .u8 m.low] 5)).alloc (.cells #[Value.slice (some ⟨b0 + 1, 0, none⟩) 2 2] 64)).alloc (.cells #[Value.pointer (some ⟨c, 0, none⟩)] 27)).drew) c (b0 + 1 + 1) (b0 + 1 + 1 + 1) m 0 := by
      have q1 := (Blk.new w0 [Value.int .u8 m.next, .int .u8 m.low] 5).alloc (.cells #[Value.slice (some ⟨b0 + 1, 0, none⟩) 2 2] 64)
      have q2 := Blk.new (w0.alloc (.cells #[Value.int .u8 m.next, .int .u8 m.low] 5)) [Value.slice (some ⟨b0 + 1, 0, none⟩) 2 2] 64
      have q3 := Blk.new ((w0.alloc (.cells #[Value.int .u8 m.next, .int .u8 m.low] 5)).alloc (.cells #[Value.slice (some ⟨b0 + 1, 0, none⟩) 2 2] 64)) [Value.pointer (some ⟨c, 0, none⟩)] 27
      rw [hz0] at q1
      rw [World.size_alloc, hz0] at q2
      rw [show ((w0.alloc (.cells #[Value.int .u8 m.next, .int .u8 m.low] 5)).alloc (.cells #[Value.slice (some ⟨b0 + 1, 0, none⟩) 2 2] 64)).heap.size = b0 + 1 + 1 + 1 by simp [hz0]] at q3
      exact byt_zero hl hx hb0 (HF0.out.trans (((((Fr.refl (fun _ => False) w0).alloc _).alloc _).alloc _).drew) (fun _ h _ => h)) (HB0.out.fr (((((Fr.refl (fun _ => False) w0).alloc _).alloc _).alloc _).drew) (fun h => h)) (bs := b0 + 1) (q1.alloc _).drew (q2.alloc _).drew q3.drew (by omega) (by omega) (by omega) (by omega)
    clear hc1 c0 l0 l1 HF0 HB0
    generalize (((w0.alloc (.cells #[Value.int .u8 m.next, .int .u8 m.low] 5)).alloc (.cells #[Value.slice (some ⟨b0 + 1, 0, none⟩) 2 2] 64)).alloc (.cells #[Value.pointer (some ⟨c, 0, none⟩)] 27)).drew = W at *
    clear hz0
    generalize hp : b0 + 1 + 1 + 1 = p at *
    generalize hb3 : b0 + 1 + 1 = b3 at *
    have HB3 := hid hb3
    have HP := hid hp
    clear hb3 hp
  case' h2 =>
    skip
    refine wpT_op rfl ?_
    go_wp2_with (fail)
    (refine ⟨?_, ?_⟩; focus (intro kz hk hk2; rintro ⟨qa, qb⟩; first | (exfalso; simp at hk2; omega) | exact ⟨qa, qb⟩ | (refine ⟨fun h => absurd h (by omega), ?_⟩; first | exact qb | (exact ⟨cell_fr c0 (((Fr.refl (fun _ => False) w0).alloc _).drew) (fun h => h), cell_fr l0 (((Fr.refl (fun _ => False) w0).alloc _).drew) (fun h => h), cell_fr l1 (((Fr.refl (fun _ => False) w0).alloc _).drew) (fun h => h)⟩)) | (refine ⟨fun h => ?_, ?_⟩; (have qa := qa h); all_goals (first | exact qa | exact qb | (exact ⟨cell_fr c0 (((Fr.refl (fun _ => False) w0).alloc _).drew) (fun h => h), cell_fr l0 (((Fr.refl (fun _ => False) w0).alloc _).drew) (fun h => h), cell_fr l1 (((Fr.refl (fun _ => False) w0).alloc _).drew) (fun h => h)⟩)))))
    refine wpT_op rfl ?_
    go_wp2_with (fail)
    (refine ⟨?_, ?_⟩; focus (intro kz hk hk2; rintro ⟨qa, qb⟩; first | (exfalso; simp at hk2; omega) | exact ⟨qa, qb⟩ | (refine ⟨fun h => absurd h (by omega), ?_⟩; first | exact qb | (exact ⟨cell_fr c0 ((((Fr.refl (fun _ => False) w0).alloc _).alloc _).drew) (fun h => h), cell_fr l0 ((((Fr.refl (fun _ => False) w0).alloc _).alloc _).drew) (fun h => h), cell_fr l1 ((((Fr.refl (fun _ => False) w0).alloc _).alloc _).drew) (fun h => h)⟩)) | (refine ⟨fun h => ?_, ?_⟩; (have qa := qa h); all_goals (first | exact qa | exact qb | (exact ⟨cell_fr c0 ((((Fr.refl (fun _ => False) w0).alloc _).alloc _).drew) (fun h => h), cell_fr l0 ((((Fr.refl (fun _ => False) w0).alloc _).alloc _).drew) (fun h => h), cell_fr l1 ((((Fr.refl (fun _ => False) w0).alloc _).alloc _).drew) (fun h => h)⟩)))))
    refine wpT_op rfl ?_
    go_wp2_with (fail)
    (refine ⟨?_, ?_⟩; focus (intro kz hk hk2; rintro ⟨qa, qb⟩; first | (exfalso; simp at hk2; omega) | exact ⟨qa, qb⟩ | (refine ⟨fun h => absurd h (by omega), ?_⟩; first | exact qb | (exact ⟨cell_fr c0 ((((Fr.refl (fun _ => False) w0).alloc _).alloc _).drew) (fun h => h), cell_fr l0 ((((Fr.refl (fun _ => False) w0).alloc _).alloc _).drew) (fun h => h), cell_fr l1 ((((Fr.refl (fun _ => False) w0).alloc _).alloc _).drew) (fun h => h)⟩)) | (refine ⟨fun h => ?_, ?_⟩; (have qa := qa h); all_goals (first | exact qa | exact qb | (exact ⟨cell_fr c0 ((((Fr.refl (fun _ => False) w0).alloc _).alloc _).drew) (fun h => h), cell_fr l0 ((((Fr.refl (fun _ => False) w0).alloc _).alloc _).drew) (fun h => h), cell_fr l1 ((((Fr.refl (fun _ => False) w0).alloc _).alloc _).drew) (fun h => h)⟩)))))
    refine wpT_nil (quietX_normal ?_)
    have hc1 : ((w0.alloc (.cells #[Value.slice (some ⟨b0 + 1 + 1, 0, none⟩) 2 2] 64)).alloc (.cells #[Value.int .u8 m.next, .int .u8 m.low] 5)).drew.cell? ⟨b0, 0, none⟩ = some (.pointer (some ⟨c, 0, none⟩)) := cell_fr c0 (((Fr.refl (fun _ => False) w0).alloc _).alloc _).drew (fun h => h)
    go_wp2_with (first | (go_at_call 57; refine (all_go _ _).mono ?_; rintro e w1 ⟨rfl, rfl⟩))
    have hz : ((((w0.alloc (.cells #[Value.slice (some ⟨b0 + 1 + 1, 0, none⟩) 2 2] 64)).alloc (.cells #[Value.int .u8 m.next, .int .u8 m.low] 5)).alloc (.cells #[Value.pointer (some ⟨c, 0, none⟩)] 27)).drew).heap.size = b0 + 1 + 1 + 1 + 1 := by simp [hz0]
    have inv0 : BytInv w ((((w0.alloc (.cells #[Value.slice (some ⟨b0 + 1 + 1, 0, none⟩) 2 2] 64)).alloc (.cells #[Value.int .u8 m.next, .int .u8 m.low] 5)).alloc (.cells #[Value.pointer (some ⟨c, 0, none⟩)] 27)).drew) c (b0 + 1) (b0 + 1 + 1 + 1) m 0 := by
      have q2 := (Blk.new w0 [Value.slice (some ⟨b0 + 1 + 1, 0, none⟩) 2 2] 64).alloc (.cells #[Value.int .u8 m.next, .int .u8 m.low] 5)
      have q1 := Blk.new (w0.alloc (.cells #[Value.slice (some ⟨b0 + 1 + 1, 0, none⟩) 2 2] 64)) [Value.int .u8 m.next, .int .u8 m.low] 5
      have q3 := Blk.new ((w0.alloc (.cells #[Value.slice (some ⟨b0 + 1 + 1, 0, none⟩) 2 2] 64)).alloc (.cells #[Value.int .u8 m.next, .int .u8 m.low] 5)) [Value.pointer (some ⟨c, 0, none⟩)] 27
      rw [hz0] at q2
      rw [World.size_alloc, hz0] at q1
      rw [show ((w0.alloc (.cells #[Value.slice (some ⟨b0 + 1 + 1, 0, none⟩) 2 2] 64)).alloc (.cells #[Value.int .u8 m.next, .int .u8 m.low] 5)).heap.size = b0 + 1 + 1 + 1 by simp [hz0]] at q3
      exact byt_zero hl hx hb0 (HF0.out.trans (((((Fr.refl (fun _ => False) w0).alloc _).alloc _).alloc _).drew) (fun _ h _ => h)) (HB0.out.fr (((((Fr.refl (fun _ => False) w0).alloc _).alloc _).alloc _).drew) (fun h => h)) (bs := b0 + 1 + 1) (q1.alloc _).drew (q2.alloc _).drew q3.drew (by omega) (by omega) (by omega) (by omega)
    clear hc1 c0 l0 l1 HF0 HB0
    generalize (((w0.alloc (.cells #[Value.slice (some ⟨b0 + 1 + 1, 0, none⟩) 2 2] 64)).alloc (.cells #[Value.int .u8 m.next, .int .u8 m.low] 5)).alloc (.cells #[Value.pointer (some ⟨c, 0, none⟩)] 27)).drew = W at *
    clear hz0
    generalize hp : b0 + 1 + 1 + 1 = p at *
    generalize hb3 : b0 + 1 = b3 at *
    have HB3 := hid hb3
    have HP := hid hp
    clear hb3 hp
  all_goals
    have INV0 := hid inv0
    have HLT := hid (show w.heap.size < b3 ∧ b3 < p from ⟨inv0.ge, inv0.lt⟩)
    have HB := hid hb0
    have HZ := hid hz
    clear inv0 hb0
    refine wp_range_K (n := m.n) (fun i => .int .i64 (xat m.low i)) (fun i W => BytInv w W c b3 p m i) (fun _ => False) rfl (fun _ _ => rfl) rfl (fun i W1 W2 h f => h.keep (f.mono (by rw [HZ.out]; exact fun k h _ => h))) (fun _ _ h _ => h.elim) ?_ INV0.out ?_ ?_ (fun _ h _ => h.elim)
    · rw [HZ.out]
      refine all_it (p + 1 + 1) p c m.low m.next ok.lo ok.nx _ fun i W1 h => ⟨h.bi.cell 0, ?_, ?_⟩
      · exact (CRep.fr HH.out h.fr (fun h => h)).low
      · exact (CRep.fr HH.out h.fr (fun h => h)).next
    · rw [HZ.out]
      intro i Wb inv hi hsb
      refine ⟨_, fun W K hK => by gi_wp2; exact hK, ?_⟩
      clear INV0
      have hxx := xat_on m.low i
      have HC := hid (CRep.fr HH.out inv.fr (fun h => h))
      have hli := hid (m.bytesN_length i (by omega))
      have hli2 : (m.bytesN i).length ≤ 200 := by rw [hli.out]; have := ok.far; omega
      have hi1 : (0 : Int) ≤ (xat m.low i : Nat) := by omega
      have hi2 : ((xat m.low i : Nat) : Int) < 128 := by omega
      have hi3 : xat m.low i < 128 := by omega
      have hf := ok.far
      have hst4 := ok.st (xat m.low i)
      have hA := above_go (CRep.drew HC.out) ok (x := xat m.low i) (by omega)
      have hab : m.above (xat m.low i) < 128 := by unfold CM.above; split; exact ok.ab _; omega
      have hsucc := m.bytesN_succ i hi
      have INV := hid inv
      obtain ⟨f0, bc, ⟨v, bo, row, hoff⟩, bi, hge, hlt2⟩ := inv
      obtain ⟨va, vc, rfl, hvc⟩ := own_slice row.own
      have kc : Wb.cell? ⟨b0, 0, none⟩ = some (.pointer (some ⟨c, 0, none⟩)) := HB.out ▸ bc.cell 0
      have ks := CRep.st HC.out (x := xat m.low i) (by omega)
      have ko : Wb.cell? ⟨b3, 0, none⟩ = some (.slice va (m.bytesN i).length vc) := bo.cell 0
      have hne3 : ∀ k', (Value.slice va (m.bytesN i).length vc).ownBlock = some k' → k' ≠ b3 := ownsRow_ne bo (by decide) row.own
      have hneb : ∀ k', (Value.slice va (m.bytesN i).length vc).ownBlock = some k' → k' ≠ w.heap.size := ownsRow_ne bc (by decide) row.own
      have hnep : ∀ k', (Value.slice va (m.bytesN i).length vc).ownBlock = some k' → k' ≠ p := ownsRow_ne bi (by decide) row.own
      have ROW := hid row
      have BO := hid bo
      have HOFF := hid hoff
      have HNE3 := hid hne3
      have HNEB := hid hneb
      have HNEP := hid hnep
      have HA := hid hA
      have HSU := hid hsucc
      clear hoff hne3 hneb hnep row bo bc bi f0 hA hsucc
      gi_wp2_with (fail)
      refine wpIn_region_scr (.take 0 (.take 1 (.take 2 (.take 3 (.take 4 (.take 5 (.take 6 (.take 7 (.take 8 (.take 9 (.take 10 (.op 11 (.take 12 (.op 13 (.op 14 (.op 15 .done)))))))))))))))) (fun kz w => (kz ≤ 15 → w.cell? ⟨b0, 0, none⟩ = some (.pointer (some ⟨c, 0, none⟩)) ∧ w.cell? ⟨c, 2 + (xat m.low i) * 2, none⟩ = some (.int .i64 (m.st (xat m.low i))) ∧ w.cell? ⟨b3, 0, none⟩ = some (.slice va (m.bytesN i).length vc)) ∧ True) (by kernel_rfl) (by kernel_rfl) (by intro c a d v w h; cases d <;> exact h) (by decide +kernel) (by rintro ⟨_, _, h⟩; exact h) ?_
      repeat
        first
        | (refine wpT_pure rfl rfl rfl ?_; apply Exists.intro; refine ⟨?_, ?_⟩; intro w; ((go_simp <;> rfl)); simp only [Act.put, List.setIfInBounds_toArray, List.set_cons_zero, List.set_cons_succ])
        | (refine wpT_take 15 rfl rfl (by decide +kernel) ⟨fun _ => ⟨kc, ks, ko⟩, trivial⟩ ?_; apply Exists.intro; refine ⟨?_, ?_⟩; intro w hw; (have qa := hw.1 (Nat.le_refl _); have qb := hw.2); ((go_simp <;> rfl)); simp only [Act.put, List.setIfInBounds_toArray, List.set_cons_zero, List.set_cons_succ])
        | (refine wpT_skip rfl rfl ?_; simp only [Act.put, List.setIfInBounds_toArray, List.set_cons_zero, List.set_cons_succ])
      refine wpT_op rfl ?_
      go_wp2_with ((go_at_call 58; refine HA.out.mono ?_; rintro e w5 ⟨rfl, f5⟩))
      (refine ⟨?_, ?_⟩; focus (intro kz hk hk2; rintro ⟨qa, qb⟩; first | (exfalso; simp at hk2; omega) | exact ⟨qa, qb⟩ | (refine ⟨fun h => absurd h (by omega), ?_⟩; first | exact qb | (exact ⟨cell_fr qa.1 f5 (fun h => h), cell_fr qa.2.1 f5 (fun h => h), cell_fr qa.2.2 f5 (fun h => h)⟩)) | (refine ⟨fun h => ?_, ?_⟩; (have qa := qa h); all_goals (first | exact qa | exact qb | (exact ⟨cell_fr qa.1 f5 (fun h => h), cell_fr qa.2.1 f5 (fun h => h), cell_fr qa.2.2 f5 (fun h => h)⟩)))))
      have F5 := (Fr.refl (fun _ => False) Wb).drew.trans f5 (fun _ h _ => h)
      have hs5 := F5.size
      have kc5 := cell_fr kc F5 (fun h => h)
      have ks5 := cell_fr ks F5 (fun h => h)
      have ko5 := cell_fr ko F5 (fun h => h)
      repeat
        first
        | (refine wpT_pure rfl rfl rfl ?_; apply Exists.intro; refine ⟨?_, ?_⟩; intro w; ((go_simp <;> rfl)); simp only [Act.put, List.setIfInBounds_toArray, List.set_cons_zero, List.set_cons_succ])
        | (refine wpT_take 15 rfl rfl (by decide +kernel) ⟨fun _ => ⟨kc5, ks5, ko5⟩, trivial⟩ ?_; apply Exists.intro; refine ⟨?_, ?_⟩; intro w hw; (have qa := hw.1 (Nat.le_refl _); have qb := hw.2); ((go_simp <;> rfl)); simp only [Act.put, List.setIfInBounds_toArray, List.set_cons_zero, List.set_cons_succ])
        | (refine wpT_skip rfl rfl ?_; simp only [Act.put, List.setIfInBounds_toArray, List.set_cons_zero, List.set_cons_succ])
      have F6 := F5.alloc (.cells #[Value.int .u8 (m.st (xat m.low i)), .int .u8 (m.above (xat m.low i))] 5)
      have kc6 := cell_fr kc F6 (fun h => h)
      have ks6 := cell_fr ks F6 (fun h => h)
      have ko6 := cell_fr ko F6 (fun h => h)
      refine wpT_op rfl ?_
      go_wp2_with (fail)
      (refine ⟨?_, ?_⟩; focus (intro kz hk hk2; rintro ⟨qa, qb⟩; first | (exfalso; simp at hk2; omega) | exact ⟨qa, qb⟩ | (refine ⟨fun h => absurd h (by omega), ?_⟩; first | exact qb | (exact ⟨kc6, ks6, ko6⟩)) | (refine ⟨fun h => ?_, ?_⟩; (have qa := qa h); all_goals (first | exact qa | exact qb | (exact ⟨kc6, ks6, ko6⟩)))))
      have hsrc : Src Try.prog (w5.alloc (.cells #[Value.int .u8 (m.st (xat m.low i)), .int .u8 (m.above (xat m.low i))] 5)) 1 (.slice (some ⟨w5.heap.size, 0, none⟩) 2 2) 2 [Value.int .u8 (m.st (xat m.low i)), .int .u8 (m.above (xat m.low i))] := Src.slice (by simp) (by simp [Value.oneCell']) (Blk.new w5 [Value.int .u8 (m.st (xat m.low i)), .int .u8 (m.above (xat m.low i))] 5).all
      have ho := own_fr ROW.out.own F6 (fun _ _ h => h)
      have hcne : ∀ k', (Value.slice va (m.bytesN i).length vc).ownBlock = some k' → k' ≠ c := ownsRow_ne HC.out (by decide) ROW.out.own
      have hb0 := HB.out
      have hlt3 := HLT.out
      have h5n : w.heap.size ≤ w5.heap.size := by have := INV.out.fr.size; omega
      refine wpT_op rfl ?_
      go_wp2_with ((refine wpList_append rfl (s := .tmp 21) (x := .tmp 34) (t := 64) (tx := 64) rfl Try.underlying64 Try.underlying64 (.inr ⟨_, rfl⟩) Try.info_u8 rfl rfl rfl ho hsrc (by omega) (by omega) ?_; intro ab ac wg hown hg hat; (obtain ⟨row', fg⟩ := BRow.app ROW.out F6 h5n hown hg hat HSU.out hst4 hab); clear hown hg hat))
      (refine ⟨?_, ?_⟩; focus (intro kz hk hk2; rintro ⟨qa, qb⟩; first | (exfalso; simp at hk2; omega) | exact ⟨qa, qb⟩ | (refine ⟨fun h => absurd h (by omega), ?_⟩; first | exact qb | (exact ⟨cell_fr kc fg (fun h => HNEB.out _ h hb0.symm), cell_fr ks fg (fun h => hcne _ h rfl), cell_fr ko fg (fun h => HNE3.out _ h rfl)⟩)) | (refine ⟨fun h => ?_, ?_⟩; (have qa := qa h); all_goals (first | exact qa | exact qb | (exact ⟨cell_fr kc fg (fun h => HNEB.out _ h hb0.symm), cell_fr ks fg (fun h => hcne _ h rfl), cell_fr ko fg (fun h => HNE3.out _ h rfl)⟩)))))
      have b3g := BO.out.fr fg (fun h => HNE3.out _ h rfl)
      have k3 : wg.cell? ⟨b3, 0, none⟩ = some (.slice va (m.bytesN i).length vc) := b3g.cell 0
      have z3 : wg.frozen? ⟨b3, 0, none⟩ = false := b3g.frozen 0
      have HAT := hid row'.2
      have ROW2 := hid row'.1
      have FG := hid fg
      have B3G := hid b3g
      clear row' fg b3g ho hsrc F6 kc6 ks6 ko6 kc5 ks5 ko5 f5 F5 hcne
      refine wpT_op rfl ?_
      go_wp2_with (fail)
      (refine ⟨?_, ?_⟩; focus (intro kz hk hk2; rintro ⟨qa, qb⟩; first | (exfalso; simp at hk2; omega) | exact ⟨qa, qb⟩ | (refine ⟨fun h => absurd h (by omega), ?_⟩; first | exact qb | (exact qa)) | (refine ⟨fun h => ?_, ?_⟩; (have qa := qa h); all_goals (first | exact qa | exact qb | (exact qa)))))
      refine wpT_nil ?_
      have f2 := (Fr.refl (fun k => k = b3) wg).setCell ⟨b3, 0, none⟩ (.slice ab ((m.bytesN i).length + 2) ac) (fun _ => rfl)
      have f3 := (FG.out.mono (T := fun k => (Value.slice va (m.bytesN i).length vc).ownBlock = some k ∨ k = b3) (fun k h _ => .inl h)).trans f2 (fun k h _ => .inr h)
      obtain ⟨f0, bc, -, bi, hge, hlt2⟩ := INV.out
      gi_wp2
      refine ⟨?_, f3.mono fun k hk _ => ?_⟩
      · show BytInv w _ c b3 p m (i + 1)
        refine ⟨f0.trans f3 ?_, bc.fr f3 ?_, ⟨_, B3G.out.set 0 _, ⟨own_fr ROW2.out.own f2 ?_, ROW2.out.new⟩, ?_⟩, bi.fr f3 ?_, hge, hlt2⟩
        · rintro k (h | h) hl
          · have := ROW.out.new k h
            omega
          · omega
        · rintro (h | h)
          · exact HNEB.out _ h rfl
          · omega
        · intro k hk h
          rcases HAT.out k hk with h' | h'
          · exact HNE3.out k h' h
          · omega
        · intro k hk
          rcases HAT.out k hk with h' | h'
          · exact HOFF.out k h'
          · omega
        · rintro (h | h)
          · exact HNEP.out _ h rfl
          · omega
      · rcases hk with hk | hk
        · exact HOFF.out k hk
        · omega
    · rw [HZ.out]
      intro W1 inv hD
      obtain ⟨f0, bc, ⟨v, bo, row, hoff⟩, bi, hge, hlt2⟩ := inv
      rw [m.bytesN_all] at row
      obtain ⟨va, vc, rfl, hvc⟩ := own_slice row.own
      have ko : W1.cell? ⟨b3, 0, none⟩ = some (.slice va m.bytes.length vc) := bo.cell 0
      have hlen := m.bytes_length
      have hconv : (convert 64 9 (.slice va m.bytes.length vc)).run Try.prog W1 = .ok (.string (bs m.bytes)) W1 := by
        obtain ⟨a, q, hs, -, hr⟩ := own_sl (R := fun _ => True) row.own (fun _ _ => trivial)
        obtain ⟨rfl, rfl⟩ : va = a ∧ vc = q := by simpa using hs
        obtain ⟨g, o, rfl, -, hr⟩ := hr (by intro h; have h0 : (bv m.bytes).length = 0 := congrArg List.length h; rw [bv_length] at h0; omega)
        exact run_bytes_string hr Try.underlying64 Try.underlying5 Try.underlying9 _ _ rfl
      have HFIN := hid (f0.putObj (p + 1) (.deferred none) (fun h => absurd h (by omega)))
      have HD := hid hD
      clear f0 bc bo row hoff bi INV0 hD hlen
      go_wp2_with (fail)
      exact leavesM_one HD.out (by simp [results, Try.results41, go_sem]) ⟨rfl, HFIN.out⟩
end Go.Proofs.Ytbkebjgoaeddjaa
