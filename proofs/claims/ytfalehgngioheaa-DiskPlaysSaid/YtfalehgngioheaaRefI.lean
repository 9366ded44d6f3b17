import Derived.Test.YtfalehgngioheaaRefH
/- The reference's disk: a call on it (R.Do). -/
set_option linter.unusedVariables false
namespace Go.Proofs.Ytfalehgngioheaa
open Go.RowKit Go.VB Go.VB.Disk
theorem RRep.grow {S S' : Nat → Prop} {w : World} {d : Nat} {m : DM} {pv : Value} {wv : List Value} (h : RRep S w d m pv wv) (hs : ∀ k, S k → S' k) (hl : ∀ k, S' k → k < w.heap.size) : RRep S' w d m pv wv :=
  ⟨hs d h.sd, hl, h.b, h.own, fun k hk => hs k (h.reg k hk), h.len, fun i p v hp hv => ⟨(h.ws i p v hp hv).1, fun k hk => hs k ((h.ws i p v hp hv).2 k hk)⟩, h.ne⟩
variable {S : Nat → Prop} {w : World} {d : Nat} {m : DM} {pv : Value} {wv : List Value}
/-- the operation ran behind the two boxes; then the result was laid into the second box -/
theorem ROut.close {w0 w1 w2 : World} {m' : DM} (hlt : ∀ k, S k → k < w.heap.size) (f0 : Fr (fun _ => False) w w0) (hb : w.heap.size + 1 < w0.heap.size) (h : ROut S w0 w1 d m') (f : Fr (fun k => k = w.heap.size + 1) w1 w2) : ROut S w w2 d m' := by
  obtain ⟨pv, wv, hr⟩ := h.rep
  have s0 := f0.size
  have s1 := h.fr.size
  have s2 := f.size
  have ne : ∀ k, Ext S w0 w1 k → ¬ k = w.heap.size + 1 := by
    rintro k (hk | ⟨hk, -⟩) rfl
    · have := hlt _ hk
      omega
    · omega
  refine ⟨⟨pv, wv, (hr.fr f ne).grow ?_ ?_⟩, ?_⟩
  · rintro k (hk | ⟨hk, hk2⟩)
    · exact .inl hk
    · exact .inr ⟨by omega, by omega⟩
  · rintro k (hk | ⟨hk, hk2⟩)
    · have := hlt k hk
      omega
    · exact hk2
  · exact ((f0.mono (fun _ h _ => h.elim)).trans h.fr (fun _ h _ => h)).trans f (fun i hi h => by omega)
theorem tmod9 (x : Int) : x.tmod 9 % 9 = x % 9 := by
  have h1 := Int.tmod_lt_of_pos x (show (0:Int) < 9 by omega)
  have h2 : -9 < x.tmod 9 := Int.lt_tmod_of_pos x (by omega)
  have h3 := tmod_fix x 9 (by omega)
  rw [Int.tmod_eq_emod_of_nonneg (by omega), Int.add_emod_right] at h3
  exact h3
theorem mid1 (v u : Value) (a b : Value) : (([v, u] : List Value).take 0 ++ [a, b] ++ [v, u].drop (0 + 2)) = [a, b] := rfl
set_option maxHeartbeats 2000000 in
theorem rdo_sync {kk : Nat} (h : RRep S w d m pv wv) (hlen : m.pages.length ≤ 400) (ok : m.Ok kk) (hkk : kk ≤ 1000000) (kind n : Int) (s : Bytes) (hs : s.length ≤ 1000000) {R : Nat → Prop} {vq : Value} {q : List Int} (hq : QRep R w vq q) (hR : ∀ k, R k → ¬ S k) (hql : q.length ≤ 9223372036854775807) (hk : kind % 9 = 1) :
    Calls Try.prog 33 #[.pointer (some ⟨d, 0, none⟩), .agg #[.int .i64 kind, .int .i64 n, .string (bs s), vq]] w fun e w' =>
      e = .returned (.agg #[.string (bs []), .int .i64 m.sync.2]) ∧ ROut S w w' d m.sync.1 := by
  have e1 := tmod9 kind
  have e2 := Int.tmod_lt_of_pos kind (show (0:Int) < 9 by omega)
  have e3 : -9 < kind.tmod 9 := Int.lt_tmod_of_pos kind (by omega)
  rw [hk] at e1
  clear hk
  have F0 := (Fr.refl (fun _ => False) w).alloc (.cells [Value.int .i64 kind, .int .i64 n, .string (bs s), vq].toArray 52) |>.alloc (.cells [Value.string ⟨#[]⟩, .int .i64 0].toArray 62)
  have B1 := Blk.new (w.alloc (.cells [Value.int .i64 kind, .int .i64 n, .string (bs s), vq].toArray 52)) [Value.string ⟨#[]⟩, .int .i64 0] 62
  have hb : w.heap.size + 1 < ((w.alloc (.cells [Value.int .i64 kind, .int .i64 n, .string (bs s), vq].toArray 52)).alloc (.cells [Value.string ⟨#[]⟩, .int .i64 0].toArray 62)).heap.size := by simp
  have hbe : (w.alloc (.cells [Value.int .i64 kind, .int .i64 n, .string (bs s), vq].toArray 52)).heap.size = w.heap.size + 1 := by simp
  rw [hbe] at B1
  clear hbe
  have HQ := hid (hq.fr F0 (fun _ _ h => h))
  have H0 := hid (h.fr F0 (fun _ _ h => h))
  have HB := hid B1
  have HF := hid F0
  have HN := hid hb
  have HL := hid h.lt
  have HR := hid hR
  have HOK := hid ok
  have hlg := ok.log
  have hfl := ok.fl
  clear B1 F0 hb h hq hR ok
  have hz : bs [] = ⟨#[]⟩ := rfl
  try rw [hz]
  clear hz
  go_enter Try.func33, Try.ntmps33
  go_wp2_with (fail)
  generalize (w.alloc (.cells #[Value.int .i64 kind, .int .i64 n, .string (bs s), vq] 52)).alloc (.cells #[Value.string ⟨#[]⟩, .int .i64 0] 62) = w0 at *
  refine (Sync_ref H0.out hlen HOK.out hkk).mono ?_
  rintro e w1 ⟨rfl, ro⟩
  have ro : ROut S w0 w1 d m.sync.1 := ro
  have B2 : Blk w1 (w.heap.size + 1) [Value.string ⟨#[]⟩, .int .i64 0] 62 := HB.out.fr ro.fr (fun h => by have := HL.out _ h; omega)
  have hTh := B2.there 0 2 (by simp)
  have RO := hid ro
  have HB2 := hid B2
  clear ro B2
  go_wp2_with (first | (refine wpList_store_mid rfl 62 _ _ rfl (w.heap.size + 1) 0 _ rfl rfl hTh Try.size_got (by simp [Value.oneCell']) ?_; rw [List.toList_toArray]) | fail)
  have B3 : Blk (w1.setCells (w.heap.size + 1) 0 [.string ⟨#[]⟩, .int .i64 m.sync.2]) (w.heap.size + 1) [.string ⟨#[]⟩, .int .i64 m.sync.2] 62 := HB2.out.put 0 [.string ⟨#[]⟩, .int .i64 m.sync.2] (by simp)
  have f3 : Fr (fun k => k = w.heap.size + 1) w1 (w1.setCells (w.heap.size + 1) 0 [.string ⟨#[]⟩, .int .i64 m.sync.2]) := (Fr.refl _ w1).put _ _ _ (fun _ => rfl)
  generalize w1.setCells (w.heap.size + 1) 0 [.string ⟨#[]⟩, .int .i64 m.sync.2] = w2 at *
  have c0 : w2.cell? ⟨w.heap.size + 1, 0, none⟩ = some (.string ⟨#[]⟩) := B3.cell 0
  have c1 : w2.cell? ⟨w.heap.size + 1, 1, none⟩ = some (.int .i64 m.sync.2) := B3.cell 1
  exact bodyPost_ret (v := .agg #[.string ⟨#[]⟩, .int .i64 m.sync.2]) (by simp [results, Try.results33, go_sem, c0, c1]) rfl ⟨rfl, RO.out.close HL.out HF.out HN.out f3⟩
set_option maxHeartbeats 2000000 in
theorem rdo_append {kk : Nat} (h : RRep S w d m pv wv) (hlen : m.pages.length ≤ 400) (ok : m.Ok kk) (hkk : kk ≤ 1000000) (kind n : Int) (s : Bytes) (hs : s.length ≤ 1000000) {R : Nat → Prop} {vq : Value} {q : List Int} (hq : QRep R w vq q) (hR : ∀ k, R k → ¬ S k) (hql : q.length ≤ 9223372036854775807) (hk : kind % 9 = 2) :
    Calls Try.prog 33 #[.pointer (some ⟨d, 0, none⟩), .agg #[.int .i64 kind, .int .i64 n, .string (bs s), vq]] w fun e w' =>
      e = .returned (.agg #[.string (bs []), .int .i64 (m.append s).2]) ∧ ROut S w w' d (m.append s).1 := by
  have e1 := tmod9 kind
  have e2 := Int.tmod_lt_of_pos kind (show (0:Int) < 9 by omega)
  have e3 : -9 < kind.tmod 9 := Int.lt_tmod_of_pos kind (by omega)
  rw [hk] at e1
  clear hk
  have F0 := (Fr.refl (fun _ => False) w).alloc (.cells [Value.int .i64 kind, .int .i64 n, .string (bs s), vq].toArray 52) |>.alloc (.cells [Value.string ⟨#[]⟩, .int .i64 0].toArray 62)
  have B1 := Blk.new (w.alloc (.cells [Value.int .i64 kind, .int .i64 n, .string (bs s), vq].toArray 52)) [Value.string ⟨#[]⟩, .int .i64 0] 62
  have hb : w.heap.size + 1 < ((w.alloc (.cells [Value.int .i64 kind, .int .i64 n, .string (bs s), vq].toArray 52)).alloc (.cells [Value.string ⟨#[]⟩, .int .i64 0].toArray 62)).heap.size := by simp
  have hbe : (w.alloc (.cells [Value.int .i64 kind, .int .i64 n, .string (bs s), vq].toArray 52)).heap.size = w.heap.size + 1 := by simp
  rw [hbe] at B1
  clear hbe
  have HQ := hid (hq.fr F0 (fun _ _ h => h))
  have H0 := hid (h.fr F0 (fun _ _ h => h))
  have HB := hid B1
  have HF := hid F0
  have HN := hid hb
  have HL := hid h.lt
  have HR := hid hR
  have HOK := hid ok
  have hlg := ok.log
  have hfl := ok.fl
  clear B1 F0 hb h hq hR ok
  have hz : bs [] = ⟨#[]⟩ := rfl
  try rw [hz]
  clear hz
  go_enter Try.func33, Try.ntmps33
  go_wp2_with (fail)
  generalize (w.alloc (.cells #[Value.int .i64 kind, .int .i64 n, .string (bs s), vq] 52)).alloc (.cells #[Value.string ⟨#[]⟩, .int .i64 0] 62) = w0 at *
  refine (Append_ref H0.out s hs hlg).mono ?_
  rintro e w1 ⟨rfl, r, f⟩
  have ro : ROut S w0 w1 d (m.append s).1 := ROut.of r f
  have B2 : Blk w1 (w.heap.size + 1) [Value.string ⟨#[]⟩, .int .i64 0] 62 := HB.out.fr ro.fr (fun h => by have := HL.out _ h; omega)
  have hTh := B2.there 0 2 (by simp)
  have RO := hid ro
  have HB2 := hid B2
  clear ro B2
  go_wp2_with (first | (refine wpList_store_mid rfl 62 _ _ rfl (w.heap.size + 1) 0 _ rfl rfl hTh Try.size_got (by simp [Value.oneCell']) ?_; rw [List.toList_toArray]) | fail)
  have B3 : Blk (w1.setCells (w.heap.size + 1) 0 [.string ⟨#[]⟩, .int .i64 (m.append s).2]) (w.heap.size + 1) [.string ⟨#[]⟩, .int .i64 (m.append s).2] 62 := HB2.out.put 0 [.string ⟨#[]⟩, .int .i64 (m.append s).2] (by simp)
  have f3 : Fr (fun k => k = w.heap.size + 1) w1 (w1.setCells (w.heap.size + 1) 0 [.string ⟨#[]⟩, .int .i64 (m.append s).2]) := (Fr.refl _ w1).put _ _ _ (fun _ => rfl)
  generalize w1.setCells (w.heap.size + 1) 0 [.string ⟨#[]⟩, .int .i64 (m.append s).2] = w2 at *
  have c0 : w2.cell? ⟨w.heap.size + 1, 0, none⟩ = some (.string ⟨#[]⟩) := B3.cell 0
  have c1 : w2.cell? ⟨w.heap.size + 1, 1, none⟩ = some (.int .i64 (m.append s).2) := B3.cell 1
  exact bodyPost_ret (v := .agg #[.string ⟨#[]⟩, .int .i64 (m.append s).2]) (by simp [results, Try.results33, go_sem, c0, c1]) rfl ⟨rfl, RO.out.close HL.out HF.out HN.out f3⟩
set_option maxHeartbeats 2000000 in
theorem rdo_flush {kk : Nat} (h : RRep S w d m pv wv) (hlen : m.pages.length ≤ 400) (ok : m.Ok kk) (hkk : kk ≤ 1000000) (kind n : Int) (s : Bytes) (hs : s.length ≤ 1000000) {R : Nat → Prop} {vq : Value} {q : List Int} (hq : QRep R w vq q) (hR : ∀ k, R k → ¬ S k) (hql : q.length ≤ 9223372036854775807) (hk : kind % 9 = 3) :
    Calls Try.prog 33 #[.pointer (some ⟨d, 0, none⟩), .agg #[.int .i64 kind, .int .i64 n, .string (bs s), vq]] w fun e w' =>
      e = .returned (.agg #[.string (bs []), .int .i64 m.flush.2]) ∧ ROut S w w' d m.flush.1 := by
  have e1 := tmod9 kind
  have e2 := Int.tmod_lt_of_pos kind (show (0:Int) < 9 by omega)
  have e3 : -9 < kind.tmod 9 := Int.lt_tmod_of_pos kind (by omega)
  rw [hk] at e1
  clear hk
  have F0 := (Fr.refl (fun _ => False) w).alloc (.cells [Value.int .i64 kind, .int .i64 n, .string (bs s), vq].toArray 52) |>.alloc (.cells [Value.string ⟨#[]⟩, .int .i64 0].toArray 62)
  have B1 := Blk.new (w.alloc (.cells [Value.int .i64 kind, .int .i64 n, .string (bs s), vq].toArray 52)) [Value.string ⟨#[]⟩, .int .i64 0] 62
  have hb : w.heap.size + 1 < ((w.alloc (.cells [Value.int .i64 kind, .int .i64 n, .string (bs s), vq].toArray 52)).alloc (.cells [Value.string ⟨#[]⟩, .int .i64 0].toArray 62)).heap.size := by simp
  have hbe : (w.alloc (.cells [Value.int .i64 kind, .int .i64 n, .string (bs s), vq].toArray 52)).heap.size = w.heap.size + 1 := by simp
  rw [hbe] at B1
  clear hbe
  have HQ := hid (hq.fr F0 (fun _ _ h => h))
  have H0 := hid (h.fr F0 (fun _ _ h => h))
  have HB := hid B1
  have HF := hid F0
  have HN := hid hb
  have HL := hid h.lt
  have HR := hid hR
  have HOK := hid ok
  have hlg := ok.log
  have hfl := ok.fl
  clear B1 F0 hb h hq hR ok
  have hz : bs [] = ⟨#[]⟩ := rfl
  try rw [hz]
  clear hz
  go_enter Try.func33, Try.ntmps33
  go_wp2_with (fail)
  generalize (w.alloc (.cells #[Value.int .i64 kind, .int .i64 n, .string (bs s), vq] 52)).alloc (.cells #[Value.string ⟨#[]⟩, .int .i64 0] 62) = w0 at *
  refine (Flush_ref H0.out).mono ?_
  rintro e w1 ⟨rfl, r, f⟩
  have ro : ROut S w0 w1 d m.flush.1 := ROut.of r f
  have B2 : Blk w1 (w.heap.size + 1) [Value.string ⟨#[]⟩, .int .i64 0] 62 := HB.out.fr ro.fr (fun h => by have := HL.out _ h; omega)
  have hTh := B2.there 0 2 (by simp)
  have RO := hid ro
  have HB2 := hid B2
  clear ro B2
  go_wp2_with (first | (refine wpList_store_mid rfl 62 _ _ rfl (w.heap.size + 1) 0 _ rfl rfl hTh Try.size_got (by simp [Value.oneCell']) ?_; rw [List.toList_toArray]) | fail)
  have B3 : Blk (w1.setCells (w.heap.size + 1) 0 [.string ⟨#[]⟩, .int .i64 m.flush.2]) (w.heap.size + 1) [.string ⟨#[]⟩, .int .i64 m.flush.2] 62 := HB2.out.put 0 [.string ⟨#[]⟩, .int .i64 m.flush.2] (by simp)
  have f3 : Fr (fun k => k = w.heap.size + 1) w1 (w1.setCells (w.heap.size + 1) 0 [.string ⟨#[]⟩, .int .i64 m.flush.2]) := (Fr.refl _ w1).put _ _ _ (fun _ => rfl)
  generalize w1.setCells (w.heap.size + 1) 0 [.string ⟨#[]⟩, .int .i64 m.flush.2] = w2 at *
  have c0 : w2.cell? ⟨w.heap.size + 1, 0, none⟩ = some (.string ⟨#[]⟩) := B3.cell 0
  have c1 : w2.cell? ⟨w.heap.size + 1, 1, none⟩ = some (.int .i64 m.flush.2) := B3.cell 1
  exact bodyPost_ret (v := .agg #[.string ⟨#[]⟩, .int .i64 m.flush.2]) (by simp [results, Try.results33, go_sem, c0, c1]) rfl ⟨rfl, RO.out.close HL.out HF.out HN.out f3⟩
set_option maxHeartbeats 2000000 in
theorem rdo_read {kk : Nat} (h : RRep S w d m pv wv) (hlen : m.pages.length ≤ 400) (ok : m.Ok kk) (hkk : kk ≤ 1000000) (kind n : Int) (s : Bytes) (hs : s.length ≤ 1000000) {R : Nat → Prop} {vq : Value} {q : List Int} (hq : QRep R w vq q) (hR : ∀ k, R k → ¬ S k) (hql : q.length ≤ 9223372036854775807) (hk : kind % 9 = 4) :
    Calls Try.prog 33 #[.pointer (some ⟨d, 0, none⟩), .agg #[.int .i64 kind, .int .i64 n, .string (bs s), vq]] w fun e w' =>
      e = .returned (.agg #[.string ((bs (m.read n).1)), .int .i64 (m.read n).2]) ∧ ROut S w w' d m := by
  have e1 := tmod9 kind
  have e2 := Int.tmod_lt_of_pos kind (show (0:Int) < 9 by omega)
  have e3 : -9 < kind.tmod 9 := Int.lt_tmod_of_pos kind (by omega)
  rw [hk] at e1
  clear hk
  have F0 := (Fr.refl (fun _ => False) w).alloc (.cells [Value.int .i64 kind, .int .i64 n, .string (bs s), vq].toArray 52) |>.alloc (.cells [Value.string ⟨#[]⟩, .int .i64 0].toArray 62)
  have B1 := Blk.new (w.alloc (.cells [Value.int .i64 kind, .int .i64 n, .string (bs s), vq].toArray 52)) [Value.string ⟨#[]⟩, .int .i64 0] 62
  have hb : w.heap.size + 1 < ((w.alloc (.cells [Value.int .i64 kind, .int .i64 n, .string (bs s), vq].toArray 52)).alloc (.cells [Value.string ⟨#[]⟩, .int .i64 0].toArray 62)).heap.size := by simp
  have hbe : (w.alloc (.cells [Value.int .i64 kind, .int .i64 n, .string (bs s), vq].toArray 52)).heap.size = w.heap.size + 1 := by simp
  rw [hbe] at B1
  clear hbe
  have HQ := hid (hq.fr F0 (fun _ _ h => h))
  have H0 := hid (h.fr F0 (fun _ _ h => h))
  have HB := hid B1
  have HF := hid F0
  have HN := hid hb
  have HL := hid h.lt
  have HR := hid hR
  have HOK := hid ok
  have hlg := ok.log
  have hfl := ok.fl
  clear B1 F0 hb h hq hR ok
  have hz : bs [] = ⟨#[]⟩ := rfl
  try rw [hz]
  clear hz
  go_enter Try.func33, Try.ntmps33
  go_wp2_with (fail)
  generalize (w.alloc (.cells #[Value.int .i64 kind, .int .i64 n, .string (bs s), vq] 52)).alloc (.cells #[Value.string ⟨#[]⟩, .int .i64 0] 62) = w0 at *
  refine (Read_ref H0.out n hlen HOK.out hkk).mono ?_
  rintro e w1 ⟨rfl, f⟩
  have ro : ROut S w0 w1 d m := ROut.same H0.out f
  have B2 : Blk w1 (w.heap.size + 1) [Value.string ⟨#[]⟩, .int .i64 0] 62 := HB.out.fr ro.fr (fun h => by have := HL.out _ h; omega)
  have hTh := B2.there 0 2 (by simp)
  have RO := hid ro
  have HB2 := hid B2
  clear ro B2
  go_wp2_with (first | (refine wpList_store_mid rfl 62 _ _ rfl (w.heap.size + 1) 0 _ rfl rfl hTh Try.size_got (by simp [Value.oneCell']) ?_; rw [List.toList_toArray]) | fail)
  have B3 : Blk (w1.setCells (w.heap.size + 1) 0 [.string (bs (m.read n).1), .int .i64 (m.read n).2]) (w.heap.size + 1) [.string (bs (m.read n).1), .int .i64 (m.read n).2] 62 := HB2.out.put 0 [.string (bs (m.read n).1), .int .i64 (m.read n).2] (by simp)
  have f3 : Fr (fun k => k = w.heap.size + 1) w1 (w1.setCells (w.heap.size + 1) 0 [.string (bs (m.read n).1), .int .i64 (m.read n).2]) := (Fr.refl _ w1).put _ _ _ (fun _ => rfl)
  generalize w1.setCells (w.heap.size + 1) 0 [.string (bs (m.read n).1), .int .i64 (m.read n).2] = w2 at *
  have c0 : w2.cell? ⟨w.heap.size + 1, 0, none⟩ = some (.string (bs (m.read n).1)) := B3.cell 0
  have c1 : w2.cell? ⟨w.heap.size + 1, 1, none⟩ = some (.int .i64 (m.read n).2) := B3.cell 1
  exact bodyPost_ret (v := .agg #[.string (bs (m.read n).1), .int .i64 (m.read n).2]) (by simp [results, Try.results33, go_sem, c0, c1]) rfl ⟨rfl, RO.out.close HL.out HF.out HN.out f3⟩
set_option maxHeartbeats 2000000 in
theorem rdo_safe {kk : Nat} (h : RRep S w d m pv wv) (hlen : m.pages.length ≤ 400) (ok : m.Ok kk) (hkk : kk ≤ 1000000) (kind n : Int) (s : Bytes) (hs : s.length ≤ 1000000) {R : Nat → Prop} {vq : Value} {q : List Int} (hq : QRep R w vq q) (hR : ∀ k, R k → ¬ S k) (hql : q.length ≤ 9223372036854775807) (hk : kind % 9 = 5) :
    Calls Try.prog 33 #[.pointer (some ⟨d, 0, none⟩), .agg #[.int .i64 kind, .int .i64 n, .string (bs s), vq]] w fun e w' =>
      e = .returned (.agg #[.string ((bs (m.safeOf n).1)), .int .i64 (m.safeOf n).2]) ∧ ROut S w w' d m := by
  have e1 := tmod9 kind
  have e2 := Int.tmod_lt_of_pos kind (show (0:Int) < 9 by omega)
  have e3 : -9 < kind.tmod 9 := Int.lt_tmod_of_pos kind (by omega)
  rw [hk] at e1
  clear hk
  have F0 := (Fr.refl (fun _ => False) w).alloc (.cells [Value.int .i64 kind, .int .i64 n, .string (bs s), vq].toArray 52) |>.alloc (.cells [Value.string ⟨#[]⟩, .int .i64 0].toArray 62)
  have B1 := Blk.new (w.alloc (.cells [Value.int .i64 kind, .int .i64 n, .string (bs s), vq].toArray 52)) [Value.string ⟨#[]⟩, .int .i64 0] 62
  have hb : w.heap.size + 1 < ((w.alloc (.cells [Value.int .i64 kind, .int .i64 n, .string (bs s), vq].toArray 52)).alloc (.cells [Value.string ⟨#[]⟩, .int .i64 0].toArray 62)).heap.size := by simp
  have hbe : (w.alloc (.cells [Value.int .i64 kind, .int .i64 n, .string (bs s), vq].toArray 52)).heap.size = w.heap.size + 1 := by simp
  rw [hbe] at B1
  clear hbe
  have HQ := hid (hq.fr F0 (fun _ _ h => h))
  have H0 := hid (h.fr F0 (fun _ _ h => h))
  have HB := hid B1
  have HF := hid F0
  have HN := hid hb
  have HL := hid h.lt
  have HR := hid hR
  have HOK := hid ok
  have hlg := ok.log
  have hfl := ok.fl
  clear B1 F0 hb h hq hR ok
  have hz : bs [] = ⟨#[]⟩ := rfl
  try rw [hz]
  clear hz
  go_enter Try.func33, Try.ntmps33
  go_wp2_with (fail)
  generalize (w.alloc (.cells #[Value.int .i64 kind, .int .i64 n, .string (bs s), vq] 52)).alloc (.cells #[Value.string ⟨#[]⟩, .int .i64 0] 62) = w0 at *
  refine (Safe_ref H0.out n hlen).mono ?_
  rintro e w1 ⟨rfl, f⟩
  have ro : ROut S w0 w1 d m := ROut.same H0.out f
  have B2 : Blk w1 (w.heap.size + 1) [Value.string ⟨#[]⟩, .int .i64 0] 62 := HB.out.fr ro.fr (fun h => by have := HL.out _ h; omega)
  have hTh := B2.there 0 2 (by simp)
  have RO := hid ro
  have HB2 := hid B2
  clear ro B2
  go_wp2_with (first | (refine wpList_store_mid rfl 62 _ _ rfl (w.heap.size + 1) 0 _ rfl rfl hTh Try.size_got (by simp [Value.oneCell']) ?_; rw [List.toList_toArray]) | fail)
  have B3 : Blk (w1.setCells (w.heap.size + 1) 0 [.string (bs (m.safeOf n).1), .int .i64 (m.safeOf n).2]) (w.heap.size + 1) [.string (bs (m.safeOf n).1), .int .i64 (m.safeOf n).2] 62 := HB2.out.put 0 [.string (bs (m.safeOf n).1), .int .i64 (m.safeOf n).2] (by simp)
  have f3 : Fr (fun k => k = w.heap.size + 1) w1 (w1.setCells (w.heap.size + 1) 0 [.string (bs (m.safeOf n).1), .int .i64 (m.safeOf n).2]) := (Fr.refl _ w1).put _ _ _ (fun _ => rfl)
  generalize w1.setCells (w.heap.size + 1) 0 [.string (bs (m.safeOf n).1), .int .i64 (m.safeOf n).2] = w2 at *
  have c0 : w2.cell? ⟨w.heap.size + 1, 0, none⟩ = some (.string (bs (m.safeOf n).1)) := B3.cell 0
  have c1 : w2.cell? ⟨w.heap.size + 1, 1, none⟩ = some (.int .i64 (m.safeOf n).2) := B3.cell 1
  exact bodyPost_ret (v := .agg #[.string (bs (m.safeOf n).1), .int .i64 (m.safeOf n).2]) (by simp [results, Try.results33, go_sem, c0, c1]) rfl ⟨rfl, RO.out.close HL.out HF.out HN.out f3⟩
set_option maxHeartbeats 2000000 in
theorem rdo_arm {kk : Nat} (h : RRep S w d m pv wv) (hlen : m.pages.length ≤ 400) (ok : m.Ok kk) (hkk : kk ≤ 1000000) (kind n : Int) (s : Bytes) (hs : s.length ≤ 1000000) {R : Nat → Prop} {vq : Value} {q : List Int} (hq : QRep R w vq q) (hR : ∀ k, R k → ¬ S k) (hql : q.length ≤ 9223372036854775807) (hk : kind % 9 = 6) :
    Calls Try.prog 33 #[.pointer (some ⟨d, 0, none⟩), .agg #[.int .i64 kind, .int .i64 n, .string (bs s), vq]] w fun e w' =>
      e = .returned (.agg #[.string (bs []), .int .i64 0]) ∧ ROut S w w' d (m.arm n) := by
  have e1 := tmod9 kind
  have e2 := Int.tmod_lt_of_pos kind (show (0:Int) < 9 by omega)
  have e3 : -9 < kind.tmod 9 := Int.lt_tmod_of_pos kind (by omega)
  rw [hk] at e1
  clear hk
  have F0 := (Fr.refl (fun _ => False) w).alloc (.cells [Value.int .i64 kind, .int .i64 n, .string (bs s), vq].toArray 52) |>.alloc (.cells [Value.string ⟨#[]⟩, .int .i64 0].toArray 62)
  have B1 := Blk.new (w.alloc (.cells [Value.int .i64 kind, .int .i64 n, .string (bs s), vq].toArray 52)) [Value.string ⟨#[]⟩, .int .i64 0] 62
  have hb : w.heap.size + 1 < ((w.alloc (.cells [Value.int .i64 kind, .int .i64 n, .string (bs s), vq].toArray 52)).alloc (.cells [Value.string ⟨#[]⟩, .int .i64 0].toArray 62)).heap.size := by simp
  have hbe : (w.alloc (.cells [Value.int .i64 kind, .int .i64 n, .string (bs s), vq].toArray 52)).heap.size = w.heap.size + 1 := by simp
  rw [hbe] at B1
  clear hbe
  have HQ := hid (hq.fr F0 (fun _ _ h => h))
  have H0 := hid (h.fr F0 (fun _ _ h => h))
  have HB := hid B1
  have HF := hid F0
  have HN := hid hb
  have HL := hid h.lt
  have HR := hid hR
  have HOK := hid ok
  have hlg := ok.log
  have hfl := ok.fl
  clear B1 F0 hb h hq hR ok
  have hz : bs [] = ⟨#[]⟩ := rfl
  try rw [hz]
  clear hz
  go_enter Try.func33, Try.ntmps33
  go_wp2_with (fail)
  generalize (w.alloc (.cells #[Value.int .i64 kind, .int .i64 n, .string (bs s), vq] 52)).alloc (.cells #[Value.string ⟨#[]⟩, .int .i64 0] 62) = w0 at *
  refine (Arm_ref H0.out n).mono ?_
  rintro e w1 ⟨rfl, r, f⟩
  have ro : ROut S w0 w1 d (m.arm n) := ROut.of r f
  have B2 : Blk w1 (w.heap.size + 1) [Value.string ⟨#[]⟩, .int .i64 0] 62 := HB.out.fr ro.fr (fun h => by have := HL.out _ h; omega)
  have hTh := B2.there 0 2 (by simp)
  have RO := hid ro
  have HB2 := hid B2
  clear ro B2
  go_wp2_with (first | (refine wpList_store_mid rfl 62 _ _ rfl (w.heap.size + 1) 0 _ rfl rfl hTh Try.size_got (by simp [Value.oneCell']) ?_; rw [List.toList_toArray]) | fail)
  have B3 : Blk (w1.setCells (w.heap.size + 1) 0 [.string ⟨#[]⟩, .int .i64 0]) (w.heap.size + 1) [.string ⟨#[]⟩, .int .i64 0] 62 := HB2.out.put 0 [.string ⟨#[]⟩, .int .i64 0] (by simp)
  have f3 : Fr (fun k => k = w.heap.size + 1) w1 (w1.setCells (w.heap.size + 1) 0 [.string ⟨#[]⟩, .int .i64 0]) := (Fr.refl _ w1).put _ _ _ (fun _ => rfl)
  generalize w1.setCells (w.heap.size + 1) 0 [.string ⟨#[]⟩, .int .i64 0] = w2 at *
  have c0 : w2.cell? ⟨w.heap.size + 1, 0, none⟩ = some (.string ⟨#[]⟩) := B3.cell 0
  have c1 : w2.cell? ⟨w.heap.size + 1, 1, none⟩ = some (.int .i64 0) := B3.cell 1
  exact bodyPost_ret (v := .agg #[.string ⟨#[]⟩, .int .i64 0]) (by simp [results, Try.results33, go_sem, c0, c1]) rfl ⟨rfl, RO.out.close HL.out HF.out HN.out f3⟩
set_option maxHeartbeats 2000000 in
theorem rdo_crash {kk : Nat} (h : RRep S w d m pv wv) (hlen : m.pages.length ≤ 400) (ok : m.Ok kk) (hkk : kk ≤ 1000000) (kind n : Int) (s : Bytes) (hs : s.length ≤ 1000000) {R : Nat → Prop} {vq : Value} {q : List Int} (hq : QRep R w vq q) (hR : ∀ k, R k → ¬ S k) (hql : q.length ≤ 9223372036854775807) (hk : kind % 9 = 7) :
    Calls Try.prog 33 #[.pointer (some ⟨d, 0, none⟩), .agg #[.int .i64 kind, .int .i64 n, .string (bs s), vq]] w fun e w' =>
      e = .returned (.agg #[.string (bs []), .int .i64 0]) ∧ ROut S w w' d (m.crash q) := by
  have e1 := tmod9 kind
  have e2 := Int.tmod_lt_of_pos kind (show (0:Int) < 9 by omega)
  have e3 : -9 < kind.tmod 9 := Int.lt_tmod_of_pos kind (by omega)
  rw [hk] at e1
  clear hk
  have F0 := (Fr.refl (fun _ => False) w).alloc (.cells [Value.int .i64 kind, .int .i64 n, .string (bs s), vq].toArray 52) |>.alloc (.cells [Value.string ⟨#[]⟩, .int .i64 0].toArray 62)
  have B1 := Blk.new (w.alloc (.cells [Value.int .i64 kind, .int .i64 n, .string (bs s), vq].toArray 52)) [Value.string ⟨#[]⟩, .int .i64 0] 62
  have hb : w.heap.size + 1 < ((w.alloc (.cells [Value.int .i64 kind, .int .i64 n, .string (bs s), vq].toArray 52)).alloc (.cells [Value.string ⟨#[]⟩, .int .i64 0].toArray 62)).heap.size := by simp
  have hbe : (w.alloc (.cells [Value.int .i64 kind, .int .i64 n, .string (bs s), vq].toArray 52)).heap.size = w.heap.size + 1 := by simp
  rw [hbe] at B1
  clear hbe
  have HQ := hid (hq.fr F0 (fun _ _ h => h))
  have H0 := hid (h.fr F0 (fun _ _ h => h))
  have HB := hid B1
  have HF := hid F0
  have HN := hid hb
  have HL := hid h.lt
  have HR := hid hR
  have HOK := hid ok
  have hlg := ok.log
  have hfl := ok.fl
  clear B1 F0 hb h hq hR ok
  have hz : bs [] = ⟨#[]⟩ := rfl
  try rw [hz]
  clear hz
  go_enter Try.func33, Try.ntmps33
  go_wp2_with (fail)
  generalize (w.alloc (.cells #[Value.int .i64 kind, .int .i64 n, .string (bs s), vq] 52)).alloc (.cells #[Value.string ⟨#[]⟩, .int .i64 0] 62) = w0 at *
  refine (Crash_ref H0.out hlen HOK.out hkk HQ.out HR.out hql).mono ?_
  rintro e w1 ⟨rfl, ro⟩
  have ro : ROut S w0 w1 d (m.crash q) := ro
  have B2 : Blk w1 (w.heap.size + 1) [Value.string ⟨#[]⟩, .int .i64 0] 62 := HB.out.fr ro.fr (fun h => by have := HL.out _ h; omega)
  have hTh := B2.there 0 2 (by simp)
  have RO := hid ro
  have HB2 := hid B2
  clear ro B2
  go_wp2_with (first | (refine wpList_store_mid rfl 62 _ _ rfl (w.heap.size + 1) 0 _ rfl rfl hTh Try.size_got (by simp [Value.oneCell']) ?_; rw [List.toList_toArray]) | fail)
  have B3 : Blk (w1.setCells (w.heap.size + 1) 0 [.string ⟨#[]⟩, .int .i64 0]) (w.heap.size + 1) [.string ⟨#[]⟩, .int .i64 0] 62 := HB2.out.put 0 [.string ⟨#[]⟩, .int .i64 0] (by simp)
  have f3 : Fr (fun k => k = w.heap.size + 1) w1 (w1.setCells (w.heap.size + 1) 0 [.string ⟨#[]⟩, .int .i64 0]) := (Fr.refl _ w1).put _ _ _ (fun _ => rfl)
  generalize w1.setCells (w.heap.size + 1) 0 [.string ⟨#[]⟩, .int .i64 0] = w2 at *
  have c0 : w2.cell? ⟨w.heap.size + 1, 0, none⟩ = some (.string ⟨#[]⟩) := B3.cell 0
  have c1 : w2.cell? ⟨w.heap.size + 1, 1, none⟩ = some (.int .i64 0) := B3.cell 1
  exact bodyPost_ret (v := .agg #[.string ⟨#[]⟩, .int .i64 0]) (by simp [results, Try.results33, go_sem, c0, c1]) rfl ⟨rfl, RO.out.close HL.out HF.out HN.out f3⟩
set_option maxHeartbeats 2000000 in
theorem rdo_cut {kk : Nat} (h : RRep S w d m pv wv) (hlen : m.pages.length ≤ 400) (ok : m.Ok kk) (hkk : kk ≤ 1000000) (kind n : Int) (s : Bytes) (hs : s.length ≤ 1000000) {R : Nat → Prop} {vq : Value} {q : List Int} (hq : QRep R w vq q) (hR : ∀ k, R k → ¬ S k) (hql : q.length ≤ 9223372036854775807) (hk : kind % 9 = 8) :
    Calls Try.prog 33 #[.pointer (some ⟨d, 0, none⟩), .agg #[.int .i64 kind, .int .i64 n, .string (bs s), vq]] w fun e w' =>
      e = .returned (.agg #[.string (bs []), .int .i64 (m.cut n).2]) ∧ ROut S w w' d (m.cut n).1 := by
  have e1 := tmod9 kind
  have e2 := Int.tmod_lt_of_pos kind (show (0:Int) < 9 by omega)
  have e3 : -9 < kind.tmod 9 := Int.lt_tmod_of_pos kind (by omega)
  rw [hk] at e1
  clear hk
  have F0 := (Fr.refl (fun _ => False) w).alloc (.cells [Value.int .i64 kind, .int .i64 n, .string (bs s), vq].toArray 52) |>.alloc (.cells [Value.string ⟨#[]⟩, .int .i64 0].toArray 62)
  have B1 := Blk.new (w.alloc (.cells [Value.int .i64 kind, .int .i64 n, .string (bs s), vq].toArray 52)) [Value.string ⟨#[]⟩, .int .i64 0] 62
  have hb : w.heap.size + 1 < ((w.alloc (.cells [Value.int .i64 kind, .int .i64 n, .string (bs s), vq].toArray 52)).alloc (.cells [Value.string ⟨#[]⟩, .int .i64 0].toArray 62)).heap.size := by simp
  have hbe : (w.alloc (.cells [Value.int .i64 kind, .int .i64 n, .string (bs s), vq].toArray 52)).heap.size = w.heap.size + 1 := by simp
  rw [hbe] at B1
  clear hbe
  have HQ := hid (hq.fr F0 (fun _ _ h => h))
  have H0 := hid (h.fr F0 (fun _ _ h => h))
  have HB := hid B1
  have HF := hid F0
  have HN := hid hb
  have HL := hid h.lt
  have HR := hid hR
  have HOK := hid ok
  have hlg := ok.log
  have hfl := ok.fl
  clear B1 F0 hb h hq hR ok
  have hz : bs [] = ⟨#[]⟩ := rfl
  try rw [hz]
  clear hz
  go_enter Try.func33, Try.ntmps33
  go_wp2_with (fail)
  generalize (w.alloc (.cells #[Value.int .i64 kind, .int .i64 n, .string (bs s), vq] 52)).alloc (.cells #[Value.string ⟨#[]⟩, .int .i64 0] 62) = w0 at *
  refine (Cut_ref H0.out n hlg hfl).mono ?_
  rintro e w1 ⟨rfl, r, f⟩
  have ro : ROut S w0 w1 d (m.cut n).1 := ROut.of r f
  have B2 : Blk w1 (w.heap.size + 1) [Value.string ⟨#[]⟩, .int .i64 0] 62 := HB.out.fr ro.fr (fun h => by have := HL.out _ h; omega)
  have hTh := B2.there 0 2 (by simp)
  have RO := hid ro
  have HB2 := hid B2
  clear ro B2
  go_wp2_with (first | (refine wpList_store_mid rfl 62 _ _ rfl (w.heap.size + 1) 0 _ rfl rfl hTh Try.size_got (by simp [Value.oneCell']) ?_; rw [List.toList_toArray]) | fail)
  have B3 : Blk (w1.setCells (w.heap.size + 1) 0 [.string ⟨#[]⟩, .int .i64 (m.cut n).2]) (w.heap.size + 1) [.string ⟨#[]⟩, .int .i64 (m.cut n).2] 62 := HB2.out.put 0 [.string ⟨#[]⟩, .int .i64 (m.cut n).2] (by simp)
  have f3 : Fr (fun k => k = w.heap.size + 1) w1 (w1.setCells (w.heap.size + 1) 0 [.string ⟨#[]⟩, .int .i64 (m.cut n).2]) := (Fr.refl _ w1).put _ _ _ (fun _ => rfl)
  generalize w1.setCells (w.heap.size + 1) 0 [.string ⟨#[]⟩, .int .i64 (m.cut n).2] = w2 at *
  have c0 : w2.cell? ⟨w.heap.size + 1, 0, none⟩ = some (.string ⟨#[]⟩) := B3.cell 0
  have c1 : w2.cell? ⟨w.heap.size + 1, 1, none⟩ = some (.int .i64 (m.cut n).2) := B3.cell 1
  exact bodyPost_ret (v := .agg #[.string ⟨#[]⟩, .int .i64 (m.cut n).2]) (by simp [results, Try.results33, go_sem, c0, c1]) rfl ⟨rfl, RO.out.close HL.out HF.out HN.out f3⟩
end Go.Proofs.Ytfalehgngioheaa
