import Derived.Test.YtiimomgbklgicaaGreatPkRsI
set_option linter.unusedVariables false
namespace Go.Proofs.YtiimomgbklgicaaGreat
open Go.RowKit Go.VB Go.VB.Oct Go.VB.Cat Go.VB.Rec
/-- Read's variables: the reader's in br, 'fine' in bf, the catalog's in bc; the catalog keeps off the blocks X -/
structure RI (w0 : World) (X : Nat → Prop) (br bf bc p c : Nat) (q : RS) (W : World) : Prop where
  fr : Fr (fun _ => False) w0 W
  brk : Blk W br [.pointer (some ⟨p, 0, none⟩)] 147
  bfk : Blk W bf [.bool q.fine] 4
  bck : Blk W bc [.pointer (some ⟨c, 0, none⟩)] 62
  rd : RdRep W p q.r
  ok : q.r.Ok
  ge : w0.heap.size ≤ br ∧ w0.heap.size ≤ bf ∧ w0.heap.size ≤ bc ∧ w0.heap.size ≤ p
  at_ : X br ∧ X bf ∧ X bc ∧ X p
  cr : ∃ S, CR 225 S W c q.m ∧ (∀ k, S k → w0.heap.size ≤ k) ∧ ∀ k, X k → ¬ S k
  okm : Ok q.m
namespace RI
variable {w0 W W' : World} {X Y : Nat → Prop} {br bf bc p c : Nat} {q : RS}
theorem wide (h : RI w0 X br bf bc p c q W) : RI w0 (fun k => X k ∨ W.heap.size ≤ k) br bf bc p c q W := by
  obtain ⟨S, h1, h2, h3⟩ := h.cr
  refine ⟨h.fr, h.brk, h.bfk, h.bck, h.rd, h.ok, h.ge, ⟨.inl h.at_.1, .inl h.at_.2.1, .inl h.at_.2.2.1, .inl h.at_.2.2.2⟩, ⟨S, h1, h2, fun k hk hs => ?_⟩, h.okm⟩
  rcases hk with hk | hk
  · exact h3 k hk hs
  · have := h1.lt hs; omega
theorem less (h : RI w0 X br bf bc p c q W) (hY : ∀ k, Y k → X k) (hb : Y br ∧ Y bf ∧ Y bc ∧ Y p) : RI w0 Y br bf bc p c q W := by
  obtain ⟨S, h1, h2, h3⟩ := h.cr
  exact ⟨h.fr, h.brk, h.bfk, h.bck, h.rd, h.ok, h.ge, hb, ⟨S, h1, h2, fun k hk => h3 k (hY k hk)⟩, h.okm⟩
theorem keep {U : Nat → Prop} (h : RI w0 X br bf bc p c q W) (f : Fr U W W') (hU : ∀ k, U k → X k ∧ w0.heap.size ≤ k) (hn : ¬ U br ∧ ¬ U bf ∧ ¬ U bc ∧ ¬ U p) : RI w0 X br bf bc p c q W' := by
  obtain ⟨S, h1, h2, h3⟩ := h.cr
  refine ⟨h.fr.trans f (fun k hk hl => ?_), h.brk.fr f hn.1, h.bfk.fr f hn.2.1, h.bck.fr f hn.2.2.1, Blk.fr h.rd f hn.2.2.2, h.ok, h.ge, h.at_, ⟨S, h1.fr f (fun k hs hu => h3 k (hU k hu).1 hs), h2, h3⟩, h.okm⟩
  have := (hU k hk).2
  omega
theorem fre (h : RI w0 X br bf bc p c q W) (f : Fr (fun _ => False) W W') : RI w0 X br bf bc p c q W' := h.keep f (fun _ h => h.elim) ⟨fun h => h, fun h => h, fun h => h, fun h => h⟩
theorem apart (h : RI w0 X br bf bc p c q W) : br ≠ bf ∧ br ≠ bc ∧ br ≠ p ∧ bf ≠ bc ∧ bf ≠ p ∧ bc ≠ p :=
  ⟨h.brk.ne_of_type h.bfk (by decide), h.brk.ne_of_type h.bck (by decide), h.brk.ne_of_type h.rd (by decide), h.bfk.ne_of_type h.bck (by decide), h.bfk.ne_of_type h.rd (by decide), h.bck.ne_of_type h.rd (by decide)⟩
theorem reader {r : RM} (h : RI w0 X br bf bc p c q W) (f : Fr (fun k => k = p) W W') (hr : RdRep W' p r) (ok : r.Ok) : RI w0 X br bf bc p c ⟨r, q.m, q.fine⟩ W' := by
  obtain ⟨S, h1, h2, h3⟩ := h.cr
  obtain ⟨a1, a2, a3, a4, a5, a6⟩ := h.apart
  exact ⟨h.fr.trans f (fun k hk hl => by have := h.ge; omega), h.brk.fr f a3, h.bfk.fr f a5, h.bck.fr f a6, hr, ok, h.ge, h.at_, ⟨S, h1.fr f (fun k hs hu => h3 k (hu ▸ h.at_.2.2.2) hs), h2, h3⟩, h.okm⟩
theorem num1 (h : RI w0 X br bf bc p c q W) : Calls Tryz.prog 70 #[.pointer (some ⟨p, 0, none⟩), .int .i64 1] W fun e w' => e = .returned (.int .i64 (q.r.num 1).2) ∧ RI w0 X br bf bc p c ⟨(q.r.num 1).1, q.m, q.fine⟩ w' ∧ Fr (fun k => k = p) W w' := by
  have hc : Calls Tryz.prog 70 #[.pointer (some ⟨p, 0, none⟩), .int .i64 1] W _ := ONum_go h.rd h.ok 1 (by omega)
  refine hc.mono ?_
  rintro e w' ⟨rfl, hr, f⟩
  exact ⟨rfl, h.reader f hr (h.ok.num 1), f⟩
theorem num2 (h : RI w0 X br bf bc p c q W) : Calls Tryz.prog 70 #[.pointer (some ⟨p, 0, none⟩), .int .i64 2] W fun e w' => e = .returned (.int .i64 (q.r.num 2).2) ∧ RI w0 X br bf bc p c ⟨(q.r.num 2).1, q.m, q.fine⟩ w' ∧ Fr (fun k => k = p) W w' := by
  have hc : Calls Tryz.prog 70 #[.pointer (some ⟨p, 0, none⟩), .int .i64 2] W _ := ONum_go h.rd h.ok 2 (by omega)
  refine hc.mono ?_
  rintro e w' ⟨rfl, hr, f⟩
  exact ⟨rfl, h.reader f hr (h.ok.num 2), f⟩
theorem text (h : RI w0 X br bf bc p c q W) : Calls Tryz.prog 79 #[.pointer (some ⟨p, 0, none⟩)] W fun e w' => e = .returned (.string (bs q.r.text.2)) ∧ RI w0 X br bf bc p c ⟨q.r.text.1, q.m, q.fine⟩ w' ∧ Fr (fun k => k = p) W w' := by
  refine (OText_go h.rd h.ok).mono ?_
  rintro e w' ⟨rfl, hr, f⟩
  exact ⟨rfl, h.reader f hr h.ok.text, f⟩
/-- a store of 'fine' -/
theorem mark (h : RI w0 X br bf bc p c q W) (b : Bool) : RI w0 X br bf bc p c ⟨q.r, q.m, b⟩ (W.setCell ⟨bf, 0, none⟩ (.bool b)) := by
  obtain ⟨S, h1, h2, h3⟩ := h.cr
  obtain ⟨a1, a2, a3, a4, a5, a6⟩ := h.apart
  have f := (Fr.refl (fun k => k = bf) W).setCell ⟨bf, 0, none⟩ (.bool b) (fun _ => rfl)
  exact ⟨h.fr.trans f (fun k hk hl => by have := h.ge; omega), h.brk.fr f a1, h.bfk.set 0 _, h.bck.fr f (fun e => a4 e.symm), Blk.fr h.rd f (fun e => a5 e.symm), h.ok, h.ge, h.at_, ⟨S, h1.fr f (fun k hs hu => h3 k (hu ▸ h.at_.2.1) hs), h2, h3⟩, h.okm⟩
theorem cell_r (h : RI w0 X br bf bc p c q W) : W.cell? ⟨br, 0, none⟩ = some (.pointer (some ⟨p, 0, none⟩)) := h.brk.cell 0
theorem cell_f (h : RI w0 X br bf bc p c q W) : W.cell? ⟨bf, 0, none⟩ = some (.bool q.fine) := h.bfk.cell 0
theorem cell_c (h : RI w0 X br bf bc p c q W) : W.cell? ⟨bc, 0, none⟩ = some (.pointer (some ⟨c, 0, none⟩)) := h.bck.cell 0
theorem free_f (h : RI w0 X br bf bc p c q W) : W.frozen? ⟨bf, 0, none⟩ = false := h.bfk.frozen 0
/-- a statement is done: behind it the catalog keeps off Y -/
theorem do_ {P : Nat → Prop} (h : RI w0 X br bf bc p c q W) (hY : ∀ k, Y k → X k ∧ k < W.heap.size) (hb : Y br ∧ Y bf ∧ Y bc ∧ Y p) {t : StV} (hs : StR P W t) (hk : -9223372036854775808 ≤ t.s.kind ∧ t.s.kind ≤ 9223372036854775807) (root : Int) :
    Calls Tryz.prog 116 #[.pointer (some ⟨c, 0, none⟩), .agg t.cells.toArray, .int .i64 root] W fun e w' => e = .returned (.int .i64 (doM q.m t.s root).2) ∧ RI w0 Y br bf bc p c ⟨q.r, (doM q.m t.s root).1, q.fine⟩ w' ∧ Fr (fun k => ¬ X k) W w' := by
  obtain ⟨S, h1, h2, h3⟩ := h.cr
  refine (Do_go h1 h.okm hs hk root).mono ?_
  rintro e w' ⟨rfl, hc, f⟩
  have n1 := h3 _ h.at_.1
  have n2 := h3 _ h.at_.2.1
  have n3 := h3 _ h.at_.2.2.1
  have n4 := h3 _ h.at_.2.2.2
  refine ⟨rfl, ⟨h.fr.trans f (fun k hk hl => by have := h2 k hk; omega), h.brk.fr f n1, h.bfk.fr f n2, h.bck.fr f n3, Blk.fr h.rd f n4, h.ok, h.ge, hb, ⟨_, hc, fun k hk => ?_, fun k hk hs => ?_⟩, ok_do h.okm _ _⟩, f.mono (fun k hk _ hx => h3 k hx hk)⟩
  · rcases hk with g | g
    · exact h2 k g
    · have := h.fr.size; omega
  · rcases hs with g | g
    · exact h3 k (hY k hk).1 g
    · have := (hY k hk).2; omega
/-- a struct written into a block of X -/
theorem puts (h : RI w0 X br bf bc p c q W) {d : Nat} (hd : X d ∧ w0.heap.size ≤ d) (hn : d ≠ br ∧ d ≠ bf ∧ d ≠ bc ∧ d ≠ p) (o : Nat) (vs : List Value) : RI w0 X br bf bc p c q (W.setCells d o vs) :=
  h.keep (U := fun k => k = d) ((Fr.refl _ W).put d o vs (fun _ => rfl)) (fun k hk => hk ▸ hd) ⟨fun e => hn.1 e.symm, fun e => hn.2.1 e.symm, fun e => hn.2.2.1 e.symm, fun e => hn.2.2.2 e.symm⟩
theorem put1 (h : RI w0 X br bf bc p c q W) {d : Nat} (hd : X d ∧ w0.heap.size ≤ d) (hn : d ≠ br ∧ d ≠ bf ∧ d ≠ bc ∧ d ≠ p) (o : Nat) (v : Value) : RI w0 X br bf bc p c q (W.setCell ⟨d, o, none⟩ v) :=
  h.keep (U := fun k => k = d) ((Fr.refl _ W).setCell ⟨d, o, none⟩ v (fun _ => rfl)) (fun k hk => hk ▸ hd) ⟨fun e => hn.1 e.symm, fun e => hn.2.1 e.symm, fun e => hn.2.2.1 e.symm, fun e => hn.2.2.2 e.symm⟩
theorem off {l : List Value} {d : Nat} (h : RI w0 X br bf bc p c q W) (hb : Blk W d l 90) : d ≠ br ∧ d ≠ bf ∧ d ≠ bc ∧ d ≠ p :=
  ⟨hb.ne_of_type h.brk (by decide), hb.ne_of_type h.bfk (by decide), hb.ne_of_type h.bck (by decide), hb.ne_of_type h.rd (by decide)⟩
end RI
theorem names_hit {cols : List Col} {r : RM} {fine : Bool} {j : Nat} {c : Col} (h : cols[((rNames cols r fine j).1.num 1).2]? = some c) : rNames cols r fine (j + 1) = (((rNames cols r fine j).1.num 1).1, (rNames cols r fine j).2.1, (rNames cols r fine j).2.2 ++ [c.name]) := by
  simp only [rNames, h]
theorem names_miss {cols : List Col} {r : RM} {fine : Bool} {j : Nat} (h : cols[((rNames cols r fine j).1.num 1).2]? = none) : rNames cols r fine (j + 1) = (((rNames cols r fine j).1.num 1).1, false, (rNames cols r fine j).2.2) := by
  simp only [rNames, h]
theorem names_cases (cols : List Col) (r : RM) (fine : Bool) (j : Nat) : (rNames cols r fine (j + 1)).2.2 = (rNames cols r fine j).2.2 ∨ ∃ c ∈ cols, (rNames cols r fine (j + 1)).2.2 = (rNames cols r fine j).2.2 ++ [c.name] := by
  cases h : cols[((rNames cols r fine j).1.num 1).2]? with
  | none => left; rw [names_miss h]
  | some c => right; exact ⟨c, List.mem_of_getElem? h, by rw [names_hit h]⟩
theorem names_len (cols : List Col) (r : RM) (fine : Bool) : ∀ j, (rNames cols r fine j).2.2.length ≤ j
  | 0 => Nat.le_refl _
  | j + 1 => by
    have ih := names_len cols r fine j
    rcases names_cases cols r fine j with h | ⟨c, _, h⟩
    · rw [h]; omega
    · rw [h, List.length_append, List.length_singleton]; omega
theorem names_in (cols : List Col) (r : RM) (fine : Bool) : ∀ j, ∀ n ∈ (rNames cols r fine j).2.2, ∃ c ∈ cols, n = c.name
  | 0 => fun n hn => by simp [rNames] at hn
  | j + 1 => by
    have ih := names_in cols r fine j
    rcases names_cases cols r fine j with h | ⟨c, hc, h⟩
    · rw [h]; exact ih
    · rw [h]
      intro n hn
      rcases List.mem_append.1 hn with g | g
      · exact ih n g
      · rw [List.mem_singleton.1 g]
        exact ⟨c, hc, rfl⟩
/-- a statement's cells, where the rest is zero -/
def stc (k : Int) (tn n : Bs) (vc vn : Value) : List Value := [.int .i64 k, .string (bs tn), .string (bs n), vc, vn, .slice none 0 0, .slice none 0 0, .slice none 0 0, .string ⟨#[]⟩, .string ⟨#[]⟩, .string ⟨#[]⟩, .int .i64 0, .slice none 0 0, .int .i64 0, .int .i64 0]
def nilS : Value := .slice none 0 0
theorem put_blk {W : World} {z vs : List Value} {d : Nat} (h : Blk W d z 90) (hl : z.length = vs.length) : Blk (W.setCells d 0 vs) d vs 90 := by
  have := h.put 0 vs (by omega)
  rw [List.take_zero, List.nil_append, List.drop_eq_nil_of_le (by omega), List.append_nil] at this
  exact this
set_option maxRecDepth 20000 in
set_option maxHeartbeats 4000000 in
theorem read1_go {w0 W : World} {X : Nat → Prop} {br bf bc p c : Nat} {q : RS} (h : RI w0 X br bf bc p c q W) (hX : ∀ k, X k → k < W.heap.size) (tn : Bs) {cols : List Col} {ac : Option Addr} {cc B0 : Nat}
    (hr : Row 171 2 B0 W (.slice ac cols.length cc) cols.length (cols.flatMap Col.cells)) (hrX : ∀ k, (Value.slice ac cols.length cc).ownBlock = some k → X k) (hcl : cols.length ≤ 1048576) (hcn : ∀ c ∈ cols, c.name.length ≤ 1048576) :
    Calls Tryz.prog 115 #[.agg (stc 1 tn [] (.slice ac cols.length cc) nilS).toArray, .pointer (some ⟨br, 0, none⟩), .pointer (some ⟨bf, 0, none⟩), .pointer (some ⟨bc, 0, none⟩)] W fun e w' =>
      e = .returned (.tuple #[]) ∧ RI w0 X br bf bc p c (rIx tn cols q) w' ∧ Fr (fun k => k = p ∨ k = bf ∨ ¬ X k) W w' := by
  obtain ⟨X1, hX1⟩ : ∃ X1 : Nat → Prop, X1 = fun k => X k ∨ W.heap.size ≤ k := ⟨_, rfl⟩
  have HXB := hid (show X1 br ∧ X1 bf ∧ X1 bc ∧ X1 p from by rw [hX1]; exact ⟨.inl h.at_.1, .inl h.at_.2.1, .inl h.at_.2.2.1, .inl h.at_.2.2.2⟩)
  have HX1 := hid (show (∀ k, X k → X1 k) ∧ ∀ k, W.heap.size ≤ k → X1 k from by rw [hX1]; exact ⟨fun k hk => .inl hk, fun k hk => .inr hk⟩)
  have HAT := hid h.at_
  have H0 := h.wide
  rw [← hX1] at H0
  clear hX1
  have HXX := hid hX
  have HRX := hid hrX
  have HCN := hid hcn
  have fa := (Fr.refl (fun _ => False) W).alloc (.cells (stc 1 tn [] (.slice ac cols.length cc) nilS).toArray 90)
  have H1 := hid (H0.fre fa)
  have HR := hid (hr.fre fa)
  have F1 := hid (fa.mono (T := fun k => k = p ∨ k = bf ∨ ¬ X k) (fun _ h _ => h.elim))
  have BD := hid (Blk.new W (stc 1 tn [] (.slice ac cols.length cc) nilS) 90)
  have HW := hid h.fr.size
  clear h hX hrX hcn H0 fa hr
  unfold stc nilS at *
  go_enter Tryz.func115, Tryz.ntmps115
  go_upto_region 1 with fail
  generalize hd : W.heap.size = d at *
  have HD := hid hd
  clear hd
  generalize W.alloc _ = W1 at *
  have fd := (Fr.refl (fun _ => False) W1).drew
  replace H1 := hid (H1.out.fre fd)
  replace HR := hid (HR.out.fre fd)
  replace F1 := hid (F1.out.trans fd (fun _ h _ => h.elim))
  replace BD := hid (Blk.fr BD.out fd (fun h => h))
  go_cut [5] (fun s5 wx => ∃ d5, s5 = .pointer (some ⟨d5, 0, none⟩) ∧ RI w0 X1 br bf bc p c ⟨q.r.text.1, q.m, q.fine⟩ wx ∧ Blk wx d [.int .i64 1, .string (bs tn), .string (bs []), .slice ac cols.length cc, .slice none 0 0, .slice none 0 0, .slice none 0 0, .slice none 0 0, .string ⟨#[]⟩, .string ⟨#[]⟩, .string ⟨#[]⟩, .int .i64 0, .slice none 0 0, .int .i64 0, .int .i64 0] 90 ∧
    Blk wx d5 [.int .i64 2, .string (bs tn), .string (bs q.r.text.2), .slice none 0 0, .slice none 0 0, .slice none 0 0, .slice none 0 0, .slice none 0 0, .string ⟨#[]⟩, .string ⟨#[]⟩, .string ⟨#[]⟩, .int .i64 0, .slice none 0 0, .int .i64 0, .int .i64 0] 90 ∧ d < d5 ∧ Row 171 2 B0 wx (.slice ac cols.length cc) cols.length (cols.flatMap Col.cells) ∧ Fr (fun k => k = p ∨ k = bf ∨ ¬ X k) W wx)
  case first =>
    clear fd
    refine wp_region_scr (.take 0 (.take 1 (.take 2 (.two 3 5 (.two 4 5 (.op 5 (.op 6 .done)) (.op 4 (.op 6 .done))) (.op 3 (.op 4 (.op 6 .done))))))) (fun kz w => (kz ≤ 7 → w.cell? ⟨d, 1, none⟩ = some (.string (bs tn)) ∧ w.cell? ⟨br, 0, none⟩ = some (.pointer (some ⟨p, 0, none⟩))) ∧ True) (by kernel_rfl) (by kernel_rfl) (by intro c a d v w h; cases d <;> exact h) ?_
    repeat
      first
      | (refine wpT_pure rfl rfl rfl ?_; apply Exists.intro; refine ⟨?_, ?_⟩; intro w; (first | (first | (obtain ⟨qa1, qa2⟩ := qa; go_simp <;> rfl)) | (go_simp <;> rfl)); simp only [Act.put, List.setIfInBounds_toArray, List.set_cons_zero, List.set_cons_succ])
      | (refine wpT_take 7 rfl rfl (by decide +kernel) ⟨fun _ => ⟨BD.out.cell 1, H1.out.cell_r⟩, trivial⟩ ?_; apply Exists.intro; refine ⟨?_, ?_⟩; intro w hw; (have qa := hw.1 (Nat.le_refl _); have qb := hw.2); (first | (first | (obtain ⟨qa1, qa2⟩ := qa; go_simp <;> rfl)) | (go_simp <;> rfl)); simp only [Act.put, List.setIfInBounds_toArray, List.set_cons_zero, List.set_cons_succ])
      | (refine wpT_skip rfl rfl ?_; simp only [Act.put, List.setIfInBounds_toArray, List.set_cons_zero, List.set_cons_succ])
    generalize W1.drew = W2 at *
    refine wpT_two ?_ ?_
    focus
      refine wpT_op rfl ?_
      go_wp2_with ((go_at_call 79; refine H1.out.text.mono ?_; rintro e W3 ⟨rfl, h, f⟩; have H2 := hid h; have BD2 := hid (Blk.fr BD.out f (BD.out.ne_of_type H1.out.rd (by decide))); have HR2 := hid (HR.out.fr f (fun k hk e => HR.out.ne H1.out.rd (by decide) k hk e)); have F2 := hid (F1.out.trans f (fun k hk _ => .inl hk)); clear h f))
      (refine ⟨?_, ?_⟩; focus (intro kz hk hk2 hh; first | (exfalso; simp at hk2; omega) | exact hh | exact (fun h => absurd h (by omega)) | obtain ⟨qa, qb⟩ := hh; first | exact ⟨qa, qb⟩ | (refine ⟨fun h => absurd h (by omega), ?_⟩; first | exact qb | (exact ⟨BD2.out.cell 1, H2.out.cell_r⟩)) | (refine ⟨fun h => ?_, ?_⟩; (have qa := qa h); all_goals (first | exact qa | exact qb | (exact ⟨BD2.out.cell 1, H2.out.cell_r⟩)))))
      refine wpT_two ?_ ?_
      focus
        refine wpT_op rfl ?_
        go_wp2_with (fail)
        (refine ⟨?_, ?_⟩; focus (intro kz hk hk2 hh; first | (exfalso; simp at hk2; omega) | exact hh | exact (fun h => absurd h (by omega)) | obtain ⟨qa, qb⟩ := hh; first | exact ⟨qa, qb⟩ | (refine ⟨fun h => absurd h (by omega), ?_⟩; first | exact qb | (exact qa)) | (refine ⟨fun h => ?_, ?_⟩; (have qa := qa h); all_goals (first | exact qa | exact qb | (exact qa)))))
        have fa := (Fr.refl (fun _ => False) W3).alloc (.cells #[.int .i64 0, .string ⟨#[]⟩, .string ⟨#[]⟩, .slice none 0 0, .slice none 0 0, .slice none 0 0, .slice none 0 0, .slice none 0 0, .string ⟨#[]⟩, .string ⟨#[]⟩, .string ⟨#[]⟩, .int .i64 0, .slice none 0 0, .int .i64 0, .int .i64 0] 90)
        have HXD : X1 W3.heap.size ∧ w0.heap.size ≤ W3.heap.size := ⟨HX1.out.2 _ (by have := F2.out.size; have := HD.out; omega), by have := F2.out.size; have := HW.out; have := HD.out; omega⟩
        have B5 := hid (Blk.new W3 [.int .i64 0, .string ⟨#[]⟩, .string ⟨#[]⟩, .slice none 0 0, .slice none 0 0, .slice none 0 0, .slice none 0 0, .slice none 0 0, .string ⟨#[]⟩, .string ⟨#[]⟩, .string ⟨#[]⟩, .int .i64 0, .slice none 0 0, .int .i64 0, .int .i64 0] 90)
        have H4 := hid (H2.out.fre fa)
        have BD4 := hid (Blk.fr BD2.out fa (fun h => h))
        have HR4 := hid (HR2.out.fre fa)
        have F4 := hid (F2.out.trans fa (fun _ h _ => h.elim))
        have HDN : d ≠ W3.heap.size := by have := BD2.out.lt; omega
        have HLT : d < W3.heap.size := BD2.out.lt
        refine wpT_op rfl ?_
        go_wp2_with (fail)
        (refine ⟨?_, ?_⟩; focus (intro kz hk hk2 hh; first | (exfalso; simp at hk2; omega) | exact hh | exact (fun h => absurd h (by omega)) | obtain ⟨qa, qb⟩ := hh; first | exact ⟨qa, qb⟩ | (refine ⟨fun h => absurd h (by omega), ?_⟩; first | exact qb | (exact ⟨BD4.out.cell 1, H4.out.cell_r⟩)) | (refine ⟨fun h => ?_, ?_⟩; (have qa := qa h); all_goals (first | exact qa | exact qb | (exact ⟨BD4.out.cell 1, H4.out.cell_r⟩)))))
        clear fa
        have hth := B5.out.there 0 15 (by simp)
        have HPB := hid (put_blk (vs := [.int .i64 2, .string (bs tn), .string (bs q.r.text.2), .slice none 0 0, .slice none 0 0, .slice none 0 0, .slice none 0 0, .slice none 0 0, .string ⟨#[]⟩, .string ⟨#[]⟩, .string ⟨#[]⟩, .int .i64 0, .slice none 0 0, .int .i64 0, .int .i64 0]) B5.out rfl)
        have HFIN := hid (And.intro (H4.out.puts (d := W3.heap.size) HXD (H4.out.off B5.out) 0 [.int .i64 2, .string (bs tn), .string (bs q.r.text.2), .slice none 0 0, .slice none 0 0, .slice none 0 0, .slice none 0 0, .slice none 0 0, .string ⟨#[]⟩, .string ⟨#[]⟩, .string ⟨#[]⟩, .int .i64 0, .slice none 0 0, .int .i64 0, .int .i64 0]) (And.intro (Blk.put_ne BD4.out W3.heap.size 0 [.int .i64 2, .string (bs tn), .string (bs q.r.text.2), .slice none 0 0, .slice none 0 0, .slice none 0 0, .slice none 0 0, .slice none 0 0, .string ⟨#[]⟩, .string ⟨#[]⟩, .string ⟨#[]⟩, .int .i64 0, .slice none 0 0, .int .i64 0, .int .i64 0] HDN) (And.intro HPB.out (HR4.out.fr ((Fr.refl (fun k => k = W3.heap.size) _).put W3.heap.size 0 [.int .i64 2, .string (bs tn), .string (bs q.r.text.2), .slice none 0 0, .slice none 0 0, .slice none 0 0, .slice none 0 0, .slice none 0 0, .string ⟨#[]⟩, .string ⟨#[]⟩, .string ⟨#[]⟩, .int .i64 0, .slice none 0 0, .int .i64 0, .int .i64 0] (fun _ => rfl)) (fun k hk e => HR4.out.ne B5.out (by decide) k hk e)))))
        have HFF := hid (F4.out.trans ((Fr.refl (fun k => k = W3.heap.size) _).put W3.heap.size 0 [.int .i64 2, .string (bs tn), .string (bs q.r.text.2), .slice none 0 0, .slice none 0 0, .slice none 0 0, .slice none 0 0, .slice none 0 0, .string ⟨#[]⟩, .string ⟨#[]⟩, .string ⟨#[]⟩, .int .i64 0, .slice none 0 0, .int .i64 0, .int .i64 0] (fun _ => rfl)) (fun k hk hl => by exfalso; have := HD.out; have := HDN; omega))
        refine wpT_op rfl ?_
        refine wpList_store_mid rfl 90 (.tmp 5) (.tmp 12) rfl _ 0 ([.int .i64 2, .string (bs tn), .string (bs q.r.text.2), .slice none 0 0, .slice none 0 0, .slice none 0 0, .slice none 0 0, .slice none 0 0, .string ⟨#[]⟩, .string ⟨#[]⟩, .string ⟨#[]⟩, .int .i64 0, .slice none 0 0, .int .i64 0, .int .i64 0]).toArray rfl rfl hth size_st (by simp [Value.oneCell']) ?_
        rw [List.toList_toArray]
        go_wp2_with (fail)
        refine ⟨fun kz hk hk2 hh => ⟨fun _ => ⟨HFIN.out.2.1.cell 1, HFIN.out.1.cell_r⟩, trivial⟩, ?_⟩
        clear hth
        refine wpT_nil ?_
        go_wp2_with (fail)
        go_meet
        exact ⟨_, rfl, HFIN.out.1, HFIN.out.2.1, HFIN.out.2.2.1, HLT, HFIN.out.2.2.2, HFF.out⟩
      focus
        have fa := (Fr.refl (fun _ => False) W3).alloc (.cells #[.int .i64 0, .string ⟨#[]⟩, .string ⟨#[]⟩, .slice none 0 0, .slice none 0 0, .slice none 0 0, .slice none 0 0, .slice none 0 0, .string ⟨#[]⟩, .string ⟨#[]⟩, .string ⟨#[]⟩, .int .i64 0, .slice none 0 0, .int .i64 0, .int .i64 0] 90)
        have HXD : X1 W3.heap.size ∧ w0.heap.size ≤ W3.heap.size := ⟨HX1.out.2 _ (by have := F2.out.size; have := HD.out; omega), by have := F2.out.size; have := HW.out; have := HD.out; omega⟩
        have B5 := hid (Blk.new W3 [.int .i64 0, .string ⟨#[]⟩, .string ⟨#[]⟩, .slice none 0 0, .slice none 0 0, .slice none 0 0, .slice none 0 0, .slice none 0 0, .string ⟨#[]⟩, .string ⟨#[]⟩, .string ⟨#[]⟩, .int .i64 0, .slice none 0 0, .int .i64 0, .int .i64 0] 90)
        have H4 := hid (H2.out.fre fa)
        have BD4 := hid (Blk.fr BD2.out fa (fun h => h))
        have HR4 := hid (HR2.out.fre fa)
        have F4 := hid (F2.out.trans fa (fun _ h _ => h.elim))
        have HDN : d ≠ W3.heap.size := by have := BD2.out.lt; omega
        have HLT : d < W3.heap.size := BD2.out.lt
        refine wpT_op rfl ?_
        go_wp2_with (fail)
        (refine ⟨?_, ?_⟩; focus (intro kz hk hk2 hh; first | (exfalso; simp at hk2; omega) | exact hh | exact (fun h => absurd h (by omega)) | obtain ⟨qa, qb⟩ := hh; first | exact ⟨qa, qb⟩ | (refine ⟨fun h => absurd h (by omega), ?_⟩; first | exact qb | (exact ⟨BD4.out.cell 1, H4.out.cell_r⟩)) | (refine ⟨fun h => ?_, ?_⟩; (have qa := qa h); all_goals (first | exact qa | exact qb | (exact ⟨BD4.out.cell 1, H4.out.cell_r⟩)))))
        refine wpT_op rfl ?_
        go_wp2_with (fail)
        (refine ⟨?_, ?_⟩; focus (intro kz hk hk2 hh; first | (exfalso; simp at hk2; omega) | exact hh | exact (fun h => absurd h (by omega)) | obtain ⟨qa, qb⟩ := hh; first | exact ⟨qa, qb⟩ | (refine ⟨fun h => absurd h (by omega), ?_⟩; first | exact qb | (exact qa)) | (refine ⟨fun h => ?_, ?_⟩; (have qa := qa h); all_goals (first | exact qa | exact qb | (exact qa)))))
        clear fa
        have hth := B5.out.there 0 15 (by simp)
        have HPB := hid (put_blk (vs := [.int .i64 2, .string (bs tn), .string (bs q.r.text.2), .slice none 0 0, .slice none 0 0, .slice none 0 0, .slice none 0 0, .slice none 0 0, .string ⟨#[]⟩, .string ⟨#[]⟩, .string ⟨#[]⟩, .int .i64 0, .slice none 0 0, .int .i64 0, .int .i64 0]) B5.out rfl)
        have HFIN := hid (And.intro (H4.out.puts (d := W3.heap.size) HXD (H4.out.off B5.out) 0 [.int .i64 2, .string (bs tn), .string (bs q.r.text.2), .slice none 0 0, .slice none 0 0, .slice none 0 0, .slice none 0 0, .slice none 0 0, .string ⟨#[]⟩, .string ⟨#[]⟩, .string ⟨#[]⟩, .int .i64 0, .slice none 0 0, .int .i64 0, .int .i64 0]) (And.intro (Blk.put_ne BD4.out W3.heap.size 0 [.int .i64 2, .string (bs tn), .string (bs q.r.text.2), .slice none 0 0, .slice none 0 0, .slice none 0 0, .slice none 0 0, .slice none 0 0, .string ⟨#[]⟩, .string ⟨#[]⟩, .string ⟨#[]⟩, .int .i64 0, .slice none 0 0, .int .i64 0, .int .i64 0] HDN) (And.intro HPB.out (HR4.out.fr ((Fr.refl (fun k => k = W3.heap.size) _).put W3.heap.size 0 [.int .i64 2, .string (bs tn), .string (bs q.r.text.2), .slice none 0 0, .slice none 0 0, .slice none 0 0, .slice none 0 0, .slice none 0 0, .string ⟨#[]⟩, .string ⟨#[]⟩, .string ⟨#[]⟩, .int .i64 0, .slice none 0 0, .int .i64 0, .int .i64 0] (fun _ => rfl)) (fun k hk e => HR4.out.ne B5.out (by decide) k hk e)))))
        have HFF := hid (F4.out.trans ((Fr.refl (fun k => k = W3.heap.size) _).put W3.heap.size 0 [.int .i64 2, .string (bs tn), .string (bs q.r.text.2), .slice none 0 0, .slice none 0 0, .slice none 0 0, .slice none 0 0, .slice none 0 0, .string ⟨#[]⟩, .string ⟨#[]⟩, .string ⟨#[]⟩, .int .i64 0, .slice none 0 0, .int .i64 0, .int .i64 0] (fun _ => rfl)) (fun k hk hl => by exfalso; have := HD.out; have := HDN; omega))
        refine wpT_op rfl ?_
        refine wpList_store_mid rfl 90 (.tmp 5) (.tmp 12) rfl _ 0 ([.int .i64 2, .string (bs tn), .string (bs q.r.text.2), .slice none 0 0, .slice none 0 0, .slice none 0 0, .slice none 0 0, .slice none 0 0, .string ⟨#[]⟩, .string ⟨#[]⟩, .string ⟨#[]⟩, .int .i64 0, .slice none 0 0, .int .i64 0, .int .i64 0]).toArray rfl rfl hth size_st (by simp [Value.oneCell']) ?_
        rw [List.toList_toArray]
        go_wp2_with (fail)
        refine ⟨fun kz hk hk2 hh => ⟨fun _ => ⟨HFIN.out.2.1.cell 1, HFIN.out.1.cell_r⟩, trivial⟩, ?_⟩
        clear hth
        refine wpT_nil ?_
        go_wp2_with (fail)
        go_meet
        exact ⟨_, rfl, HFIN.out.1, HFIN.out.2.1, HFIN.out.2.2.1, HLT, HFIN.out.2.2.2, HFF.out⟩
    focus
      have fa := (Fr.refl (fun _ => False) W2).alloc (.cells #[.int .i64 0, .string ⟨#[]⟩, .string ⟨#[]⟩, .slice none 0 0, .slice none 0 0, .slice none 0 0, .slice none 0 0, .slice none 0 0, .string ⟨#[]⟩, .string ⟨#[]⟩, .string ⟨#[]⟩, .int .i64 0, .slice none 0 0, .int .i64 0, .int .i64 0] 90)
      have HXD : X1 W2.heap.size ∧ w0.heap.size ≤ W2.heap.size := ⟨HX1.out.2 _ (by have := F1.out.size; have := HD.out; omega), by have := F1.out.size; have := HW.out; have := HD.out; omega⟩
      have B3 := hid (Blk.new W2 [.int .i64 0, .string ⟨#[]⟩, .string ⟨#[]⟩, .slice none 0 0, .slice none 0 0, .slice none 0 0, .slice none 0 0, .slice none 0 0, .string ⟨#[]⟩, .string ⟨#[]⟩, .string ⟨#[]⟩, .int .i64 0, .slice none 0 0, .int .i64 0, .int .i64 0] 90)
      have H3 := hid (H1.out.fre fa)
      have BD3 := hid (Blk.fr BD.out fa (fun h => h))
      have HR3 := hid (HR.out.fre fa)
      have F3 := hid (F1.out.trans fa (fun _ h _ => h.elim))
      have HDN : d ≠ W2.heap.size := by have := BD.out.lt; omega
      have HLT : d < W2.heap.size := BD.out.lt
      refine wpT_op rfl ?_
      go_wp2_with (fail)
      (refine ⟨?_, ?_⟩; focus (intro kz hk hk2 hh; first | (exfalso; simp at hk2; omega) | exact hh | exact (fun h => absurd h (by omega)) | obtain ⟨qa, qb⟩ := hh; first | exact ⟨qa, qb⟩ | (refine ⟨fun h => absurd h (by omega), ?_⟩; first | exact qb | (exact ⟨BD3.out.cell 1, H3.out.cell_r⟩)) | (refine ⟨fun h => ?_, ?_⟩; (have qa := qa h); all_goals (first | exact qa | exact qb | (exact ⟨BD3.out.cell 1, H3.out.cell_r⟩)))))
      refine wpT_op rfl ?_
      go_wp2_with ((go_at_call 79; refine H3.out.text.mono ?_; rintro e W3 ⟨rfl, h, f⟩; have H4 := hid h; have BD4 := hid (Blk.fr BD3.out f (BD3.out.ne_of_type H3.out.rd (by decide))); have B5 := hid (Blk.fr B3.out f (B3.out.ne_of_type H3.out.rd (by decide))); have HR4 := hid (HR3.out.fr f (fun k hk e => HR3.out.ne H3.out.rd (by decide) k hk e)); have F4 := hid (F3.out.trans f (fun k hk _ => .inl hk)); clear h f))
      (refine ⟨?_, ?_⟩; focus (intro kz hk hk2 hh; first | (exfalso; simp at hk2; omega) | exact hh | exact (fun h => absurd h (by omega)) | obtain ⟨qa, qb⟩ := hh; first | exact ⟨qa, qb⟩ | (refine ⟨fun h => absurd h (by omega), ?_⟩; first | exact qb | (exact ⟨BD4.out.cell 1, H4.out.cell_r⟩)) | (refine ⟨fun h => ?_, ?_⟩; (have qa := qa h); all_goals (first | exact qa | exact qb | (exact ⟨BD4.out.cell 1, H4.out.cell_r⟩)))))
      refine wpT_op rfl ?_
      go_wp2_with (fail)
      (refine ⟨?_, ?_⟩; focus (intro kz hk hk2 hh; first | (exfalso; simp at hk2; omega) | exact hh | exact (fun h => absurd h (by omega)) | obtain ⟨qa, qb⟩ := hh; first | exact ⟨qa, qb⟩ | (refine ⟨fun h => absurd h (by omega), ?_⟩; first | exact qb | (exact qa)) | (refine ⟨fun h => ?_, ?_⟩; (have qa := qa h); all_goals (first | exact qa | exact qb | (exact qa)))))
      clear fa
      have hth := B5.out.there 0 15 (by simp)
      have HPB := hid (put_blk (vs := [.int .i64 2, .string (bs tn), .string (bs q.r.text.2), .slice none 0 0, .slice none 0 0, .slice none 0 0, .slice none 0 0, .slice none 0 0, .string ⟨#[]⟩, .string ⟨#[]⟩, .string ⟨#[]⟩, .int .i64 0, .slice none 0 0, .int .i64 0, .int .i64 0]) B5.out rfl)
      have HFIN := hid (And.intro (H4.out.puts (d := W2.heap.size) HXD (H4.out.off B5.out) 0 [.int .i64 2, .string (bs tn), .string (bs q.r.text.2), .slice none 0 0, .slice none 0 0, .slice none 0 0, .slice none 0 0, .slice none 0 0, .string ⟨#[]⟩, .string ⟨#[]⟩, .string ⟨#[]⟩, .int .i64 0, .slice none 0 0, .int .i64 0, .int .i64 0]) (And.intro (Blk.put_ne BD4.out W2.heap.size 0 [.int .i64 2, .string (bs tn), .string (bs q.r.text.2), .slice none 0 0, .slice none 0 0, .slice none 0 0, .slice none 0 0, .slice none 0 0, .string ⟨#[]⟩, .string ⟨#[]⟩, .string ⟨#[]⟩, .int .i64 0, .slice none 0 0, .int .i64 0, .int .i64 0] HDN) (And.intro HPB.out (HR4.out.fr ((Fr.refl (fun k => k = W2.heap.size) _).put W2.heap.size 0 [.int .i64 2, .string (bs tn), .string (bs q.r.text.2), .slice none 0 0, .slice none 0 0, .slice none 0 0, .slice none 0 0, .slice none 0 0, .string ⟨#[]⟩, .string ⟨#[]⟩, .string ⟨#[]⟩, .int .i64 0, .slice none 0 0, .int .i64 0, .int .i64 0] (fun _ => rfl)) (fun k hk e => HR4.out.ne B5.out (by decide) k hk e)))))
      have HFF := hid (F4.out.trans ((Fr.refl (fun k => k = W2.heap.size) _).put W2.heap.size 0 [.int .i64 2, .string (bs tn), .string (bs q.r.text.2), .slice none 0 0, .slice none 0 0, .slice none 0 0, .slice none 0 0, .slice none 0 0, .string ⟨#[]⟩, .string ⟨#[]⟩, .string ⟨#[]⟩, .int .i64 0, .slice none 0 0, .int .i64 0, .int .i64 0] (fun _ => rfl)) (fun k hk hl => by exfalso; have := HD.out; have := HDN; omega))
      refine wpT_op rfl ?_
      refine wpList_store_mid rfl 90 (.tmp 5) (.tmp 12) rfl _ 0 ([.int .i64 2, .string (bs tn), .string (bs q.r.text.2), .slice none 0 0, .slice none 0 0, .slice none 0 0, .slice none 0 0, .slice none 0 0, .string ⟨#[]⟩, .string ⟨#[]⟩, .string ⟨#[]⟩, .int .i64 0, .slice none 0 0, .int .i64 0, .int .i64 0]).toArray rfl rfl hth size_st (by simp [Value.oneCell']) ?_
      rw [List.toList_toArray]
      go_wp2_with (fail)
      refine ⟨fun kz hk hk2 hh => ⟨fun _ => ⟨HFIN.out.2.1.cell 1, HFIN.out.1.cell_r⟩, trivial⟩, ?_⟩
      clear hth
      refine wpT_nil ?_
      go_wp2_with (fail)
      go_meet
      exact ⟨_, rfl, HFIN.out.1, HFIN.out.2.1, HFIN.out.2.2.1, HLT, HFIN.out.2.2.2, HFF.out⟩
  case rest =>
    obtain ⟨d5, rfl, h2, hbd, h5, hlt, hrc, hff⟩ := hcut
    have H2 := hid h2
    have BD2 := hid hbd
    have B5 := hid h5
    have HR2 := hid hrc
    have F2 := hid hff
    have HLT := hid hlt
    clear h2 hbd h5 hrc hff fd H1 HR F1 BD hlt
    have HIX : ∀ a b, q.r.text.1 = a → q.r.text.2 = b → rIx tn cols q = rDo ⟨((rNames cols (a.num 1).1 q.fine (a.num 1).2).1.num 2).1, q.m, (rNames cols (a.num 1).1 q.fine (a.num 1).2).2.1⟩ (stI tn b (rNames cols (a.num 1).1 q.fine (a.num 1).2).2.2) ((rNames cols (a.num 1).1 q.fine (a.num 1).2).1.num 2).2 := by
      rintro a b rfl rfl
      rfl
    obtain ⟨r1, hr1⟩ : ∃ r, q.r.text.1 = r := ⟨_, rfl⟩
    obtain ⟨xn, hxn⟩ : ∃ r, q.r.text.2 = r := ⟨_, rfl⟩
    have HIX1 := HIX r1 xn hr1 hxn
    have HXN := hid (show xn.length ≤ 9223372036854775807 from by
      rw [← hxn]
      have h1 := RM.take_len (q.r.num 2).1 (q.r.num 2).2
      have h2 := RM.num_lt q.r 2
      have h3 : q.r.text.2 = ((q.r.num 2).1.take (q.r.num 2).2).2 := rfl
      rw [h3]
      omega)
    rw [hr1] at H2
    rw [hxn] at B5
    clear HIX hr1 hxn
    have c0 : wc.cell? ⟨br, 0, none⟩ = some (.pointer (some ⟨p, 0, none⟩)) := H2.out.cell_r
    have HN1 := hid H2.out.num1
    have HNB := hid (RM.num_lt r1 1)
    dsimp only at HN1
    obtain ⟨r2, hr2⟩ : ∃ r, (r1.num 1).1 = r := ⟨_, rfl⟩
    obtain ⟨n, hn⟩ : ∃ n, (r1.num 1).2 = n := ⟨_, rfl⟩
    rw [hr2, hn] at HN1 HIX1
    rw [hn] at HNB
    have hn255 : n ≤ 255 := by have := HNB.out; omega
    replace HIX1 := hid HIX1
    clear hr2 hn
    go_upto_region 3 with (go_at_call 70; refine HN1.out.mono ?_; rintro e W3 ⟨rfl, h, f⟩; have H3 := hid h; have BD3 := hid (Blk.fr BD2.out f (BD2.out.ne_of_type H2.out.rd (by decide))); have B53 := hid (Blk.fr B5.out f (B5.out.ne_of_type H2.out.rd (by decide))); have HR3 := hid (HR2.out.fr f (fun k hk e => HR2.out.ne H2.out.rd (by decide) k hk e)); have F3 := hid (F2.out.trans f (fun k hk _ => .inl hk)); clear h f)
    have HS3 := hid (show Row 9 1 d W3 (.slice none 0 0) 0 (sv []) from Row.nil)
    clear H2 BD2 B5 HR2 F2 c0 HN1
    go_wp2_with (fail)
    go_loopw [15] (fun i wr => ∃ (j : Nat) (an : Option Addr) (cn : Nat), j ≤ n ∧ i = .int .i64 j ∧ RI w0 X1 br bf bc p c ⟨(rNames cols r2 q.fine j).1, q.m, (rNames cols r2 q.fine j).2.1⟩ wr ∧ Blk wr d [.int .i64 1, .string (bs tn), .string (bs []), .slice ac cols.length cc, .slice none 0 0, .slice none 0 0, .slice none 0 0, .slice none 0 0, .string ⟨#[]⟩, .string ⟨#[]⟩, .string ⟨#[]⟩, .int .i64 0, .slice none 0 0, .int .i64 0, .int .i64 0] 90 ∧
      Blk wr d5 [.int .i64 2, .string (bs tn), .string (bs xn), .slice none 0 0, .slice an (rNames cols r2 q.fine j).2.2.length cn, .slice none 0 0, .slice none 0 0, .slice none 0 0, .string ⟨#[]⟩, .string ⟨#[]⟩, .string ⟨#[]⟩, .int .i64 0, .slice none 0 0, .int .i64 0, .int .i64 0] 90 ∧ Row 9 1 d wr (.slice an (rNames cols r2 q.fine j).2.2.length cn) (rNames cols r2 q.fine j).2.2.length (sv (rNames cols r2 q.fine j).2.2) ∧
      Row 171 2 B0 wr (.slice ac cols.length cc) cols.length (cols.flatMap Col.cells) ∧ Fr (fun k => k = p ∨ k = bf ∨ ¬ X k) W wr) (fun i _ => n - (intOf i).toNat)
    case atStart => exact ⟨0, none, 0, by omega, rfl, H3.out, BD3.out, B53.out, HS3.out, HR3.out, F3.out⟩
    case round =>
      obtain ⟨j, an, cn, hj, rfl, h3, hbd, h5, hs, hr, hf⟩ := hrel
      have H4 := hid h3
      have BD4 := hid hbd
      have B54 := hid h5
      have HS4 := hid hs
      have HR4 := hid hr
      have F4 := hid hf
      clear h3 hbd h5 hs hr hf H3 BD3 B53 HS3 HR3 F3
      have HNL := hid (names_len cols r2 q.fine j)
      have HNI := hid (names_in cols r2 q.fine j)
      by_cases hjn : j < n
      · have i1 : (0 : Int) ≤ (j : Int) := by omega
        have i2 : (j : Int) < (n : Int) := by omega
        have HMISS := hid (fun h => names_miss (cols := cols) (r := r2) (fine := q.fine) (j := j) h)
        have HHIT := hid (fun c h => names_hit (cols := cols) (r := r2) (fine := q.fine) (j := j) (c := c) h)
        obtain ⟨P, hP⟩ : ∃ P, rNames cols r2 q.fine j = P := ⟨_, rfl⟩
        obtain ⟨P', hP'⟩ : ∃ P, rNames cols r2 q.fine (j + 1) = P := ⟨_, rfl⟩
        rw [hP] at H4 B54 HS4 HNL HNI
        rw [hP, hP'] at HMISS HHIT
        have HP' := hid hP'
        clear hP hP'
        obtain ⟨r3, f3, l3⟩ := P
        dsimp only at H4 B54 HS4 HNL HNI HMISS HHIT
        have c0 : wr.cell? ⟨br, 0, none⟩ = some (.pointer (some ⟨p, 0, none⟩)) := H4.out.cell_r
        have HN := hid H4.out.num1
        have HKB := hid (RM.num_lt r3 1)
        dsimp only at HN
        obtain ⟨r4, hr4⟩ : ∃ r, (r3.num 1).1 = r := ⟨_, rfl⟩
        obtain ⟨k, hk⟩ : ∃ n, (r3.num 1).2 = n := ⟨_, rfl⟩
        rw [hr4, hk] at HN HMISS HHIT
        rw [hk] at HKB
        clear hr4 hk
        go_upto_region 5 with (go_at_call 70; refine HN.out.mono ?_; rintro e W5 ⟨rfl, h, f⟩; have H5 := hid h; have BD5 := hid (Blk.fr BD4.out f (BD4.out.ne_of_type H4.out.rd (by decide))); have B55 := hid (Blk.fr B54.out f (B54.out.ne_of_type H4.out.rd (by decide))); have HR5 := hid (HR4.out.fr f (fun k hk e => HR4.out.ne H4.out.rd (by decide) k hk e)); have HS5 := hid (HS4.out.fr f (fun k hk e => HS4.out.ne H4.out.rd (by decide) k hk e)); have F5 := hid (F4.out.trans f (fun k hk _ => .inl hk)); clear h f)
        clear H4 BD4 B54 HR4 HS4 F4 HN c0
        have c3 : W5.cell? ⟨d, 3, none⟩ = some (.slice ac cols.length cc) := BD5.out.cell 3
        by_cases hk : cols.length ≤ k
        · have i3 : (cols.length : Int) ≤ (k : Int) := by omega
          have z0 : W5.frozen? ⟨bf, 0, none⟩ = false := H5.out.free_f
          have cf : W5.cell? ⟨bf, 0, none⟩ = some (.bool f3) := H5.out.cell_f
          have HM := hid (HMISS.out (List.getElem?_eq_none hk))
          have H6 := hid (H5.out.mark false)
          have fs := (Fr.refl (fun k => k = bf) W5).setCell ⟨bf, 0, none⟩ (.bool false) (fun _ => rfl)
          have HFN := hid (And.intro (Blk.fr BD5.out fs (BD5.out.ne_of_type H5.out.bfk (by decide))) (And.intro (Blk.fr B55.out fs (B55.out.ne_of_type H5.out.bfk (by decide))) (And.intro (HS5.out.fr fs (fun k hk e => HS5.out.ne H5.out.bfk (by decide) k hk e)) (And.intro (HR5.out.fr fs (fun k hk e => HR5.out.ne H5.out.bfk (by decide) k hk e)) (F5.out.trans fs (fun k hk _ => .inr (.inl hk)))))))
          clear fs HMISS HHIT
          go_wp2_with (fail)
          go_roundw
          case rel =>
            have hm := HP'.out.trans HM.out
            refine ⟨j + 1, an, cn, by omega, by go_num, ?_⟩
            rw [hm]
            exact ⟨H6.out, HFN.out.1, HFN.out.2.1, HFN.out.2.2.1, HFN.out.2.2.2.1, HFN.out.2.2.2.2⟩
          case measure => simp [intOf]; omega
        · have hk2 : k < cols.length := by omega
          have HM := hid (HHIT.out _ (List.getElem?_eq_getElem hk2))
          have i3 : (k : Int) < cols.length := by omega
          have i4 : ¬ (cols.length : Int) ≤ (k : Int) := by omega
          have i5 : (0 : Int) ≤ (k : Int) := by omega
          obtain ⟨g, o, hgo, -, q0⟩ := slK (k := 2) (f := Col.cells) (by decide) col_len (HR5.out.sl' (R := fun _ => True) (fun _ _ => trivial)) hk2
          subst hgo
          have q0 := q0 0 (by decide)
          obtain ⟨x, hx⟩ : ∃ x, x = cols[k] := ⟨_, rfl⟩
          rw [← hx] at q0 HM
          clear hx HMISS HHIT
          obtain ⟨nm, kd⟩ := x
          simp only [Col.cells, Nat.add_zero, List.getElem?_cons_zero] at q0
          dsimp only at HM
          have HQ0 := hid q0
          clear q0
          go_upto_region 7 with fail
          have fd := (Fr.refl (fun _ => False) W5).drew
          have H6 := hid (H5.out.fre fd)
          have BD6 := hid (Blk.fr BD5.out fd (fun h => h))
          have B56 := hid (Blk.fr B55.out fd (fun h => h))
          have HR6 := hid (HR5.out.fre fd)
          have HS6 := hid (HS5.out.fre fd)
          have F6 := hid (F5.out.trans fd (fun _ h _ => h.elim))
          have HQ6 := hid (cell_fr HQ0.out fd (fun h => h))
          clear fd H5 BD5 B55 HR5 HS5 F5 HQ0 c3
          refine wp_region_scr (.take 0 (.take 1 (.take 2 (.take 3 (.take 4 (.take 5 (.take 6 (.take 7 (.op 8 (.op 9 (.take 10 (.op 11 .done)))))))))))) (fun kz w => (kz ≤ 11 → w.cell? ⟨d5, 4, none⟩ = some (.slice an l3.length cn) ∧ w.cell? ⟨d, 3, none⟩ = some (.slice (some ⟨g, o, none⟩) cols.length cc) ∧ w.cell? ⟨g, o + k * 2, none⟩ = some (.string (bs nm))) ∧ Hid True) (by kernel_rfl) (by kernel_rfl) (by intro c a d v w h; cases d <;> exact h) ?_
          repeat
            first
            | (refine wpT_pure rfl rfl rfl ?_; apply Exists.intro; refine ⟨?_, ?_⟩; intro w; (first | (first | (obtain ⟨qa1, qa2, qa3⟩ := qa; go_simp <;> rfl)) | (go_simp <;> rfl)); simp only [Act.put, List.setIfInBounds_toArray, List.set_cons_zero, List.set_cons_succ])
            | (refine wpT_take 11 rfl rfl (by decide +kernel) ⟨fun _ => ⟨B56.out.cell 4, BD6.out.cell 3, HQ6.out⟩, hid trivial⟩ ?_; apply Exists.intro; refine ⟨?_, ?_⟩; intro w hw; (have qa := hw.1 (Nat.le_refl _); have qb := hw.2); (first | (first | (obtain ⟨qa1, qa2, qa3⟩ := qa; go_simp <;> rfl)) | (go_simp <;> rfl)); simp only [Act.put, List.setIfInBounds_toArray, List.set_cons_zero, List.set_cons_succ])
            | (refine wpT_skip rfl rfl ?_; simp only [Act.put, List.setIfInBounds_toArray, List.set_cons_zero, List.set_cons_succ])
          generalize W5.drew = W6 at *
          have FA := hid (fun o => (Fr.refl (fun _ => False) W6).alloc o)
          have HSZ := hid (show d ≤ W6.heap.size from by have := F6.out.size; have := HD.out; omega)
          refine wpT_op rfl ?_
          go_wp2_with (fail)
          (refine ⟨?_, ?_⟩; focus (intro kz hk hk2 hh; first | (exfalso; simp at hk2; omega) | exact hh | exact (fun h => absurd h (by omega)) | obtain ⟨qa, qb⟩ := hh; first | exact ⟨qa, qb⟩ | (refine ⟨fun h => absurd h (by omega), ?_⟩; first | exact qb | (exact ⟨(Blk.fr B56.out (FA.out _) (fun h => h)).cell 4, (Blk.fr BD6.out (FA.out _) (fun h => h)).cell 3, cell_fr HQ6.out (FA.out _) (fun h => h)⟩)) | (refine ⟨fun h => ?_, ?_⟩; (have qa := qa h); all_goals (first | exact qa | exact qb | (exact ⟨(Blk.fr B56.out (FA.out _) (fun h => h)).cell 4, (Blk.fr BD6.out (FA.out _) (fun h => h)).cell 3, cell_fr HQ6.out (FA.out _) (fun h => h)⟩)))))
          refine wpT_op rfl ?_
          go_wp2_with ((at_builtin; refine wpList_app1 rfl (s := .tmp 25) (x := .tmp 32) (t := 78) rfl Tryz.underlying78 info_str rfl rfl rfl HS6.out HSZ.out rfl (by simp [Value.oneCell']) (by have := HNL.out; have := HNB.out; omega) (by have := HNL.out; have := HNB.out; omega) ?_; intro ab ac7 wg APP; have H7 := hid (H6.out.keep APP.fr (fun k hk => ⟨HX1.out.2 k (HS6.out.new k hk), Nat.le_trans HW.out (HS6.out.new k hk)⟩) ⟨fun e => HS6.out.ne H6.out.brk (by decide) _ e rfl, fun e => HS6.out.ne H6.out.bfk (by decide) _ e rfl, fun e => HS6.out.ne H6.out.bck (by decide) _ e rfl, fun e => HS6.out.ne H6.out.rd (by decide) _ e rfl⟩); have BD7 := hid (Blk.fr BD6.out APP.fr (fun hk => HS6.out.ne BD6.out (by decide) _ hk rfl)); have B57 := hid (Blk.fr B56.out APP.fr (fun hk => HS6.out.ne B56.out (by decide) _ hk rfl)); have HR7 := hid (HR6.out.fr APP.fr (rows_ne HR6.out HS6.out (by decide))); have HS7 := hid (APP.row.cast (m := (l3 ++ [nm]).length) (ys := sv (l3 ++ [nm])) (by simp) (by simp [sv])); have F7 := hid (F6.out.trans APP.fr (fun k hk hl => by exfalso; have := HS6.out.new k hk; have := HD.out; omega)); have HQ7 := hid (cell_fr HQ6.out APP.fr (fun hk => rows_ne HR6.out HS6.out (by decide) g rfl hk)); clear APP))
          (refine ⟨?_, ?_⟩; focus (intro kz hk hk2 hh; first | (exfalso; simp at hk2; omega) | exact hh | exact (fun h => absurd h (by omega)) | obtain ⟨qa, qb⟩ := hh; first | exact ⟨qa, qb⟩ | (refine ⟨fun h => absurd h (by omega), ?_⟩; first | exact qb | (exact ⟨B57.out.cell 4, BD7.out.cell 3, HQ7.out⟩)) | (refine ⟨fun h => ?_, ?_⟩; (have qa := qa h); all_goals (first | exact qa | exact qb | (exact ⟨B57.out.cell 4, BD7.out.cell 3, HQ7.out⟩)))))
          clear HS6 H6 BD6 B56 HR6 F6 HQ6 FA
          repeat
            first
            | (refine wpT_pure rfl rfl rfl ?_; apply Exists.intro; refine ⟨?_, ?_⟩; intro w; ((go_simp <;> rfl)); simp only [Act.put, List.setIfInBounds_toArray, List.set_cons_zero, List.set_cons_succ])
            | (refine wpT_take 11 rfl rfl (by decide +kernel) ⟨fun _ => ⟨B57.out.cell 4, BD7.out.cell 3, HQ7.out⟩, hid trivial⟩ ?_; apply Exists.intro; refine ⟨?_, ?_⟩; intro w hw; (have qa := hw.1 (Nat.le_refl _); have qb := hw.2); ((go_simp <;> rfl)); simp only [Act.put, List.setIfInBounds_toArray, List.set_cons_zero, List.set_cons_succ])
            | (refine wpT_skip rfl rfl ?_; simp only [Act.put, List.setIfInBounds_toArray, List.set_cons_zero, List.set_cons_succ])
          have k5 : wg.cell? ⟨d5, 4, none⟩ = some (.slice an l3.length cn) := B57.out.cell 4
          have z5 : wg.frozen? ⟨d5, 4, none⟩ = false := B57.out.frozen 4
          have fs := (Fr.refl (fun k => k = d5) wg).setCell ⟨d5, 4, none⟩ (.slice ab (l3.length + 1) ac7) (fun _ => rfl)
          have H8 := hid (H7.out.put1 (d := d5) ⟨HX1.out.2 _ (by have := HLT.out; omega), by have := HLT.out; have := HW.out; omega⟩ (H7.out.off B57.out) 4 (.slice ab (l3.length + 1) ac7))
          have BD8 := hid (BD7.out.set_ne ⟨d5, 4, none⟩ (.slice ab (l3.length + 1) ac7) (by have := HLT.out; simp; omega))
          have B58 := hid (B57.out.set 4 (.slice ab (l3.length + 1) ac7))
          have HR8 := hid (HR7.out.fr fs (fun k hk e => HR7.out.ne B57.out (by decide) k hk e))
          have HS8 := hid (show Row 9 1 d (wg.setCell ⟨d5, 4, none⟩ (.slice ab (l3.length + 1) ac7)) (.slice ab (l3 ++ [nm]).length ac7) (l3 ++ [nm]).length (sv (l3 ++ [nm])) from by
            have e : (l3 ++ [nm]).length = l3.length + 1 := by simp
            have := HS7.out.fr fs (fun k hk e => HS7.out.ne B57.out (by decide) k hk e)
            rw [e] at this ⊢
            exact this)
          have F8 := hid (F7.out.trans fs (fun k hk hl => by exfalso; have := HLT.out; have := HD.out; omega))
          clear fs H7 BD7 B57 HR7 HS7 F7 HQ7
          refine wpT_op rfl ?_
          go_wp2_with (fail)
          (refine ⟨?_, ?_⟩; focus (intro kz hk hk2 hh; first | (exfalso; simp at hk2; omega) | exact hh | exact (fun h => absurd h (by omega)) | obtain ⟨qa, qb⟩ := hh; first | exact ⟨qa, qb⟩ | (refine ⟨fun h => absurd h (by omega), ?_⟩; first | exact qb | (exact hid trivial)) | (refine ⟨fun h => ?_, ?_⟩; (have qa := qa h); all_goals (first | exact qa | exact qb | (exact hid trivial)))))
          refine wpT_nil ?_
          go_wp2_with (fail)
          go_roundw
          case rel =>
            have hm := HP'.out.trans HM.out
            refine ⟨j + 1, ab, ac7, by omega, by go_num, ?_⟩
            rw [hm]
            refine ⟨H8.out, BD8.out, ?_, HS8.out, HR8.out, F8.out⟩
            have e : (l3 ++ [nm]).length = l3.length + 1 := by simp
            dsimp only
            rw [e]
            exact B58.out
          case measure => simp [intOf]; omega
      · obtain rfl : j = n := by omega
        have i9 : ¬ ((j : Int) < (j : Int)) := by omega
        obtain ⟨P, hP⟩ : ∃ P, rNames cols r2 q.fine j = P := ⟨_, rfl⟩
        rw [hP] at H4 B54 HS4 HNL HNI HIX1
        clear hP
        obtain ⟨r3, f3, l3⟩ := P
        dsimp only at H4 B54 HS4 HNL HNI HIX1
        have c0 : wr.cell? ⟨br, 0, none⟩ = some (.pointer (some ⟨p, 0, none⟩)) := H4.out.cell_r
        have HN := hid H4.out.num2
        have HKB := hid (RM.num_lt r3 2)
        dsimp only at HN
        obtain ⟨r4, hr4⟩ : ∃ r, (r3.num 2).1 = r := ⟨_, rfl⟩
        obtain ⟨k, hk⟩ : ∃ n, (r3.num 2).2 = n := ⟨_, rfl⟩
        rw [hr4, hk] at HN HIX1
        rw [hk] at HKB
        clear hr4 hk
        go_upto_region 10 with (go_at_call 70; refine HN.out.mono ?_; rintro e W5 ⟨rfl, h, f⟩; have H5 := hid h; have BD5 := hid (Blk.fr BD4.out f (BD4.out.ne_of_type H4.out.rd (by decide))); have B55 := hid (Blk.fr B54.out f (B54.out.ne_of_type H4.out.rd (by decide))); have HS5 := hid (HS4.out.fr f (fun k hk e => HS4.out.ne H4.out.rd (by decide) k hk e)); have F5 := hid (F4.out.trans f (fun k hk _ => .inl hk)); clear h f)
        clear H4 BD4 B54 HR4 HS4 F4 HN c0
        have cf : W5.cell? ⟨bf, 0, none⟩ = some (.bool f3) := H5.out.cell_f
        have cc0 : W5.cell? ⟨bc, 0, none⟩ = some (.pointer (some ⟨c, 0, none⟩)) := H5.out.cell_c
        have zf : W5.frozen? ⟨bf, 0, none⟩ = false := H5.out.free_f
        cases f3 with
        | false =>
          have H6 := hid (H5.out.mark false)
          have fs := (Fr.refl (fun k => k = bf) W5).setCell ⟨bf, 0, none⟩ (.bool false) (fun _ => rfl)
          have F6 := hid (F5.out.trans fs (fun k hk _ => .inr (.inl hk)))
          have HE := hid (HIX1.out.trans (show rDo ⟨r4, q.m, false⟩ (stI tn xn l3) k = ⟨r4, q.m, false⟩ from rfl))
          clear fs
          go_wp2_with (fail)
          go_end0
          exact ⟨rfl, by rw [HE.out]; exact H6.out.less (HX1.out.1) HAT.out, F6.out⟩
        | true =>
          have HDO := hid (H5.out.do_ (Y := X) (P := fun _ => True) (fun k hk => ⟨HX1.out.1 k hk, by have := HXX.out k hk; have := F5.out.size; have := HD.out; omega⟩) HAT.out (t := ⟨stI tn xn l3, none, 0, an, cn, none, 0, 0, none, 0, 0, none, 0, 0, ⟨#[]⟩, ⟨#[]⟩, 0, none, 0, 0, 0, 0⟩)
            ⟨⟨none, 0, rfl, Nat.le_refl _, fun h => absurd rfl h⟩, HS5.out.sl' (fun _ _ => trivial), by simp [stI], by have := HNL.out; simp only [stI]; omega, fun c hc => by simp [stI] at hc, fun x hx => by
              obtain ⟨c, hc, e⟩ := HNI.out x hx
              have := HCN.out c hc
              rw [e]; omega⟩ (show -9223372036854775808 ≤ (2 : Int) ∧ (2 : Int) ≤ 9223372036854775807 from ⟨by decide, by decide⟩) k)
          unfold StV.cells at HDO
          dsimp only [stI, List.length_nil] at HDO
          have HE := hid (HIX1.out.trans (show rDo ⟨r4, q.m, true⟩ (stI tn xn l3) k = ⟨r4, (doM q.m (stI tn xn l3) k).1, decide ((doM q.m (stI tn xn l3) k).2 = 0)⟩ from rfl))
          obtain ⟨dp, hdp⟩ : ∃ dp, doM q.m (stI tn xn l3) k = dp := ⟨_, rfl⟩
          unfold stI at hdp HE
          rw [hdp] at HDO HE
          clear hdp
          obtain ⟨m6, e6⟩ := dp
          dsimp only at HDO HE
          have HRG := hid (B55.out.all)
          clear cf cc0 zf
          have cf : W5.cell? ⟨bf, 0, none⟩ = some (.bool true) := H5.out.cell_f
          have cc0 : W5.cell? ⟨bc, 0, none⟩ = some (.pointer (some ⟨c, 0, none⟩)) := H5.out.cell_c
          by_cases h0 : e6 = 0
          · subst h0
            replace HE := hid (HE.out.trans (show (⟨r4, m6, decide ((0 : Int) = 0)⟩ : RS) = ⟨r4, m6, true⟩ from by simp))
            go_wp2_with (first
              | (refine wpList_load_g rfl 90 (.tmp 5) rfl d5 0 rfl _ _ HRG.out Tryz.underlying90 rfl size_st ?_)
              | (go_at_call 116; refine HDO.out.mono ?_; rintro e W6 ⟨rfl, h, f⟩; have H6 := hid h; have F6 := hid (F5.out.trans f (fun k hk _ => .inr (.inr (fun hx => hk (HX1.out.1 k hx))))); have cf2 : W6.cell? ⟨bf, 0, none⟩ = some (.bool true) := H6.out.cell_f; have zf2 : W6.frozen? ⟨bf, 0, none⟩ = false := H6.out.free_f; clear h f))
            have H7 := hid (H6.out.mark true)
            have F7 := hid (F6.out.trans ((Fr.refl (fun k => k = bf) W6).setCell ⟨bf, 0, none⟩ (.bool true) (fun _ => rfl)) (fun k hk _ => .inr (.inl hk)))
            go_end0
            exact ⟨rfl, by rw [HE.out]; exact H7.out, F7.out⟩
          · have h1 : (e6 == 0) = false := by rw [beq_eq_false_iff_ne]; exact h0
            replace HE := hid (HE.out.trans (show (⟨r4, m6, decide (e6 = 0)⟩ : RS) = ⟨r4, m6, false⟩ from by simp [h0]))
            clear h0
            go_wp2_with (first
              | (refine wpList_load_g rfl 90 (.tmp 5) rfl d5 0 rfl _ _ HRG.out Tryz.underlying90 rfl size_st ?_)
              | (go_at_call 116; refine HDO.out.mono ?_; rintro e W6 ⟨rfl, h, f⟩; have H6 := hid h; have F6 := hid (F5.out.trans f (fun k hk _ => .inr (.inr (fun hx => hk (HX1.out.1 k hx))))); have cf2 : W6.cell? ⟨bf, 0, none⟩ = some (.bool true) := H6.out.cell_f; have zf2 : W6.frozen? ⟨bf, 0, none⟩ = false := H6.out.free_f; clear h f))
            have H7 := hid (H6.out.mark false)
            have F7 := hid (F6.out.trans ((Fr.refl (fun k => k = bf) W6).setCell ⟨bf, 0, none⟩ (.bool false) (fun _ => rfl)) (fun k hk _ => .inr (.inl hk)))
            go_end0
            exact ⟨rfl, by rw [HE.out]; exact H7.out, F7.out⟩
end Go.Proofs.YtiimomgbklgicaaGreat
