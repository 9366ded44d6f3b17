import Derived.Test.YtiimomgbklgicaaGreatPkRsG
import Derived.Test.YtiimomgbklgicaaGreatPkRsH
set_option linter.unusedVariables false
namespace Go.VB.Cat
open Go.VB.Oct
theorem flatLe {α : Type} (f : α → Bs) (k : Nat) : ∀ (l : List α), (∀ x ∈ l, (f x).length ≤ k) → (l.flatMap f).length ≤ l.length * k
  | [], _ => by simp
  | x :: l, h => by
    have h1 := flatLe f k l (fun y hy => h y (List.mem_cons_of_mem _ hy))
    have h2 := h x (List.mem_cons_self ..)
    rw [List.flatMap_cons, List.length_append, List.length_cons, Nat.succ_mul]
    omega
theorem takeLe {α : Type} (f : α → Bs) (k n : Nat) {l : List α} (h : ∀ x ∈ l, (f x).length ≤ k) (hn : l.length ≤ n) (j : Nat) : ((l.take j).flatMap f).length ≤ n * k := by
  refine Nat.le_trans (flatLe f k _ (fun x hx => h x (List.mem_of_mem_take hx))) (Nat.mul_le_mul_right k ?_)
  rw [List.length_take]
  omega
theorem textLen (s : Bs) : (text s).length = s.length + 2 := by unfold text; rw [List.length_append, be_length _ _ (by omega)]; omega
theorem col_le {c : Col} (h : named c.name = true) : c.bytes.length ≤ 15 := by
  have := named_le h
  unfold Col.bytes
  rw [List.length_append, textLen, be_length _ _ (by omega)]
  omega
theorem ix_le {n : Nat} {x : Ix} (h : IxOk n x) : x.bytes.length ≤ 23 := by
  have h1 := named_le h.name
  have h2 := h.le
  have h3 := flatLe (fun n : Int => be 1 n.toNat) 1 x.cols (fun k _ => Nat.le_of_eq (be_length _ _ (by omega)))
  unfold Ix.bytes
  simp only [List.length_append]
  rw [textLen, be_length _ _ (by omega), be_length _ _ (by omega)]
  omega
theorem tab_le {t : Tab} (h : TabOk t) : t.bytes.length ≤ 198 := by
  have h1 := named_le h.name
  have h2 := flatLe Col.bytes 15 t.cols (fun c hc => col_le (h.col c hc).1)
  have h3 := flatLe Ix.bytes 23 t.ixs (fun x hx => ix_le (h.ix x hx))
  have h4 := h.le
  have h5 := h.ixs
  unfold Tab.bytes
  simp only [List.length_append]
  rw [textLen, be_length _ _ (by omega), be_length _ _ (by omega)]
  omega
theorem bytes_le {m : List Tab} (h : Ok m) : (bytes m).length ≤ 1585 := by
  have h2 := flatLe Tab.bytes 198 m (fun t ht => tab_le (h.tab t ht))
  have h3 := h.len
  unfold bytes
  rw [List.length_append, be_length _ _ (by omega)]
  omega
theorem flat_take_succ {α : Type} (f : α → Bs) {l : List α} {j : Nat} (h : j < l.length) : (l.take (j + 1)).flatMap f = (l.take j).flatMap f ++ f l[j] := by
  rw [List.take_succ_eq_append_getElem h, List.flatMap_append]
  simp
end Go.VB.Cat
namespace Go.Proofs.YtiimomgbklgicaaGreat
open Go.RowKit Go.VB Go.VB.Oct Go.VB.Cat Go.VB.Rec
/-- every block that is neither bytes nor a builder is as it was -/
def Still (W W' : World) : Prop := ∀ k l t, t ≠ 5 → t ≠ 205 → Blk W k l t → Blk W' k l t
theorem Still.refl (W : World) : Still W W := fun _ _ _ _ _ h => h
theorem Still.trans {W W' W'' : World} (h : Still W W') (g : Still W' W'') : Still W W'' := fun k l t h1 h2 hb => g k l t h1 h2 (h k l t h1 h2 hb)
theorem Still.of_fr {W W' : World} (f : Fr (fun _ => False) W W') : Still W W' := fun _ _ _ _ _ h => Blk.fr h f (fun h => h)
theorem Still.row {W W' : World} {e : TypeId} {size B n : Nat} {v : Value} {xs : List Value} (h : Row e size B W v n xs) (f : Still W W') (h1 : e ≠ 5) (h2 : e ≠ 205) : Row e size B W' v n xs := by
  refine ⟨⟨h.own.1, ?_⟩, h.new⟩
  rcases h.own.2 with hn | ⟨g, cap, cur, rfl, hb, hgg, rest⟩
  · exact .inl hn
  · refine .inr ⟨g, cap, cur, rfl, hb, ?_, rest⟩
    have hB : Blk W g cur.toList e := by unfold Blk; simpa using hgg
    have := f g cur.toList e h1 h2 hB
    unfold Blk at this
    simpa using this
theorem Still.tabO {S : Nat → Prop} {W W' : World} {t : TabV} (h : TabO S W t) (f : Still W W') : TabO S W' t :=
  ⟨f.row h.c (by decide) (by decide), h.cS, f.row h.i (by decide) (by decide), h.iS, h.e, fun x hx => ⟨f.row (h.x x hx).1 (by decide) (by decide), (h.x x hx).2⟩⟩
theorem Still.tabs {B : Nat} {W W' : World} {v : Value} {ts : List TabV} (h : TabsR B W v ts) (f : Still W W') : TabsR B W' v ts :=
  ⟨f.row h.r (by decide) (by decide), fun t ht => f.tabO (h.t t ht), h.dc, h.di⟩
/-- a builder of the call's own that holds l -/
structure BB (w0 W : World) (b : Nat) (l : Bs) : Prop where
  bld : ∃ v, Bld w0.heap.size W b l v
  fr : Fr (fun _ => False) w0 W
  ge : w0.heap.size ≤ b
theorem BB.fre {w0 W W' : World} {b : Nat} {l : Bs} (h : BB w0 W b l) (f : Fr (fun _ => False) W W') : BB w0 W' b l := by
  obtain ⟨⟨v, hb⟩, h1, h2⟩ := h
  exact ⟨⟨v, hb.fre f⟩, h1.trans f (fun _ h _ => h), h2⟩
theorem BB.cast {w0 W : World} {b : Nat} {l m : Bs} (h : BB w0 W b l) (e : l = m) : BB w0 W b m := e ▸ h
theorem still_bld {B : Nat} {w w' : World} {b : Nat} {l m : Bs} {v v' : Value} (h : Bld B w b l v) (g : BldW B w w' b m v v') : Still w w' := by
  intro k x t h1 h2 hb
  refine Blk.fr hb g.fr ?_
  rintro (rfl | hk)
  · rcases h.blk with g1 | g1 <;> exact h2 (hb.uniq g1).2
  · obtain ⟨y, hy⟩ := row_blk h.row hk
    exact h1 (hb.uniq hy).2
theorem WS_go {w0 W : World} {b : Nat} {l : Bs} (h : BB w0 W b l) (s : Bs) (hl : l.length + s.length ≤ 1099511627776) :
    Calls Tryz.prog 126 #[.pointer (some ⟨b, 0, none⟩), .string (bs s)] W fun e w' => e = .returned (.tuple #[.int .i64 s.length, .nilIface]) ∧ BB w0 w' b (l ++ s) ∧ Still W w' := by
  obtain ⟨⟨v, hb⟩, h1, h2⟩ := h
  refine (WriteString_go hb h1.size s hl).mono ?_
  rintro e w' ⟨rfl, v', g⟩
  exact ⟨rfl, ⟨⟨v', g.bld⟩, g.frB hb h1 (Nat.le_refl _) h2, h2⟩, still_bld hb g⟩
theorem BS_go {w0 W : World} {b : Nat} {l : Bs} (h : BB w0 W b l) :
    Calls Tryz.prog 128 #[.pointer (some ⟨b, 0, none⟩)] W fun e w' => e = .returned (.string (bs l)) ∧ Fr (fun _ => False) w0 w' := by
  obtain ⟨⟨v, hb⟩, h1, h2⟩ := h
  refine (String_go hb h1.size h2).mono ?_
  rintro e w' ⟨rfl, g⟩
  exact ⟨rfl, fr_below h1 g⟩
theorem one_go {w0 W : World} {b : Nat} {l : Bs} (h : BB w0 W b l) (n : Nat) (hn : n < 9223372036854775808) (hl : l.length ≤ 1099511627000) :
    Calls Tryz.prog 125 #[.int .i64 n, .pointer (some ⟨b, 0, none⟩)] W fun e w' => e = .returned (.tuple #[]) ∧ BB w0 w' b (l ++ be 1 n) ∧ Still W w' := by
  have HP := hid (Put_go n 1 hn (by omega) (by omega) W)
  have HW := hid (fun W' (f : Fr (fun _ => False) W W') => WS_go (h.fre f) (be 1 n) (by rw [be_length _ _ (by omega)]; omega))
  clear h
  go_enter Tryz.func125, Tryz.ntmps125
  go_wp2_with (first
    | (go_at_call 55; refine HP.out.mono ?_; rintro e w1 ⟨rfl, f⟩; have F1 := hid f; clear f)
    | (go_at_call 126; refine (HW.out _ F1.out).mono ?_; rintro e w2 ⟨rfl, hb, hs⟩; have H2 := hid (And.intro hb ((Still.of_fr F1.out).trans hs)); clear hb hs))
  go_end0
  exact ⟨rfl, H2.out.1, H2.out.2⟩
set_option maxRecDepth 20000 in
set_option maxHeartbeats 4000000 in
theorem Bytes_of {w : World} {p : Option Addr} {m : List Tab} (ok : Ok m) (HA : ∀ W, Fr (fun _ => False) w W → Calls Tryz.prog 127 #[.pointer p] W fun e w' => ∃ (v : Value) (ys : List TabV), e = .returned v ∧ ys.map TabV.t = m ∧ TabsR W.heap.size w' v ys ∧ Fr (fun _ => False) W w') :
    Calls Tryz.prog 82 #[.pointer p] w fun e w' => e = .returned (.string (bs (Cat.bytes m))) ∧ Fr (fun _ => False) w w' := by
  have HAH := hid HA
  have HOK := hid ok
  clear HA ok
  have F0 := hid ((Fr.refl (fun _ => False) w).alloc (.cells #[.pointer none, .slice none 0 0] 205))
  have HB0 := hid (BB.mk (w0 := w) ⟨_, Bld.new w (Nat.le_refl _)⟩ F0.out (Nat.le_refl _))
  have hmf : ∀ (fn : Fn) (first cap : Array Value) (w : World), (Instr.makeFunc fn first cap).run Tryz.prog w = .ok (.func fn first cap) w := fun _ _ _ _ => rfl
  go_enter Tryz.func82, Tryz.ntmps82
  go_upto_region 2 with fail
  generalize hb : w.heap.size = b at *
  have HBE := hid hb
  clear hb
  generalize w.alloc _ = W0 at *
  go_upto_region 4 with (go_at_call 127; refine (HAH.out _ F0.out).mono ?_; rintro e W1 ⟨v1, ys, rfl, rfl, hr, f⟩; obtain ⟨a1, c1, rfl, _⟩ := hr.r.slice; have HT1 := hid hr; have HB1 := hid (HB0.out.fre f); clear hr f)
  clear HAH HB0 F0 hmf
  have HOT := hid (fun y hy => HOK.out.tab y.t (List.mem_map_of_mem hy) : ∀ y ∈ ys, TabOk y.t)
  have hyl : ys.length ≤ 8 := by have := HOK.out.len; rwa [List.length_map] at this
  have HON := hid (one_go HB1.out ys.length (by omega) (by simp))
  go_upto_region 5 with (go_at_call 125; refine HON.out.mono ?_; rintro e W2 ⟨rfl, h1, h2⟩; have HB2 := hid (h1.cast (m := be 1 ys.length ++ (ys.take 0).flatMap (fun y => y.t.bytes)) (by simp)); have HT2 := hid (h2.tabs HT1.out); clear h1 h2)
  generalize W0.heap.size = bt at *
  clear HB1 HT1 HON
  go_wp2_with (fail)
  go_loopw [23] (fun i wr => ∃ j : Nat, j ≤ ys.length ∧ i = .int .i64 j ∧ BB w wr b (be 1 ys.length ++ (ys.take j).flatMap (fun y => y.t.bytes)) ∧ TabsR bt wr (.slice a1 ys.length c1) ys) (fun i _ => ys.length - (intOf i).toNat)
  case atStart => exact ⟨0, by omega, rfl, HB2.out, HT2.out⟩
  case round =>
    obtain ⟨j, hj, rfl, hbb, htt⟩ := hrel
    have HB3 := hid hbb
    have HT3 := hid htt
    clear hbb htt HB2 HT2
    by_cases hjl : j < ys.length
    · have HTOK := hid (HOT.out _ (List.getElem_mem hjl))
      have HTO := hid (HT3.out.t _ (List.getElem_mem hjl))
      have HFS := hid (flat_take_succ (fun y : TabV => y.t.bytes) hjl)
      obtain ⟨gt, ot, ht, -, q⟩ := slK (k := 4) (f := TabV.cells) (by decide) tab_len (HT3.out.r.sl' (R := fun _ => True) (fun _ _ => trivial)) hjl
      subst ht
      have q0 := q 0 (by decide)
      have q1 := q 1 (by decide)
      have q2 := q 2 (by decide)
      have q3 := q 3 (by decide)
      have i1 : (0 : Int) ≤ (j : Int) := by omega
      have i2 : (j : Int) < ys.length := by omega
      have HLJ := hid (takeLe (fun y : TabV => y.t.bytes) 198 8 (l := ys) (fun y hy => tab_le (HOT.out y hy)) hyl j)
      have HL1 := hid (be_length 1 ys.length (by omega))
      obtain ⟨LJ, hLJ⟩ : ∃ L, L = be 1 ys.length ++ (ys.take j).flatMap (fun y => y.t.bytes) := ⟨_, rfl⟩
      rw [← hLJ] at HB3
      have HLL := hid (show LJ.length ≤ 2000 from by rw [hLJ, List.length_append]; have := HLJ.out; have := HL1.out; omega)
      have HLE := hid hLJ
      obtain ⟨x, hxe⟩ : ∃ x, x = ys[j] := ⟨_, rfl⟩
      rw [← hxe] at q0 q1 q2 q3 HTOK HTO HFS
      clear hxe q hLJ HLJ HL1
      obtain ⟨ac, c3, hvc, _⟩ := HTO.out.c.slice
      obtain ⟨ai, c4, hvi, _⟩ := HTO.out.i.slice
      obtain ⟨⟨id, name, cols, ixs⟩, vc, vi, ix⟩ := x
      dsimp only at hvc hvi
      subst hvc hvi
      simp only [TabV.cells, Nat.add_zero, List.getElem?_cons_zero, List.getElem?_cons_succ] at q0 q1 q2 q3
      have hcl : cols.length ≤ 6 := HTOK.out.le
      have hil : ix.length ≤ 4 := by
        have h1 := HTOK.out.ixs
        have h2 := HTO.out.e
        dsimp only at h1 h2
        rw [h2, List.length_map] at h1
        exact h1
      have hnl : name.length ≤ 12 := (named_le HTOK.out.name).2
      go_upto_region 8 with fail
      have fa := (Fr.refl (fun _ => False) wr).alloc (.cells #[.int .i64 id, .string (bs name), .slice ac cols.length c3, .slice ai ix.length c4] 175)
      have HBD := hid (Blk.new wr [.int .i64 id, .string (bs name), .slice ac cols.length c3, .slice ai ix.length c4] 175)
      replace HTO := hid (HTO.out.fr fa (fun _ _ h => h))
      replace HT3 := hid (HT3.out.fre fa)
      replace HB3 := hid (HB3.out.fre fa)
      clear fa q0 q1 q2 q3
      generalize wr.heap.size = d at *
      generalize wr.alloc _ = W3 at *
      have c1 : W3.cell? ⟨d, 1, none⟩ = some (.string (bs name)) := HBD.out.cell 1
      have HTX := hid (Text_go name (by omega) W3)
      have HWS := hid (fun W (f : Fr (fun _ => False) W3 W) => WS_go (HB3.out.fre f) (text name) (by rw [textLen]; have := HLL.out; omega))
      go_upto_region 9 with (first
        | (go_at_call 81; refine HTX.out.mono ?_; rintro e W4 ⟨rfl, f⟩; have F4 := hid f; clear f)
        | (go_at_call 126; refine (HWS.out _ F4.out).mono ?_; rintro e W5 ⟨rfl, h1, h2⟩; have HS5 := hid ((Still.of_fr F4.out).trans h2); have HB5 := hid h1; clear h1 h2))
      have HBD5 := hid (HS5.out _ _ _ (by decide) (by decide) HBD.out)
      have HTO5 := hid (HS5.out.tabO HTO.out)
      have HT5 := hid (HS5.out.tabs HT3.out)
      clear c1 HTX HWS HBD HTO HT3 HB3 F4 HS5
      have c2 : W5.cell? ⟨d, 2, none⟩ = some (.slice ac cols.length c3) := HBD5.out.cell 2
      have HON := hid (one_go HB5.out cols.length (by omega) (by rw [List.length_append, textLen]; have := HLL.out; omega))
      go_upto_region 10 with (go_at_call 125; refine HON.out.mono ?_; rintro e W6 ⟨rfl, h1, h2⟩; have HB6 := hid (h1.cast (m := (LJ ++ text name ++ be 1 cols.length) ++ (cols.take 0).flatMap Col.bytes) (by simp)); have HS6 := hid h2; clear h1 h2)
      have HBD6 := hid (HS6.out _ _ _ (by decide) (by decide) HBD5.out)
      have HTO6 := hid (HS6.out.tabO HTO5.out)
      have HT6 := hid (HS6.out.tabs HT5.out)
      clear c2 HON HBD5 HTO5 HT5 HB5 HS6
      have c2 : W6.cell? ⟨d, 2, none⟩ = some (.slice ac cols.length c3) := HBD6.out.cell 2
      obtain ⟨L1, hL1⟩ : ∃ L, L = LJ ++ text name ++ be 1 cols.length := ⟨_, rfl⟩
      rw [← hL1] at HB6
      have HL1 := hid (show L1.length ≤ 2015 from by rw [hL1]; simp only [List.length_append]; rw [textLen, be_length _ _ (by omega)]; have := HLL.out; omega)
      have HE1 := hid hL1
      clear hL1
      go_wp2_with (fail)
      go_loopw [39] (fun i wr => ∃ j : Nat, j ≤ cols.length ∧ i = .int .i64 j ∧ BB w wr b (L1 ++ (cols.take j).flatMap Col.bytes) ∧ Blk wr d [.int .i64 id, .string (bs name), .slice ac cols.length c3, .slice ai ix.length c4] 175 ∧ TabO (fun k => bt ≤ k) wr ⟨⟨id, name, cols, ixs⟩, .slice ac cols.length c3, .slice ai ix.length c4, ix⟩ ∧ TabsR bt wr (.slice (some ⟨gt, ot, none⟩) ys.length c1) ys) (fun i _ => cols.length - (intOf i).toNat)
      case atStart => exact ⟨0, by omega, rfl, HB6.out, HBD6.out, HTO6.out, HT6.out⟩
      case round =>
        obtain ⟨jc, hjc, rfl, hbb, hbd, hto, htt⟩ := hrel
        have HB7 := hid hbb
        have HBD7 := hid hbd
        have HTO7 := hid hto
        have HT7 := hid htt
        clear hbb hbd hto htt HB6 HBD6 HTO6 HT6 c2
        by_cases hjcl : jc < cols.length
        · have HCK := hid (HTOK.out.col _ (List.getElem_mem hjcl))
          have HFC := hid (flat_take_succ Col.bytes hjcl)
          obtain ⟨gc, oc, hgc, -, q⟩ := slK (k := 2) (f := Col.cells) (by decide) col_len (HTO7.out.c.sl' (R := fun _ => True) (fun _ _ => trivial)) hjcl
          subst hgc
          have q0 := q 0 (by decide)
          have q1 := q 1 (by decide)
          have i3 : (0 : Int) ≤ (jc : Int) := by omega
          have i4 : (jc : Int) < cols.length := by omega
          have HLC := hid (takeLe Col.bytes 15 6 (l := cols) (fun c hc => col_le (HTOK.out.col c hc).1) hcl jc)
          obtain ⟨LC, hLC⟩ : ∃ L, L = L1 ++ (cols.take jc).flatMap Col.bytes := ⟨_, rfl⟩
          rw [← hLC] at HB7
          have HLL2 := hid (show LC.length ≤ 2200 from by rw [hLC, List.length_append]; have := HLC.out; have := HL1.out; omega)
          have HCE := hid hLC
          obtain ⟨x, hxe⟩ : ∃ x, x = cols[jc] := ⟨_, rfl⟩
          rw [← hxe] at q0 q1 HCK HFC
          clear hxe q hLC HLC
          obtain ⟨cn, kind⟩ := x
          simp only [Col.cells, Nat.add_zero, List.getElem?_cons_zero, List.getElem?_cons_succ] at q0 q1
          have hcn : cn.length ≤ 12 := (named_le HCK.out.1).2
          obtain ⟨kn, rfl, hkn⟩ : ∃ k : Nat, kind = (k : Int) ∧ k ≤ 2 := ⟨kind.toNat, by have := HCK.out.2; dsimp only at this; omega, by have := HCK.out.2; dsimp only at this; omega⟩
          go_upto_region 13 with fail
          have fa := (Fr.refl (fun _ => False) wr).alloc (.cells #[.string (bs cn), .int .i64 kn] 171)
          have HBK := hid (Blk.new wr [.string (bs cn), .int .i64 kn] 171)
          replace HTO7 := hid (HTO7.out.fr fa (fun _ _ h => h))
          replace HT7 := hid (HT7.out.fre fa)
          replace HB7 := hid (HB7.out.fre fa)
          replace HBD7 := hid (Blk.fr HBD7.out fa (fun h => h))
          clear fa q0 q1
          generalize wr.heap.size = d2 at *
          generalize wr.alloc _ = W7 at *
          have c1 : W7.cell? ⟨d2, 0, none⟩ = some (.string (bs cn)) := HBK.out.cell 0
          have HTX := hid (Text_go cn (by omega) W7)
          have HWS := hid (fun W (f : Fr (fun _ => False) W7 W) => WS_go (HB7.out.fre f) (text cn) (by rw [textLen]; have := HLL2.out; omega))
          go_upto_region 14 with (first
            | (go_at_call 81; refine HTX.out.mono ?_; rintro e W4 ⟨rfl, f⟩; have F4 := hid f; clear f)
            | (go_at_call 126; refine (HWS.out _ F4.out).mono ?_; rintro e W8 ⟨rfl, h1, h2⟩; have HS8 := hid ((Still.of_fr F4.out).trans h2); have HB8 := hid h1; clear h1 h2))
          have HBD8 := hid (HS8.out _ _ _ (by decide) (by decide) HBD7.out)
          have HBK8 := hid (HS8.out _ _ _ (by decide) (by decide) HBK.out)
          have HTO8 := hid (HS8.out.tabO HTO7.out)
          have HT8 := hid (HS8.out.tabs HT7.out)
          clear c1 HTX HWS HBD7 HTO7 HT7 HB7 F4 HS8 HBK
          have c2 : W8.cell? ⟨d2, 1, none⟩ = some (.int .i64 kn) := HBK8.out.cell 1
          have HON := hid (one_go HB8.out kn (by omega) (by rw [List.length_append, textLen]; have := HLL2.out; omega))
          go_wp2_with (go_at_call 125; refine HON.out.mono ?_; rintro e W9 ⟨rfl, h1, h2⟩; have HB9 := hid (h1.cast (m := L1 ++ (cols.take (jc + 1)).flatMap Col.bytes) (by rw [HFC.out, HCE.out]; simp [Col.bytes])); have HS9 := hid h2; clear h1 h2)
          have HBD9 := hid (HS9.out _ _ _ (by decide) (by decide) HBD8.out)
          have HTO9 := hid (HS9.out.tabO HTO8.out)
          have HT9 := hid (HS9.out.tabs HT8.out)
          clear c2 HON HBD8 HTO8 HT8 HB8 HS9 HBK8
          go_roundw
          case rel => exact ⟨jc + 1, by omega, by go_num, HB9.out, HBD9.out, HTO9.out, HT9.out⟩
          case measure => simp [intOf]; omega
        · obtain rfl : jc = cols.length := by omega
          rw [List.take_length] at HB7
          have HLC := hid (flatLe Col.bytes 15 cols (fun c hc => col_le (HTOK.out.col c hc).1))
          have c3x : wr.cell? ⟨d, 3, none⟩ = some (.slice ai ix.length c4) := HBD7.out.cell 3
          have HON := hid (one_go HB7.out ix.length (by omega) (by rw [List.length_append]; have := HL1.out; have := HLC.out; omega))
          go_upto_region 17 with (go_at_call 125; refine HON.out.mono ?_; rintro e W8 ⟨rfl, h1, h2⟩; have HB8 := hid (h1.cast (m := (L1 ++ cols.flatMap Col.bytes ++ be 1 ix.length) ++ (ix.take 0).flatMap (fun y => y.x.bytes)) (by simp)); have HS8 := hid h2; clear h1 h2)
          have HBD8 := hid (HS8.out _ _ _ (by decide) (by decide) HBD7.out)
          have HTO8 := hid (HS8.out.tabO HTO7.out)
          have HT8 := hid (HS8.out.tabs HT7.out)
          clear c3x HON HBD7 HTO7 HT7 HB7 HS8
          have c3x : W8.cell? ⟨d, 3, none⟩ = some (.slice ai ix.length c4) := HBD8.out.cell 3
          obtain ⟨L2, hL2⟩ : ∃ L, L = L1 ++ cols.flatMap Col.bytes ++ be 1 ix.length := ⟨_, rfl⟩
          rw [← hL2] at HB8
          have HL2 := hid (show L2.length ≤ 2300 from by rw [hL2]; simp only [List.length_append]; rw [be_length _ _ (by omega)]; have := HL1.out; have := HLC.out; omega)
          have HE2 := hid hL2
          clear hL2 HLC
          go_wp2_with (fail)
          go_loopw [60] (fun i wr => ∃ j : Nat, j ≤ ix.length ∧ i = .int .i64 j ∧ BB w wr b (L2 ++ (ix.take j).flatMap (fun y => y.x.bytes)) ∧ TabO (fun k => bt ≤ k) wr ⟨⟨id, name, cols, ixs⟩, .slice ac cols.length c3, .slice ai ix.length c4, ix⟩ ∧ TabsR bt wr (.slice (some ⟨gt, ot, none⟩) ys.length c1) ys) (fun i _ => ix.length - (intOf i).toNat)
          case atStart => exact ⟨0, by omega, rfl, HB8.out, HTO8.out, HT8.out⟩
          case round =>
            obtain ⟨ji, hji, rfl, hbb, hto, htt⟩ := hrel
            have HB9 := hid hbb
            have HTO9 := hid hto
            have HT9 := hid htt
            clear hbb hto htt HB8 HBD8 HTO8 HT8 c3x
            by_cases hjil : ji < ix.length
            · have HIK := hid (show IxOk cols.length ix[ji].x from HTOK.out.ix _ (by rw [HTO9.out.e]; exact List.mem_map_of_mem (List.getElem_mem hjil)))
              have HXR := hid (HTO9.out.x _ (List.getElem_mem hjil)).1
              have HFI := hid (flat_take_succ (fun y : IxV => y.x.bytes) hjil)
              obtain ⟨gi, oi, hgi, -, q⟩ := slK (k := 3) (f := IxV.cells) (by decide) ix_len (HTO9.out.i.sl' (R := fun _ => True) (fun _ _ => trivial)) hjil
              subst hgi
              have q0 := q 0 (by decide)
              have q1 := q 1 (by decide)
              have q2 := q 2 (by decide)
              have i5 : (0 : Int) ≤ (ji : Int) := by omega
              have i6 : (ji : Int) < ix.length := by omega
              have HLI := hid (takeLe (fun y : IxV => y.x.bytes) 23 4 (l := ix) (fun y hy => ix_le (HTOK.out.ix y.x (by rw [HTO9.out.e]; exact List.mem_map_of_mem hy))) hil ji)
              obtain ⟨LI, hLI⟩ : ∃ L, L = L2 ++ (ix.take ji).flatMap (fun y => y.x.bytes) := ⟨_, rfl⟩
              rw [← hLI] at HB9
              have HLL3 := hid (show LI.length ≤ 2500 from by rw [hLI, List.length_append]; have := HLI.out; have := HL2.out; omega)
              have HIE := hid hLI
              obtain ⟨x, hxe⟩ : ∃ x, x = ix[ji] := ⟨_, rfl⟩
              rw [← hxe] at q0 q1 q2 HIK HFI HXR
              clear hxe q hLI HLI
              obtain ⟨av, cv, hvv, _⟩ := HXR.out.slice
              obtain ⟨⟨xn, xc, root⟩, vv⟩ := x
              dsimp only at hvv
              subst hvv
              simp only [IxV.cells, Nat.add_zero, List.getElem?_cons_zero, List.getElem?_cons_succ] at q0 q1 q2
              have hxn : xn.length ≤ 12 := (named_le HIK.out.name).2
              have hxc : xc.length ≤ 6 := HIK.out.le
              obtain ⟨rn, rfl, hrn⟩ : ∃ k : Nat, root = (k : Int) ∧ k < 400 := ⟨root.toNat, by have := HIK.out.root; dsimp only at this; omega, by have := HIK.out.root; dsimp only at this; omega⟩
              go_upto_region 20 with fail
              have fa := (Fr.refl (fun _ => False) wr).alloc (.cells #[.string (bs xn), .slice av xc.length cv, .int .i64 rn] 177)
              have HBK := hid (Blk.new wr [.string (bs xn), .slice av xc.length cv, .int .i64 rn] 177)
              replace HTO9 := hid (HTO9.out.fr fa (fun _ _ h => h))
              replace HT9 := hid (HT9.out.fre fa)
              replace HB9 := hid (HB9.out.fre fa)
              replace HXR := hid (HXR.out.fre fa)
              clear fa q0 q1 q2
              generalize wr.heap.size = d2 at *
              generalize wr.alloc _ = W9 at *
              have c1 : W9.cell? ⟨d2, 0, none⟩ = some (.string (bs xn)) := HBK.out.cell 0
              have HTX := hid (Text_go xn (by omega) W9)
              have HWS := hid (fun W (f : Fr (fun _ => False) W9 W) => WS_go (HB9.out.fre f) (text xn) (by rw [textLen]; have := HLL3.out; omega))
              go_upto_region 21 with (first
                | (go_at_call 81; refine HTX.out.mono ?_; rintro e W4 ⟨rfl, f⟩; have F4 := hid f; clear f)
                | (go_at_call 126; refine (HWS.out _ F4.out).mono ?_; rintro e WA ⟨rfl, h1, h2⟩; have HSA := hid ((Still.of_fr F4.out).trans h2); have HBA := hid h1; clear h1 h2))
              have HBKA := hid (HSA.out _ _ _ (by decide) (by decide) HBK.out)
              have HXRA := hid (HSA.out.row HXR.out (by decide) (by decide))
              have HTOA := hid (HSA.out.tabO HTO9.out)
              have HTA := hid (HSA.out.tabs HT9.out)
              clear c1 HTX HWS HTO9 HT9 HB9 F4 HSA HBK HXR
              have c2 : WA.cell? ⟨d2, 1, none⟩ = some (.slice av xc.length cv) := HBKA.out.cell 1
              have HON := hid (one_go HBA.out xc.length (by omega) (by rw [List.length_append, textLen]; have := HLL3.out; omega))
              go_upto_region 22 with (go_at_call 125; refine HON.out.mono ?_; rintro e WB ⟨rfl, h1, h2⟩; have HBB := hid (h1.cast (m := (LI ++ text xn ++ be 1 xc.length) ++ (xc.take 0).flatMap (fun n => be 1 n.toNat)) (by simp)); have HSB := hid h2; clear h1 h2)
              have HBKB := hid (HSB.out _ _ _ (by decide) (by decide) HBKA.out)
              have HXRB := hid (HSB.out.row HXRA.out (by decide) (by decide))
              have HTOB := hid (HSB.out.tabO HTOA.out)
              have HTB := hid (HSB.out.tabs HTA.out)
              clear c2 HON HTOA HTA HBA HSB HBKA HXRA
              have c2 : WB.cell? ⟨d2, 1, none⟩ = some (.slice av xc.length cv) := HBKB.out.cell 1
              obtain ⟨L3, hL3⟩ : ∃ L, L = LI ++ text xn ++ be 1 xc.length := ⟨_, rfl⟩
              rw [← hL3] at HBB
              have HL3 := hid (show L3.length ≤ 2600 from by rw [hL3]; simp only [List.length_append]; rw [textLen, be_length _ _ (by omega)]; have := HLL3.out; omega)
              have HE3 := hid hL3
              clear hL3
              go_wp2_with (fail)
              go_loopw [76] (fun i wr => ∃ j : Nat, j ≤ xc.length ∧ i = .int .i64 j ∧ BB w wr b (L3 ++ (xc.take j).flatMap (fun n => be 1 n.toNat)) ∧ Blk wr d2 [.string (bs xn), .slice av xc.length cv, .int .i64 rn] 177 ∧ Row 3 1 0 wr (.slice av xc.length cv) xc.length (xc.flatMap icell) ∧ TabO (fun k => bt ≤ k) wr ⟨⟨id, name, cols, ixs⟩, .slice ac cols.length c3, .slice (some ⟨gi, oi, none⟩) ix.length c4, ix⟩ ∧ TabsR bt wr (.slice (some ⟨gt, ot, none⟩) ys.length c1) ys) (fun i _ => xc.length - (intOf i).toNat)
              case atStart => exact ⟨0, by omega, rfl, HBB.out, HBKB.out, HXRB.out, HTOB.out, HTB.out⟩
              case round =>
                obtain ⟨jx, hjx, rfl, hbb, hbk, hxr, hto, htt⟩ := hrel
                have HB9 := hid hbb
                have HBK9 := hid hbk
                have HXR9 := hid hxr
                have HTO9 := hid hto
                have HT9 := hid htt
                clear hbb hbk hxr hto htt HBB HBKB HXRB HTOB HTB c2
                have HLX := hid (takeLe (fun n : Int => be 1 n.toNat) 1 6 (l := xc) (fun n _ => Nat.le_of_eq (be_length _ _ (by omega))) hxc jx)
                by_cases hjxl : jx < xc.length
                · have HNK := hid (HIK.out.col _ (List.getElem_mem hjxl))
                  have HFX := hid (flat_take_succ (fun n : Int => be 1 n.toNat) hjxl)
                  obtain ⟨gx, ox, hgx, -, q⟩ := slK (k := 1) (f := icell) (by decide) icell_one' (HXR9.out.sl' (R := fun _ => True) (fun _ _ => trivial)) hjxl
                  subst hgx
                  have q0 := q 0 (by decide)
                  have i7 : (0 : Int) ≤ (jx : Int) := by omega
                  have i8 : (jx : Int) < xc.length := by omega
                  obtain ⟨n, hne⟩ : ∃ n, n = xc[jx] := ⟨_, rfl⟩
                  rw [← hne] at q0 HNK HFX
                  clear hne q
                  obtain ⟨nn, rfl, hnn⟩ : ∃ k : Nat, n = (k : Int) ∧ k < 6 := ⟨n.toNat, by have := HNK.out; omega, by have := HNK.out; omega⟩
                  simp only [icell, Nat.add_zero, Nat.mul_one, List.getElem?_cons_zero] at q0
                  have HON := hid (one_go HB9.out nn (by omega) (by rw [List.length_append]; have := HL3.out; have := HLX.out; omega))
                  go_wp2_with (go_at_call 125; refine HON.out.mono ?_; rintro e WC ⟨rfl, h1, h2⟩; have HBC := hid (h1.cast (m := L3 ++ (xc.take (jx + 1)).flatMap (fun n => be 1 n.toNat)) (by rw [HFX.out]; simp)); have HSC := hid h2; clear h1 h2)
                  have HBKC := hid (HSC.out _ _ _ (by decide) (by decide) HBK9.out)
                  have HXRC := hid (HSC.out.row HXR9.out (by decide) (by decide))
                  have HTOC := hid (HSC.out.tabO HTO9.out)
                  have HTC := hid (HSC.out.tabs HT9.out)
                  go_roundw
                  case rel => exact ⟨jx + 1, by omega, by go_num, HBC.out, HBKC.out, HXRC.out, HTOC.out, HTC.out⟩
                  case measure => simp [intOf]; omega
                · obtain rfl : jx = xc.length := by omega
                  rw [List.take_length] at HB9 HLX
                  have c5 : wr.cell? ⟨d2, 2, none⟩ = some (.int .i64 rn) := HBK9.out.cell 2
                  have HPT := hid (Put_go rn 2 (by omega) (by omega) (by omega) wr)
                  have HWS := hid (fun W (f : Fr (fun _ => False) wr W) => WS_go (HB9.out.fre f) (be 2 rn) (by rw [List.length_append, be_length _ _ (by omega)]; have := HL3.out; have := HLX.out; omega))
                  go_wp2_with (first
                    | (go_at_call 55; refine HPT.out.mono ?_; rintro e W4 ⟨rfl, f⟩; have F4 := hid f; clear f)
                    | (go_at_call 126; refine (HWS.out _ F4.out).mono ?_; rintro e WD ⟨rfl, h1, h2⟩; have HSD := hid ((Still.of_fr F4.out).trans h2); have HBD := hid (h1.cast (m := L2 ++ (ix.take (ji + 1)).flatMap (fun y => y.x.bytes)) (by rw [HFI.out, HE3.out, HIE.out]; simp [Ix.bytes])); clear h1 h2))
                  have HTOD := hid (HSD.out.tabO HTO9.out)
                  have HTD := hid (HSD.out.tabs HT9.out)
                  go_roundw
                  case rel => exact ⟨ji + 1, by omega, by go_num, HBD.out, HTOD.out, HTD.out⟩
                  case measure => simp [intOf]; omega
            · obtain rfl : ji = ix.length := by omega
              rw [List.take_length] at HB9
              have HXB := hid (show ix.flatMap (fun y => y.x.bytes) = ixs.flatMap Ix.bytes from by rw [show ixs = ix.map IxV.x from HTO9.out.e, List.flatMap_map])
              have HXL := hid (show ix.length = ixs.length from by rw [show ixs = ix.map IxV.x from HTO9.out.e, List.length_map])
              have HBE2 := hid (HB9.out.cast (m := be 1 ys.length ++ (ys.take (j + 1)).flatMap (fun y => y.t.bytes)) (by rw [HFS.out, HXB.out, HE2.out, HE1.out, HLE.out, HXL.out]; simp [Tab.bytes]))
              go_wp2_with (fail)
              go_roundw
              case rel => exact ⟨j + 1, by omega, by go_num, HBE2.out, HT9.out⟩
              case measure => simp [intOf]; omega
    · obtain rfl : j = ys.length := by omega
      rw [List.take_length] at HB3
      have HEND := hid (show be 1 ys.length ++ ys.flatMap (fun y => y.t.bytes) = Cat.bytes (ys.map TabV.t) from by unfold Cat.bytes; rw [List.length_map, List.flatMap_map])
      rw [HEND.out] at HB3
      have HST := hid (BS_go HB3.out)
      obtain ⟨out, hout⟩ : ∃ out, Cat.bytes (ys.map TabV.t) = out := ⟨_, rfl⟩
      rw [hout] at HST
      have HO := hid hout
      clear hout HEND HB3
      go_wp2_with (go_at_call 128; refine HST.out.mono ?_; rintro e W5 ⟨rfl, f⟩; have FF := hid f; clear f)
      go_ret
      exact ⟨by rw [HO.out]; rfl, FF.out⟩
theorem Bytes_go {S : Nat → Prop} {w : World} {c : Nat} {m : List Tab} (h : CR 225 S w c m) (ok : Ok m) :
    Calls Tryz.prog 82 #[.pointer (some ⟨c, 0, none⟩)] w fun e w' => e = .returned (.string (bs (Cat.bytes m))) ∧ Fr (fun _ => False) w w' :=
  Bytes_of ok fun W f => All_go (h.fre f) ok
end Go.Proofs.YtiimomgbklgicaaGreat
