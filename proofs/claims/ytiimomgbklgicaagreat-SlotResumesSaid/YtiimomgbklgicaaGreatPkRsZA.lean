import Derived.Test.YtiimomgbklgicaaGreatPkRsY
import Derived.Test.YtiimomgbklgicaaGreatPkRsZ
set_option linter.unusedVariables false
namespace Go.VB.Slt
open Go.VB Go.VB.Oct Go.VB.Cat Go.VB.Rec
theorem sok_beg (nm : Bs) (a k : Int) (m : List Tab) : SOk (begM nm a k m) := ⟨by simp [begM, turnsOf], fun t ht => by simp [begM, turnsOf] at ht, fun f hf => by simp [begM] at hf, fun f hf => by simp [begM] at hf, by simp [begM]⟩
theorem few_beg (nm : Bs) (a k : Int) (m : List Tab) : FewM (begM nm a k m) 1 := ⟨Nat.le_refl _, Nat.zero_le _, Nat.zero_le _, fun d hd => by simp [begM] at hd⟩
end Go.VB.Slt
namespace Go.Proofs.YtiimomgbklgicaaGreat
open Go.RowKit Go.VB Go.VB.Oct Go.VB.Cat Go.VB.Rec Go.VB.Slt
/-- a slot begun -/
theorem SH.beg {S0 : Nat → Prop} {w : World} {c : Nat} {m : List Tab} (h : CR 225 S0 w c m) (ok : Ok m) (name : Bs) (a l : Int) :
    Calls Tryz.prog 42 #[.string (bs name), .int .i64 a, .int .i64 l, .pointer (some ⟨c, 0, none⟩)] w fun e w' => ∃ s, e = .returned (.pointer (some ⟨s, 0, none⟩)) ∧ SH (fun k => w.heap.size ≤ k ∧ k < w'.heap.size) w' s (begM name a l m) 1 ∧ Fr (fun _ => False) w w' := by
  have HC := hid (Clone_go h ok)
  have hmm := @run_makeMap Tryz.prog
  go_enter Tryz.func42, Tryz.ntmps42
  go_wp2_with (go_at_call 99; refine HC.out.mono ?_; rintro e w1 ⟨q, rfl, hc, f⟩; have HQ := hid hc; have F1 := hid f; clear hc f)
  go_ret
  have hb := begin_fin HQ.out ok name a l
  refine ⟨_, rfl, ⟨_, _, _, hb, rfl, sok_beg _ _ _ _, few_beg _ _ _ _, by show (0 : Nat) ≤ 1; omega, fun k hk => ⟨?_, hb.lt k hk⟩, fun k hk => hk.2⟩, ((F1.out.alloc _).alloc _).alloc _⟩
  have := F1.out.size
  rcases hk with hk | hk
  · omega
  · have := hk.1; omega
/-- what slot.Read gives -/
def SReadP (w w' : World) (e : Ending) : Option Slt → Prop
  | none => e = .returned (.tuple #[.pointer none, .int .i64 11]) ∧ Fr (fun _ => False) w w'
  | some m => ∃ s, e = .returned (.tuple #[.pointer (some ⟨s, 0, none⟩), .int .i64 0]) ∧ SH (fun k => w.heap.size ≤ k ∧ k < w'.heap.size) w' s m 1 ∧ Fr (fun _ => False) w w'
set_option maxRecDepth 20000 in
set_option maxHeartbeats 4000000 in
theorem SRead_go (b : Bs) (hb : b.length ≤ 1099511627776) (w : World) : Calls Tryz.prog 26 #[.string (bs b)] w fun e w' => SReadP w w' e (readSM b) := by
  have HRD := hid (ORead_go b w)
  have HM := hid (readT_of b)
  have ok0 : (RM.new b).Ok := ⟨Nat.zero_le _, hb⟩
  have HOA := hid (show (rdA b).1.Ok from ok0.text)
  have HOB := hid (show (rdB b).1.Ok from HOA.out.num 4)
  have HOC := hid (show (rdC b).1.Ok from HOB.out.num 4)
  have HOD := hid (show (rdD b).1.Ok from HOC.out.text)
  have HLT := hid (show (rdB b).2 < 4294967296 ∧ (rdC b).2 < 4294967296 ∧ (rdD b).2.length ≤ 65535 from ⟨RM.num_lt _ 4, RM.num_lt _ 4, text_le _⟩)
  have HTA := hid (fun (W : World) (p : Nat) (h : RdRep W p (RM.new b)) => show Calls Tryz.prog 79 #[.pointer (some ⟨p, 0, none⟩)] W fun e w' => e = .returned (.string (bs (rdA b).2)) ∧ RdRep w' p (rdA b).1 ∧ Fr (fun k => k = p) W w' from OText_go h ok0)
  have HTB := hid (fun (W : World) (p : Nat) (h : RdRep W p (rdA b).1) => show Calls Tryz.prog 70 #[.pointer (some ⟨p, 0, none⟩), .int .i64 4] W fun e w' => e = .returned (.int .i64 (rdB b).2) ∧ RdRep w' p (rdB b).1 ∧ Fr (fun k => k = p) W w' from ONum_go h HOA.out 4 (by omega))
  have HTC := hid (fun (W : World) (p : Nat) (h : RdRep W p (rdB b).1) => show Calls Tryz.prog 70 #[.pointer (some ⟨p, 0, none⟩), .int .i64 4] W fun e w' => e = .returned (.int .i64 (rdC b).2) ∧ RdRep w' p (rdC b).1 ∧ Fr (fun k => k = p) W w' from ONum_go h HOB.out 4 (by omega))
  have HTD := hid (fun (W : World) (p : Nat) (h : RdRep W p (rdC b).1) => show Calls Tryz.prog 79 #[.pointer (some ⟨p, 0, none⟩)] W fun e w' => e = .returned (.string (bs (rdD b).2)) ∧ RdRep w' p (rdD b).1 ∧ Fr (fun k => k = p) W w' from OText_go h HOC.out)
  have HFA := hid (fun (W : World) (p : Nat) (h : RdRep W p (rdD b).1) => OFailed_go h)
  have HLE := hid (fun (W : World) (p : Nat) (h : RdRep W p (rdD b).1) => OLeft_go h HOD.out)
  have HRS := hid (show readSM b = (readT b).bind fun p => (readM p.2.2.2).map fun m => begM p.1 p.2.1 ((p.2.2.1 : Int) - 1) m from rfl)
  generalize readSM b = o at *
  generalize readT b = t at *
  generalize RM.new b = r0 at *
  generalize rdA b = qa1 at *
  generalize rdB b = qb1 at *
  generalize rdC b = qc1 at *
  generalize rdD b = qd1 at *
  obtain ⟨ra, nm⟩ := qa1
  obtain ⟨rb, na⟩ := qb1
  obtain ⟨rc, nk⟩ := qc1
  obtain ⟨rd, tx⟩ := qd1
  dsimp only at *
  clear ok0 hb
  go_enter Tryz.func26, Tryz.ntmps26
  go_upto_region 2 with (go_at_call 69; refine HRD.out.mono ?_; rintro e w1 ⟨rfl, hr, f⟩; have HP := hid hr; have F1 := hid f; clear hr f)
  generalize hp : w.heap.size = p at *
  have HPE := hid hp
  clear hp HRD
  go_upto_region 3 with (first
    | (go_at_call 70; refine (HTC.out _ _ HP3.out).mono ?_; rintro e w4 ⟨rfl, h, f⟩; have HP4 := hid h; have F4 := hid (F3.out.trans f (fun k hk hl => by have := HPE.out; omega)); clear h f)
    | (go_at_call 70; refine (HTB.out _ _ HP2.out).mono ?_; rintro e w3 ⟨rfl, h, f⟩; have HP3 := hid h; have F3 := hid (F2.out.trans f (fun k hk hl => by have := HPE.out; omega)); clear h f)
    | (go_at_call 79; refine (HTA.out _ _ HP.out).mono ?_; rintro e w2 ⟨rfl, h, f⟩; have HP2 := hid h; have F2 := hid (F1.out.trans f (fun k hk hl => by have := HPE.out; omega)); clear h f))
  clear HTA HTB HTC HP HP2 HP3 F1 F2 F3 HOA HOB HOC
  go_upto_region 4 with (go_at_call 79; refine (HTD.out _ _ HP4.out).mono ?_; rintro e w5 ⟨rfl, h, f⟩; have HP5 := hid h; have F5 := hid (F4.out.trans f (fun k hk hl => by have := HPE.out; omega)); clear h f)
  clear HTD HP4 F4
  have HCR := hid (fun W => Read_go tx (by have := HLT.out; omega) W)
  have HOKM := hid (fun (m : List Tab) (h : readM tx = some m) => (parse_back (show parse tx = some m from by rw [← readM_parse]; exact h)).1)
  obtain ⟨rm, hrm⟩ : ∃ rm, readM tx = rm := ⟨_, rfl⟩
  rw [hrm] at HCR
  replace HOKM := hid (fun (m : List Tab) (h : rm = some m) => HOKM.out m (hrm.trans h))
  have HRME := hid hrm
  clear hrm
  generalize rd.failed = fl at *
  generalize rd.left = lf at *
  cases fl with
  | true =>
    have ho : o = none := by rw [HRS.out, HM.out, if_pos (.inl rfl)]; rfl
    subst ho
    go_wp2_with (go_at_call 72; refine (HFA.out _ _ HP5.out).mono ?_; rintro e w6 ⟨rfl, rfl⟩)
    go_ret2
    exact ⟨rfl, F5.out⟩
  | false =>
    by_cases hl : 0 < lf
    · have ho : o = none := by rw [HRS.out, HM.out, if_pos (.inr (.inl hl))]; rfl
      subst ho
      have l1 : (0 : Int) < (lf : Int) := by omega
      clear hl
      go_wp2_with (first
        | (go_at_call 72; refine (HFA.out _ _ HP5.out).mono ?_; rintro e w6 ⟨rfl, rfl⟩)
        | (go_at_call 80; refine (HLE.out _ _ HP5.out).mono ?_; rintro e w7 ⟨rfl, f⟩; have F7 := hid (F5.out.trans f (fun _ h _ => h)); clear f))
      go_ret2
      exact ⟨rfl, F7.out⟩
    · have l1 : ¬ (0 : Int) < (lf : Int) := by omega
      by_cases hk : nk = 0
      · have ho : o = none := by rw [HRS.out, HM.out, if_pos (.inr (.inr hk))]; rfl
        subst ho
        subst hk
        clear hl
        go_wp2_with (first
          | (go_at_call 72; refine (HFA.out _ _ HP5.out).mono ?_; rintro e w6 ⟨rfl, rfl⟩)
          | (go_at_call 80; refine (HLE.out _ _ HP5.out).mono ?_; rintro e w7 ⟨rfl, f⟩; have F7 := hid (F5.out.trans f (fun _ h _ => h)); clear f))
        go_ret2
        exact ⟨rfl, F7.out⟩
      · have ht : t = some (nm, na, nk, tx) := by
          rw [HM.out, if_neg]
          rintro (h | h | h)
          · cases h
          · exact hl h
          · exact hk h
        have ho : o = rm.map fun m => begM nm na ((nk : Int) - 1) m := by rw [HRS.out, ht, Option.bind_some, HRME.out]
        have k1 : ((nk : Int) == 0) = false := beq_eq_false_iff_ne.2 (by omega)
        obtain ⟨z, hz, hz2⟩ : ∃ z : Int, IntKind.i64.wrap ((nk : Int) - 1) = z ∧ (nk : Int) - 1 = z := ⟨_, IntWalk.i64_in _ (by have := HLT.out; omega), rfl⟩
        rw [hz2] at ho
        clear hl hk ht hz2 HM HRS
        go_upto_region 6 with (first
          | (go_at_call 72; refine (HFA.out _ _ HP5.out).mono ?_; rintro e w6 ⟨rfl, rfl⟩)
          | (go_at_call 80; refine (HLE.out _ _ HP5.out).mono ?_; rintro e w7 ⟨rfl, f⟩; have F7 := hid (F5.out.trans f (fun _ h _ => h)); clear f))
        clear HFA HLE HP5 F5 l1 k1
        cases rm with
        | none =>
          subst ho
          go_wp2_with (go_at_call 59; refine (HCR.out _).mono ?_; rintro e w8 ⟨rfl, f⟩; have F8 := hid (F7.out.trans f (fun _ h _ => h)); clear f)
          go_ret2
          exact ⟨rfl, F8.out⟩
        | some m =>
          subst ho
          have HOK := hid (HOKM.out m rfl)
          clear HOKM
          go_upto_region 9 with (go_at_call 59; refine (HCR.out _).mono ?_; rintro e w8 ⟨c, rfl, hc, f⟩; have HC := hid hc; have F8 := hid (F7.out.trans f (fun _ h _ => h)); clear hc f)
          have HB := hid (SH.beg HC.out HOK.out nm na z)
          go_wp2_with (go_at_call 42; refine HB.out.mono ?_; rintro e w9 ⟨s, rfl, h, f⟩; have H9 := hid h; have F9 := hid (F8.out.trans f (fun _ h _ => h)); clear h f)
          go_ret2
          exact ⟨s, rfl, H9.out.mono (fun k hk => ⟨Nat.le_trans F8.out.size hk.1, hk.2⟩) (fun k hk => hk.2) (Nat.le_refl _), F9.out⟩
end Go.Proofs.YtiimomgbklgicaaGreat
namespace Go.VB.Slt
open Go.VB Go.VB.Oct Go.VB.Cat Go.VB.Rec
theorem ack_last (m : Slt) (k : Int) : (ackM m k).1.last = m.last := by unfold ackM; split <;> rfl
theorem ack_name (m : Slt) (k : Int) : (ackM m k).1.name = m.name := by unfold ackM; split <;> rfl
theorem feeds_last : ∀ (l : List Rc) (m : Slt), (feedsM m m.last l).last = m.last + l.length
  | [], m => by show m.last = m.last + ((0 : Nat) : Int); omega
  | r :: l, m => by
    have e := feed_last m (lsn := m.last + 1) (by omega) r
    have ih := feeds_last l (feedM m (m.last + 1) r)
    rw [e] at ih
    show (feedsM (feedM m (m.last + 1) r) (m.last + 1) l).last = _
    rw [ih, List.length_cons]
    omega
theorem feeds_acked : ∀ (l : List Rc) (m : Slt) (n : Int), (feedsM m n l).acked = m.acked
  | [], m, n => rfl
  | r :: l, m, n => (feeds_acked l (feedM m (n + 1) r) (n + 1)).trans (feed_acked m (n + 1) r)
theorem sbytes_len (m : Slt) (h : m.name.length ≤ 65535) (ok : Ok (catAt m.times (needM m))) : (sbytes m).length ≤ 1000000 := by
  unfold sbytes
  have := bytes_le ok
  rw [List.length_append, List.length_append, List.length_append, textLen, textLen, be_length _ _ (by omega), be_length _ _ (by omega)]
  omega
end Go.VB.Slt
namespace Go.Proofs.YtiimomgbklgicaaGreat
open Go.RowKit Go.VB Go.VB.Oct Go.VB.Cat Go.VB.Rec Go.VB.Slt
/-- a record fed out of a log from record q on -/
theorem feeds_drop (m : Slt) {l : List Rc} {q p i : Nat} (hi : i = q + p) (hil : i < l.length) : feedsM m q ((l.drop q).take (p + 1)) = feedM (feedsM m q ((l.drop q).take p)) ((i : Int) + 1) l[i] := by
  subst hi
  have hp : p < (l.drop q).length := by rw [List.length_drop]; omega
  rw [feeds_take m q hp, List.getElem_drop]
  congr 1
/-- two slots, apart, behind world w2 -/
def Two (w2 W : World) (a : Nat) (ma : Slt) (Na : Nat) (b : Nat) (mb : Slt) (Nb : Nat) : Prop :=
  ∃ Xa Xb : Nat → Prop, SH Xa W a ma Na ∧ SH Xb W b mb Nb ∧ (∀ k, Xa k → ¬ Xb k) ∧ (∀ k, Xa k → w2.heap.size ≤ k) ∧ (∀ k, Xb k → w2.heap.size ≤ k) ∧ Fr (fun _ => False) w2 W
namespace Two
variable {w2 W W' : World} {a b Na Nb : Nat} {ma mb : Slt}
theorem swap (h : Two w2 W a ma Na b mb Nb) : Two w2 W b mb Nb a ma Na := by
  obtain ⟨Xa, Xb, h1, h2, h3, h4, h5, h6⟩ := h
  exact ⟨Xb, Xa, h2, h1, fun k hb ha => h3 k ha hb, h5, h4, h6⟩
theorem fre (h : Two w2 W a ma Na b mb Nb) (f : Fr (fun _ => False) W W') : Two w2 W' a ma Na b mb Nb := by
  obtain ⟨Xa, Xb, h1, h2, h3, h4, h5, h6⟩ := h
  exact ⟨Xa, Xb, h1.fre f, h2.fre f, h3, h4, h5, h6.trans f (fun _ h _ => h)⟩
theorem f (h : Two w2 W a ma Na b mb Nb) : Fr (fun _ => False) w2 W := by
  obtain ⟨Xa, Xb, h1, h2, h3, h4, h5, h6⟩ := h
  exact h6
theorem l (h : Two w2 W a ma Na b mb Nb) : ∃ X, SH X W a ma Na := by
  obtain ⟨Xa, Xb, h1, h2, h3, h4, h5, h6⟩ := h
  exact ⟨Xa, h1⟩
theorem feed {B : Nat} (h : Two w2 W a ma Na b mb Nb) (hN : Na ≤ 1000000) {r : RecV} (hr : RecO B w2 r) (lsn : Int) :
    Calls Tryz.prog 15 #[.pointer (some ⟨a, 0, none⟩), .int .i64 lsn, .agg r.cells.toArray] W fun e w' => e = .returned (.tuple #[]) ∧ Two w2 w' a (feedM ma lsn r.r) (Na + 1) b mb Nb := by
  obtain ⟨Xa, Xb, h1, h2, h3, h4, h5, h6⟩ := h
  have g := hr.g
  refine (h1.feedX (Fr.refl _ _) hN (hr.now.fr h6 (fun _ _ h => h)) (P := fun k => k < w2.heap.size) (fun k hk => ⟨fun hX => by have := h4 k hX; omega, Nat.lt_of_lt_of_le hk h6.size⟩) lsn ⟨by have := g.xid; omega, by have := g.xid; omega⟩ ⟨by have := g.table; omega, by have := g.table; omega⟩ (fun x hx => ⟨by have := g.xids x hx; omega, by have := g.xids x hx; omega⟩) (by have := g.note; omega)).mono ?_
  rintro e w' ⟨rfl, X', k1, k2, k3⟩
  refine ⟨rfl, X', Xb, k1, h2.fr k3 (fun k hb ha => h3 k ha hb), fun k hk hb => ?_, fun k hk => (k2 k hk).elim (h4 k) (fun g => Nat.le_trans h6.size g), h5, h6.trans k3 (fun k hk hl => by have := h4 k hk; omega)⟩
  rcases k2 k hk with g | g
  · exact h3 k g hb
  · have := h2.lt hb; omega
theorem queued (h : Two w2 W a ma Na b mb Nb) (hN : Na ≤ 1000) :
    Calls Tryz.prog 18 #[.pointer (some ⟨a, 0, none⟩), .int .i64 1000] W fun e w' => ∃ (p : Option Addr) (c : Nat) (xs : List TxnV), e = .returned (.slice p xs.length c) ∧ xs.length ≤ c ∧ xs.map TxnV.t = ma.told ∧ xs.length ≤ Na ∧ (∀ x ∈ xs, x.cs.length ≤ Na) ∧ TxnsR W.heap.size w' (.slice p xs.length c) xs ∧ Fr (fun _ => False) W w' := by
  obtain ⟨X, h⟩ := h.l
  exact h.queuedAll hN
end Two
end Go.Proofs.YtiimomgbklgicaaGreat
