import Derived.Test.YtfalehgngioheaaDiskC
set_option linter.unusedVariables false
namespace Go.Proofs.Ytfalehgngioheaa
open Go.RowKit Go.VB Go.VB.Disk
theorem operate_nil (w : World) (x y : Value) : Calls Try.prog 36 #[.pointer none, x, y] w fun e w' => e = .returned (.int .i64 24) ∧ w = w' := by
  go_enter Try.func36, Try.ntmps36
  go_wp2_with (first
   | (go_at_call 23; refine (On_nil _).mono ?_; rintro e w' ⟨rfl, rfl⟩))
  go_ret
  exact ⟨rfl, rfl⟩
theorem operate_off (w : World) (d : Nat) (h3 : w.cell? ⟨d, 3, none⟩ = some (.bool true)) (x y : Value) : Calls Try.prog 36 #[.pointer (some ⟨d, 0, none⟩), x, y] w fun e w' => e = .returned (.int .i64 24) ∧ w = w' := by
  go_enter Try.func36, Try.ntmps36
  go_wp2_with (first
   | (go_at_call 23; refine (On_some _ _ _ h3).mono ?_; rintro e w' ⟨rfl, rfl⟩))
  go_ret
  exact ⟨rfl, rfl⟩
theorem operate_wrong (w : World) (d : Nat) (h3 : w.cell? ⟨d, 3, none⟩ = some (.bool false)) (y : Value) (fw : FuncId) (cw : Array Value) (eg : ∀ args w, (callFunc fw args).run Try.prog w = .ok (.enter fw args) w)
    (r : Int) (hr : (r != 0) = true) (hw : Calls Try.prog fw cw w fun e w' => e = .returned (.int .i64 r) ∧ ∃ n, w' = w.drewN n) :
    Calls Try.prog 36 #[.pointer (some ⟨d, 0, none⟩), .func (.func fw) #[] cw, y] w fun e w' => e = .returned (.int .i64 r) ∧ Fr (fun _ => False) w w' := by
  have HW := hid hw
  clear hw
  go_enter Try.func36, Try.ntmps36
  go_wp2_with (first
   | (go_at_call 23; refine (On_some _ _ _ h3).mono ?_; rintro e w' ⟨rfl, rfl⟩)
   | (refine HW.out.mono ?_; rintro e w' ⟨rfl, n, rfl⟩))
  go_ret
  exact ⟨rfl, (Fr.refl _ _).drewN _⟩
theorem operate_power (w : World) (d : Nat) (h3 : w.cell? ⟨d, 3, none⟩ = some (.bool false)) (h4 : w.cell? ⟨d, 4, none⟩ = some (.bool true)) (left : Int) (h5 : w.cell? ⟨d, 5, none⟩ = some (.int .i64 left)) (hl : left ≤ 0)
    (hz : ∀ o, w.frozen? ⟨d, o, none⟩ = false) (y : Value) (fw : FuncId) (cw : Array Value) (eg : ∀ args w, (callFunc fw args).run Try.prog w = .ok (.enter fw args) w)
    (hw : Calls Try.prog fw cw w fun e w' => e = .returned (.int .i64 0) ∧ ∃ n, w' = w.drewN n) :
    Calls Try.prog 36 #[.pointer (some ⟨d, 0, none⟩), .func (.func fw) #[] cw, y] w fun e w' => e = .returned (.int .i64 24) ∧ ∃ n, w' = (w.drewN n).setCell ⟨d, 3, none⟩ (.bool true) := by
  have HW := hid hw
  clear hw
  go_enter Try.func36, Try.ntmps36
  go_wp2_with (first
   | (go_at_call 23; refine (On_some _ _ _ h3).mono ?_; rintro e w' ⟨rfl, rfl⟩)
   | (refine HW.out.mono ?_; rintro e w' ⟨rfl, n, rfl⟩))
  go_ret
  exact ⟨rfl, _, rfl⟩
theorem operate_go (w : World) (d : Nat) (h3 : w.cell? ⟨d, 3, none⟩ = some (.bool false)) (armed : Bool) (h4 : w.cell? ⟨d, 4, none⟩ = some (.bool armed)) (left : Int) (h5 : w.cell? ⟨d, 5, none⟩ = some (.int .i64 left)) (hl : armed = false ∨ 0 < left)
    (hz : ∀ o, w.frozen? ⟨d, o, none⟩ = false) (fw : FuncId) (cw : Array Value) (eg : ∀ args w, (callFunc fw args).run Try.prog w = .ok (.enter fw args) w)
    (hw : Calls Try.prog fw cw w fun e w' => e = .returned (.int .i64 0) ∧ ∃ n, w' = w.drewN n)
    (fd : FuncId) (cd : Array Value) (ed : ∀ args w, (callFunc fd args).run Try.prog w = .ok (.enter fd args) w) (R : World → Prop)
    (hd : ∀ n, Calls Try.prog fd cd ((w.drewN n).setCell ⟨d, 5, none⟩ (.int .i64 (wrap64 (left - 1)))) fun e w' => e = .returned (.tuple #[]) ∧ R w') :
    Calls Try.prog 36 #[.pointer (some ⟨d, 0, none⟩), .func (.func fw) #[] cw, .func (.func fd) #[] cd] w fun e w' => e = .returned (.int .i64 0) ∧ R w' := by
  have HW := hid hw
  have HD := hid hd
  have hne : fw = fw := rfl
  clear hw hd
  cases armed with
  | false =>
    clear hne hl
    go_enter Try.func36, Try.ntmps36
    go_wp2_with (first
     | (go_at_call 23; refine (On_some _ _ _ h3).mono ?_; rintro e w' ⟨rfl, rfl⟩)
     | (with_reducible refine HW.out.mono ?_; rintro e w' ⟨rfl, n, rfl⟩)
     | ((with_reducible refine (HD.out _).mono ?_); rintro e w' ⟨rfl, hr⟩; have HR := hid hr; clear hr))
    go_ret
    exact ⟨rfl, HR.out⟩
  | true =>
    clear hne
    have hl' : ¬ left ≤ 0 := by rcases hl with h | h; exact absurd h (by simp); omega
    clear hl
    go_enter Try.func36, Try.ntmps36
    go_wp2_with (first
     | (go_at_call 23; refine (On_some _ _ _ h3).mono ?_; rintro e w' ⟨rfl, rfl⟩)
     | (with_reducible refine HW.out.mono ?_; rintro e w' ⟨rfl, n, rfl⟩)
     | ((with_reducible refine (HD.out _).mono ?_); rintro e w' ⟨rfl, hr⟩; have HR := hid hr; clear hr))
    go_ret
    exact ⟨rfl, HR.out⟩
