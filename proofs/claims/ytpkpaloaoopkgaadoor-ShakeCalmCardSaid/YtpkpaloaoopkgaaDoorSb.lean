/-
  The layer shake, its small functions: at, Serves, Blocked.
-/
import Derived.Test.YtpkpaloaoopkgaaDoorSk
import Derived.Outline
import Derived.Deep.DeepCutAuto
namespace Go.Proofs.YtpkpaloaoopkgaaDoor
set_option linter.unusedVariables false
set_option linter.unusedSimpArgs false
open Go Go.RowKit

abbrev ShkOk (w : World) (p g : Nat) (s : Shk) : Prop := ShkAt 64 72 w p g s

theorem at_yes (p g i : Nat) (s : Shk) (w : World) (h : ShkOk w p g s) (hn : s.l.length ≤ 63) (hi : i < s.l.length) :
    Calls Tryd.prog 26 #[.pointer (some ⟨p, 0, none⟩), iV ((i : Int) + 1)] w fun e w' => e = .returned (.pointer (some ⟨g, i * 3, none⟩)) ∧ w = w' := by
  obtain ⟨h0, _, _⟩ := h.head
  have d1 : decide ((i : Int) + 1 < 1) = false := decide_eq_false (by omega)
  have d2 : decide ((s.l.length : Int) < (i : Int) + 1) = false := decide_eq_false (by omega)
  clear h
  go_enter Tryd.func26, Tryd.ntmps26
  go_wp2
  go_ret
  exact ⟨rfl, rfl⟩
theorem at_no (p g : Nat) (n : Int) (s : Shk) (w : World) (h : ShkOk w p g s) (hi : n < 1 ∨ (s.l.length : Int) < n) :
    Calls Tryd.prog 26 #[.pointer (some ⟨p, 0, none⟩), iV n] w fun e w' => e = .returned (.pointer none) ∧ w = w' := by
  obtain ⟨h0, _, _⟩ := h.head
  clear h
  by_cases d : n < 1
  · have d1 : decide (n < 1) = true := decide_eq_true d
    clear hi d
    go_enter Tryd.func26, Tryd.ntmps26
    go_wp2
    go_ret
    exact ⟨rfl, rfl⟩
  · have d1 : decide (n < 1) = false := decide_eq_false d
    have d2 : decide ((s.l.length : Int) < n) = true := decide_eq_true (by omega)
    clear hi d
    go_enter Tryd.func26, Tryd.ntmps26
    go_wp2
    go_ret
    exact ⟨rfl, rfl⟩

theorem serves_no (p g : Nat) (n : Int) (s : Shk) (w : World) (h : ShkOk w p g s) (hi : n < 1 ∨ (s.l.length : Int) < n) :
    Calls Tryd.prog 12 #[.pointer (some ⟨p, 0, none⟩), iV n] w fun e w' => e = .returned (.bool false) ∧ w = w' := by
  have Ha := Lib.hid (at_no p g n s w h hi)
  clear h hi
  go_enter Tryd.func12, Tryd.ntmps12
  go_wp2_with (go_at_call 26; refine Ha.out.mono ?_; rintro e w' ⟨rfl, rfl⟩)
  go_ret
  exact ⟨rfl, rfl⟩
theorem serves_yes (p g i : Nat) (x : Lnk) (s : Shk) (w : World) (h : ShkOk w p g s) (hn : s.l.length ≤ 63) (hx : s.l[i]? = some x) :
    Calls Tryd.prog 12 #[.pointer (some ⟨p, 0, none⟩), iV ((i : Int) + 1)] w fun e w' => e = .returned (.bool (s.serves x)) ∧ w = w' := by
  have Ha := Lib.hid (at_yes p g i s w h hn (List.getElem?_eq_some_iff.1 hx).1)
  obtain ⟨h0, h1, h2⟩ := h.head
  have c0 := h.c0 hx
  have c1 := h.c1 hx
  have hs : s.serves x = (x.up && (if s.session then decide (x.owed = 0) else s.alone)) := rfl
  obtain ⟨up, owed, down⟩ := x
  obtain ⟨l, session, alone⟩ := s
  dsimp only at *
  rw [hs]
  clear h hx hn hs
  cases up
  · simp only [Bool.false_and]
    go_enter Tryd.func12, Tryd.ntmps12
    go_wp2_with (go_at_call 26; refine Ha.out.mono ?_; rintro e w' ⟨rfl, rfl⟩)
    go_ret
    exact ⟨rfl, rfl⟩
  · cases session
    · simp only [Bool.true_and, Bool.false_eq_true, if_false]
      go_enter Tryd.func12, Tryd.ntmps12
      go_wp2_with (go_at_call 26; refine Ha.out.mono ?_; rintro e w' ⟨rfl, rfl⟩)
      go_ret
      exact ⟨rfl, rfl⟩
    · simp only [Bool.true_and, if_true]
      go_enter Tryd.func12, Tryd.ntmps12
      go_wp2_with (go_at_call 26; refine Ha.out.mono ?_; rintro e w' ⟨rfl, rfl⟩)
      go_ret
      exact ⟨rfl, rfl⟩
theorem blocked_no (p g : Nat) (n : Int) (s : Shk) (w : World) (h : ShkOk w p g s) (hi : n < 1 ∨ (s.l.length : Int) < n) :
    Calls Tryd.prog 14 #[.pointer (some ⟨p, 0, none⟩), iV n] w fun e w' => e = .returned (.bool true) ∧ w = w' := by
  have Ha := Lib.hid (at_no p g n s w h hi)
  clear h hi
  go_enter Tryd.func14, Tryd.ntmps14
  go_wp2_with (go_at_call 26; refine Ha.out.mono ?_; rintro e w' ⟨rfl, rfl⟩)
  go_ret
  exact ⟨rfl, rfl⟩
theorem blocked_yes (p g i : Nat) (x : Lnk) (s : Shk) (w : World) (h : ShkOk w p g s) (hn : s.l.length ≤ 63) (hx : s.l[i]? = some x) :
    Calls Tryd.prog 14 #[.pointer (some ⟨p, 0, none⟩), iV ((i : Int) + 1)] w fun e w' => e = .returned (.bool (s.blocked x)) ∧ w = w' := by
  have Ha := Lib.hid (at_yes p g i s w h hn (List.getElem?_eq_some_iff.1 hx).1)
  obtain ⟨h0, h1, h2⟩ := h.head
  have c2 := h.c2 hx
  have hs : s.blocked x = (!s.session || !x.down) := rfl
  obtain ⟨up, owed, down⟩ := x
  obtain ⟨l, session, alone⟩ := s
  dsimp only at *
  rw [hs]
  clear h hx hn hs
  cases session
  · go_enter Tryd.func14, Tryd.ntmps14
    go_wp2_with (go_at_call 26; refine Ha.out.mono ?_; rintro e w' ⟨rfl, rfl⟩)
    go_ret
    exact ⟨rfl, rfl⟩
  · go_enter Tryd.func14, Tryd.ntmps14
    go_wp2_with (go_at_call 26; refine Ha.out.mono ?_; rintro e w' ⟨rfl, rfl⟩)
    go_ret
    exact ⟨rfl, rfl⟩
end Go.Proofs.YtpkpaloaoopkgaaDoor
