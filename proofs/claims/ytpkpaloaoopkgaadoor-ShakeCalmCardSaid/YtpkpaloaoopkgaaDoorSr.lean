/-
  gemelref22: the document's own Shake: has, member, Serves, Blocked, Local, Stop, Start, New.
-/
import Derived.Test.YtpkpaloaoopkgaaDoorSg
namespace Go.Proofs.YtpkpaloaoopkgaaDoor
set_option linter.unusedVariables false
set_option linter.unusedSimpArgs false
open Go Go.RowKit
attribute [local go_sem ↓] exec_loadNote exec_storeNote
attribute [local go_sem] ldRow_ptr ldFin_some cellsAt_succ cellsAt_zero allSome_cons allSome_nil stRow_ptr stFin_true allOne_cons allOne_nil there_succ there_zero frozens_succ frozens_zero one_int one_bool one_slice putCells_alloc_at putCells_alloc_old over_all

abbrev RefOk (w : World) (p g : Nat) (s : Shk) : Prop := ShkAt 67 74 w p g s

theorem rhas_yes (p g i : Nat) (s : Shk) (w : World) (h : RefOk w p g s) (hn : s.l.length ≤ 63) (hi : i < s.l.length) :
    Calls Tryd.prog 27 #[.pointer (some ⟨p, 0, none⟩), iV ((i : Int) + 1)] w fun e w' => e = .returned (.bool true) ∧ w = w' := by
  obtain ⟨h0, _, _⟩ := h.head
  have d1 : decide (1 ≤ (i : Int) + 1) = true := decide_eq_true (by omega)
  have d2 : decide ((i : Int) + 1 ≤ (s.l.length : Int)) = true := decide_eq_true (by omega)
  clear h
  go_enter Tryd.func27, Tryd.ntmps27
  go_wp2
  go_ret
  exact ⟨rfl, rfl⟩
theorem rhas_no (p g : Nat) (n : Int) (s : Shk) (w : World) (h : RefOk w p g s) (hi : n < 1 ∨ (s.l.length : Int) < n) :
    Calls Tryd.prog 27 #[.pointer (some ⟨p, 0, none⟩), iV n] w fun e w' => e = .returned (.bool false) ∧ w = w' := by
  obtain ⟨h0, _, _⟩ := h.head
  clear h
  by_cases d : n < 1
  · have d1 : decide (1 ≤ n) = false := decide_eq_false (by omega)
    clear hi d
    go_enter Tryd.func27, Tryd.ntmps27
    go_wp2
    go_ret
    exact ⟨rfl, rfl⟩
  · have d1 : decide (1 ≤ n) = true := decide_eq_true (by omega)
    have d2 : decide (n ≤ (s.l.length : Int)) = false := decide_eq_false (by omega)
    clear hi d
    go_enter Tryd.func27, Tryd.ntmps27
    go_wp2
    go_ret
    exact ⟨rfl, rfl⟩

theorem rserves_no (p g : Nat) (n : Int) (s : Shk) (w : World) (h : RefOk w p g s) (hi : n < 1 ∨ (s.l.length : Int) < n) :
    Calls Tryd.prog 13 #[.pointer (some ⟨p, 0, none⟩), iV n] w fun e w' => e = .returned (.bool false) ∧ w = w' := by
  have Ha := Lib.hid (rhas_no p g n s w h hi)
  clear h hi
  go_enter Tryd.func13, Tryd.ntmps13
  go_wp2_with (go_at_call 27; refine Ha.out.mono ?_; rintro e w' ⟨rfl, rfl⟩)
  go_ret
  exact ⟨rfl, rfl⟩
theorem rserves_yes (p g i : Nat) (x : Lnk) (s : Shk) (w : World) (h : RefOk w p g s) (hn : s.l.length ≤ 63) (hx : s.l[i]? = some x) :
    Calls Tryd.prog 13 #[.pointer (some ⟨p, 0, none⟩), iV ((i : Int) + 1)] w fun e w' => e = .returned (.bool (s.serves x)) ∧ w = w' := by
  have hil := (List.getElem?_eq_some_iff.1 hx).1
  have Ha := Lib.hid (rhas_yes p g i s w h hn hil)
  obtain ⟨h0, h1, h2⟩ := h.head
  have c0 := h.c0 hx
  have c1 := h.c1 hx
  have hi0 : (0 : Int) ≤ (i : Int) := by omega
  have hin : (i : Int) < (s.l.length : Int) := by omega
  have hs : s.serves x = (x.up && (if s.session then decide (x.owed = 0) else s.alone)) := rfl
  obtain ⟨up, owed, down⟩ := x
  obtain ⟨l, session, alone⟩ := s
  dsimp only at *
  rw [hs]
  clear h hx hs
  cases up
  · simp only [Bool.false_and]
    go_enter Tryd.func13, Tryd.ntmps13
    go_wp2_with (go_at_call 27; refine Ha.out.mono ?_; rintro e w' ⟨rfl, rfl⟩)
    go_ret
    exact ⟨rfl, rfl⟩
  · cases session
    · simp only [Bool.true_and, Bool.false_eq_true, if_false]
      go_enter Tryd.func13, Tryd.ntmps13
      go_wp2_with (go_at_call 27; refine Ha.out.mono ?_; rintro e w' ⟨rfl, rfl⟩)
      go_ret
      exact ⟨rfl, rfl⟩
    · simp only [Bool.true_and, if_true]
      go_enter Tryd.func13, Tryd.ntmps13
      go_wp2_with (go_at_call 27; refine Ha.out.mono ?_; rintro e w' ⟨rfl, rfl⟩)
      go_ret
      exact ⟨rfl, rfl⟩
theorem rblocked_no (p g : Nat) (n : Int) (s : Shk) (w : World) (h : RefOk w p g s) (hi : n < 1 ∨ (s.l.length : Int) < n) :
    Calls Tryd.prog 15 #[.pointer (some ⟨p, 0, none⟩), iV n] w fun e w' => e = .returned (.bool true) ∧ w = w' := by
  have Ha := Lib.hid (rhas_no p g n s w h hi)
  clear h hi
  go_enter Tryd.func15, Tryd.ntmps15
  go_wp2_with (go_at_call 27; refine Ha.out.mono ?_; rintro e w' ⟨rfl, rfl⟩)
  go_ret
  exact ⟨rfl, rfl⟩
theorem rblocked_yes (p g i : Nat) (x : Lnk) (s : Shk) (w : World) (h : RefOk w p g s) (hn : s.l.length ≤ 63) (hx : s.l[i]? = some x) :
    Calls Tryd.prog 15 #[.pointer (some ⟨p, 0, none⟩), iV ((i : Int) + 1)] w fun e w' => e = .returned (.bool (s.blocked x)) ∧ w = w' := by
  have hil := (List.getElem?_eq_some_iff.1 hx).1
  have Ha := Lib.hid (rhas_yes p g i s w h hn hil)
  obtain ⟨h0, h1, h2⟩ := h.head
  have c2 := h.c2 hx
  have hi0 : (0 : Int) ≤ (i : Int) := by omega
  have hin : (i : Int) < (s.l.length : Int) := by omega
  have hs : s.blocked x = (!s.session || !x.down) := rfl
  obtain ⟨up, owed, down⟩ := x
  obtain ⟨l, session, alone⟩ := s
  dsimp only at *
  rw [hs]
  clear h hx hs
  cases session
  · go_enter Tryd.func15, Tryd.ntmps15
    go_wp2_with (go_at_call 27; refine Ha.out.mono ?_; rintro e w' ⟨rfl, rfl⟩)
    go_ret
    exact ⟨rfl, rfl⟩
  · go_enter Tryd.func15, Tryd.ntmps15
    go_wp2_with (go_at_call 27; refine Ha.out.mono ?_; rintro e w' ⟨rfl, rfl⟩)
    go_ret
    exact ⟨rfl, rfl⟩

theorem rmember_any (p g i : Nat) (x : Lnk) (s : Shk) (w : World) (h : RefOk w p g s) (hn : s.l.length ≤ 63) (hx : s.l[i]? = some x) (ho : 0 ≤ x.owed ∧ x.owed ≤ 1000000) :
    Calls Tryd.prog 30 #[.pointer (some ⟨p, 0, none⟩), iV (i : Int)] w fun e w' => e = .returned (.agg (tnList (memberTn i x.up)).toArray) ∧ RefOk w' p g { s with l := s.l.set i (Lnk.tell x) } ∧ Off [g] w w' := by
  have hil := (List.getElem?_eq_some_iff.1 hx).1
  obtain ⟨h0, h1, h2⟩ := h.head
  have c0 := h.c0 hx
  have c1 := h.c1 hx
  have fg := h.fz.2
  have lp := h.lt.1
  have lg := h.lt.2
  have hi0 : (0 : Int) ≤ (i : Int) := by omega
  have hin : (i : Int) < (s.l.length : Int) := by omega
  have H := Lib.hid h; have Hx := Lib.hid hx
  have ho1 := ho.1
  have ho2 := ho.2
  clear h hx hil ho
  cases hu : x.up
  · rw [hu] at c0
    have Hu := Lib.hid hu
    clear hu
    go_enter Tryd.func30, Tryd.ntmps30
    go_wp2
    refine bodyPost_ret (v := .agg (tnList (memberTn i false)).toArray) (results_row1 (l := tnList (memberTn i false)) (n := 11) (a := ⟨w.heap.size, 0, none⟩) rfl rfl (Tryd.isAgg35 _) (Tryd.sizeOf35 _) (allSome_block (heap_alloc_new _ _) rfl)) rfl ⟨rfl, ?_, (Off.refl _ _).alloc _⟩
    have e : Lnk.tell x = x := by unfold Lnk.tell; rw [Hu.out]; rfl
    rw [e, set_same _ _ _ Hx.out]
    exact H.out.step ((Below.refl _ _).alloc (Nat.le_refl _) _)
  · rw [hu] at c0
    have Hu := Lib.hid hu
    clear hu
    go_enter Tryd.func30, Tryd.ntmps30
    go_wp2
    have hsz : (w.setCell ⟨g, i * 3 + 1, none⟩ (.int .i64 (x.owed + 1))).heap.size = w.heap.size := by simp
    refine bodyPost_ret (v := .agg (tnList (memberTn i true)).toArray) (results_row1 (l := tnList (memberTn i true)) (n := 11) (a := ⟨w.heap.size, 0, none⟩) rfl rfl (Tryd.isAgg35 _) (Tryd.sizeOf35 _) (allSome_block (by rw [← hsz]; exact heap_alloc_new _ _) rfl)) rfl ⟨rfl, ?_, ((Off.refl _ _).setCell (p := ⟨g, i * 3 + 1, none⟩) (by simp) _).alloc _⟩
    have e : Lnk.tell x = { x with owed := x.owed + 1 } := by unfold Lnk.tell; rw [Hu.out]; rfl
    rw [e]
    exact (H.out.setOwed Hx.out _).step ((Below.refl _ _).alloc (Nat.le_refl _) _)
end Go.Proofs.YtpkpaloaoopkgaaDoor
