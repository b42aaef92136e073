/-
  The layer shake: New, Local, Stop.
-/
import Derived.Test.YtpkpaloaoopkgaaDoorSc
import Derived.Deep.RegionHeld3
import Derived.RegionTactic
namespace Go.Proofs.YtpkpaloaoopkgaaDoor
set_option linter.unusedVariables false
set_option linter.unusedSimpArgs false
open Go Go.RowKit
attribute [local go_sem ↓] exec_loadNote exec_storeNote
attribute [local go_sem] ldRow_ptr ldFin_some cellsAt_succ cellsAt_zero allSome_cons allSome_nil stRow_ptr stFin_true allOne_cons allOne_nil there_succ there_zero frozens_succ frozens_zero one_int one_bool one_slice putCells_alloc_at putCells_alloc_old over_all

theorem local_no (p g : Nat) (n : Int) (up : Bool) (s : Shk) (w : World) (h : ShkOk w p g s) (hi : n < 1 ∨ (s.l.length : Int) < n) :
    Calls Tryd.prog 16 #[.pointer (some ⟨p, 0, none⟩), iV n, .bool up] w fun e w' => e = .returned (.tuple #[.slice none 0 0, .int .i64 1]) ∧ w = w' := by
  have Ha := Lib.hid (at_no p g n s w h hi)
  clear h hi
  go_enter Tryd.func16, Tryd.ntmps16
  go_wp2_with (go_at_call 26; refine Ha.out.mono ?_; rintro e w' ⟨rfl, rfl⟩)
  go_ret2
  exact ⟨rfl, rfl⟩

def LocalPost (w : World) (p g : Nat) (s : Shk) (i : Nat) (x : Lnk) (up : Bool) (e : Ending) (w' : World) : Prop :=
  ∃ v, e = .returned (.tuple #[v, .int .i64 0]) ∧ Told 35 w' w.heap.size v (localTold s i x up) ∧ ShkOk w' p g (s.local i x up) ∧ Off [g] w w'

theorem local_quiet (p g i : Nat) (x : Lnk) (up : Bool) (s : Shk) (w : World) (h : ShkOk w p g s) (hn : s.l.length ≤ 63) (hx : s.l[i]? = some x) (hq : x.up = up ∨ s.session = false) :
    Calls Tryd.prog 16 #[.pointer (some ⟨p, 0, none⟩), iV ((i : Int) + 1), .bool up] w (LocalPost w p g s i x up) := by
  have Ha := Lib.hid (at_yes p g i s w h hn (List.getElem?_eq_some_iff.1 hx).1)
  obtain ⟨h0, h1, h2⟩ := h.head
  have c0 := h.c0 hx
  have fg := h.fz.2
  have hne : p ≠ g := h.ne
  have H := Lib.hid h; have Hx := Lib.hid hx; have Hq := Lib.hid hq
  have fin : ∀ w', w' = w.setCell ⟨g, i * 3, none⟩ (.bool up) → LocalPost w p g s i x up (.returned (.tuple #[.slice none 0 0, .int .i64 0])) w' := by
    rintro w' rfl
    have e1 : localTold s i x up = [] := by unfold localTold; rw [if_pos Hq.out]
    have e2 : s.local i x up = { s with l := s.l.set i { x with up := up } } := by unfold Shk.local; rw [if_pos Hq.out]
    refine ⟨_, rfl, ?_, ?_, (Off.refl _ _).setCell (by simp) _⟩
    · rw [e1]; exact World.ownsRow_nil _ _ _ _
    · rw [e2]; exact H.out.setUp Hx.out up
  have Hfin := Lib.hid fin
  clear h hn hx fin hq
  by_cases hu : x.up = up
  · subst hu
    go_enter Tryd.func16, Tryd.ntmps16
    go_wp2_with (go_at_call 26; refine Ha.out.mono ?_; rintro e w' ⟨rfl, rfl⟩)
    go_ret2
    exact Hfin.out _ rfl
  · have hs : s.session = false := by
      rcases Hq.out with h | h
      · exact absurd h hu
      · exact h
    rw [hs] at h1
    have hub : (x.up == up) = false := by simpa using hu
    clear hs hu
    go_enter Tryd.func16, Tryd.ntmps16
    go_wp2_with (go_at_call 26; refine Ha.out.mono ?_; rintro e w' ⟨rfl, rfl⟩)
    go_ret2
    exact Hfin.out _ rfl

theorem local_tell (p g i : Nat) (x : Lnk) (up : Bool) (s : Shk) (w : World) (h : ShkOk w p g s) (hn : s.l.length ≤ 63) (hx : s.l[i]? = some x) (ho : ∀ x ∈ s.l, 0 ≤ x.owed ∧ x.owed ≤ 1000000) (hu : x.up ≠ up) (hs : s.session = true) :
    Calls Tryd.prog 16 #[.pointer (some ⟨p, 0, none⟩), iV ((i : Int) + 1), .bool up] w (LocalPost w p g s i x up) := by
  have Ha := Lib.hid (at_yes p g i s w h hn (List.getElem?_eq_some_iff.1 hx).1)
  obtain ⟨h0, h1, h2⟩ := h.head
  have c0 := h.c0 hx
  have fg := h.fz.2
  have hne : p ≠ g := h.ne
  have H := Lib.hid h; have Hx := Lib.hid hx; have Ho := Lib.hid ho; have Hu := Lib.hid hu; have Hsn := Lib.hid hs
  rw [hs] at h1
  have hub : (x.up == up) = false := by simpa using hu
  have lg := h.lt.2
  have lp := h.lt.1
  clear h hx ho hu hs
  go_enter Tryd.func16, Tryd.ntmps16
  go_upto_region 8 with (go_at_call 26; refine Ha.out.mono ?_; rintro e w' ⟨rfl, rfl⟩)
  have hsy := H.out.setUp Hx.out up
  have hoy : Off [g] w (w.setCell ⟨g, i * 3, none⟩ (.bool up)) := (Off.refl _ _).setCell (by simp) _
  have hszy : (w.setCell ⟨g, i * 3, none⟩ (.bool up)).heap.size = w.heap.size := by simp
  have hm := members_any p g w.heap.size 1 { s with l := s.l.set i { x with up := up } } [i] ((w.setCell ⟨g, i * 3, none⟩ (.bool up)).alloc (.cells #[iV ((i : Int) + 1)] 3)) (hsy.step ((Below.refl _ _).alloc (Nat.le_refl _) _)) (by simp; omega) (by simp) (by simp; exact (List.getElem?_eq_some_iff.1 Hx.out).1)
    (fun y hy => by
      rcases List.mem_or_eq_of_mem_set hy with hy | hy
      · exact Ho.out y hy
      · subst hy; exact Ho.out x (List.mem_of_getElem? Hx.out)) (by simp) (by omega)
    (fun q j hq => by
      match q, hq with
      | 0, hq =>
        simp at hq; subst hq
        rw [cell_of_block (heap_at0 hszy.symm)]; rfl)
  have Hm := Lib.hid hm; have Hoy := Lib.hid hoy
  clear hm hsy hoy hszy c0 fg h0 h1 h2
  go_wp2_with (go_at_call 28; refine Hm.out.mono ?_; rintro e w' ⟨v, rfl, htold, hsh, hoff⟩)
  go_ret2
  have e1 : localTold s i x up = [memberTn i up] := by unfold localTold; rw [if_neg (by rw [Hsn.out]; simp; exact Hu.out)]
  have e2 : s.local i x up = { s with l := s.l.set i (Lnk.tell { x with up := up }) } := by unfold Shk.local; rw [if_neg (by rw [Hsn.out]; simp; exact Hu.out)]
  have hlt := (List.getElem?_eq_some_iff.1 Hx.out).1
  have hg : (s.l.set i { x with up := up })[i]? = some { x with up := up } := by rw [List.getElem?_set, if_pos rfl, if_pos hlt]
  refine ⟨v, rfl, ?_, ?_, (Hoy.out.alloc _).trans ⟨hoff.os, hoff.tape, hoff.output, hoff.size, hoff.block⟩⟩
  · rw [e1]
    have e3 : tellsUp (s.l.set i { x with up := up }) [i] = [memberTn i up] := by unfold tellsUp; simp [hlt]
    have h4 := own_mono htold (show w.heap.size ≤ _ by simp)
    have h5 : tellsUp ({ s with l := s.l.set i { x with up := up } } : Shk).l [i] = [memberTn i up] := e3
    rw [h5] at h4
    exact h4
  · rw [e2]
    have e3 : tells (s.l.set i { x with up := up }) [i] = s.l.set i (Lnk.tell { x with up := up }) := by
      rw [tells_cons, hg]
      show (s.l.set i { x with up := up }).set i _ = _
      rw [List.set_set]
    have h4 : ShkOk w' p g { s with l := tells (s.l.set i { x with up := up }) [i] } := hsh
    rw [e3] at h4
    exact h4

theorem local_any (p g i : Nat) (x : Lnk) (up : Bool) (s : Shk) (w : World) (h : ShkOk w p g s) (hn : s.l.length ≤ 63) (hx : s.l[i]? = some x) (ho : ∀ x ∈ s.l, 0 ≤ x.owed ∧ x.owed ≤ 1000000) :
    Calls Tryd.prog 16 #[.pointer (some ⟨p, 0, none⟩), iV ((i : Int) + 1), .bool up] w (LocalPost w p g s i x up) := by
  by_cases hq : x.up = up ∨ s.session = false
  · exact local_quiet p g i x up s w h hn hx hq
  · exact local_tell p g i x up s w h hn hx ho (fun e => hq (Or.inl e)) (by cases hs : s.session; exact absurd (Or.inr hs) hq; rfl)
end Go.Proofs.YtpkpaloaoopkgaaDoor
