/-
  gemelref22: the document's own Shake: Local, Stop, Start, New, Take.
-/
import Derived.Test.YtpkpaloaoopkgaaDoorSr
import Derived.Test.YtpkpaloaoopkgaaDoorSq
namespace Go.Proofs.YtpkpaloaoopkgaaDoor
set_option linter.unusedVariables false
set_option linter.unusedSimpArgs false
open Go Go.RowKit
attribute [local go_sem ↓] exec_loadNote exec_storeNote
attribute [local go_sem] ldRow_ptr ldFin_some cellsAt_succ cellsAt_zero allSome_cons allSome_nil stRow_ptr stFin_true allOne_cons allOne_nil there_succ there_zero frozens_succ frozens_zero one_int one_bool one_slice putCells_alloc_at putCells_alloc_old over_all

theorem rlocal_no (p g : Nat) (n : Int) (up : Bool) (s : Shk) (w : World) (h : RefOk w p g s) (hi : n < 1 ∨ (s.l.length : Int) < n) :
    Calls Tryd.prog 21 #[.pointer (some ⟨p, 0, none⟩), iV n, .bool up] w fun e w' => e = .returned (.tuple #[.slice none 0 0, .int .i64 1]) ∧ w = w' := by
  have Ha := Lib.hid (rhas_no p g n s w h hi)
  clear h hi
  go_enter Tryd.func21, Tryd.ntmps21
  go_wp2_with (go_at_call 27; refine Ha.out.mono ?_; rintro e w' ⟨rfl, rfl⟩)
  go_ret2
  exact ⟨rfl, rfl⟩

def RLocalPost (w : World) (p g : Nat) (s : Shk) (i : Nat) (x : Lnk) (up : Bool) (e : Ending) (w' : World) : Prop :=
  ∃ v, e = .returned (.tuple #[v, .int .i64 0]) ∧ Told 35 w' w.heap.size v (localTold s i x up) ∧ RefOk w' p g (s.local i x up) ∧ Off [g] w w'

theorem rlocal_any (p g i : Nat) (x : Lnk) (up : Bool) (s : Shk) (w : World) (h : RefOk w p g s) (hn : s.l.length ≤ 63) (hx : s.l[i]? = some x) (ho : ∀ x ∈ s.l, 0 ≤ x.owed ∧ x.owed ≤ 1000000) :
    Calls Tryd.prog 21 #[.pointer (some ⟨p, 0, none⟩), iV ((i : Int) + 1), .bool up] w (RLocalPost w p g s i x up) := by
  have hil := (List.getElem?_eq_some_iff.1 hx).1
  have Ha := Lib.hid (rhas_yes p g i s w h hn hil)
  obtain ⟨h0, h1, h2⟩ := h.head
  have c0 := h.c0 hx
  have fg := h.fz.2
  have lp := h.lt.1
  have lg := h.lt.2
  have hne : p ≠ g := h.ne
  have hi0 : (0 : Int) ≤ (i : Int) := by omega
  have hin : (i : Int) < (s.l.length : Int) := by omega
  have H := Lib.hid h; have Hx := Lib.hid hx; have Ho := Lib.hid ho
  clear h hx ho hil
  by_cases hu : x.up = up
  · have fin : RLocalPost w p g s i x up (.returned (.tuple #[.slice none 0 0, .int .i64 0])) w := by
      have e1 : localTold s i x up = [] := by unfold localTold; rw [if_pos (Or.inl hu)]
      have e2 : s.local i x up = s := by
        unfold Shk.local; rw [if_pos (Or.inl hu)]
        have : ({ x with up := up } : Lnk) = x := by rw [← hu]
        rw [this, set_same _ _ _ Hx.out]
      refine ⟨_, rfl, ?_, ?_, Off.refl _ _⟩
      · rw [e1]; exact World.ownsRow_nil _ _ _ _
      · rw [e2]; exact H.out
    have Hfin := Lib.hid fin
    clear fin
    subst hu
    go_enter Tryd.func21, Tryd.ntmps21
    go_wp2_with (go_at_call 27; refine Ha.out.mono ?_; rintro e w' ⟨rfl, rfl⟩)
    go_ret2
    exact Hfin.out
  · have hub : (x.up == up) = false := by simpa using hu
    have Hu := Lib.hid hu
    clear hu
    cases hs : s.session
    · rw [hs] at h1
      have fin : RLocalPost w p g s i x up (.returned (.tuple #[.slice none 0 0, .int .i64 0])) (w.setCell ⟨g, i * 3, none⟩ (.bool up)) := by
        have e1 : localTold s i x up = [] := by unfold localTold; rw [if_pos (Or.inr hs)]
        have e2 : s.local i x up = { s with l := s.l.set i { x with up := up } } := by unfold Shk.local; rw [if_pos (Or.inr hs)]
        refine ⟨_, rfl, ?_, ?_, (Off.refl _ _).setCell (by simp) _⟩
        · rw [e1]; exact World.ownsRow_nil _ _ _ _
        · rw [e2]; exact H.out.setUp Hx.out up
      have Hfin := Lib.hid fin
      clear fin hs
      go_enter Tryd.func21, Tryd.ntmps21
      go_wp2_with (go_at_call 27; refine Ha.out.mono ?_; rintro e w' ⟨rfl, rfl⟩)
      go_ret2
      exact Hfin.out
    · rw [hs] at h1
      have Hsn := Lib.hid hs
      clear hs
      go_enter Tryd.func21, Tryd.ntmps21
      go_upto_region 9 with (go_at_call 27; refine Ha.out.mono ?_; rintro e w' ⟨rfl, rfl⟩)
      have hsy := H.out.setUp Hx.out up
      have hoy : Off [g] w (w.setCell ⟨g, i * 3, none⟩ (.bool up)) := (Off.refl _ _).setCell (by simp) _
      have hgx : (s.l.set i { x with up := up })[i]? = some { x with up := up } := set_get Hx.out _
      have hm := rmember_any p g i { x with up := up } { s with l := s.l.set i { x with up := up } } _ hsy (by simpa using hn) hgx (Ho.out x (List.mem_of_getElem? Hx.out))
      have Hm := Lib.hid hm; have Hoy := Lib.hid hoy
      have hsz : w.heap.size ≤ (w.setCell ⟨g, i * 3, none⟩ (.bool up)).heap.size := by simp
      have Hsz := Lib.hid hsz
      clear hm hsy hoy hsz c0 fg h0 h1 h2 hgx
      generalize w.setCell ⟨g, i * 3, none⟩ (.bool up) = wy at *
      go_wp2_with (go_at_call 30; refine Hm.out.mono ?_; rintro e w' ⟨rfl, hsh, hoff⟩)
      go_ret2
      have e1 : localTold s i x up = [memberTn i up] := by unfold localTold; rw [if_neg (by rw [Hsn.out]; simp; exact Hu.out)]
      have e2 : s.local i x up = { s with l := s.l.set i (Lnk.tell { x with up := up }) } := by unfold Shk.local; rw [if_neg (by rw [Hsn.out]; simp; exact Hu.out)]
      refine ⟨_, rfl, ?_, ?_, (Hoy.out.trans hoff).alloc _⟩
      · rw [e1]
        exact own_lit (n := 1) (heap_alloc_new w' _) (Nat.le_trans Hsz.out hoff.size) rfl (by decide)
      · rw [e2]
        have h4 := hsh.step ((Below.refl w'.heap.size w').alloc (Nat.le_refl _) (.cells (tnList (memberTn i up)).toArray 35))
        simp only [List.set_set] at h4
        exact h4

set_option maxHeartbeats 2000000 in
theorem rstop_any (p g : Nat) (serve : Bool) (s : Shk) (w : World) (h : RefOk w p g s) (hn : s.l.length ≤ 63) :
    Calls Tryd.prog 25 #[.pointer (some ⟨p, 0, none⟩), .bool serve] w fun e w' => e = .returned (.tuple #[]) ∧ RefOk w' p g (s.stop serve) ∧ Off [p, g] w w' := by
  obtain ⟨h0, h1, h2⟩ := h.head
  have fp := h.fz.1
  have lp := h.lt.1
  have lg := h.lt.2
  have hne : p ≠ g := h.ne
  have H := Lib.hid h
  clear h
  go_enter Tryd.func25, Tryd.ntmps25
  go_wp2
  have hs1 := (H.out.setSession false).setAlone serve
  have ho1 : Off [p, g] w ((w.setCell ⟨p, 1, none⟩ (.bool false)).setCell ⟨p, 2, none⟩ (.bool serve)) := ((Off.refl _ _).setCell (by simp) _).setCell (by simp) _
  have Hs1 := Lib.hid hs1; have Ho1 := Lib.hid ho1
  clear hs1 ho1 h0 h1 h2 fp lp lg
  generalize (w.setCell ⟨p, 1, none⟩ (.bool false)).setCell ⟨p, 2, none⟩ (.bool serve) = w1 at *
  go_loopw [4] (fun idx wr => ∃ k : Nat, k ≤ s.l.length ∧ idx = iV k ∧ RefOk wr p g { l := stopK s.l k, session := false, alone := serve } ∧ Off [p, g] w wr) (fun idx _ => s.l.length - (intOf idx).toNat)
  case atStart => exact ⟨0, Nat.zero_le _, rfl, by rw [stopK_zero]; exact Hs1.out, Ho1.out⟩
  case round =>
    obtain ⟨k, hk, rfl, hs, hoff⟩ := hrel
    have Hs := Lib.hid hs; have Ho := Lib.hid hoff
    clear hs hoff
    obtain ⟨h0, h1, h2⟩ := Hs.out.head
    have hln := stopK_length s.l k
    simp only [hln] at h0
    clear hln
    by_cases hlt : k < s.l.length
    · obtain ⟨x, hx⟩ : ∃ x, s.l[k]? = some x := ⟨_, List.getElem?_eq_getElem hlt⟩
      have hx' : (stopK s.l k)[k]? = some x := by rw [stopK_here]; exact hx
      have hsucc := stopK_succ s.l k x hx
      have c0 := Hs.out.c0 hx'
      have c1 := Hs.out.c1 hx'
      have c2 := Hs.out.c2 hx'
      have fg := Hs.out.fz.2
      have Hx := Lib.hid hx'; have Hsucc := Lib.hid hsucc
      have hk0 : (0 : Int) ≤ (k : Int) := by omega
      have hkn : (k : Int) < (s.l.length : Int) := by omega
      clear hx hx' hsucc
      go_wp2_with fail
      go_roundw
      case rel =>
        refine ⟨k + 1, by omega, by go_num, ?_, ?_⟩
        · rw [Hsucc.out]
          have h1 := Hs.out.setOwed Hx.out 0
          have h2 := h1.setDown (x := { x with owed := 0 }) (set_get Hx.out _) false
          simp only [List.set_set] at h2
          exact h2
        · exact (Ho.out.setCell (p := ⟨g, k * 3 + 1, none⟩) (by simp) _).setCell (p := ⟨g, k * 3 + 2, none⟩) (by simp) _
      case measure => simp [intOf]; omega
    · obtain rfl : k = s.l.length := by omega
      have hend := Hs.out
      rw [stopK_all] at hend
      go_wp2
      go_end0
      exact ⟨rfl, hend, Ho.out⟩
end Go.Proofs.YtpkpaloaoopkgaaDoor
