/-
  The layer shake: New, Stop, Start, Take.
-/
import Derived.Test.YtpkpaloaoopkgaaDoorSd
import Derived.Test.YtpkpaloaoopkgaaDoorSa
namespace Go.Proofs.YtpkpaloaoopkgaaDoor
set_option linter.unusedVariables false
set_option linter.unusedSimpArgs false
open Go Go.RowKit
attribute [local go_sem ↓] exec_loadNote exec_storeNote
attribute [local go_sem] ldRow_ptr ldFin_some cellsAt_succ cellsAt_zero allSome_cons allSome_nil stRow_ptr stFin_true allOne_cons allOne_nil there_succ there_zero frozens_succ frozens_zero one_int one_bool one_slice putCells_alloc_at putCells_alloc_old over_all

set_option maxHeartbeats 2000000 in
theorem stop_any (p g : Nat) (serve : Bool) (s : Shk) (w : World) (h : ShkOk w p g s) (hn : s.l.length ≤ 63) :
    Calls Tryd.prog 19 #[.pointer (some ⟨p, 0, none⟩), .bool serve] w fun e w' => e = .returned (.tuple #[]) ∧ ShkOk w' p g (s.stop serve) ∧ Off [p, g] w w' := by
  obtain ⟨h0, h1, h2⟩ := h.head
  have fp := h.fz.1
  have lp := h.lt.1
  have lg := h.lt.2
  have hne : p ≠ g := h.ne
  have H := Lib.hid h
  clear h
  go_enter Tryd.func19, Tryd.ntmps19
  go_wp2
  have hs1 := (H.out.setSession false).setAlone serve
  have ho1 : Off [p, g] w ((w.setCell ⟨p, 1, none⟩ (.bool false)).setCell ⟨p, 2, none⟩ (.bool serve)) := ((Off.refl _ _).setCell (by simp) _).setCell (by simp) _
  have Hs1 := Lib.hid hs1; have Ho1 := Lib.hid ho1
  clear hs1 ho1 h0 h1 h2 fp lp lg
  generalize (w.setCell ⟨p, 1, none⟩ (.bool false)).setCell ⟨p, 2, none⟩ (.bool serve) = w1 at *
  go_loopw [17] (fun idx wr => ∃ k : Nat, k ≤ s.l.length ∧ idx = iV k ∧ ShkOk wr p g { l := stopK s.l k, session := false, alone := serve } ∧ Off [p, g] w wr) (fun idx _ => s.l.length - (intOf idx).toNat)
  case atStart => exact ⟨0, Nat.zero_le _, rfl, by rw [stopK_zero]; exact Hs1.out, Ho1.out⟩
  case round =>
    obtain ⟨k, hk, rfl, hs, hoff⟩ := hrel
    have Hs := Lib.hid hs; have Ho := Lib.hid hoff
    clear hs hoff
    by_cases hlt : k < s.l.length
    · obtain ⟨x, hx⟩ : ∃ x, s.l[k]? = some x := ⟨_, List.getElem?_eq_getElem hlt⟩
      have hx' : (stopK s.l k)[k]? = some x := by rw [stopK_here]; exact hx
      have hsucc := stopK_succ s.l k x hx
      obtain ⟨h0, h1, h2⟩ := Hs.out.head
      have c0 := Hs.out.c0 hx'
      have c1 := Hs.out.c1 hx'
      have c2 := Hs.out.c2 hx'
      have fg := Hs.out.fz.2
      have hln := stopK_length s.l k
      simp only [hln] at h0
      have Hx := Lib.hid hx'; have Hsucc := Lib.hid hsucc
      have hk0 : (0 : Int) ≤ (k : Int) := by omega
      have hkn : (k : Int) < (s.l.length : Int) := by omega
      clear hx hx' hsucc hln
      go_wp2_with fail
      go_region
      go_wp2_with fail
      go_roundw
      case rel =>
        refine ⟨k + 1, by omega, by go_num, ?_, ?_⟩
        · rw [Hsucc.out]
          exact (Hs.out.setAll Hx.out x.up 0 false).step (below_drewN' (Below.refl _ _) 1)
        · exact ((((Ho.out.setCell (p := ⟨g, k * 3, none⟩) (by simp) _).setCell (p := ⟨g, k * 3 + 1, none⟩) (by simp) _).setCell (p := ⟨g, k * 3 + 2, none⟩) (by simp) _).drewN 1)
      case measure => simp [intOf]; omega
    · obtain rfl : k = s.l.length := by omega
      have hend := Hs.out
      rw [stopK_all] at hend
      go_wp2
      go_end0
      exact ⟨rfl, hend, Ho.out⟩

def StartPost (w : World) (p g : Nat) (s : Shk) (e : Ending) (w' : World) : Prop :=
  ∃ v, e = .returned v ∧ Told 35 w' w.heap.size v (startTold s.l) ∧ ShkOk w' p g s.start ∧ Off [p, g] w w'

theorem one_num (x : Int) : ∀ u ∈ [Value.int .i64 x], u.oneCell' = true := by
  intro u hu; simp at hu; subst hu; rfl

set_option maxHeartbeats 2000000 in
theorem start_any (p g : Nat) (s : Shk) (w : World) (h : ShkOk w p g s) (hn : s.l.length ≤ 63) (hpos : 0 < s.l.length) :
    Calls Tryd.prog 17 #[.pointer (some ⟨p, 0, none⟩)] w (StartPost w p g s) := by
  obtain ⟨ti, hti, hz1, hz2, hz3⟩ := intInfo
  have Hst := Lib.hid (stop_any p g false s w h hn)
  have lp := h.lt.1
  have lg := h.lt.2
  have Hlp := Lib.hid lp; have Hlg := Lib.hid lg
  have hne : p ≠ g := h.ne
  clear h
  go_enter Tryd.func17, Tryd.ntmps17
  go_upto_region 2 with (go_at_call 19; refine Hst.out.mono ?_; rintro e w1 ⟨rfl, hs1, ho1⟩)
  have hs2 := hs1.setSession true
  have ho2 : Off [p, g] w (w1.setCell ⟨p, 1, none⟩ (.bool true)) := ho1.setCell (by simp) _
  obtain ⟨h0, h1, h2⟩ := hs1.head
  have fp := hs1.fz.1
  have hln : (s.stop false).l.length = s.l.length := by simp [Shk.stop]
  simp only [hln] at h0
  have Hs2 := Lib.hid hs2; have Ho2 := Lib.hid ho2; have Hln := Lib.hid hln
  clear hs1 ho1 hs2 ho2 hln
  go_upto_region 3 with fail
  have hsz := Ho2.out.size
  have h0' := Hs2.out.head.1
  clear h0 h1 h2 fp lp lg
  generalize w1.setCell ⟨p, 1, none⟩ (.bool true) = w2 at *
  have h0 : w2.cell? ⟨p, 0, none⟩ = some (.slice (some ⟨g, 0, none⟩) s.l.length s.l.length) := by rw [h0']; simp [Shk.stop]
  clear h0'
  go_wp2_with fail
  go_loopw [3, 15] (fun all idx wr => ∃ k : Nat, k ≤ s.l.length ∧ idx = iV k ∧ wr.ownsRow w2.heap.size 3 1 all k ((List.range k).map fun (i : Nat) => iV ((i : Int) + 1)) ∧ Below w2.heap.size w2 wr) (fun _ idx _ => s.l.length - (intOf idx).toNat)
  case atStart => exact ⟨0, Nat.zero_le _, rfl, World.ownsRow_nil _ _ _ _, Below.refl _ _⟩
  case round =>
    obtain ⟨k, hk, rfl, hown, hb⟩ := hrel
    have Hown := Lib.hid hown; have Hb := Lib.hid hb
    clear hown hb
    by_cases hlt : k < s.l.length
    · have hbs := Hb.out.size
      go_wp2_with (at_builtin; refine wpList_append_own _ rfl (.tmp 18) (.tmp 21) 76 rfl w2.heap.size 3 ti _ 1 8 Tryd.underlying76 hti hz1 hz2 hz3 rfl (by decide) _ k _ rfl (Hown.out.alloc _) ⟨wr.heap.size, 0, none⟩ 1 1 [.int .i64 ((k : Int) + 1)] rfl rfl (news_block (heap_at0 rfl)) (one_num _) (by unfold maxLen; omega) (by omega) (by simp; omega) ?_; intro v' w3 hown' hgrow _)
      go_roundw
      case rel =>
        refine ⟨k + 1, by omega, by go_num, ?_, (Hb.out.alloc hbs _).grown hgrow (by simp; omega) (own_ge Hown.out)⟩
        rw [List.range_succ, List.map_append]; exact hown'
      case measure => simp [intOf]; omega
    · obtain rfl : k = s.l.length := by omega
      obtain ⟨b, cap, rfl, hb1, hb2⟩ := Hown.out.form hpos
      have hcells := Hown.out.cells (g := b) rfl
      have hgb : g < w2.heap.size := Hs2.out.lt.2
      have hm := members_any p g b cap { (s.stop false) with session := true } (List.range s.l.length) wr (Hs2.out.step Hb.out) (by rw [Hln.out]; exact hn) (by simp; exact hn) (by intro i hi; rw [Hln.out]; simpa using hi)
        (fun x hx => by
          obtain ⟨y, _, rfl⟩ := List.mem_map.1 hx
          exact ⟨Int.le_refl 0, by show (0 : Int) ≤ 1000000; decide⟩) hb2 (by omega) (fun q i hq => by
          have hlq : q < s.l.length := by have := (List.getElem?_eq_some_iff.1 hq).1; simpa using this
          have := hcells q (iV ((q : Int) + 1)) (by rw [List.getElem?_map, List.getElem?_range hlq]; rfl)
          rw [List.getElem?_range hlq] at hq
          injection hq with hq
          subst hq
          have ea : (Addr.add ⟨b, 0, none⟩ q) = ⟨b, q, none⟩ := by unfold Addr.add; by_cases h : q = 0 <;> simp [h]
          rw [ea] at this; exact this)
      rw [List.length_range] at hm
      have Hm := Lib.hid hm
      clear hm hcells
      go_wp2_with (go_at_call 28; refine Hm.out.mono ?_; rintro e w' ⟨v, rfl, htold, hsh, hoff⟩)
      go_ret
      have e1 : tellsUp (s.stop false).l (List.range s.l.length) = startTold s.l := by
        have := tellsUp_all (s.stop false).l
        rw [Hln.out] at this
        rw [this]; exact startTold_stop s.l
      have e2 : tells (s.stop false).l (List.range s.l.length) = s.l.map fun x => Lnk.tell { up := x.up, owed := 0, down := false } := by
        have := tells_all (s.stop false).l
        rw [Hln.out] at this
        rw [this]; show (s.l.map _).map _ = _
        rw [List.map_map]; rfl
      have hl1 : w.heap.size ≤ wr.heap.size := Nat.le_trans Ho2.out.size Hb.out.size
      refine ⟨v, rfl, ?_, ?_, (Ho2.out.below Hb.out).trans (hoff.mono (by simp))⟩
      · have h5 : Told 35 w' wr.heap.size v (tellsUp (s.stop false).l (List.range s.l.length)) := htold
        rw [e1] at h5
        exact own_mono h5 hl1
      · have h5 : ShkOk w' p g { l := tells (s.stop false).l (List.range s.l.length), session := true, alone := false } := hsh
        rw [e2] at h5
        exact h5
end Go.Proofs.YtpkpaloaoopkgaaDoor
