/-
  gemelref22: the document's own Take.
-/
import Derived.Test.YtpkpaloaoopkgaaDoorSt
namespace Go.Proofs.YtpkpaloaoopkgaaDoor
set_option linter.unusedVariables false
set_option linter.unusedSimpArgs false
open Go Go.RowKit
attribute [local go_sem ↓] exec_loadNote exec_storeNote
attribute [local go_sem] ldRow_ptr ldFin_some cellsAt_succ cellsAt_zero allSome_cons allSome_nil stRow_ptr stFin_true allOne_cons allOne_nil there_succ there_zero frozens_succ frozens_zero one_int one_bool one_slice putCells_alloc_at putCells_alloc_old over_all

def RTakePost (w : World) (p g : Nat) (s : Shk) (n : Note) (e : Ending) (w' : World) : Prop :=
  ∃ v, e = .returned (.tuple #[v, .int .i64 (s.take n).2.2]) ∧ Told 35 w' w.heap.size v (s.take n).2.1 ∧ RefOk w' p g (s.take n).1 ∧ Off [g] w w'
theorem RTakePost.step {w : World} {p g : Nat} {s : Shk} {n : Note} {e : Ending} {w1 w2 : World} (h : RTakePost w p g s n e w1) (hB : Below w1.heap.size w1 w2) : RTakePost w p g s n e w2 := by
  obtain ⟨v, he, ht, hs, ho⟩ := h
  exact ⟨v, he, own_step ht hB, hs.step hB, ho.below hB⟩
theorem rtake_none {w w' : World} {p g : Nat} {s : Shk} {n : Note} {k : Int} (h : RefOk w p g s) (hB : Below w.heap.size w w') (ht : s.take n = (s, [], k)) : RTakePost w p g s n (.returned (.tuple #[.slice none 0 0, .int .i64 k])) w' := by
  refine ⟨_, by rw [ht], ?_, ?_, Off.of_below hB⟩
  · rw [ht]; exact World.ownsRow_nil _ _ _ _
  · rw [ht]; exact h.step hB
theorem rtake_down {w w2 : World} {p g : Nat} {s : Shk} {n : Note} {i : Nat} {x : Lnk} (h : RefOk w p g s) (hB : Below w.heap.size w w2) (hx : s.l[i]? = some x) (ht : s.take n = (s.takeMember i x n.state, memberTold i n.state, 0)) (hst : n.state = 0) :
    RTakePost w p g s n (.returned (.tuple #[.slice none 0 0, .int .i64 0])) (w2.setCell ⟨g, i * 3 + 2, none⟩ (.bool true)) := by
  refine ⟨_, by rw [ht], ?_, ?_, (Off.of_below hB).setCell (by simp) _⟩
  · rw [ht]; show World.ownsRow _ _ _ _ _ (memberTold i n.state).length _
    have e : memberTold i n.state = [] := by unfold memberTold; rw [if_pos hst]
    rw [e]; exact World.ownsRow_nil _ _ _ _
  · rw [ht]; show RefOk _ _ _ (s.takeMember i x n.state)
    have e : s.takeMember i x n.state = { s with l := s.l.set i { x with down := true } } := by unfold Shk.takeMember; rw [decide_eq_true hst]
    rw [e]; exact (h.step hB).setDown hx true
theorem rtake_up {w w2 : World} {p g : Nat} {s : Shk} {n : Note} {i : Nat} {x : Lnk} (h : RefOk w p g s) (hB : Below w.heap.size w w2) (hx : s.l[i]? = some x) (ht : s.take n = (s.takeMember i x n.state, memberTold i n.state, 0)) (hst : n.state ≠ 0) (hp : n.port = (i : Int) + 1) :
    RTakePost w p g s n (.returned (.tuple #[.slice (some ⟨w2.heap.size, 0, none⟩) 1 1, .int .i64 0])) ((w2.setCell ⟨g, i * 3 + 2, none⟩ (.bool false)).alloc (.cells (tnList ⟨4, n.port, 1⟩).toArray 35)) := by
  have hsz : (w2.setCell ⟨g, i * 3 + 2, none⟩ (.bool false)).heap.size = w2.heap.size := by simp
  refine ⟨_, by rw [ht], ?_, ?_, ((Off.of_below hB).setCell (by simp) _).alloc _⟩
  · rw [ht]; show World.ownsRow _ _ _ _ _ (memberTold i n.state).length ((memberTold i n.state).flatMap tnList)
    have e : memberTold i n.state = [⟨4, n.port, 1⟩] := by unfold memberTold; rw [if_neg hst, hp]
    rw [e]
    exact own_lit (n := 1) (by rw [← hsz]; simpa using heap_alloc_new (w2.setCell ⟨g, i * 3 + 2, none⟩ (.bool false)) (.cells (tnList ⟨4, n.port, 1⟩).toArray 35)) hB.size rfl (by decide)
  · rw [ht]; show RefOk _ _ _ (s.takeMember i x n.state)
    have e : s.takeMember i x n.state = { s with l := s.l.set i { x with down := false } } := by unfold Shk.takeMember; rw [decide_eq_false hst]
    rw [e]; exact ((h.step hB).setDown hx false).step ((Below.refl _ _).alloc (Nat.le_refl _) _)
theorem rtake_less {w w2 : World} {p g : Nat} {s : Shk} {n : Note} {i : Nat} {x : Lnk} {v : Int} (h : RefOk w p g s) (hB : Below w.heap.size w w2) (hx : s.l[i]? = some x) (ht : s.take n = (s.takeBlocked i x, [], 0)) (hv : v = max (x.owed - 1) 0) :
    RTakePost w p g s n (.returned (.tuple #[.slice none 0 0, .int .i64 0])) (w2.setCell ⟨g, i * 3 + 1, none⟩ (.int .i64 v)) := by
  refine ⟨_, by rw [ht], ?_, ?_, (Off.of_below hB).setCell (by simp) _⟩
  · rw [ht]; exact World.ownsRow_nil _ _ _ _
  · rw [ht, hv]; exact (h.step hB).setOwed hx _

set_option maxHeartbeats 4000000 in
theorem rtake_any (p g : Nat) (s : Shk) (n : Note) (w : World) (h : RefOk w p g s) (hn : s.l.length ≤ 63) (ho : ∀ x ∈ s.l, 0 ≤ x.owed ∧ x.owed ≤ 1000000) :
    Calls Tryd.prog 23 #[.pointer (some ⟨p, 0, none⟩), n.val] w (RTakePost w p g s n) := by
  have hB0 : Below w.heap.size w (w.alloc (.cells (noteList n).toArray 35)) := (Below.refl _ _).alloc (Nat.le_refl _) _
  have Hr := Lib.hid (r6right_any n (w.alloc (.cells (noteList n).toArray 35)))
  obtain ⟨h0, h1, h2⟩ := h.head
  have lp := h.lt.1
  have lg := h.lt.2
  have hne : p ≠ g := h.ne
  have H := Lib.hid h; have Ho := Lib.hid ho; have HB0 := Lib.hid hB0
  have lp1 : p < w.heap.size + 1 := by omega
  have lg1 : g < w.heap.size + 1 := by omega
  have fg := h.fz.2
  obtain ⟨hb, Ha, hpt⟩ : ∃ hb : Bool, Hid (∀ W, Below w.heap.size w W → Calls Tryd.prog 27 #[.pointer (some ⟨p, 0, none⟩), iV n.port] W fun e w' => e = .returned (.bool hb) ∧ W = w') ∧
      ((hb = false ∧ linkAt s n.port = none) ∨ ∃ i x, hb = true ∧ linkAt s n.port = some (i, x)) := by
    cases hla : linkAt s n.port with
    | none => exact ⟨false, Lib.hid (fun W hB => rhas_no p g n.port s W (h.step hB) (linkAt_none hla)), Or.inl ⟨rfl, rfl⟩⟩
    | some ix =>
      obtain ⟨i, x⟩ := ix
      obtain ⟨e1, e2⟩ := linkAt_some hla
      refine ⟨true, ?_, Or.inr ⟨i, x, rfl, rfl⟩⟩
      rw [e1]
      exact Lib.hid (fun W hB => rhas_yes p g i s W (h.step hB) hn (List.getElem?_eq_some_iff.1 e2).1)
  have Hpt := Lib.hid hpt
  clear hpt h ho hB0
  cases hr : rightB n
  · have Hr2 := Lib.hid (hr ▸ Hr.out)
    have ht : s.take n = (s, [], 2) := by unfold Shk.take; rw [hr]; rfl
    have Hfin := Lib.hid (fun W hB => rtake_none (w' := W) H.out hB ht)
    clear ht Hpt hr Hr
    go_enter Tryd.func23, Tryd.ntmps23
    go_wp2_with (first | (go_at_call 32; refine Hr2.out.mono ?_; rintro e w2 ⟨rfl, hb⟩; have hcs := below_cells hb; have hfs := below_frozens hb; have HB2 := Lib.hid (HB0.out.trans (hb.mono (show w.heap.size ≤ (w.alloc (.cells (noteList n).toArray 35)).heap.size by simp)))) | (go_at_call 27; refine (Ha.out _ HB2.out).mono ?_; rintro e w' ⟨rfl, rfl⟩))
    go_ret2
    exact Hfin.out _ HB2.out
  · have Hr2 := Lib.hid (hr ▸ Hr.out)
    have Hrr := Lib.hid hr
    clear hr Hr
    by_cases hk : n.kind = 3 ∨ n.kind = 4
    · have hg : (rightB n && (decide (n.kind = 3) || decide (n.kind = 4))) = true := by rw [Hrr.out]; rcases hk with h | h <;> simp [h]
      have Hg := Lib.hid hg
      clear hg
      rcases Hpt.out with ⟨rfl, hla⟩ | ⟨i, x, rfl, hla⟩
      · have ht : s.take n = (s, [], 1) := by unfold Shk.take; rw [if_neg (by rw [Hg.out]; simp), hla]
        have Hfin := Lib.hid (fun W hB => rtake_none (w' := W) H.out hB ht)
        clear ht Hpt hla
        rcases hk with hk | hk
        · have e3 : (n.kind != 3) = false := by simpa [bne] using hk
          have e4 : (n.kind == 4) = false := by simp [hk]
          clear hk
          go_enter Tryd.func23, Tryd.ntmps23
          go_wp2_with (first | (go_at_call 32; refine Hr2.out.mono ?_; rintro e w2 ⟨rfl, hb⟩; have hcs := below_cells hb; have hfs := below_frozens hb; have HB2 := Lib.hid (HB0.out.trans (hb.mono (show w.heap.size ≤ (w.alloc (.cells (noteList n).toArray 35)).heap.size by simp)))) | (go_at_call 27; refine (Ha.out _ HB2.out).mono ?_; rintro e w' ⟨rfl, rfl⟩))
          go_ret2
          exact Hfin.out _ HB2.out
        · have e3 : (n.kind != 3) = true := by simp [bne, hk]
          have e3' : (n.kind != 4) = false := by simpa [bne] using hk
          have e4 : (n.kind == 4) = true := by simpa using hk
          clear hk
          go_enter Tryd.func23, Tryd.ntmps23
          go_wp2_with (first | (go_at_call 32; refine Hr2.out.mono ?_; rintro e w2 ⟨rfl, hb⟩; have hcs := below_cells hb; have hfs := below_frozens hb; have HB2 := Lib.hid (HB0.out.trans (hb.mono (show w.heap.size ≤ (w.alloc (.cells (noteList n).toArray 35)).heap.size by simp)))) | (go_at_call 27; refine (Ha.out _ HB2.out).mono ?_; rintro e w' ⟨rfl, rfl⟩))
          go_ret2
          exact Hfin.out _ HB2.out
      · obtain ⟨hpi, hx⟩ := linkAt_some hla
        have hil := (List.getElem?_eq_some_iff.1 hx).1
        have c0 := H.out.c0 hx
        have c1 := H.out.c1 hx
        have c2 := H.out.c2 hx
        have how := Ho.out x (List.mem_of_getElem? hx)
        have ho1 := how.1
        have ho2 := how.2
        have hpi1 : n.port - 1 = (i : Int) := by omega
        have hp1 : 1 ≤ n.port := by omega
        have hp2 : n.port ≤ 63 := by omega
        have hi0 : (0 : Int) ≤ (i : Int) := by omega
        have hin : (i : Int) < (s.l.length : Int) := by omega
        have Hla := Lib.hid hla; have Hx := Lib.hid hx; have Hpi := Lib.hid hpi
        clear hla hx hpi Hpt how hil
        cases hs : s.session
        · rw [hs] at h1
          have ht : s.take n = (s, [], 6) := by unfold Shk.take; rw [if_neg (by rw [Hg.out]; simp), Hla.out]; simp only; rw [if_pos hs]
          have Hfin := Lib.hid (fun W hB => rtake_none (w' := W) H.out hB ht)
          clear ht hs
          rcases hk with hk | hk
          · have e3 : (n.kind != 3) = false := by simpa [bne] using hk
            have e4 : (n.kind == 4) = false := by simp [hk]
            clear hk
            go_enter Tryd.func23, Tryd.ntmps23
            go_wp2_with (first | (go_at_call 32; refine Hr2.out.mono ?_; rintro e w2 ⟨rfl, hb⟩; have hcs := below_cells hb; have hfs := below_frozens hb; have HB2 := Lib.hid (HB0.out.trans (hb.mono (show w.heap.size ≤ (w.alloc (.cells (noteList n).toArray 35)).heap.size by simp)))) | (go_at_call 27; refine (Ha.out _ HB2.out).mono ?_; rintro e w' ⟨rfl, rfl⟩))
            go_ret2
            exact Hfin.out _ HB2.out
          · have e3 : (n.kind != 3) = true := by simp [bne, hk]
            have e3' : (n.kind != 4) = false := by simpa [bne] using hk
            have e4 : (n.kind == 4) = true := by simpa using hk
            clear hk
            go_enter Tryd.func23, Tryd.ntmps23
            go_wp2_with (first | (go_at_call 32; refine Hr2.out.mono ?_; rintro e w2 ⟨rfl, hb⟩; have hcs := below_cells hb; have hfs := below_frozens hb; have HB2 := Lib.hid (HB0.out.trans (hb.mono (show w.heap.size ≤ (w.alloc (.cells (noteList n).toArray 35)).heap.size by simp)))) | (go_at_call 27; refine (Ha.out _ HB2.out).mono ?_; rintro e w' ⟨rfl, rfl⟩))
            go_ret2
            exact Hfin.out _ HB2.out
        · rw [hs] at h1
          have Hs := Lib.hid hs
          clear hs
          rcases hk with hk | hk
          · have Hk := Lib.hid hk
            have e3 : (n.kind != 3) = false := by simpa [bne] using hk
            have e4 : (n.kind == 4) = false := by simp [hk]
            clear hk
            by_cases hst : n.state = 0
            · have es : (n.state == 0) = true := by simpa using hst
              have Hst := Lib.hid hst
              clear hst
              go_enter Tryd.func23, Tryd.ntmps23
              go_upto_region 13 with (first | (go_at_call 32; refine Hr2.out.mono ?_; rintro e w2 ⟨rfl, hb⟩; have hcs := below_cells hb; have hfs := below_frozens hb; have HB2 := Lib.hid (HB0.out.trans (hb.mono (show w.heap.size ≤ (w.alloc (.cells (noteList n).toArray 35)).heap.size by simp)))) | (go_at_call 27; refine (Ha.out _ HB2.out).mono ?_; rintro e w' ⟨rfl, rfl⟩))
              go_region
              go_wp2
              go_ret2
              exact (rtake_down H.out HB2.out Hx.out (take_mem Hg.out Hla.out Hs.out Hk.out) Hst.out).step (below_drewN' (Below.refl _ _) 1)
            · have es : (n.state == 0) = false := by simpa using hst
              have Hst := Lib.hid hst
              clear hst
              go_enter Tryd.func23, Tryd.ntmps23
              go_upto_region 13 with (first | (go_at_call 32; refine Hr2.out.mono ?_; rintro e w2 ⟨rfl, hb⟩; have hcs := below_cells hb; have hfs := below_frozens hb; have HB2 := Lib.hid (HB0.out.trans (hb.mono (show w.heap.size ≤ (w.alloc (.cells (noteList n).toArray 35)).heap.size by simp)))) | (go_at_call 27; refine (Ha.out _ HB2.out).mono ?_; rintro e w' ⟨rfl, rfl⟩))
              go_region
              go_wp2
              go_ret2
              exact (rtake_up H.out HB2.out Hx.out (take_mem Hg.out Hla.out Hs.out Hk.out) Hst.out Hpi.out).step (below_drewN' (Below.refl _ _) 1)
          · have Hk := Lib.hid hk
            have e3 : (n.kind != 3) = true := by simp [bne, hk]
            have e3' : (n.kind != 4) = false := by simpa [bne] using hk
            have e4 : (n.kind == 4) = true := by simpa using hk
            clear hk
            go_enter Tryd.func23, Tryd.ntmps23
            go_upto_region 11 with (first | (go_at_call 32; refine Hr2.out.mono ?_; rintro e w2 ⟨rfl, hb⟩; have hcs := below_cells hb; have hfs := below_frozens hb; have HB2 := Lib.hid (HB0.out.trans (hb.mono (show w.heap.size ≤ (w.alloc (.cells (noteList n).toArray 35)).heap.size by simp)))) | (go_at_call 27; refine (Ha.out _ HB2.out).mono ?_; rintro e w' ⟨rfl, rfl⟩))
            by_cases hz : 0 ≤ x.owed - 1
            · go_region
              go_wp2
              go_ret2
              exact (rtake_less H.out HB2.out Hx.out (take_blk Hg.out Hla.out Hs.out Hk.out) (by omega)).step (below_drewN' (Below.refl _ _) 1)
            · go_region
              go_wp2
              go_ret2
              exact (rtake_less H.out HB2.out Hx.out (take_blk Hg.out Hla.out Hs.out Hk.out) (by omega)).step (below_drewN' (Below.refl _ _) 1)
    · have ht : s.take n = (s, [], 2) := by unfold Shk.take; rw [if_pos (by rw [Hrr.out]; simp; exact ⟨fun h => hk (Or.inl h), fun h => hk (Or.inr h)⟩)]
      have Hfin := Lib.hid (fun W hB => rtake_none (w' := W) H.out hB ht)
      have e3 : (n.kind != 3) = true := by simpa [bne] using fun h => hk (Or.inl h)
      have e4 : (n.kind != 4) = true := by simpa [bne] using fun h => hk (Or.inr h)
      clear ht Hpt hk
      go_enter Tryd.func23, Tryd.ntmps23
      go_wp2_with (first | (go_at_call 32; refine Hr2.out.mono ?_; rintro e w2 ⟨rfl, hb⟩; have hcs := below_cells hb; have hfs := below_frozens hb; have HB2 := Lib.hid (HB0.out.trans (hb.mono (show w.heap.size ≤ (w.alloc (.cells (noteList n).toArray 35)).heap.size by simp)))) | (go_at_call 27; refine (Ha.out _ HB2.out).mono ?_; rintro e w' ⟨rfl, rfl⟩))
      go_ret2
      exact Hfin.out _ HB2.out
end Go.Proofs.YtpkpaloaoopkgaaDoor
