/-
  gemellaw22.step: a step at both.
-/
import Derived.Test.YtpkpaloaoopkgaaDoorSv
namespace Go.Proofs.YtpkpaloaoopkgaaDoor
set_option linter.unusedVariables false
set_option linter.unusedSimpArgs false
open Go Go.RowKit
attribute [local go_sem ↓] exec_loadNote exec_storeNote
attribute [local go_sem] ldRow_ptr ldFin_some cellsAt_succ cellsAt_zero allSome_cons allSome_nil stRow_ptr stFin_true allOne_cons allOne_nil there_succ there_zero frozens_succ frozens_zero one_int one_bool one_slice putCells_alloc_at putCells_alloc_old over_all

abbrev stepList (d link : Int) (is : Bool) (n : Note) : List Value := iV d :: iV link :: .bool is :: noteList n
def localRes (s : Shk) (link : Int) (up : Bool) : Shk × List Tn × Int :=
  match linkAt s link with
  | none => (s, [], 1)
  | some (i, x) => (s.local i x up, localTold s i x up, 0)
def OutPost (tS tL : TypeId) (w : World) (p g : Nat) (res : Shk × List Tn × Int) (e : Ending) (w' : World) : Prop :=
  ∃ v, e = .returned (.tuple #[v, .int .i64 res.2.2]) ∧ Told 35 w' w.heap.size v res.2.1 ∧ ShkAt tS tL w' p g res.1 ∧ Off [g] w w'
theorem local_all (p g : Nat) (link : Int) (up : Bool) (s : Shk) (w : World) (h : ShkOk w p g s) (hn : s.l.length ≤ 63) (ho : ∀ x ∈ s.l, 0 ≤ x.owed ∧ x.owed ≤ 1000000) :
    Calls Tryd.prog 16 #[.pointer (some ⟨p, 0, none⟩), iV link, .bool up] w (OutPost 64 72 w p g (localRes s link up)) := by
  unfold localRes
  cases hla : linkAt s link with
  | none =>
    refine (local_no p g link up s w h (linkAt_none hla)).mono ?_
    rintro e w' ⟨rfl, rfl⟩
    exact ⟨_, rfl, World.ownsRow_nil _ _ _ _, h, Off.refl _ _⟩
  | some ix =>
    obtain ⟨i, x⟩ := ix
    obtain ⟨e1, e2⟩ := linkAt_some hla
    rw [e1]
    exact local_any p g i x up s w h hn e2 ho
theorem rlocal_all (p g : Nat) (link : Int) (up : Bool) (s : Shk) (w : World) (h : RefOk w p g s) (hn : s.l.length ≤ 63) (ho : ∀ x ∈ s.l, 0 ≤ x.owed ∧ x.owed ≤ 1000000) :
    Calls Tryd.prog 21 #[.pointer (some ⟨p, 0, none⟩), iV link, .bool up] w (OutPost 67 74 w p g (localRes s link up)) := by
  unfold localRes
  cases hla : linkAt s link with
  | none =>
    refine (rlocal_no p g link up s w h (linkAt_none hla)).mono ?_
    rintro e w' ⟨rfl, rfl⟩
    exact ⟨_, rfl, World.ownsRow_nil _ _ _ _, h, Off.refl _ _⟩
  | some ix =>
    obtain ⟨i, x⟩ := ix
    obtain ⟨e1, e2⟩ := linkAt_some hla
    rw [e1]
    exact rlocal_any p g i x up s w h hn e2 ho

/-- what both know behind a step. -/
def stepS (s : Shk) (d link : Int) (is : Bool) (n : Note) : Shk :=
  if d = 0 then (localRes s link is).1 else if d = 1 then (s.take n).1 else if d = 2 then s.start else s.stop is

theorem told_few (s : Shk) (link : Int) (up : Bool) : (localRes s link up).2.1.length ≤ 63 := by
  unfold localRes
  split
  · exact Nat.zero_le _
  · show (localTold _ _ _ _).length ≤ 63
    unfold localTold; split <;> simp
theorem told_few2 (s : Shk) (n : Note) : (s.take n).2.1.length ≤ 63 := by
  unfold Shk.take
  split
  · exact Nat.zero_le _
  · split
    · exact Nat.zero_le _
    · split
      · exact Nat.zero_le _
      · split
        · exact Nat.zero_le _
        · show (memberTold _ _).length ≤ 63
          unfold memberTold; split <;> simp

/-- the two lie apart. -/
structure Both (w : World) (p g p' g' : Nat) (s : Shk) : Prop where
  a : ShkOk w p g s
  b : RefOk w p' g' s
  n1 : p ≠ p'
  n2 : p ≠ g'
  n3 : g ≠ p'
  n4 : g ≠ g'
theorem Both.step {w w' : World} {p g p' g' : Nat} {s : Shk} (h : Both w p g p' g' s) (hB : Below w.heap.size w w') : Both w' p g p' g' s := ⟨h.a.step hB, h.b.step hB, h.n1, h.n2, h.n3, h.n4⟩

def StepPost (w : World) (p g p' g' : Nat) (s' : Shk) (e : Ending) (w' : World) : Prop :=
  e = .returned (.bool true) ∧ Both w' p g p' g' s' ∧ Off [p, g, p', g'] w w'

set_option maxRecDepth 100000 in
set_option maxHeartbeats 4000000 in
theorem step_any (p g p' g' : Nat) (d link : Int) (is : Bool) (n : Note) (s : Shk) (w : World) (h : Both w p g p' g' s) (hn : s.l.length ≤ 63) (hpos : 0 < s.l.length) (ho : ∀ x ∈ s.l, 0 ≤ x.owed ∧ x.owed ≤ 1000000) (hl : HasLaid w)
    (hz : 0 ∉ [p, g, p', g']) :
    Calls Tryd.prog 11 #[.pointer (some ⟨p, 0, none⟩), .pointer (some ⟨p', 0, none⟩), .agg (stepList d link is n).toArray] w (StepPost w p g p' g' (stepS s d link is n)) := by
  have hB0 : Below w.heap.size w (w.alloc (.cells (stepList d link is n).toArray 37)) := (Below.refl _ _).alloc (Nat.le_refl _) _
  have h1 := h.step hB0
  have hl1 : HasLaid (w.alloc (.cells (stepList d link is n).toArray 37)) := hl.below hB0 hl.1
  have hW : ∀ o, (w.alloc (.cells (stepList d link is n).toArray 37)).cell? ⟨w.heap.size, o, none⟩ = (stepList d link is n).toArray[o]? := fun o => cell_of_block (heap_alloc_new w _) o
  have hlt := h1.a.lt
  have hlt' := h1.b.lt
  have hp0 := h.a.lt
  have hp0' := h.b.lt
  have hne := h
  have H := Lib.hid h1; have Hl := Lib.hid hl1; have Ho := Lib.hid ho; have HB0 := Lib.hid hB0; have Hne := Lib.hid hne; have HW := Lib.hid hW
  have Hlt := Lib.hid hlt; have Hlt' := Lib.hid hlt'; have Hp0 := Lib.hid hp0
  have Hp0' := Lib.hid hp0'
  have c0 := hW 0
  have c1 := hW 1
  have c2 := hW 2
  clear h h1 hl1 hl hB0 hne hW hlt hlt' hp0 hp0' ho
  by_cases h0 : d = 0
  · subst h0
    have Hd := Lib.hid (show stepS s 0 link is n = (localRes s link is).1 from if_pos rfl)
    have Hloc := Lib.hid (local_all p g link is s _ H.out.a hn Ho.out)
    have Hrl := Lib.hid (fun W hb => rlocal_all p' g' link is s W hb hn Ho.out)
    have Hfew := Lib.hid (told_few s link is)
    generalize localRes s link is = res at *
    clear c0 c1 c2
    go_enter Tryd.func11, Tryd.ntmps11
    go_upto_region 4 with (go_at_call 16; refine Hloc.out.mono ?_; rintro e w2 ⟨v1, rfl, ht1, hs1, ho1⟩)
    have hb2 := H.out.b.off ho1 (by simp; exact Hne.out.n3.symm) (by simp; exact Hne.out.n4.symm)
    have hc2 : ∀ o, w2.cell? ⟨w.heap.size, o, none⟩ = (stepList 0 link is n).toArray[o]? := fun o => by
      rw [ho1.cell (p := ⟨w.heap.size, o, none⟩) (by simp) (by simp; have := Hp0.out; omega)]; exact HW.out o
    have c1 := hc2 1
    have c2 := hc2 2
    have Ht1 := Lib.hid ht1; have Hs1 := Lib.hid hs1; have Ho1 := Lib.hid ho1; have Hb2 := Lib.hid hb2
    clear ht1 hs1 ho1 hb2 hc2
    go_upto_region 5 with (go_at_call 21; refine (Hrl.out _ Hb2.out).mono ?_; rintro e w3 ⟨v2, rfl, ht2, hs2, ho2⟩)
    have hs3 := Hs1.out.off ho2 (by simp; exact Hne.out.n2) (by simp; exact Hne.out.n4)
    have hn1 := NotesAt.of_told (own_offg Ht1.out ho2 Hlt'.out.2)
    have hn2 := NotesAt.of_told ht2
    have Hsm := Lib.hid (same_notes v1 v2 res.2.1 w3 Hfew.out hn1 hn2)
    have Hs3 := Lib.hid hs3; have Hs2 := Lib.hid hs2; have Ho2 := Lib.hid ho2
    clear hs3 hn1 hn2 ht2 hs2 ho2 c1 c2
    go_wp2_with (go_at_call 22; refine Hsm.out.mono ?_; rintro e w4 ⟨rfl, hb4⟩)
    go_ret
    refine ⟨rfl, ?_, ?_⟩
    · rw [Hd.out]; exact ⟨Hs3.out.step hb4, Hs2.out.step hb4, Hne.out.n1, Hne.out.n2, Hne.out.n3, Hne.out.n4⟩
    · exact (((Off.of_below HB0.out).trans (Ho1.out.mono (by simp))).trans (Ho2.out.mono (by simp))).below hb4
  · have e0 : (d == 0) = false := by simpa using h0
    by_cases h1 : d = 1
    · subst h1
      have Hd := Lib.hid (show stepS s 1 link is n = (s.take n).1 by unfold stepS; rw [if_neg (by decide), if_pos rfl])
      have Htk := Lib.hid (show Calls Tryd.prog 20 #[.pointer (some ⟨p, 0, none⟩), n.val] _ (OutPost 64 72 _ p g (s.take n)) from take_any p g s n _ H.out.a hn Ho.out Hl.out)
      have Hrt := Lib.hid (fun W hb => (show Calls Tryd.prog 23 #[.pointer (some ⟨p', 0, none⟩), n.val] W (OutPost 67 74 W p' g' (s.take n)) from rtake_any p' g' s n W hb hn Ho.out))
      have Hfew := Lib.hid (told_few2 s n)
      generalize s.take n = res at *
      have hcw := HW.out
      clear c0 c1 c2 h0 e0
      go_enter Tryd.func11, Tryd.ntmps11
      go_upto_region 9 with (go_at_call 20; refine Htk.out.mono ?_; rintro e w2 ⟨v1, rfl, ht1, hs1, ho1⟩)
      have hb2 := H.out.b.off ho1 (by simp; exact Hne.out.n3.symm) (by simp; exact Hne.out.n4.symm)
      have hc2 : ∀ o, w2.cell? ⟨w.heap.size, o, none⟩ = (stepList 1 link is n).toArray[o]? := fun o => by
        rw [ho1.cell (p := ⟨w.heap.size, o, none⟩) (by simp) (by simp; have := Hp0.out; omega)]; exact HW.out o
      have Ht1 := Lib.hid ht1; have Hs1 := Lib.hid hs1; have Ho1 := Lib.hid ho1; have Hb2 := Lib.hid hb2
      clear ht1 hs1 ho1 hb2 hcw
      go_upto_region 10 with (go_at_call 23; refine (Hrt.out _ Hb2.out).mono ?_; rintro e w3 ⟨v2, rfl, ht2, hs2, ho2⟩)
      have hs3 := Hs1.out.off ho2 (by simp; exact Hne.out.n2) (by simp; exact Hne.out.n4)
      have hn1 := NotesAt.of_told (own_offg Ht1.out ho2 Hlt'.out.2)
      have hn2 := NotesAt.of_told ht2
      have Hsm := Lib.hid (same_notes v1 v2 res.2.1 w3 Hfew.out hn1 hn2)
      have Hs3 := Lib.hid hs3; have Hs2 := Lib.hid hs2; have Ho2 := Lib.hid ho2
      clear hs3 hn1 hn2 ht2 hs2 ho2 hc2
      go_wp2_with (go_at_call 22; refine Hsm.out.mono ?_; rintro e w4 ⟨rfl, hb4⟩)
      go_ret
      refine ⟨rfl, ?_, ?_⟩
      · rw [Hd.out]; exact ⟨Hs3.out.step hb4, Hs2.out.step hb4, Hne.out.n1, Hne.out.n2, Hne.out.n3, Hne.out.n4⟩
      · exact (((Off.of_below HB0.out).trans (Ho1.out.mono (by simp))).trans (Ho2.out.mono (by simp))).below hb4
    · have e1 : (d == 1) = false := by simpa using h1
      by_cases h2 : d = 2
      · subst h2
        have Hd := Lib.hid (show stepS s 2 link is n = s.start by unfold stepS; rw [if_neg (by decide), if_neg (by decide), if_pos rfl])
        have Hst := Lib.hid (start_any p g s _ H.out.a hn hpos)
        have Hrs := Lib.hid (fun W hb => rstart_any p' g' s W hb hn)
        have Hfew := Lib.hid (show (startTold s.l).length ≤ 63 by simp [startTold]; exact hn)
        clear c0 c1 c2 h0 e0 h1 e1
        have hcw := HW.out
        go_enter Tryd.func11, Tryd.ntmps11
        go_upto_region 14 with (go_at_call 17; refine Hst.out.mono ?_; rintro e w2 ⟨v1, rfl, ht1, hs1, ho1⟩)
        have hb2 := H.out.b.off ho1 (by simp; exact ⟨Hne.out.n1.symm, Hne.out.n3.symm⟩) (by simp; exact ⟨Hne.out.n2.symm, Hne.out.n4.symm⟩)
        have Ht1 := Lib.hid ht1; have Hs1 := Lib.hid hs1; have Ho1 := Lib.hid ho1; have Hb2 := Lib.hid hb2
        clear ht1 hs1 ho1 hb2 hcw
        go_wp2_with fail
        refine (Hrs.out _ Hb2.out).mono ?_
        rintro e w3 ⟨v2, rfl, ht2, hs2, ho2⟩
        have hs3 := Hs1.out.off ho2 (by simp; exact ⟨Hne.out.n1, Hne.out.n2⟩) (by simp; exact ⟨Hne.out.n3, Hne.out.n4⟩)
        have hn1 := NotesAt.of_told (own_off Ht1.out ho2 (fun q hq e => by
          have h1 := own_ge Ht1.out q e
          have h2 : q = p' ∨ q = g' := by simpa using hq
          have := Hlt'.out
          omega))
        have hn2 := NotesAt.of_told ht2
        have Hsm := Lib.hid (same_notes v1 v2 (startTold s.l) w3 Hfew.out hn1 hn2)
        have Hs3 := Lib.hid hs3; have Hs2 := Lib.hid hs2; have Ho2 := Lib.hid ho2
        clear hs3 hn1 hn2 ht2 hs2 ho2
        go_wp2_with (go_at_call 22; refine Hsm.out.mono ?_; rintro e w4 ⟨rfl, hb4⟩)
        go_ret
        refine ⟨rfl, ?_, ?_⟩
        · rw [Hd.out]; exact ⟨Hs3.out.step hb4, Hs2.out.step hb4, Hne.out.n1, Hne.out.n2, Hne.out.n3, Hne.out.n4⟩
        · exact (((Off.of_below HB0.out).trans (Ho1.out.mono (by simp))).trans (Ho2.out.mono (by simp))).below hb4
      · have e2 : (d == 2) = false := by simpa using h2
        have Hd := Lib.hid (show stepS s d link is n = s.stop is by unfold stepS; rw [if_neg h0, if_neg h1, if_neg h2])
        have Hst := Lib.hid (stop_any p g is s _ H.out.a hn)
        have Hrs := Lib.hid (fun W hb => rstop_any p' g' is s W hb hn)
        clear c0 c1 c2 h0 h1 h2
        have hcw := HW.out
        go_enter Tryd.func11, Tryd.ntmps11
        go_upto_region 16 with (go_at_call 19; refine Hst.out.mono ?_; rintro e w2 ⟨rfl, hs1, ho1⟩)
        have hb2 := H.out.b.off ho1 (by simp; exact ⟨Hne.out.n1.symm, Hne.out.n3.symm⟩) (by simp; exact ⟨Hne.out.n2.symm, Hne.out.n4.symm⟩)
        have hc2 : ∀ o, w2.cell? ⟨w.heap.size, o, none⟩ = (stepList d link is n).toArray[o]? := fun o => by
          rw [ho1.cell (p := ⟨w.heap.size, o, none⟩) (by simp) (by simp; have := Hp0.out; omega)]; exact HW.out o
        have c2 := hc2 2
        have Hs1 := Lib.hid hs1; have Ho1 := Lib.hid ho1; have Hb2 := Lib.hid hb2
        clear hs1 ho1 hb2 hcw hc2
        go_wp2_with (go_at_call 25; refine (Hrs.out _ Hb2.out).mono ?_; rintro e w3 ⟨rfl, hs2, ho2⟩)
        go_ret
        refine ⟨rfl, ?_, ?_⟩
        · rw [Hd.out]; exact ⟨Hs1.out.off ho2 (by simp; exact ⟨Hne.out.n1, Hne.out.n2⟩) (by simp; exact ⟨Hne.out.n3, Hne.out.n4⟩), hs2, Hne.out.n1, Hne.out.n2, Hne.out.n3, Hne.out.n4⟩
        · exact ((Off.of_below HB0.out).trans (Ho1.out.mono (by simp))).trans (ho2.mono (by simp))
end Go.Proofs.YtpkpaloaoopkgaaDoor
