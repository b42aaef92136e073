/-
  The layer shake: New, Take.
-/
import Derived.Test.YtpkpaloaoopkgaaDoorSf
import Derived.Laws.MakeOwn
namespace Go.Proofs.YtpkpaloaoopkgaaDoor
set_option linter.unusedVariables false
set_option linter.unusedSimpArgs false
open Go Go.RowKit
attribute [local go_sem ↓] exec_loadNote exec_storeNote
attribute [local go_sem] ldRow_ptr ldFin_some cellsAt_succ cellsAt_zero allSome_cons allSome_nil stRow_ptr stFin_true allOne_cons allOne_nil there_succ there_zero frozens_succ frozens_zero one_int one_bool one_slice putCells_alloc_at putCells_alloc_old over_all

theorem made3 (n : Nat) : madeCells #[Value.bool false, Value.int .i64 0, Value.bool false] (n * 3) = (lnkFlat (List.replicate n ⟨false, 0, false⟩)).toArray := by
  apply Array.ext_getElem?
  intro j
  unfold madeCells
  by_cases hj : j < n * 3
  · have hlt : j / 3 < n := by omega
    have hx : (List.replicate n (⟨false, 0, false⟩ : Lnk))[j / 3]? = some ⟨false, 0, false⟩ := by rw [List.getElem?_replicate, if_pos hlt]
    have hm : j % 3 = 0 ∨ j % 3 = 1 ∨ j % 3 = 2 := by omega
    have hv : (lnkList ⟨false, 0, false⟩)[j % 3]? = some (#[Value.bool false, Value.int .i64 0, Value.bool false][j % 3]!) := by
      rcases hm with h | h | h <;> rw [h] <;> rfl
    have := lnkFlat_get _ _ _ hx _ _ hv
    rw [show j / 3 * 3 + j % 3 = j by omega] at this
    have t2 : (lnkFlat (List.replicate n ⟨false, 0, false⟩)).toArray[j]? = some (#[Value.bool false, Value.int .i64 0, Value.bool false][j % 3]!) := by rw [List.getElem?_toArray]; exact this
    rw [t2, Array.getElem?_map, Array.getElem?_range, if_pos hj]
    rfl
  · rw [Array.getElem?_eq_none (by simp; omega), Array.getElem?_eq_none (by simp [lnkFlat_length]; omega)]
theorem make_links (n : Nat) (hn : n ≤ 63) (w : World) : (Instr.makeSlice 62 (.int .i64 (n : Int)) (.int .i64 (n : Int))).run Tryd.prog w = .ok (.slice (some ⟨w.heap.size, 0, none⟩) n n) (w.alloc (.cells (lnkFlat (List.replicate n ⟨false, 0, false⟩)).toArray 72)) := by
  obtain ⟨i, hi, h1, h2, h3⟩ := info_parts (P := Tryd.prog) (e := 72) (z := .agg #[.bool false, .int .i64 0, .bool false]) (size := 3) (bytes := 24) (by kernel_rfl)
  have := run_make w 62 72 i _ Tryd.underlying62 hi h1 .i64 .i64 (n : Int) (n : Int) (by omega) (by omega) (by rw [h3]; omega) (by omega)
  rw [this, h2]
  have e : madeCells (Value.agg #[.bool false, .int .i64 0, .bool false]).cells ((n : Int).toNat * 3) = (lnkFlat (List.replicate n ⟨false, 0, false⟩)).toArray := by
    rw [Int.toNat_natCast]; exact made3 n
  rw [e]; simp

def NewPost (w : World) (n : Nat) (e : Ending) (w' : World) : Prop :=
  ∃ p g, e = .returned (.tuple #[.pointer (some ⟨p, 0, none⟩), .int .i64 0]) ∧ w.heap.size ≤ p ∧ w.heap.size ≤ g ∧ ShkOk w' p g (Shk.new n) ∧ Below w.heap.size w w'
theorem new_good (n : Nat) (w : World) (h1 : 1 ≤ n) (h2 : n ≤ 63) : Calls Tryd.prog 9 #[iV (n : Int)] w (NewPost w n) := by
  have hmk := make_links n h2
  have d1 : decide ((n : Int) < 1) = false := decide_eq_false (by omega)
  have d2 : decide ((63 : Int) < (n : Int)) = false := decide_eq_false (by omega)
  have Hn := Lib.hid h1; clear h1 h2
  go_enter Tryd.func9, Tryd.ntmps9
  go_wp2
  go_ret2
  refine ⟨w.heap.size + 1, w.heap.size, rfl, by omega, Nat.le_refl _, ⟨?_, ?_, by omega⟩, ((Below.refl _ _).alloc (Nat.le_refl _) _).alloc (by simp) _⟩
  · rw [heap_new1]; simp [Shk.new]
  · rw [heap_alloc_old _ _ (by simp), heap_alloc_new]; rfl
theorem new_bad (n : Int) (w : World) (h : n < 1 ∨ 63 < n) : Calls Tryd.prog 9 #[iV n] w fun e w' => e = .returned (.tuple #[.pointer none, .int .i64 1]) ∧ w = w' := by
  by_cases d : n < 1
  · have d1 : decide (n < 1) = true := decide_eq_true d
    clear h d
    go_enter Tryd.func9, Tryd.ntmps9
    go_wp2
    go_ret2
    exact ⟨rfl, rfl⟩
  · have d1 : decide (n < 1) = false := decide_eq_false d
    have d2 : decide (63 < n) = true := decide_eq_true (by omega)
    clear h d
    go_enter Tryd.func9, Tryd.ntmps9
    go_wp2
    go_ret2
    exact ⟨rfl, rfl⟩

def TakePost (w : World) (p g : Nat) (s : Shk) (n : Note) (e : Ending) (w' : World) : Prop :=
  ∃ v, e = .returned (.tuple #[v, .int .i64 (s.take n).2.2]) ∧ Told 35 w' w.heap.size v (s.take n).2.1 ∧ ShkOk w' p g (s.take n).1 ∧ Off [g] w w'

theorem take_none {w w' : World} {p g : Nat} {s : Shk} {n : Note} {k : Int} (h : ShkOk w p g s) (hB : Below w.heap.size w w') (ht : s.take n = (s, [], k)) : TakePost w p g s n (.returned (.tuple #[.slice none 0 0, .int .i64 k])) w' := by
  refine ⟨_, by rw [ht], ?_, ?_, Off.of_below hB⟩
  · rw [ht]; exact World.ownsRow_nil _ _ _ _
  · rw [ht]; exact h.step hB

theorem take_mem {s : Shk} {n : Note} {i : Nat} {x : Lnk} (hg : (rightB n && (decide (n.kind = 3) || decide (n.kind = 4))) = true) (hla : linkAt s n.port = some (i, x)) (hs : s.session = true) (hk : n.kind = 3) :
    s.take n = (s.takeMember i x n.state, memberTold i n.state, 0) := by
  unfold Shk.take; rw [if_neg (by rw [hg]; simp), hla]; simp only; rw [if_neg (by rw [hs]; simp), if_neg (by rw [hk]; decide)]
theorem take_blk {s : Shk} {n : Note} {i : Nat} {x : Lnk} (hg : (rightB n && (decide (n.kind = 3) || decide (n.kind = 4))) = true) (hla : linkAt s n.port = some (i, x)) (hs : s.session = true) (hk : n.kind = 4) :
    s.take n = (s.takeBlocked i x, [], 0) := by
  unfold Shk.take; rw [if_neg (by rw [hg]; simp), hla]; simp only; rw [if_neg (by rw [hs]; simp), if_pos hk]
theorem take_down {w w2 : World} {p g : Nat} {s : Shk} {n : Note} {i : Nat} {x : Lnk} (h : ShkOk w p g s) (hB : Below w.heap.size w w2) (hx : s.l[i]? = some x) (ht : s.take n = (s.takeMember i x n.state, memberTold i n.state, 0)) (hst : n.state = 0) :
    TakePost w p g s n (.returned (.tuple #[.slice none 0 0, .int .i64 0])) (w2.setCell ⟨g, i * 3 + 2, none⟩ (.bool true)) := by
  refine ⟨_, by rw [ht], ?_, ?_, (Off.of_below hB).setCell (by simp) _⟩
  · rw [ht]; show World.ownsRow _ _ _ _ _ (memberTold i n.state).length _
    have e : memberTold i n.state = [] := by unfold memberTold; rw [if_pos hst]
    rw [e]; exact World.ownsRow_nil _ _ _ _
  · rw [ht]; show ShkOk _ _ _ (s.takeMember i x n.state)
    have e : s.takeMember i x n.state = { s with l := s.l.set i { x with down := true } } := by unfold Shk.takeMember; rw [decide_eq_true hst]
    rw [e]; exact (h.step hB).setDown hx true
theorem take_up {w w2 : World} {p g : Nat} {s : Shk} {n : Note} {i : Nat} {x : Lnk} (h : ShkOk w p g s) (hB : Below w.heap.size w w2) (hx : s.l[i]? = some x) (ht : s.take n = (s.takeMember i x n.state, memberTold i n.state, 0)) (hst : n.state ≠ 0) (hp : n.port = (i : Int) + 1) :
    TakePost w p g s n (.returned (.tuple #[.slice (some ⟨w2.heap.size, 0, none⟩) 1 1, .int .i64 0])) ((w2.setCell ⟨g, i * 3 + 2, none⟩ (.bool false)).alloc (.cells (tnList ⟨4, n.port, 1⟩).toArray 35)) := by
  have hsz : (w2.setCell ⟨g, i * 3 + 2, none⟩ (.bool false)).heap.size = w2.heap.size := by simp
  refine ⟨_, by rw [ht], ?_, ?_, ((Off.of_below hB).setCell (by simp) _).alloc _⟩
  · rw [ht]; show World.ownsRow _ _ _ _ _ (memberTold i n.state).length ((memberTold i n.state).flatMap tnList)
    have e : memberTold i n.state = [⟨4, n.port, 1⟩] := by unfold memberTold; rw [if_neg hst, hp]
    rw [e]
    exact own_lit (n := 1) (by rw [← hsz]; simpa using heap_alloc_new (w2.setCell ⟨g, i * 3 + 2, none⟩ (.bool false)) (.cells (tnList ⟨4, n.port, 1⟩).toArray 35)) hB.size rfl (by decide)
  · rw [ht]; show ShkOk _ _ _ (s.takeMember i x n.state)
    have e : s.takeMember i x n.state = { s with l := s.l.set i { x with down := false } } := by unfold Shk.takeMember; rw [decide_eq_false hst]
    rw [e]; exact ((h.step hB).setDown hx false).step ((Below.refl _ _).alloc (Nat.le_refl _) _)
theorem take_less {w w2 : World} {p g : Nat} {s : Shk} {n : Note} {i : Nat} {x : Lnk} {v : Int} (h : ShkOk w p g s) (hB : Below w.heap.size w w2) (hx : s.l[i]? = some x) (ht : s.take n = (s.takeBlocked i x, [], 0)) (hv : v = max (x.owed - 1) 0) :
    TakePost w p g s n (.returned (.tuple #[.slice none 0 0, .int .i64 0])) (w2.setCell ⟨g, i * 3 + 1, none⟩ (.int .i64 v)) := by
  refine ⟨_, by rw [ht], ?_, ?_, (Off.of_below hB).setCell (by simp) _⟩
  · rw [ht]; exact World.ownsRow_nil _ _ _ _
  · rw [ht, hv]; exact (h.step hB).setOwed hx _

set_option maxHeartbeats 2000000 in
theorem take_any (p g : Nat) (s : Shk) (n : Note) (w : World) (h : ShkOk w p g s) (hn : s.l.length ≤ 63) (ho : ∀ x ∈ s.l, 0 ≤ x.owed ∧ x.owed ≤ 1000000) (hl : HasLaid w) :
    Calls Tryd.prog 20 #[.pointer (some ⟨p, 0, none⟩), n.val] w (TakePost w p g s n) := by
  have hB0 : Below w.heap.size w (w.alloc (.cells (noteList n).toArray 35)) := (Below.refl _ _).alloc (Nat.le_refl _) _
  have H0 := h.step hB0
  have Hr := Lib.hid (right_any n (w.alloc (.cells (noteList n).toArray 35)) (hl.below hB0 hl.1))
  obtain ⟨h0, h1, h2⟩ := h.head
  have lp := h.lt.1
  have lg := h.lt.2
  have hne : p ≠ g := h.ne
  have H := Lib.hid h; have Ho := Lib.hid ho; have HB0 := Lib.hid hB0
  obtain ⟨pt, Ha, hpt⟩ : ∃ pt : Option Addr, Hid (Calls Tryd.prog 26 #[.pointer (some ⟨p, 0, none⟩), iV n.port] (w.alloc (.cells (noteList n).toArray 35)) fun e w' => e = .returned (.pointer pt) ∧ w.alloc (.cells (noteList n).toArray 35) = w') ∧
      ((pt = none ∧ linkAt s n.port = none) ∨ ∃ i x, pt = some ⟨g, i * 3, none⟩ ∧ linkAt s n.port = some (i, x)) := by
    cases hla : linkAt s n.port with
    | none => exact ⟨none, Lib.hid (at_no p g n.port s _ H0 (linkAt_none hla)), Or.inl ⟨rfl, rfl⟩⟩
    | some ix =>
      obtain ⟨i, x⟩ := ix
      obtain ⟨e1, e2⟩ := linkAt_some hla
      refine ⟨some ⟨g, i * 3, none⟩, ?_, Or.inr ⟨i, x, rfl, rfl⟩⟩
      rw [e1]
      exact Lib.hid (at_yes p g i s _ H0 hn (List.getElem?_eq_some_iff.1 e2).1)
  have Hpt := Lib.hid hpt
  clear hpt H0 h ho hl hB0
  have lp1 : p < w.heap.size + 1 := by omega
  have lg1 : g < w.heap.size + 1 := by omega
  have fg := H.out.fz.2
  cases hr : rightB n
  · have Hr2 := Lib.hid (hr ▸ Hr.out)
    have ht : s.take n = (s, [], 2) := by unfold Shk.take; rw [hr]; rfl
    have Hfin := Lib.hid (fun W hB => take_none (w' := W) H.out hB ht)
    clear ht Hpt hr Hr
    go_enter Tryd.func20, Tryd.ntmps20
    go_wp2_with (first | (go_at_call 26; refine Ha.out.mono ?_; rintro e w' ⟨rfl, rfl⟩) | (go_at_call 29; refine Hr2.out.mono ?_; rintro e w2 ⟨rfl, hb⟩; have hcs := below_cells hb; have hfs := below_frozens hb))
    go_ret2
    exact Hfin.out _ (HB0.out.trans (hb.mono (by simp)))
  · have Hr2 := Lib.hid (hr ▸ Hr.out)
    have Hrr := Lib.hid hr
    clear hr Hr
    by_cases hk : n.kind = 3 ∨ n.kind = 4
    · have hg : (rightB n && (decide (n.kind = 3) || decide (n.kind = 4))) = true := by rw [Hrr.out]; rcases hk with h | h <;> simp [h]
      have Hg := Lib.hid hg
      clear hg
      rcases Hpt.out with ⟨rfl, hla⟩ | ⟨i, x, rfl, hla⟩
      · have ht : s.take n = (s, [], 1) := by unfold Shk.take; rw [if_neg (by rw [Hg.out]; simp), hla]
        have Hfin := Lib.hid (fun W hB => take_none (w' := W) H.out hB ht)
        clear ht Hpt hla
        rcases hk with hk | hk
        · have e3 : (n.kind != 3) = false := by simpa [bne] using hk
          have e4 : (n.kind == 4) = false := by simp [hk]
          clear hk
          go_enter Tryd.func20, Tryd.ntmps20
          go_wp2_with (first | (go_at_call 26; refine Ha.out.mono ?_; rintro e w' ⟨rfl, rfl⟩) | (go_at_call 29; refine Hr2.out.mono ?_; rintro e w2 ⟨rfl, hb⟩; have hcs := below_cells hb; have hfs := below_frozens hb))
          go_ret2
          exact Hfin.out _ (HB0.out.trans (hb.mono (by simp)))
        · have e3 : (n.kind != 3) = true := by simp [bne, hk]
          have e3' : (n.kind != 4) = false := by simpa [bne] using hk
          have e4 : (n.kind == 4) = true := by simpa using hk
          clear hk
          go_enter Tryd.func20, Tryd.ntmps20
          go_wp2_with (first | (go_at_call 26; refine Ha.out.mono ?_; rintro e w' ⟨rfl, rfl⟩) | (go_at_call 29; refine Hr2.out.mono ?_; rintro e w2 ⟨rfl, hb⟩; have hcs := below_cells hb; have hfs := below_frozens hb))
          go_ret2
          exact Hfin.out _ (HB0.out.trans (hb.mono (by simp)))
      · obtain ⟨hpi, hx⟩ := linkAt_some hla
        have c0 := H.out.c0 hx
        have c1 := H.out.c1 hx
        have c2 := H.out.c2 hx
        have how := Ho.out x (List.mem_of_getElem? hx)
        have Hla := Lib.hid hla; have Hx := Lib.hid hx; have Hpi := Lib.hid hpi
        clear hla hx hpi Hpt
        cases hs : s.session
        · rw [hs] at h1
          have ht : s.take n = (s, [], 6) := by unfold Shk.take; rw [if_neg (by rw [Hg.out]; simp), Hla.out]; simp only; rw [if_pos hs]
          have Hfin := Lib.hid (fun W hB => take_none (w' := W) H.out hB ht)
          clear ht hs
          rcases hk with hk | hk
          · have e3 : (n.kind != 3) = false := by simpa [bne] using hk
            have e4 : (n.kind == 4) = false := by simp [hk]
            clear hk
            go_enter Tryd.func20, Tryd.ntmps20
            go_wp2_with (first | (go_at_call 26; refine Ha.out.mono ?_; rintro e w' ⟨rfl, rfl⟩) | (go_at_call 29; refine Hr2.out.mono ?_; rintro e w2 ⟨rfl, hb⟩; have hcs := below_cells hb; have hfs := below_frozens hb))
            go_ret2
            exact Hfin.out _ (HB0.out.trans (hb.mono (by simp)))
          · have e3 : (n.kind != 3) = true := by simp [bne, hk]
            have e3' : (n.kind != 4) = false := by simpa [bne] using hk
            have e4 : (n.kind == 4) = true := by simpa using hk
            clear hk
            go_enter Tryd.func20, Tryd.ntmps20
            go_wp2_with (first | (go_at_call 26; refine Ha.out.mono ?_; rintro e w' ⟨rfl, rfl⟩) | (go_at_call 29; refine Hr2.out.mono ?_; rintro e w2 ⟨rfl, hb⟩; have hcs := below_cells hb; have hfs := below_frozens hb))
            go_ret2
            exact Hfin.out _ (HB0.out.trans (hb.mono (by simp)))
        · rw [hs] at h1
          have Hs := Lib.hid hs
          clear hs
          rcases hk with hk | hk
          · have Hk := Lib.hid hk
            have e3 : (n.kind != 3) = false := by simpa [bne] using hk
            have e4 : (n.kind == 4) = false := by simp [hk]
            clear hk
            by_cases hst : n.state = 0
            · have es : (n.state == 0) = true := by simpa using hst
              have Hst := Lib.hid hst
              clear hst
              go_enter Tryd.func20, Tryd.ntmps20
              go_wp2_with (first | (go_at_call 26; refine Ha.out.mono ?_; rintro e w' ⟨rfl, rfl⟩) | (go_at_call 29; refine Hr2.out.mono ?_; rintro e w2 ⟨rfl, hb⟩; have hcs := below_cells hb; have hfs := below_frozens hb))
              go_ret2
              exact take_down H.out (HB0.out.trans (hb.mono (by simp))) Hx.out (take_mem Hg.out Hla.out Hs.out Hk.out) Hst.out
            · have es : (n.state == 0) = false := by simpa using hst
              have Hst := Lib.hid hst
              clear hst
              go_enter Tryd.func20, Tryd.ntmps20
              go_wp2_with (first | (go_at_call 26; refine Ha.out.mono ?_; rintro e w' ⟨rfl, rfl⟩) | (go_at_call 29; refine Hr2.out.mono ?_; rintro e w2 ⟨rfl, hb⟩; have hcs := below_cells hb; have hfs := below_frozens hb))
              go_ret2
              exact take_up H.out (HB0.out.trans (hb.mono (by simp))) Hx.out (take_mem Hg.out Hla.out Hs.out Hk.out) Hst.out Hpi.out
          · have Hk := Lib.hid hk
            have e3 : (n.kind != 3) = true := by simp [bne, hk]
            have e3' : (n.kind != 4) = false := by simpa [bne] using hk
            have e4 : (n.kind == 4) = true := by simpa using hk
            clear hk
            go_enter Tryd.func20, Tryd.ntmps20
            go_wp2_with (first | (go_at_call 26; refine Ha.out.mono ?_; rintro e w' ⟨rfl, rfl⟩) | (go_at_call 29; refine Hr2.out.mono ?_; rintro e w2 ⟨rfl, hb⟩; have hcs := below_cells hb; have hfs := below_frozens hb))
            all_goals
              go_ret2
              exact take_less H.out (HB0.out.trans (hb.mono (by simp))) Hx.out (take_blk Hg.out Hla.out Hs.out Hk.out) (by omega)
    · have ht : s.take n = (s, [], 2) := by unfold Shk.take; rw [if_pos (by rw [Hrr.out]; simp; exact ⟨fun h => hk (Or.inl h), fun h => hk (Or.inr h)⟩)]
      have Hfin := Lib.hid (fun W hB => take_none (w' := W) H.out hB ht)
      have e3 : (n.kind != 3) = true := by simpa [bne] using fun h => hk (Or.inl h)
      have e4 : (n.kind != 4) = true := by simpa [bne] using fun h => hk (Or.inr h)
      clear ht Hpt hk
      go_enter Tryd.func20, Tryd.ntmps20
      go_wp2_with (first | (go_at_call 26; refine Ha.out.mono ?_; rintro e w' ⟨rfl, rfl⟩) | (go_at_call 29; refine Hr2.out.mono ?_; rintro e w2 ⟨rfl, hb⟩; have hcs := below_cells hb; have hfs := below_frozens hb))
      go_ret2
      exact Hfin.out _ (HB0.out.trans (hb.mono (by simp)))
end Go.Proofs.YtpkpaloaoopkgaaDoor
