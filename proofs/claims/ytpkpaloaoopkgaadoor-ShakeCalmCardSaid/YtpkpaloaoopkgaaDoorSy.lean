/-
  The walk of the law ShakeScripts.
-/
import Derived.Test.YtpkpaloaoopkgaaDoorSw
import Derived.Test.YtpkpaloaoopkgaaDoorSx
import Derived.Deep.QuietTactic
import Derived.BigQuiet
namespace Go.Proofs.YtpkpaloaoopkgaaDoor
set_option linter.unusedVariables false
set_option linter.unusedSimpArgs false
open Go Go.RowKit
attribute [local go_sem ↓] exec_loadNote exec_storeNote exec_loadStep
attribute [local go_sem] ldRow_ptr ldFin_some cellsAt_succ cellsAt_zero allSome_cons allSome_nil stRow_ptr stFin_true allOne_cons allOne_nil there_succ there_zero frozens_succ frozens_zero one_int one_bool one_slice putCells_alloc_at putCells_alloc_old over_all

def servesB (s : Shk) (link : Int) : Bool := match linkAt s link with | none => false | some (_, x) => s.serves x
def blockedB (s : Shk) (link : Int) : Bool := match linkAt s link with | none => true | some (_, x) => s.blocked x
theorem serves_all (p g : Nat) (link : Int) (s : Shk) (w : World) (h : ShkOk w p g s) (hn : s.l.length ≤ 63) :
    Calls Tryd.prog 12 #[.pointer (some ⟨p, 0, none⟩), iV link] w fun e w' => e = .returned (.bool (servesB s link)) ∧ w' = w := by
  unfold servesB
  cases hla : linkAt s link with
  | none => exact (serves_no p g link s w h (linkAt_none hla)).mono fun _ _ h => ⟨h.1, h.2.symm⟩
  | some ix =>
    obtain ⟨i, x⟩ := ix
    obtain ⟨e1, e2⟩ := linkAt_some hla
    rw [e1]
    exact (serves_yes p g i x s w h hn e2).mono fun _ _ h => ⟨h.1, h.2.symm⟩
theorem rserves_all (p g : Nat) (link : Int) (s : Shk) (w : World) (h : RefOk w p g s) (hn : s.l.length ≤ 63) :
    Calls Tryd.prog 13 #[.pointer (some ⟨p, 0, none⟩), iV link] w fun e w' => e = .returned (.bool (servesB s link)) ∧ w' = w := by
  unfold servesB
  cases hla : linkAt s link with
  | none => exact (rserves_no p g link s w h (linkAt_none hla)).mono fun _ _ h => ⟨h.1, h.2.symm⟩
  | some ix =>
    obtain ⟨i, x⟩ := ix
    obtain ⟨e1, e2⟩ := linkAt_some hla
    rw [e1]
    exact (rserves_yes p g i x s w h hn e2).mono fun _ _ h => ⟨h.1, h.2.symm⟩
theorem blocked_all (p g : Nat) (link : Int) (s : Shk) (w : World) (h : ShkOk w p g s) (hn : s.l.length ≤ 63) :
    Calls Tryd.prog 14 #[.pointer (some ⟨p, 0, none⟩), iV link] w fun e w' => e = .returned (.bool (blockedB s link)) ∧ w' = w := by
  unfold blockedB
  cases hla : linkAt s link with
  | none => exact (blocked_no p g link s w h (linkAt_none hla)).mono fun _ _ h => ⟨h.1, h.2.symm⟩
  | some ix =>
    obtain ⟨i, x⟩ := ix
    obtain ⟨e1, e2⟩ := linkAt_some hla
    rw [e1]
    exact (blocked_yes p g i x s w h hn e2).mono fun _ _ h => ⟨h.1, h.2.symm⟩
theorem rblocked_all (p g : Nat) (link : Int) (s : Shk) (w : World) (h : RefOk w p g s) (hn : s.l.length ≤ 63) :
    Calls Tryd.prog 15 #[.pointer (some ⟨p, 0, none⟩), iV link] w fun e w' => e = .returned (.bool (blockedB s link)) ∧ w' = w := by
  unfold blockedB
  cases hla : linkAt s link with
  | none => exact (rblocked_no p g link s w h (linkAt_none hla)).mono fun _ _ h => ⟨h.1, h.2.symm⟩
  | some ix =>
    obtain ⟨i, x⟩ := ix
    obtain ⟨e1, e2⟩ := linkAt_some hla
    rw [e1]
    exact (rblocked_yes p g i x s w h hn e2).mono fun _ _ h => ⟨h.1, h.2.symm⟩

/-! what a step leaves -/
def OwedIn (l : List Lnk) (M : Int) : Prop := ∀ x ∈ l, 0 ≤ x.owed ∧ x.owed ≤ M
theorem OwedIn.set {l : List Lnk} {M : Int} (h : OwedIn l M) (i : Nat) (y : Lnk) (hy : 0 ≤ y.owed ∧ y.owed ≤ M + 1) : OwedIn (l.set i y) (M + 1) := by
  intro x hx
  rcases List.mem_or_eq_of_mem_set hx with hx | hx
  · have := h x hx; omega
  · subst hx; exact hy
theorem tell_owed (x : Lnk) (M : Int) (h : 0 ≤ x.owed ∧ x.owed ≤ M) : 0 ≤ (Lnk.tell x).owed ∧ (Lnk.tell x).owed ≤ M + 1 := by
  unfold Lnk.tell; split
  · show 0 ≤ x.owed + 1 ∧ x.owed + 1 ≤ M + 1; omega
  · omega
theorem local_owed {s : Shk} {i : Nat} {x : Lnk} {up : Bool} {M : Int} (h : OwedIn s.l M) (hx : s.l[i]? = some x) : OwedIn (s.local i x up).l (M + 1) := by
  have hm := h x (List.mem_of_getElem? hx)
  unfold Shk.local
  refine h.set i _ ?_
  split
  · show 0 ≤ x.owed ∧ x.owed ≤ M + 1; omega
  · exact tell_owed { x with up := up } M hm
theorem step_owed {s : Shk} {d link : Int} {is : Bool} {n : Note} {M : Int} (h : OwedIn s.l M) (hM : 0 ≤ M) : OwedIn (stepS s d link is n).l (M + 1) := by
  unfold stepS
  split
  · unfold localRes
    split
    · intro x hx; have := h x hx; omega
    · rename_i i x hla
      exact local_owed h (linkAt_some hla).2
  · split
    · unfold Shk.take
      split
      · intro x hx; have := h x hx; omega
      · split
        · intro x hx; have := h x hx; omega
        · rename_i i x hla
          have hx := (linkAt_some hla).2
          have hm := h x (List.mem_of_getElem? hx)
          split
          · intro x hx; have := h x hx; omega
          · split
            · exact h.set i _ (by show 0 ≤ max (x.owed - 1) 0 ∧ max (x.owed - 1) 0 ≤ M + 1; omega)
            · exact h.set i _ (by show 0 ≤ x.owed ∧ x.owed ≤ M + 1; omega)
    · split
      · intro x hx
        obtain ⟨y, _, rfl⟩ := List.mem_map.1 hx
        have := tell_owed { up := y.up, owed := 0, down := false } M ⟨Int.le_refl 0, hM⟩
        exact this
      · intro x hx
        obtain ⟨y, _, rfl⟩ := List.mem_map.1 hx
        show (0 : Int) ≤ 0 ∧ (0 : Int) ≤ M + 1; omega
theorem step_len (s : Shk) (d link : Int) (is : Bool) (n : Note) : (stepS s d link is n).l.length = s.l.length := by
  unfold stepS
  split
  · unfold localRes
    split
    · rfl
    · simp [Shk.local]
  · split
    · unfold Shk.take
      split
      · rfl
      · split
        · rfl
        · split
          · rfl
          · split
            · simp [Shk.takeBlocked]
            · simp [Shk.takeMember]
    · split
      · simp [Shk.start]
      · simp [Shk.stop]

theorem new_owed (n : Nat) : OwedIn (Shk.new n).l 0 := by
  intro x hx
  have : x = ⟨false, 0, false⟩ := List.eq_of_mem_replicate (n := n) hx
  subst this; exact ⟨Int.le_refl 0, Int.le_refl 0⟩

theorem below_zero {w w1 : World} (hl : HasLaid w) (h : Below w.heap.size w w1) : 0 < w1.heap.size := Nat.lt_of_lt_of_le hl.1 h.size

set_option maxRecDepth 100000 in
set_option maxHeartbeats 8000000 in
theorem scripts_good (links : Nat) (a : Option Addr) (n cap : Nat) (l : List Stp) (w : World) (h : IsStps w a n l) (h1 : 1 ≤ links) (h2 : links ≤ 63) (hl : HasLaid w) :
    Calls Tryd.prog 3 #[iV (links : Int), .slice a n cap] w fun e w' => e = .returned (.bool true) ∧ Below w.heap.size w w' := by
  have Hl := Lib.hid h; have HL := Lib.hid hl; have H1 := Lib.hid h1; have H2 := Lib.hid h2
  have hnm := h.2.1
  clear h hl h1 h2
  go_enter Tryd.func3, Tryd.ntmps3
  go_upto_region 2 with (go_at_call 8; refine (awake_any _ HL.out).mono ?_; rintro e w1 ⟨rfl, haw⟩)
  have Hb1 := Lib.hid haw
  have HL1 := Lib.hid (HL.out.below haw HL.out.1)
  have Hn := Lib.hid (new_good links w1 H1.out H2.out)
  have Hrn := Lib.hid (fun W => rnew_good links W H1.out H2.out)
  clear haw
  go_upto_region 3 with (go_at_call 9; refine Hn.out.mono ?_; rintro e w2 ⟨p, g, rfl, hp, hg, hs, hb⟩)
  have Hs := Lib.hid hs; have Hb2 := Lib.hid hb
  have hlt := hs.lt
  clear hs hb
  go_upto_region 4 with (go_at_call 10; refine (Hrn.out _).mono ?_; rintro e w3 ⟨p', g', rfl, hp', hg', hr, hb⟩)
  have hboth : Both w3 p g p' g' (Shk.new links) := ⟨Hs.out.step hb, hr, by omega, by omega, by omega, by omega⟩
  have Hboth := Lib.hid hboth
  have Hb3 := Lib.hid (Hb2.out.trans (hb.mono Hb2.out.size))
  have hw1 : w1.heap.size ≤ p' ∧ w1.heap.size ≤ g' := ⟨Nat.le_trans Hb2.out.size hp', Nat.le_trans Hb2.out.size hg'⟩
  have Hpp := Lib.hid (show w1.heap.size ≤ p ∧ w1.heap.size ≤ g ∧ w1.heap.size ≤ p' ∧ w1.heap.size ≤ g' from ⟨hp, hg, hw1.1, hw1.2⟩)
  clear hboth hr hb hw1 hp hg hp' hg' hlt
  go_wp2_with fail
  go_loopw [10] (fun idx wr => ∃ (k : Nat) (S : Shk), k ≤ n ∧ k ≤ 150 ∧ idx = iV k ∧ Both wr p g p' g' S ∧ S.l.length = links ∧ OwedIn S.l k ∧ Below w1.heap.size w1 wr) (fun idx _ => n - (intOf idx).toNat)
  case atStart => exact ⟨0, Shk.new links, Nat.zero_le _, by omega, rfl, Hboth.out, by simp [Shk.new], new_owed links, Hb3.out⟩
  case round =>
    obtain ⟨k, S, hk, hk150, rfl, hbo, hlen, how, hb⟩ := hrel
    have HB := Lib.hid hbo; have Hlen := Lib.hid hlen; have How := Lib.hid how; have Hb := Lib.hid hb
    clear hbo hlen how hb
    by_cases hgo : k < n ∧ k < 150
    · obtain ⟨hlt, hlt2⟩ := hgo
      have hbw := Hb1.out.trans (Hb.out.mono Hb1.out.size)
      obtain ⟨b, off, rfl, hbl, hc⟩ := Hl.out.2.2 (by omega)
      have hkl : k < l.length := by rw [← Hl.out.1]; exact hlt
      obtain ⟨st, hst⟩ : ∃ st, l[k]? = some st := ⟨_, List.getElem?_eq_getElem hkl⟩
      have hca : StpsAt w b off l := hc
      have hcr : StpsAt wr b off l := fun i s hi j v hv => by rw [hbw.cell (p := ⟨b, off + i * 14 + j, none⟩) hbl]; exact hca i s hi j v hv
      obtain ⟨c0, c1, c2, c3, c4, c5, c6, c7, c8, c9, c10, c11, c12, c13⟩ := hcr.cells hst
      have hk0 : (0 : Int) ≤ (k : Int) := by omega
      have hkn : (k : Int) < (n : Int) := by omega
      have Hca := Lib.hid hca; have Hst := Lib.hid hst; have Hbl := Lib.hid hbl; have Hbw := Lib.hid hbw
      clear hc hkl hst hca hcr hbl hbw
      by_cases hbody : (2000 : Int) < (st.n.bl : Int)
      · have d1 : decide ((2000 : Int) < (st.n.bl : Int)) = true := decide_eq_true hbody
        clear hbody
        go_wp2_with fail
        go_ret
        exact ⟨rfl, Hbw.out⟩
      · have d1 : decide ((2000 : Int) < (st.n.bl : Int)) = false := decide_eq_false hbody
        have hlr : HasLaid wr := HL1.out.below Hb.out HL1.out.1
        have hz : 0 ∉ [p, g, p', g'] := by
          have := Hpp.out
          have := HL1.out.1
          simp; omega
        have hlen63 : S.l.length ≤ 63 := by rw [Hlen.out]; exact H2.out
        have Hstep := Lib.hid (step_any p g p' g' st.d st.link st.is st.n S wr HB.out hlen63 (by rw [Hlen.out]; exact H1.out) (fun x hx => by have := How.out x hx; omega) hlr hz)
        clear hbody hlr hz
        go_upto_region 12 with (go_at_call 11; refine Hstep.out.mono ?_; rintro e w4 ⟨rfl, hb4, ho4⟩)
        have hb4' : Below w1.heap.size w1 w4 := Hb.out.trans (ho4.toBelow Hb.out.size (by have := Hpp.out; intro q hq; simp at hq; omega))
        have hbw4 := Hb1.out.trans (hb4'.mono Hb1.out.size)
        have d1' : w4.cell? ⟨b, off + k * 14 + 1, none⟩ = some (iV st.link) := by rw [hbw4.cell (p := ⟨b, off + k * 14 + 1, none⟩) Hbl.out]; exact Hca.out k st Hst.out 1 _ rfl
        have hlen4 : (stepS S st.d st.link st.is st.n).l.length = links := by rw [step_len]; exact Hlen.out
        have Hlen4 := Lib.hid hlen4
        have How4 := Lib.hid (step_owed (d := st.d) (link := st.link) (is := st.is) (n := st.n) How.out (by omega))
        have HB4 := Lib.hid hb4; have Hb4 := Lib.hid hb4'
        have Hsv := Lib.hid (fun W (h : Both W p g p' g' (stepS S st.d st.link st.is st.n)) => serves_all p g st.link _ W h.a (by rw [hlen4]; exact H2.out))
        have Hrsv := Lib.hid (fun W (h : Both W p g p' g' (stepS S st.d st.link st.is st.n)) => rserves_all p' g' st.link _ W h.b (by rw [hlen4]; exact H2.out))
        have Hbl4 := Lib.hid (fun W (h : Both W p g p' g' (stepS S st.d st.link st.is st.n)) => blocked_all p g st.link _ W h.a (by rw [hlen4]; exact H2.out))
        have Hrbl := Lib.hid (fun W (h : Both W p g p' g' (stepS S st.d st.link st.is st.n)) => rblocked_all p' g' st.link _ W h.b (by rw [hlen4]; exact H2.out))
        generalize stepS S st.d st.link st.is st.n = S2 at *
        clear c0 c1 c2 c3 c4 c5 c6 c7 c8 c9 c10 c11 c12 c13 hb4 ho4 hb4' hbw4 hlen4 hlen63
        generalize servesB S2 st.link = sv at *
        generalize blockedB S2 st.link = bl at *
        have Hd := Lib.hid (fun m => HB4.out.step (below_drewN' (Below.refl w4.heap.size w4) m))
        cases sv <;> cases bl
        all_goals
          go_quiet (first | (go_at_call 12; exact Calls.quiet_of_same (Hsv.out _ (Hd.out _))) | (go_at_call 13; exact Calls.quiet_of_same (Hrsv.out _ (Hd.out _))) | (go_at_call 14; exact Calls.quiet_of_same (Hbl4.out _ (Hd.out _))) | (go_at_call 15; exact Calls.quiet_of_same (Hrbl.out _ (Hd.out _))))
          go_wp2
          go_roundw
          case rel => exact ⟨k + 1, S2, by omega, by omega, by go_num, Hd.out _, Hlen4.out, by have := How4.out; rw [show ((k + 1 : Nat) : Int) = (k : Int) + 1 by omega]; exact this, Hb4.out.trans (below_drewN' (Below.refl _ _) _)⟩
          case measure => simp [intOf]; omega
    · by_cases hkn : k < n
      · have hk2 : k = 150 := by omega
        subst hk2
        go_wp2
        go_ret
        exact ⟨rfl, Hb1.out.trans (Hb.out.mono Hb1.out.size)⟩
      · obtain rfl : k = n := by omega
        go_wp2
        go_ret
        exact ⟨rfl, Hb1.out.trans (Hb.out.mono Hb1.out.size)⟩

set_option maxRecDepth 100000 in
set_option maxHeartbeats 2000000 in
theorem scripts_bad (links : Int) (a : Option Addr) (n cap : Nat) (w : World) (h : links < 1 ∨ 63 < links) (hnm : n ≤ 9223372036854775807) (hl : HasLaid w) :
    Calls Tryd.prog 3 #[iV links, .slice a n cap] w fun e w' => e = .returned (.bool true) ∧ Below w.heap.size w w' := by
  have HL := Lib.hid hl; have H := Lib.hid h
  clear h hl
  go_enter Tryd.func3, Tryd.ntmps3
  go_wp2_with (first | (go_at_call 8; refine (awake_any _ HL.out).mono ?_; rintro e w1 ⟨rfl, haw⟩) | (go_at_call 9; refine (new_bad links _ H.out).mono ?_; rintro e w2 ⟨rfl, rfl⟩) | (go_at_call 10; refine (rnew_bad links _ H.out).mono ?_; rintro e w2 ⟨rfl, rfl⟩))
  go_loop [10] (fun idx => idx = iV 0) (fun _ => 0)
  case atStart => rfl
  case round =>
    subst hrel
    by_cases h0 : 0 < n
    · have d0 : decide ((0 : Int) < (n : Int)) = true := decide_eq_true (by omega)
      go_wp2
      go_ret
      exact ⟨rfl, haw⟩
    · have d0 : decide ((0 : Int) < (n : Int)) = false := decide_eq_false (by omega)
      go_wp2
      go_ret
      exact ⟨rfl, haw⟩
theorem scripts_any (links : Int) (a : Option Addr) (n cap : Nat) (l : List Stp) (w : World) (h : IsStps w a n l) (hl : HasLaid w) :
    Calls Tryd.prog 3 #[iV links, .slice a n cap] w fun e w' => e = .returned (.bool true) ∧ Below w.heap.size w w' := by
  by_cases hb : links < 1 ∨ 63 < links
  · exact scripts_bad links a n cap w hb h.2.1 hl
  · have := scripts_good links.toNat a n cap l w h (by omega) (by omega) hl
    rw [show ((links.toNat : Nat) : Int) = links by omega] at this
    exact this
end Go.Proofs.YtpkpaloaoopkgaaDoor
