/-
  The walk of the law ShakeAlone.
-/
import Derived.Test.YtpkpaloaoopkgaaDoorSy
namespace Go.Proofs.YtpkpaloaoopkgaaDoor
set_option linter.unusedVariables false
set_option linter.unusedSimpArgs false
open Go Go.RowKit
attribute [local go_sem ↓] exec_loadNote exec_storeNote exec_loadStep
attribute [local go_sem] ldRow_ptr ldFin_some cellsAt_succ cellsAt_zero allSome_cons allSome_nil stRow_ptr stFin_true allOne_cons allOne_nil there_succ there_zero frozens_succ frozens_zero one_int one_bool one_slice putCells_alloc_at putCells_alloc_old over_all

theorem linkAt_len {s t : Shk} (h : s.l.length = t.l.length) (port : Int) (hs : linkAt s port = none) : linkAt t port = none := by
  have h1 := linkAt_none hs
  unfold linkAt
  by_cases hp : 1 ≤ port
  · rw [if_pos hp, List.getElem?_eq_none (by omega)]; rfl
  · rw [if_neg hp]
theorem linkAt_is {s : Shk} {i : Nat} {x : Lnk} (h : s.l[i]? = some x) : linkAt s ((i : Int) + 1) = some (i, x) := by
  unfold linkAt
  rw [if_pos (by omega), show ((i : Int) + 1 - 1).toNat = i by omega, h]; rfl
/-- a Take of an answer ahead of a session. -/
theorem take_early {s : Shk} (hs : s.session = false) (hl : 0 < s.l.length) : s.take (Tn.note ⟨4, 1, 1⟩) = (s, [], 6) := by
  have h : rightB (Tn.note ⟨4, 1, 1⟩) = true := by decide +kernel
  have hla : linkAt s (Tn.note ⟨4, 1, 1⟩).port = some (0, s.l[0]) := linkAt_is (i := 0) (List.getElem?_eq_getElem hl)
  unfold Shk.take
  rw [h, hla]
  simp only [Bool.true_and]
  rw [if_neg (by decide), if_pos hs]
theorem local_off {s : Shk} {link : Int} {i : Nat} {x : Lnk} {up : Bool} (hs : s.session = false) (hla : linkAt s link = some (i, x)) : localRes s link up = ({ s with l := s.l.set i { x with up := up } }, [], 0) := by
  unfold localRes Shk.local localTold
  rw [hla]
  simp only
  rw [if_pos (Or.inr hs), if_pos (Or.inr hs)]

set_option maxRecDepth 100000 in
set_option maxHeartbeats 8000000 in
theorem alone_any (a : Option Addr) (n cap : Nat) (l : List Stp) (serve : Bool) (link : Int) (w : World) (h : IsStps w a n l) (hl : HasLaid w) :
    Calls Tryd.prog 6 #[.slice a n cap, .bool serve, iV link] w fun e w' => e = .returned (.bool true) ∧ Below w.heap.size w w' := by
  have Hl := Lib.hid h; have HL := Lib.hid hl
  have hnm := h.2.1
  clear h hl
  go_enter Tryd.func6, Tryd.ntmps6
  go_upto_region 2 with (go_at_call 8; refine (awake_any _ HL.out).mono ?_; rintro e w1 ⟨rfl, haw⟩)
  have Hb1 := Lib.hid haw
  have HL1 := Lib.hid (HL.out.below haw HL.out.1)
  have Hn := Lib.hid (show Calls Tryd.prog 9 #[.int .i64 3] w1 (NewPost w1 3) from new_good 3 w1 (by omega) (by omega))
  have Hrn := Lib.hid (fun W => (show Calls Tryd.prog 10 #[.int .i64 3] W (RNewPost W 3) from rnew_good 3 W (by omega) (by omega)))
  clear haw
  go_upto_region 3 with (go_at_call 9; refine Hn.out.mono ?_; rintro e w2 ⟨p, g, rfl, hp, hg, hs, hb⟩)
  have Hs := Lib.hid hs; have Hb2 := Lib.hid hb
  have hlt := hs.lt
  clear hs hb
  go_upto_region 6 with (go_at_call 10; refine (Hrn.out _).mono ?_; rintro e w3 ⟨p', g', rfl, hp', hg', hr, hb⟩)
  have hboth : Both w3 p g p' g' (Shk.new 3) := ⟨Hs.out.step hb, hr, by omega, by omega, by omega, by omega⟩
  have Hboth := Lib.hid hboth
  have Hb3 := Lib.hid (Hb2.out.trans (hb.mono Hb2.out.size))
  have hw1 : w1.heap.size ≤ p' ∧ w1.heap.size ≤ g' := ⟨Nat.le_trans Hb2.out.size hp', Nat.le_trans Hb2.out.size hg'⟩
  have Hpp := Lib.hid (show w1.heap.size ≤ p ∧ w1.heap.size ≤ g ∧ w1.heap.size ≤ p' ∧ w1.heap.size ≤ g' from ⟨hp, hg, hw1.1, hw1.2⟩)
  clear hboth hr hb hw1 hp hg hp' hg' hlt
  go_wp2_with fail
  go_loopw [12] (fun idx wr => ∃ (k : Nat) (S : Shk), k ≤ n ∧ k ≤ 60 ∧ idx = iV k ∧ Both wr p g p' g' S ∧ S.l.length = 3 ∧ OwedIn S.l k ∧ Below w1.heap.size w1 wr) (fun idx _ => n - (intOf idx).toNat)
  case atStart => exact ⟨0, Shk.new 3, Nat.zero_le _, by omega, rfl, Hboth.out, rfl, new_owed 3, Hb3.out⟩
  case round =>
    obtain ⟨k, S, hk, hk60, rfl, hbo, hlen, how, hb⟩ := hrel
    have HB := Lib.hid hbo; have Hlen := Lib.hid hlen; have How := Lib.hid how; have Hb := Lib.hid hb
    clear hbo hlen how hb
    by_cases hgo : k < n ∧ k < 60
    · obtain ⟨hlt, hlt2⟩ := hgo
      have hbw := Hb1.out.trans (Hb.out.mono Hb1.out.size)
      obtain ⟨b, off, rfl, hbl, hc⟩ := Hl.out.2.2 (by omega)
      have hkl : k < l.length := by rw [← Hl.out.1]; exact hlt
      obtain ⟨st, hst⟩ : ∃ st, l[k]? = some st := ⟨_, List.getElem?_eq_getElem hkl⟩
      have hcr : StpsAt wr b off l := fun i s hi j v hv => by rw [hbw.cell (p := ⟨b, off + i * 14 + j, none⟩) hbl]; exact hc i s hi j v hv
      obtain ⟨c0, c1, c2, c3, c4, c5, c6, c7, c8, c9, c10, c11, c12, c13⟩ := hcr.cells hst
      have hk0 : (0 : Int) ≤ (k : Int) := by omega
      have hkn : (k : Int) < (n : Int) := by omega
      have Hbw := Lib.hid hbw
      clear hc hkl hst hcr hbl hbw
      by_cases hbody : (2000 : Int) < (st.n.bl : Int)
      · have d1 : decide ((2000 : Int) < (st.n.bl : Int)) = true := decide_eq_true hbody
        clear hbody
        go_wp2_with fail
        go_ret
        exact ⟨rfl, Hbw.out⟩
      · have d1 : decide ((2000 : Int) < (st.n.bl : Int)) = false := decide_eq_false hbody
        have hlr : HasLaid wr := HL1.out.below Hb.out HL1.out.1
        have hz : 0 ∉ [p, g, p', g'] := by
          have := Hpp.out
          have := HL1.out.1
          simp; omega
        have hlen63 : S.l.length ≤ 63 := by rw [Hlen.out]; decide
        have Hstep := Lib.hid (step_any p g p' g' st.d st.link st.is st.n S wr HB.out hlen63 (by rw [Hlen.out]; decide) (fun x hx => by have := How.out x hx; omega) hlr hz)
        clear hbody hlr hz hlen63
        go_wp2_with (go_at_call 11; refine Hstep.out.mono ?_; rintro e w4 ⟨rfl, hb4, ho4⟩)
        go_roundw
        case rel => exact ⟨k + 1, stepS S st.d st.link st.is st.n, by omega, by omega, by go_num, hb4, by rw [step_len]; exact Hlen.out, by have := step_owed (d := st.d) (link := st.link) (is := st.is) (n := st.n) How.out (by omega); rw [show ((k + 1 : Nat) : Int) = (k : Int) + 1 by omega]; exact this, Hb.out.trans (ho4.toBelow Hb.out.size (by have := Hpp.out; intro q hq; simp at hq; omega))⟩
        case measure => simp [intOf]; omega
    · have Hst := Lib.hid (stop_any p g serve S wr HB.out.a (by rw [Hlen.out]; decide))
      have hS1 : (S.stop serve).l.length = 3 := by simp [Shk.stop]; exact Hlen.out
      have how1 : OwedIn (S.stop serve).l 0 := by
        intro x hx
        obtain ⟨y, _, rfl⟩ := List.mem_map.1 hx
        exact ⟨Int.le_refl 0, Int.le_refl 0⟩
      have hses : (S.stop serve).session = false := rfl
      have halo : (S.stop serve).alone = serve := rfl
      have HS1 := Lib.hid hS1; have How1 := Lib.hid how1; have Hses := Lib.hid hses; have Halo := Lib.hid halo
      have Hgg := Lib.hid (show ∀ q, q ∈ [p, g] → w1.heap.size ≤ q by have := Hpp.out; intro q hq; simp at hq; omega)
      have Hgg1 := Lib.hid (show ∀ q, q ∈ [g] → w1.heap.size ≤ q by have := Hpp.out; intro q hq; simp at hq; omega)
      clear hS1 how1 hses halo
      generalize S.stop serve = S1 at *
      by_cases hkn : k < n
      case' pos =>
        obtain rfl : k = 60 := by omega
      all_goals
        go_upto_region 13 with (go_at_call 19; refine Hst.out.mono ?_; rintro e w4 ⟨rfl, hs4, ho4⟩)
        have hb4 : Below w1.heap.size w1 w4 := Hb.out.trans (ho4.toBelow Hb.out.size Hgg.out)
        have Hloc := Lib.hid (local_all p g link true S1 w4 hs4 (by rw [HS1.out]; decide) (fun x hx => by have := How1.out x hx; omega))
        have Hb4 := Lib.hid hb4
        clear hs4 ho4 hb4
        cases hla : linkAt S1 link
        · have hno := linkAt_none hla
          rw [HS1.out] at hno
          have Hla := Lib.hid hla
          have Hres := Lib.hid (show localRes S1 link true = (S1, [], 1) by unfold localRes; rw [hla])
          have Hsvb := Lib.hid (show servesB S1 link = false by unfold servesB; rw [hla])
          have Hblb := Lib.hid (show blockedB S1 link = true by unfold blockedB; rw [hla])
          have hl1 : link < 1 ∨ 3 < link := hno
          clear hla hno
          go_upto_region 14 with (go_at_call 16; refine Hloc.out.mono ?_; rw [Hres.out]; rintro e w5 ⟨v5, rfl, _, hs5, ho5⟩)
          have hb5 : Below w1.heap.size w1 w5 := Hb4.out.trans (ho5.toBelow Hb4.out.size Hgg1.out)
          have Htk := Lib.hid (show Calls Tryd.prog 20 #[.pointer (some ⟨p, 0, none⟩), blkNote] w5 (TakePost w5 p g S1 (Tn.note ⟨4, 1, 1⟩)) from take_any p g S1 _ w5 hs5 (by show S1.l.length ≤ 63; rw [HS1.out]; decide) (fun x hx => by have := How1.out x hx; omega) (HL1.out.below hb5 HL1.out.1))
          have Hb5 := Lib.hid hb5
          clear hs5 ho5 hb5
          go_upto_region 15 with (go_at_call 20; refine Htk.out.mono ?_; rintro e w6 ⟨v6, rfl, _, hs6, ho6⟩)
          rw [take_early Hses.out (by rw [HS1.out]; decide)] at hs6
          rw [take_early Hses.out (by rw [HS1.out]; decide)]
          have Hb6 := Lib.hid (Hb5.out.trans (ho6.toBelow Hb5.out.size Hgg1.out))
          have Hsv := Lib.hid (Hsvb.out ▸ serves_all p g link S1 w6 hs6 (by rw [HS1.out]; decide))
          have Hbl := Lib.hid (Hblb.out ▸ blocked_all p g link S1 w6 hs6 (by rw [HS1.out]; decide))
          clear hs6 ho6
          by_cases hlk : link < 1
          · have dl : decide (link < 1) = true := decide_eq_true hlk
            clear hl1 hlk
            go_wp2_with (first | (go_at_call 12; refine Hsv.out.mono ?_; rintro e w' ⟨rfl, rfl⟩) | (go_at_call 14; refine Hbl.out.mono ?_; rintro e w' ⟨rfl, rfl⟩))
            go_ret
            exact ⟨rfl, Hb1.out.trans (Hb6.out.mono Hb1.out.size)⟩
          · have dl : decide (link < 1) = false := decide_eq_false hlk
            have dl2 : decide (3 < link) = true := decide_eq_true (by omega)
            clear hl1 hlk
            go_wp2_with (first | (go_at_call 12; refine Hsv.out.mono ?_; rintro e w' ⟨rfl, rfl⟩) | (go_at_call 14; refine Hbl.out.mono ?_; rintro e w' ⟨rfl, rfl⟩))
            go_ret
            exact ⟨rfl, Hb1.out.trans (Hb6.out.mono Hb1.out.size)⟩
        · rename_i ix
          obtain ⟨i, x⟩ := ix
          obtain ⟨hpi, hx⟩ := linkAt_some hla
          have Hres := Lib.hid (local_off (up := true) Hses.out hla)
          have Hx := Lib.hid hx; have Hpi := Lib.hid hpi
          clear hla hx hpi
          go_upto_region 14 with (go_at_call 16; refine Hloc.out.mono ?_; rw [Hres.out]; rintro e w5 ⟨v5, rfl, ht5, hs5, ho5⟩)
          obtain ⟨a5, cap5, rfl, _⟩ := NotesAt.of_told ht5
          have hb5 : Below w1.heap.size w1 w5 := Hb4.out.trans (ho5.toBelow Hb4.out.size Hgg1.out)
          have hlen2 : (S1.l.set i { x with up := true }).length = 3 := by rw [List.length_set]; exact HS1.out
          have how2 : OwedIn (S1.l.set i { x with up := true }) (0 + 1) := How1.out.set i _ (by have := How1.out x (List.mem_of_getElem? Hx.out); show 0 ≤ x.owed ∧ x.owed ≤ 0 + 1; omega)
          have Htk := Lib.hid (show Calls Tryd.prog 20 #[.pointer (some ⟨p, 0, none⟩), blkNote] w5 (TakePost w5 p g { S1 with l := S1.l.set i { x with up := true } } (Tn.note ⟨4, 1, 1⟩)) from take_any p g _ _ w5 hs5 (by show (S1.l.set i { x with up := true }).length ≤ 63; rw [hlen2]; decide) (fun y hy => by have := how2 y hy; omega) (HL1.out.below hb5 HL1.out.1))
          have Hb5 := Lib.hid hb5; have Hlen2 := Lib.hid (show ({ S1 with l := S1.l.set i { x with up := true } } : Shk).l.length = 3 from hlen2); have How2 := Lib.hid (show OwedIn ({ S1 with l := S1.l.set i { x with up := true } } : Shk).l (0 + 1) from how2)
          have hgx : (S1.l.set i { x with up := true })[i]? = some { x with up := true } := set_get Hx.out _
          have hla2 : linkAt { S1 with l := S1.l.set i { x with up := true } } link = some (i, { x with up := true }) := by rw [Hpi.out]; exact linkAt_is hgx
          have Hla2 := Lib.hid hla2
          have Hse2 := Lib.hid (show ({ S1 with l := S1.l.set i { x with up := true } } : Shk).session = false from Hses.out)
          have Hsvb := Lib.hid (show servesB { S1 with l := S1.l.set i { x with up := true } } link = serve by
            unfold servesB; rw [hla2]
            show (true && (if S1.session then decide (x.owed = 0) else S1.alone)) = serve
            rw [Hses.out, Halo.out]; rfl)
          have Hblb := Lib.hid (show blockedB { S1 with l := S1.l.set i { x with up := true } } link = true by
            unfold blockedB; rw [hla2]
            show (!S1.session || !x.down) = true
            rw [Hses.out]; rfl)
          clear ht5 hs5 ho5 hb5 hlen2 how2 hgx hla2
          generalize ({ S1 with l := S1.l.set i { x with up := true } } : Shk) = S2 at *
          go_upto_region 15 with (go_at_call 20; refine Htk.out.mono ?_; rintro e w6 ⟨v6, rfl, _, hs6, ho6⟩)
          rw [take_early Hse2.out (by rw [Hlen2.out]; decide)] at hs6
          rw [take_early Hse2.out (by rw [Hlen2.out]; decide)]
          have hb6 := Hb5.out.trans (ho6.toBelow Hb5.out.size Hgg1.out)
          have Hsv := Lib.hid (Hsvb.out ▸ serves_all p g link S2 w6 hs6 (by rw [Hlen2.out]; decide))
          have Hbl := Lib.hid (Hblb.out ▸ blocked_all p g link S2 w6 hs6 (by rw [Hlen2.out]; decide))
          have Hlo2 := Lib.hid (local_off (up := false) Hse2.out Hla2.out ▸ local_all p g link false S2 w6 hs6 (by rw [Hlen2.out]; decide) (fun y hy => by have := How2.out y hy; omega))
          have Hb6 := Lib.hid hb6
          clear hs6 ho6 hb6
          go_upto_region 18 with (first | (go_at_call 12; refine Hsv.out.mono ?_; rintro e w' ⟨rfl, rfl⟩) | (go_at_call 14; refine Hbl.out.mono ?_; rintro e w' ⟨rfl, rfl⟩))
          go_upto_region 19 with (go_at_call 16; refine Hlo2.out.mono ?_; rintro e w7 ⟨v7, rfl, _, hs7, ho7⟩)
          have hx2 : S2.l[i]? = some { x with up := true } := (linkAt_some Hla2.out).2
          have hla3 : linkAt { S2 with l := S2.l.set i { x with up := false } } link = some (i, { x with up := false }) := by rw [Hpi.out]; exact linkAt_is (set_get hx2 _)
          have hsv3 : servesB { S2 with l := S2.l.set i { x with up := false } } link = false := by unfold servesB; rw [hla3]; rfl
          have Hsv3 := Lib.hid (hsv3 ▸ serves_all p g link _ w7 hs7 (by show (S2.l.set i _).length ≤ 63; rw [List.length_set, Hlen2.out]; decide))
          have Hb7 := Lib.hid (Hb6.out.trans (ho7.toBelow Hb6.out.size Hgg1.out))
          clear hs7 ho7 hx2 hla3 hsv3
          go_wp2_with (go_at_call 12; refine Hsv3.out.mono ?_; rintro e w' ⟨rfl, rfl⟩)
          go_ret
          exact ⟨rfl, Hb1.out.trans (Hb7.out.mono Hb1.out.size)⟩
end Go.Proofs.YtpkpaloaoopkgaaDoor
