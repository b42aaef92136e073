/-
  gemelref06: the document's own Right: the same as the program's.
-/
import Derived.Test.YtpkpaloaoopkgaaDoorSa
namespace Go.Proofs.YtpkpaloaoopkgaaDoor
set_option linter.unusedVariables false
set_option linter.unusedSimpArgs false
open Go Go.RowKit

theorem r6within_any (n low high : Int) (w : World) : Calls Tryd.prog 36 #[iV n, iV low, iV high] w fun e w' => e = .returned (.bool (withinB n low high)) ∧ w = w' := by
  by_cases h1 : low ≤ n
  · have d1 : decide (low ≤ n) = true := decide_eq_true h1
    have hw : withinB n low high = decide (n ≤ high) := by unfold withinB; simp [h1]
    rw [hw]
    clear hw h1
    go_enter Tryd.func36, Tryd.ntmps36
    go_wp2
    go_ret
    exact ⟨rfl, rfl⟩
  · have d1 : decide (low ≤ n) = false := decide_eq_false h1
    have hw : withinB n low high = false := by unfold withinB; simp [h1]
    rw [hw]
    clear hw h1
    go_enter Tryd.func36, Tryd.ntmps36
    go_wp2
    go_ret
    exact ⟨rfl, rfl⟩

theorem nine {k : Int} (h : 0 ≤ k ∧ k ≤ 8) : k = 0 ∨ k = 1 ∨ k = 2 ∨ k = 3 ∨ k = 4 ∨ k = 5 ∨ k = 6 ∨ k = 7 ∨ k = 8 := by omega
theorem r6hasVlan_any (k : Int) (w : World) (h : 0 ≤ k ∧ k ≤ 8) : Calls Tryd.prog 37 #[iV k] w fun e w' => e = .returned (.bool (hasB k 1)) ∧ w = w' := by
  rcases nine h with rfl | rfl | rfl | rfl | rfl | rfl | rfl | rfl | rfl
  all_goals
    clear h
    go_enter Tryd.func37, Tryd.ntmps37
    go_wp2
    go_ret
    exact ⟨rfl, rfl⟩
theorem r6hasMac_any (k : Int) (w : World) (h : 0 ≤ k ∧ k ≤ 8) : Calls Tryd.prog 38 #[iV k] w fun e w' => e = .returned (.bool (hasB k 2)) ∧ w = w' := by
  rcases nine h with rfl | rfl | rfl | rfl | rfl | rfl | rfl | rfl | rfl
  all_goals
    clear h
    go_enter Tryd.func38, Tryd.ntmps38
    go_wp2
    go_ret
    exact ⟨rfl, rfl⟩
theorem r6hasPort_any (k : Int) (w : World) (h : 0 ≤ k ∧ k ≤ 8) : Calls Tryd.prog 39 #[iV k] w fun e w' => e = .returned (.bool (hasB k 4)) ∧ w = w' := by
  rcases nine h with rfl | rfl | rfl | rfl | rfl | rfl | rfl | rfl | rfl
  all_goals
    clear h
    go_enter Tryd.func39, Tryd.ntmps39
    go_wp2
    go_ret
    exact ⟨rfl, rfl⟩
theorem r6hasState_any (k : Int) (w : World) (h : 0 ≤ k ∧ k ≤ 8) : Calls Tryd.prog 40 #[iV k] w fun e w' => e = .returned (.bool (hasB k 8)) ∧ w = w' := by
  rcases nine h with rfl | rfl | rfl | rfl | rfl | rfl | rfl | rfl | rfl
  all_goals
    clear h
    go_enter Tryd.func40, Tryd.ntmps40
    go_wp2
    go_ret
    exact ⟨rfl, rfl⟩
theorem r6hasBody_any (k : Int) (w : World) (h : 0 ≤ k ∧ k ≤ 8) : Calls Tryd.prog 41 #[iV k] w fun e w' => e = .returned (.bool (hasB k 16)) ∧ w = w' := by
  rcases nine h with rfl | rfl | rfl | rfl | rfl | rfl | rfl | rfl | rfl
  all_goals
    clear h
    go_enter Tryd.func41, Tryd.ntmps41
    go_wp2
    go_ret
    exact ⟨rfl, rfl⟩

theorem fits_yes {k v : Int} {f : Nat} {lo hi : Int} (h : hasB k f = true) : fitsB k v f lo hi = withinB v lo hi := by unfold fitsB; rw [if_pos h]
theorem fits_not {k v : Int} {f : Nat} {lo hi : Int} (h : hasB k f = false) : fitsB k v f lo hi = !(v != 0) := by
  unfold fitsB; rw [if_neg (by rw [h]; simp)]
  unfold withinB
  by_cases hv : v = 0
  · subst hv; rfl
  · have : (v != 0) = true := by simpa [bne] using hv
    rw [this, decide_eq_false (by omega)]; rfl
/-- the tests on a kind behind which a state's bound stands. -/
theorem states_ways (k : Int) (hk : 0 ≤ k ∧ k ≤ 8) : ∃ b6 b8 : Bool, (k == 6) = b6 ∧ (k == 8) = b8 ∧ ∀ v, fitsB k v 8 0 (statesN k) = withinB v 0 (if b8 then 250 else if b6 then 2 else if hasB k 8 then 1 else 0) := by
  refine ⟨_, _, rfl, rfl, fun v => ?_⟩
  rcases nine hk with rfl | rfl | rfl | rfl | rfl | rfl | rfl | rfl | rfl <;> rfl

set_option maxRecDepth 100000 in
set_option maxHeartbeats 4000000 in
theorem r6right_in (n : Note) (w : World) (h : withinB n.kind 0 8 = true) : Calls Tryd.prog 32 #[n.val] w fun e w' => e = .returned (.bool (rightB n)) ∧ Below w.heap.size w w' := by
  have hk : 0 ≤ n.kind ∧ n.kind ≤ 8 := of_decide_eq_true h
  have hmn := fun w => neq_mac0 n.mac w
  have Hh := Lib.hid h
  have Hr := Lib.hid (show rightB n = ((hasB n.kind 2 || decide (n.mac = mac0)) && fitsB n.kind n.vlan 1 1 4094 && fitsB n.kind n.port 4 0 1000 && fitsB n.kind n.state 8 0 (statesN n.kind) && fitsB n.kind n.bl 16 0 1600) by unfold rightB; rw [h]; rfl)
  have Hv := Lib.hid (fun W => r6hasVlan_any n.kind W hk)
  have Hm := Lib.hid (fun W => r6hasMac_any n.kind W hk)
  have Hp := Lib.hid (fun W => r6hasPort_any n.kind W hk)
  have Hs := Lib.hid (fun W => r6hasState_any n.kind W hk)
  have Hb := Lib.hid (fun W => r6hasBody_any n.kind W hk)
  have Hk := Lib.hid hk
  clear h hk
  go_enter Tryd.func32, Tryd.ntmps32
  go_upto_region 3 with (go_at_call 36; refine (r6within_any _ _ _ _).mono ?_; rw [Hh.out]; rintro e w' ⟨rfl, rfl⟩)
  go_cut [27] (fun s w' => s = .bool (!fitsB n.kind n.vlan 1 1 4094) ∧ w' = w.alloc (.cells (noteList n).toArray 35))
  case first =>
    cases hB : hasB n.kind 1
    · have Hv2 := Lib.hid (fun W => hB ▸ Hv.out W)
      have He := Lib.hid (fits_not (v := n.vlan) (lo := 1) (hi := 4094) hB)
      clear hB
      cases hz : n.vlan != 0
      all_goals
        have Hz := Lib.hid hz
        go_wp2_with (go_at_call 37; refine (Hv2.out _).mono ?_; rintro e w' ⟨rfl, rfl⟩)
        go_meet
        exact ⟨by rw [He.out, Hz.out]; rfl, rfl⟩
    · have Hv2 := Lib.hid (fun W => hB ▸ Hv.out W)
      have He := Lib.hid (fits_yes (v := n.vlan) (lo := 1) (hi := 4094) hB)
      clear hB
      cases hw : withinB n.vlan 1 4094
      all_goals
        have Hw := Lib.hid hw
        have Hw2 := Lib.hid (fun W => hw ▸ r6within_any n.vlan 1 4094 W)
        clear hw
        go_wp2_with (first | (go_at_call 37; refine (Hv2.out _).mono ?_; rintro e w' ⟨rfl, rfl⟩) | (go_at_call 36; refine (Hw2.out _).mono ?_; rintro e w' ⟨rfl, rfl⟩))
        go_meet
        exact ⟨by rw [He.out, Hw.out]; rfl, rfl⟩
  case rest =>
    obtain ⟨rfl, rfl⟩ := hcut
    clear Hv
    cases F1 : fitsB n.kind n.vlan 1 1 4094
    · have G1 := Lib.hid F1
      clear F1
      go_wp2
      go_ret
      exact ⟨by rw [Hr.out, G1.out]; simp, (Below.refl _ _).alloc (Nat.le_refl _) _⟩
    have G1 := Lib.hid F1
    clear F1
    go_upto_region 5 with fail
    go_cut [37] (fun s w' => s = .bool (!(hasB n.kind 2 || decide (n.mac = mac0))) ∧ w' = w.alloc (.cells (noteList n).toArray 35))
    case first =>
      cases hB : hasB n.kind 2
      · have Hm2 := Lib.hid (fun W => hB ▸ Hm.out W)
        have HB := Lib.hid hB
        clear hB
        cases hM : decide (n.mac = mac0)
        all_goals
          rw [hM] at hmn
          have HM := Lib.hid hM
          clear hM
          go_wp2_with (go_at_call 38; refine (Hm2.out _).mono ?_; rintro e w' ⟨rfl, rfl⟩)
          go_meet
          exact ⟨by rw [HB.out, HM.out]; rfl, rfl⟩
      · have Hm2 := Lib.hid (fun W => hB ▸ Hm.out W)
        have HB := Lib.hid hB
        clear hB
        go_wp2_with (go_at_call 38; refine (Hm2.out _).mono ?_; rintro e w' ⟨rfl, rfl⟩)
        go_meet
        exact ⟨by rw [HB.out]; rfl, rfl⟩
    case rest =>
      obtain ⟨rfl, rfl⟩ := hcut
      clear Hm hmn
      cases F2 : (hasB n.kind 2 || decide (n.mac = mac0))
      · have G2 := Lib.hid F2
        clear F2
        go_wp2
        go_ret
        exact ⟨by rw [Hr.out, G2.out]; simp, (Below.refl _ _).alloc (Nat.le_refl _) _⟩
      have G2 := Lib.hid F2
      clear F2
      go_upto_region 7 with fail
      go_cut [57] (fun s w' => s = .bool (!fitsB n.kind n.port 4 0 1000) ∧ w' = w.alloc (.cells (noteList n).toArray 35))
      case first =>
        cases hB : hasB n.kind 4
        · have Hv2 := Lib.hid (fun W => hB ▸ Hp.out W)
          have He := Lib.hid (fits_not (v := n.port) (lo := 0) (hi := 1000) hB)
          clear hB
          cases hz : n.port != 0
          all_goals
            have Hz := Lib.hid hz
            go_wp2_with (go_at_call 39; refine (Hv2.out _).mono ?_; rintro e w' ⟨rfl, rfl⟩)
            go_meet
            exact ⟨by rw [He.out, Hz.out]; rfl, rfl⟩
        · have Hv2 := Lib.hid (fun W => hB ▸ Hp.out W)
          have He := Lib.hid (fits_yes (v := n.port) (lo := 0) (hi := 1000) hB)
          clear hB
          cases hw : withinB n.port 0 1000
          all_goals
            have Hw := Lib.hid hw
            have Hw2 := Lib.hid (fun W => hw ▸ r6within_any n.port 0 1000 W)
            clear hw
            go_wp2_with (first | (go_at_call 39; refine (Hv2.out _).mono ?_; rintro e w' ⟨rfl, rfl⟩) | (go_at_call 36; refine (Hw2.out _).mono ?_; rintro e w' ⟨rfl, rfl⟩))
            go_meet
            exact ⟨by rw [He.out, Hw.out]; rfl, rfl⟩
      case rest =>
        obtain ⟨rfl, rfl⟩ := hcut
        clear Hp
        cases F3 : fitsB n.kind n.port 4 0 1000
        · have G3 := Lib.hid F3
          clear F3
          go_wp2
          go_ret
          exact ⟨by rw [Hr.out, G3.out]; simp, (Below.refl _ _).alloc (Nat.le_refl _) _⟩
        have G3 := Lib.hid F3
        clear F3
        obtain ⟨b6, b8, h6, h8, hst⟩ := states_ways n.kind Hk.out
        have hst1 := hst n.state
        clear hst
        cases hB8 : hasB n.kind 8
        all_goals
          have Hs2 := Lib.hid (fun W => hB8 ▸ Hs.out W)
          rw [hB8] at hst1
          clear hB8
          cases b6 <;> cases b8
          all_goals
            simp only [Bool.false_eq_true, if_false, if_true] at hst1
            cases F4 : fitsB n.kind n.state 8 0 (statesN n.kind)
            · have G4 := Lib.hid F4
              rw [F4] at hst1
              have Hw := Lib.hid (fun W => hst1.symm ▸ r6within_any n.state 0 _ W)
              clear F4 hst1
              go_wp2_with (first | (go_at_call 40; refine (Hs2.out _).mono ?_; rintro e w' ⟨rfl, rfl⟩) | (go_at_call 36; refine (Hw.out _).mono ?_; rintro e w' ⟨rfl, rfl⟩))
              go_ret
              exact ⟨by rw [Hr.out, G4.out]; simp, (Below.refl _ _).alloc (Nat.le_refl _) _⟩
            · have G4 := Lib.hid F4
              rw [F4] at hst1
              have Hw := Lib.hid (fun W => hst1.symm ▸ r6within_any n.state 0 _ W)
              clear F4 hst1
              cases hB16 : hasB n.kind 16
              · have Hb2 := Lib.hid (fun W => hB16 ▸ Hb.out W)
                have He := Lib.hid (fits_not (v := (n.bl : Int)) (lo := 0) (hi := 1600) hB16)
                clear hB16
                cases hz : ((n.bl : Int) == 0)
                all_goals
                  have Hz := Lib.hid hz
                  go_wp2_with (first | (go_at_call 40; refine (Hs2.out _).mono ?_; rintro e w' ⟨rfl, rfl⟩) | (go_at_call 36; refine (Hw.out _).mono ?_; rintro e w' ⟨rfl, rfl⟩) | (go_at_call 41; refine (Hb2.out _).mono ?_; rintro e w' ⟨rfl, rfl⟩))
                  go_ret
                  exact ⟨by rw [Hr.out, G1.out, G2.out, G3.out, G4.out, He.out, bne, Hz.out]; rfl, (Below.refl _ _).alloc (Nat.le_refl _) _⟩
              · have Hb2 := Lib.hid (fun W => hB16 ▸ Hb.out W)
                have He := Lib.hid (fits_yes (v := (n.bl : Int)) (lo := 0) (hi := 1600) hB16)
                clear hB16
                by_cases hz : (n.bl : Int) ≤ 1600
                · have d1 : decide ((n.bl : Int) ≤ 1600) = true := decide_eq_true hz
                  have Hz := Lib.hid hz
                  clear hz
                  go_wp2_with (first | (go_at_call 40; refine (Hs2.out _).mono ?_; rintro e w' ⟨rfl, rfl⟩) | (go_at_call 36; refine (Hw.out _).mono ?_; rintro e w' ⟨rfl, rfl⟩) | (go_at_call 41; refine (Hb2.out _).mono ?_; rintro e w' ⟨rfl, rfl⟩))
                  go_ret
                  exact ⟨by rw [Hr.out, G1.out, G2.out, G3.out, G4.out, He.out]; unfold withinB; rw [decide_eq_true ⟨by omega, Hz.out⟩]; rfl, (Below.refl _ _).alloc (Nat.le_refl _) _⟩
                · have d1 : decide ((n.bl : Int) ≤ 1600) = false := decide_eq_false hz
                  have d2 : ((n.bl : Int) == 0) = false := by simp; omega
                  have Hz := Lib.hid hz
                  clear hz
                  go_wp2_with (first | (go_at_call 40; refine (Hs2.out _).mono ?_; rintro e w' ⟨rfl, rfl⟩) | (go_at_call 36; refine (Hw.out _).mono ?_; rintro e w' ⟨rfl, rfl⟩) | (go_at_call 41; refine (Hb2.out _).mono ?_; rintro e w' ⟨rfl, rfl⟩))
                  go_ret
                  exact ⟨by rw [Hr.out, G1.out, G2.out, G3.out, G4.out, He.out]; unfold withinB; rw [decide_eq_false (fun h => by have := Hz.out; omega)]; rfl, (Below.refl _ _).alloc (Nat.le_refl _) _⟩

theorem r6right_out (n : Note) (w : World) (h : withinB n.kind 0 8 = false) : Calls Tryd.prog 32 #[n.val] w fun e w' => e = .returned (.bool (rightB n)) ∧ Below w.heap.size w w' := by
  have hr : rightB n = false := by unfold rightB; rw [h]; simp
  rw [hr]
  clear hr
  go_enter Tryd.func32, Tryd.ntmps32
  go_wp2_with (first | (go_at_call 36; refine (r6within_any _ _ _ _).mono ?_; rw [h]; rintro e w' ⟨rfl, rfl⟩))
  go_ret
  exact ⟨rfl, (Below.refl _ _).alloc (Nat.le_refl _) _⟩
theorem r6right_any (n : Note) (w : World) : Calls Tryd.prog 32 #[n.val] w fun e w' => e = .returned (.bool (rightB n)) ∧ Below w.heap.size w w' := by
  cases h : withinB n.kind 0 8
  · exact r6right_out n w h
  · exact r6right_in n w h
end Go.Proofs.YtpkpaloaoopkgaaDoor
