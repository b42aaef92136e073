/-
  The walk of the law ShakeOwed.
-/
import Derived.Test.YtpkpaloaoopkgaaDoorSh
namespace Go.Proofs.YtpkpaloaoopkgaaDoor
set_option linter.unusedVariables false
set_option linter.unusedSimpArgs false
open Go Go.RowKit

def owSt (up : Bool) (n : Int) : Shk := { l := [⟨up, n, false⟩], session := true, alone := false }
theorem ow_start : (Shk.new 1).start = owSt false 0 := rfl
theorem ow_down (up : Bool) (n : Int) : (owSt up n).local 0 ⟨up, n, false⟩ false = owSt false n := by cases up <;> rfl
theorem ow_up (n : Int) : (owSt false n).local 0 ⟨false, n, false⟩ true = owSt true (n + 1) := rfl
theorem ow_told (n : Int) : localTold (owSt false n) 0 ⟨false, n, false⟩ true = [⟨3, 1, 1⟩] := rfl
theorem ow_take (n : Int) : (owSt true n).take (Tn.note ⟨4, 1, 1⟩) = (owSt true (max (n - 1) 0), [], 0) := by
  have h : rightB (Tn.note ⟨4, 1, 1⟩) = true := by decide +kernel
  unfold Shk.take
  rw [h]
  rfl

theorem ow_len (up : Bool) (n : Int) : (owSt up n).l.length ≤ 63 := by show 1 ≤ 63; decide
theorem ow_bound (up : Bool) (n : Int) (h0 : 0 ≤ n) (h1 : n ≤ 1000) : ∀ x ∈ (owSt up n).l, 0 ≤ x.owed ∧ x.owed ≤ 1000000 := by
  intro x hx
  have : x = ⟨up, n, false⟩ := by simpa [owSt] using hx
  subst this
  exact ⟨h0, by show n ≤ 1000000; omega⟩

set_option maxHeartbeats 4000000 in
theorem owed_in (times more : Nat) (w : World) (h1 : 1 ≤ times) (h2 : times ≤ 50) (h3 : more ≤ 50) (hl : HasLaid w) :
    Calls Tryd.prog 7 #[iV (times : Int), iV (more : Int)] w fun e w' => e = .returned (.bool true) ∧ Below w.heap.size w w' := by
  have d1 : decide ((times : Int) < 1) = false := decide_eq_false (by omega)
  have d2 : decide ((50 : Int) < (times : Int)) = false := decide_eq_false (by omega)
  have d3 : decide ((more : Int) < 0) = false := decide_eq_false (by omega)
  have d4 : decide ((50 : Int) < (more : Int)) = false := decide_eq_false (by omega)
  have Hl := Lib.hid hl; have H1 := Lib.hid h1
  clear hl h1
  go_enter Tryd.func7, Tryd.ntmps7
  go_upto_region 2 with (go_at_call 8; refine (awake_any _ Hl.out).mono ?_; rintro e w1 ⟨rfl, haw⟩)
  have Hb1 := Lib.hid haw
  have Hn := Lib.hid (new_good 1 w1 (by omega) (by omega))
  clear haw
  go_upto_region 5 with (go_at_call 9; refine Hn.out.mono ?_; rintro e w2 ⟨p, g, rfl, hp, hg, hs, hb⟩)
  have Hst := Lib.hid (start_any p g (Shk.new 1) w2 hs (by decide) (by decide))
  have Hb2 := Lib.hid hb
  clear hs hb
  go_upto_region 6 with (go_at_call 17; refine Hst.out.mono ?_; rintro e w3 ⟨v2, rfl, _, hs3, ho3⟩)
  rw [ow_start] at hs3
  have Hs3 := Lib.hid hs3
  have Hb3 := Lib.hid (Hb2.out.trans (ho3.toBelow Hb2.out.size (by intro k hk; simp at hk; rcases hk with rfl | rfl <;> assumption)))
  clear hs3 ho3
  go_wp2_with fail
  go_loopw [8, 9] (fun told idx wr => ∃ k : Nat, k ≤ times ∧ idx = iV k ∧ told = iV k ∧ ShkOk wr p g (owSt (decide (1 ≤ k)) k) ∧ Below w1.heap.size w1 wr) (fun _ idx _ => times - (intOf idx).toNat)
  case atStart => exact ⟨0, Nat.zero_le _, rfl, rfl, Hs3.out, Hb3.out⟩
  case round =>
    obtain ⟨k, hk, rfl, rfl, hs, hb⟩ := hrel
    have Hs := Lib.hid hs; have Hb := Lib.hid hb
    clear hs hb
    by_cases hlt : k < times
    · have Hd := Lib.hid (show Calls Tryd.prog 16 #[.pointer (some ⟨p, 0, none⟩), .int .i64 1, .bool false] wr (LocalPost wr p g (owSt (decide (1 ≤ k)) k) 0 ⟨decide (1 ≤ k), k, false⟩ false) from local_any p g 0 _ false _ wr Hs.out (ow_len _ _) rfl (ow_bound _ _ (by omega) (by omega)))
      go_upto_region 11 with (go_at_call 16; refine Hd.out.mono ?_; rintro e w4 ⟨v4, rfl, _, hs4, ho4⟩)
      rw [ow_down] at hs4
      have Hb4 := Lib.hid (Hb.out.trans (ho4.toBelow Hb.out.size (by simp; exact hg)))
      have lg4 := hs4.lt.2
      have Hu := Lib.hid (show Calls Tryd.prog 16 #[.pointer (some ⟨p, 0, none⟩), .int .i64 1, .bool true] w4 (LocalPost w4 p g (owSt false k) 0 ⟨false, k, false⟩ true) from local_any p g 0 _ true _ w4 hs4 (ow_len _ _) rfl (ow_bound _ _ (by omega) (by omega)))
      clear hs4 ho4
      go_upto_region 12 with (go_at_call 16; refine Hu.out.mono ?_; rintro e w5 ⟨v5, rfl, ht5, hs5, ho5⟩)
      rw [ow_up] at hs5
      rw [ow_told] at ht5
      obtain ⟨b, cap, rfl, hb3, hb4, hcell⟩ := told_form ht5 (by decide)
      have hc9 : w5.cell? ⟨b, 9, none⟩ = some (.int .i64 1) := by simpa using hcell 0 ⟨3, 1, 1⟩ rfl 9 _ rfl
      have hsv : (owSt true ((k : Int) + 1)).serves ⟨true, (k : Int) + 1, false⟩ = false := by
        show (true && decide ((k : Int) + 1 = 0)) = false
        rw [decide_eq_false (by omega)]; rfl
      have hse0 := serves_yes p g 0 ⟨true, (k : Int) + 1, false⟩ (owSt true ((k : Int) + 1)) w5 hs5 (ow_len _ _) rfl
      rw [hsv] at hse0
      have Hse := Lib.hid (show Calls Tryd.prog 12 #[.pointer (some ⟨p, 0, none⟩), .int .i64 1] w5 (fun e w' => e = .returned (.bool false) ∧ w5 = w') from hse0)
      have Hs5 := Lib.hid hs5
      have Hb5 := Lib.hid (Hb4.out.trans (ho5.toBelow Hb4.out.size (by simp; exact hg)))
      clear ht5 hcell hsv hse0 hs5 ho5 lg4
      go_wp2_with (go_at_call 12; refine Hse.out.mono ?_; rintro e w' ⟨rfl, rfl⟩)
      go_roundw
      case rel => exact ⟨k + 1, by omega, by go_num, by go_num, by rw [decide_eq_true (by omega)]; exact Hs5.out, Hb5.out⟩
      case measure => simp [intOf]; omega
    · obtain rfl : k = times := by omega
      have hk1 : decide (1 ≤ k) = true := decide_eq_true H1.out
      have hse := Hs.out
      rw [hk1] at hse
      have Hse := Lib.hid hse
      clear hk1 hse Hs
      go_wp2_with fail
      obtain ⟨wo, rfl⟩ : ∃ wo : World, wo = wr := ⟨_, rfl⟩
      go_loopw [12] (fun idx wr => ∃ j : Nat, j ≤ more ∧ idx = iV j ∧ ShkOk wr p g (owSt true (max ((k : Int) - j) 0)) ∧ Below w1.heap.size w1 wr) (fun idx _ => more - (intOf idx).toNat)
      case atStart => exact ⟨0, Nat.zero_le _, rfl, by rw [show max ((k : Int) - (0 : Nat)) 0 = k by omega]; exact Hse.out, Hb.out⟩
      case round =>
        obtain ⟨j, hj, rfl, hs, hb⟩ := hrel
        have Hs := Lib.hid hs; have Hbj := Lib.hid hb
        clear hs hb
        by_cases hlt2 : j < more
        · have hl0 : HasLaid wr := (Hl.out.below Hb1.out Hl.out.1).below Hbj.out (Nat.lt_of_lt_of_le Hl.out.1 Hb1.out.size)
          have Htk := Lib.hid (show Calls Tryd.prog 20 #[.pointer (some ⟨p, 0, none⟩), blkNote] wr (TakePost wr p g (owSt true (max ((k : Int) - j) 0)) (Tn.note ⟨4, 1, 1⟩)) from take_any p g _ _ wr Hs.out (ow_len _ _) (ow_bound _ _ (by omega) (by omega)) hl0)
          clear hl0
          go_upto_region 19 with (go_at_call 20; refine Htk.out.mono ?_; rintro e w4 ⟨v4, rfl, _, hs4, ho4⟩)
          rw [ow_take]
          rw [ow_take] at hs4
          have e1 : max (max ((k : Int) - j) 0 - 1) 0 = max ((k : Int) - (j + 1 : Nat)) 0 := by omega
          rw [e1] at hs4
          have Hs4 := Lib.hid hs4
          have Hb4 := Lib.hid (Hbj.out.trans (ho4.toBelow Hbj.out.size (by simp; exact hg)))
          have hse0 := serves_yes p g 0 ⟨true, max ((k : Int) - (j + 1 : Nat)) 0, false⟩ (owSt true (max ((k : Int) - (j + 1 : Nat)) 0)) w4 hs4 (ow_len _ _) rfl
          have hsv : (owSt true (max ((k : Int) - (j + 1 : Nat)) 0)).serves ⟨true, max ((k : Int) - (j + 1 : Nat)) 0, false⟩ = decide ((k : Int) ≤ (j : Int) + 1) := by
            show (true && decide (max ((k : Int) - (j + 1 : Nat)) 0 = 0)) = _
            rw [Bool.true_and]
            congr 1
            rw [eq_iff_iff]; omega
          rw [hsv] at hse0
          have Hsv := Lib.hid (show Calls Tryd.prog 12 #[.pointer (some ⟨p, 0, none⟩), .int .i64 1] w4 (fun e w' => e = .returned (.bool (decide ((k : Int) ≤ (j : Int) + 1))) ∧ w4 = w') from hse0)
          clear e1 hs4 ho4 hse0 hsv
          cases hd : decide ((k : Int) ≤ (j : Int) + 1)
          · have Hsv2 := Lib.hid (hd ▸ Hsv.out)
            go_wp2_with (go_at_call 12; refine Hsv2.out.mono ?_; rintro e w' ⟨rfl, rfl⟩)
            go_roundw
            case rel => exact ⟨j + 1, by omega, by go_num, Hs4.out, Hb4.out⟩
            case measure => simp [intOf]; omega
          · have Hsv2 := Lib.hid (hd ▸ Hsv.out)
            go_wp2_with (go_at_call 12; refine Hsv2.out.mono ?_; rintro e w' ⟨rfl, rfl⟩)
            go_roundw
            case rel => exact ⟨j + 1, by omega, by go_num, Hs4.out, Hb4.out⟩
            case measure => simp [intOf]; omega
        · go_wp2
          go_ret
          exact ⟨rfl, Hb1.out.trans (Hbj.out.mono Hb1.out.size)⟩

theorem owed_out (times more : Int) (w : World) (h : times < 1 ∨ 50 < times ∨ more < 0 ∨ 50 < more) (hl : HasLaid w) :
    Calls Tryd.prog 7 #[iV times, iV more] w fun e w' => e = .returned (.bool true) ∧ Below w.heap.size w w' := by
  have Hl := Lib.hid hl
  clear hl
  have Hn := Lib.hid (fun W => new_good 1 W (by omega) (by omega))
  by_cases h1 : times < 1
  · have d1 : decide (times < 1) = true := decide_eq_true h1
    clear h h1
    go_enter Tryd.func7, Tryd.ntmps7
    go_wp2_with (first | (go_at_call 8; refine (awake_any _ Hl.out).mono ?_; rintro e w1 ⟨rfl, haw⟩) | (go_at_call 9; refine (Hn.out _).mono ?_; rintro e w2 ⟨p, g, rfl, hp, hg, hs, hb⟩))
    go_ret
    exact ⟨rfl, haw.trans (hb.mono haw.size)⟩
  · have d1 : decide (times < 1) = false := decide_eq_false h1
    by_cases h2 : 50 < times
    · have d2 : decide (50 < times) = true := decide_eq_true h2
      clear h h1 h2
      go_enter Tryd.func7, Tryd.ntmps7
      go_wp2_with (first | (go_at_call 8; refine (awake_any _ Hl.out).mono ?_; rintro e w1 ⟨rfl, haw⟩) | (go_at_call 9; refine (Hn.out _).mono ?_; rintro e w2 ⟨p, g, rfl, hp, hg, hs, hb⟩))
      go_ret
      exact ⟨rfl, haw.trans (hb.mono haw.size)⟩
    · have d2 : decide (50 < times) = false := decide_eq_false h2
      by_cases h3 : more < 0
      · have d3 : decide (more < 0) = true := decide_eq_true h3
        clear h h1 h2 h3
        go_enter Tryd.func7, Tryd.ntmps7
        go_wp2_with (first | (go_at_call 8; refine (awake_any _ Hl.out).mono ?_; rintro e w1 ⟨rfl, haw⟩) | (go_at_call 9; refine (Hn.out _).mono ?_; rintro e w2 ⟨p, g, rfl, hp, hg, hs, hb⟩))
        go_ret
        exact ⟨rfl, haw.trans (hb.mono haw.size)⟩
      · have d3 : decide (more < 0) = false := decide_eq_false h3
        have d4 : decide (50 < more) = true := decide_eq_true (by omega)
        clear h h1 h2 h3
        go_enter Tryd.func7, Tryd.ntmps7
        go_wp2_with (first | (go_at_call 8; refine (awake_any _ Hl.out).mono ?_; rintro e w1 ⟨rfl, haw⟩) | (go_at_call 9; refine (Hn.out _).mono ?_; rintro e w2 ⟨p, g, rfl, hp, hg, hs, hb⟩))
        go_ret
        exact ⟨rfl, haw.trans (hb.mono haw.size)⟩

theorem owed_any (times more : Int) (w : World) (hl : HasLaid w) :
    Calls Tryd.prog 7 #[iV times, iV more] w fun e w' => e = .returned (.bool true) ∧ Below w.heap.size w w' := by
  by_cases h : times < 1 ∨ 50 < times ∨ more < 0 ∨ 50 < more
  · exact owed_out times more w h hl
  · have := owed_in times.toNat more.toNat w (by omega) (by omega) (by omega) hl
    rw [show ((times.toNat : Nat) : Int) = times by omega, show ((more.toNat : Nat) : Int) = more by omega] at this
    exact this
end Go.Proofs.YtpkpaloaoopkgaaDoor
