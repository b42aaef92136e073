/-
  Memory of a Session; its small functions.
-/
import Derived.Test.YtpglhnbekpafeaaDoorProg
import Derived.Test.YtpglhnbekpafeaaDoorVp
import Derived.Test.YtpglhnbekpafeaaDoorSm
import Derived.KernelRfl
import Derived.Outline
import Derived.RegionTactic
import Derived.Deep.QuietTactic
import Derived.Deep.RegionHeld3
import Derived.Deep.DeepCutAuto
import Derived.BigQuiet
import Derived.IntWalk
namespace Go.Proofs.YtpglhnbekpafeaaDoor
set_option linter.unusedVariables false
set_option linter.unusedSimpArgs false
open Go Go.RowKit

def SesAt (w : World) (b : Nat) (s : Ses) : Prop := w.heap[b]? = some (.cells (sesList s).toArray 63 (0, 0))
section
variable {w w' : World} {b : Nat} {s : Ses}
theorem SesAt.lt (h : SesAt w b s) : b < w.heap.size := block_lt h
theorem SesAt.step (h : SesAt w b s) (hB : Below w.heap.size w w') : SesAt w' b s := by unfold SesAt; rw [hB.block _ h.lt]; exact h
theorem SesAt.off {ks : List Nat} (h : SesAt w b s) (hB : Off ks w w') (hn : b ∉ ks) : SesAt w' b s := by unfold SesAt; rw [hB.block _ h.lt hn]; exact h
theorem SesAt.cells (h : SesAt w b s) : w.cell? ⟨b, 0, none⟩ = some (iV s.prio) ∧ w.cell? ⟨b, 1, none⟩ = some (iV s.id) ∧ w.cell? ⟨b, 2, none⟩ = some (iV s.op) ∧ w.cell? ⟨b, 3, none⟩ = some (iV s.oid) ∧ w.cell? ⟨b, 4, none⟩ = some (iV s.life) ∧ w.cell? ⟨b, 5, none⟩ = some (iV s.known) ∧
    w.cell? ⟨b, 6, none⟩ = some (.bool s.up) ∧ w.cell? ⟨b, 7, none⟩ = some (iV s.role) ∧ w.cell? ⟨b, 8, none⟩ = some (iV s.claim) ∧ w.cell? ⟨b, 9, none⟩ = some (iV s.link) ∧ w.cell? ⟨b, 10, none⟩ = some (iV s.beat) := by
  refine ⟨?_, ?_, ?_, ?_, ?_, ?_, ?_, ?_, ?_, ?_, ?_⟩ <;> rw [cell_of_block h] <;> rfl
theorem SesAt.fz (h : SesAt w b s) : (w.frozen? ⟨b, 2, none⟩ = false ∧ w.frozen? ⟨b, 4, none⟩ = false ∧ w.frozen? ⟨b, 5, none⟩ = false ∧ w.frozen? ⟨b, 6, none⟩ = false ∧ w.frozen? ⟨b, 7, none⟩ = false ∧ w.frozen? ⟨b, 8, none⟩ = false ∧ w.frozen? ⟨b, 9, none⟩ = false ∧ w.frozen? ⟨b, 10, none⟩ = false) :=
  ⟨frozen_of_block h _, frozen_of_block h _, frozen_of_block h _, frozen_of_block h _, frozen_of_block h _, frozen_of_block h _, frozen_of_block h _, frozen_of_block h _⟩
theorem SesAt.set (h : SesAt w b s) {i : Nat} {v : Value} {s' : Ses} (e : (sesList s).set i v = sesList s') : SesAt (w.setCell ⟨b, i, none⟩ v) b s' := by
  unfold SesAt; rw [← e]; exact shk_heap_same h v
theorem SesAt.drew (h : SesAt w b s) : SesAt w.drew b s := h
end
theorem off_set {w w' : World} {b i : Nat} {v : Value} (h : Off [b] w w') : Off [b] w (w'.setCell ⟨b, i, none⟩ v) := h.setCell (by simp) _
theorem off_drew {ks : List Nat} {w w' : World} (h : Off ks w w') : Off ks w w'.drew := h.below (Below.refl _ _).drew
theorem ses_five {w : World} {b : Nat} {s : Ses} (h : SesAt w b s) : w.cell? ⟨b, 0, none⟩ = some (iV s.prio) ∧ w.cell? ⟨b, 1, none⟩ = some (iV s.id) ∧ w.cell? ⟨b, 2, none⟩ = some (iV s.op) ∧ w.cell? ⟨b, 3, none⟩ = some (iV s.oid) ∧ w.cell? ⟨b, 8, none⟩ = some (iV s.claim) := by
  obtain ⟨h0, h1, h2, h3, _, _, _, _, h8, _, _⟩ := h.cells
  exact ⟨h0, h1, h2, h3, h8⟩
/-- a session is turned. -/
def TurnPost (w : World) (b : Nat) (r : Value) (s' : Ses) (e : Ending) (w' : World) : Prop := e = .returned r ∧ SesAt w' b s' ∧ Off [b] w w'

theorem moment_any (n : Int) (w : World) : Calls Tryd.prog 22 #[iV n] w fun e w' => e = .returned (.bool (momentB n)) ∧ w = w' := by
  by_cases h0 : 0 ≤ n
  · have d0 : decide (0 ≤ n) = true := decide_eq_true h0
    by_cases h1 : n ≤ 1099511627776
    · have d1 : decide (n ≤ 1099511627776) = true := decide_eq_true h1
      have e : momentB n = true := decide_eq_true ⟨h0, h1⟩
      rw [e]; clear e h0 h1
      go_enter Tryd.func22, Tryd.ntmps22
      go_wp2
      go_ret
      exact ⟨rfl, rfl⟩
    · have d1 : decide (n ≤ 1099511627776) = false := decide_eq_false h1
      have e : momentB n = false := decide_eq_false (fun h => h1 h.2)
      rw [e]; clear e h0 h1
      go_enter Tryd.func22, Tryd.ntmps22
      go_wp2
      go_ret
      exact ⟨rfl, rfl⟩
  · have d0 : decide (0 ≤ n) = false := decide_eq_false h0
    have e : momentB n = false := decide_eq_false (fun h => h0 h.1)
    rw [e]; clear e h0
    go_enter Tryd.func22, Tryd.ntmps22
    go_wp2
    go_ret
    exact ⟨rfl, rfl⟩

theorem ahead_any (p i q j : Int) (w : World) : Calls Tryd.prog 31 #[.agg #[iV p, iV i], .agg #[iV q, iV j]] w fun e w' => e = .returned (.bool (aheadB p i q j)) ∧ Below w.heap.size w w' := by
  have hb : ∀ o1 o2, Below w.heap.size w ((w.alloc o1).alloc o2) := fun o1 o2 => ((Below.refl _ _).alloc (Nat.le_refl _) _).alloc (by simp) _
  have Hb := Lib.hid hb
  clear hb
  by_cases h : p = q
  · have e : aheadB p i q j = decide (i < j) := if_pos h
    have e2 : (p == q) = true := by simpa using h
    rw [e]; clear e h
    go_enter Tryd.func31, Tryd.ntmps31
    go_wp2
    go_ret
    exact ⟨rfl, Hb.out _ _⟩
  · have e : aheadB p i q j = decide (p < q) := if_neg h
    have e2 : (p == q) = false := by simpa using h
    rw [e]; clear e h
    go_enter Tryd.func31, Tryd.ntmps31
    go_wp2
    go_ret
    exact ⟨rfl, Hb.out _ _⟩

theorem reborn_any (b : Nat) (s : Ses) (w : World) (h : SesAt w b s) (hl : 1 ≤ s.life ∧ s.life ≤ 536870912) : Calls Tryd.prog 24 #[.pointer (some ⟨b, 0, none⟩)] w (TurnPost w b (.tuple #[]) s.reborn) := by
  obtain ⟨_, _, _, _, c4, _, c6, c7, c8, _, _⟩ := h.cells
  obtain ⟨_, f4, _, f6, _, f8, _, _⟩ := h.fz
  have Hend := Lib.hid (show ∀ v, v = min (s.life + 1) 536870912 → TurnPost w b (.tuple #[]) s.reborn (.returned (.tuple #[])) (((w.setCell ⟨b, 6, none⟩ (.bool false)).setCell ⟨b, 8, none⟩ (iV s.role)).setCell ⟨b, 4, none⟩ (iV v)) by
    rintro v rfl
    refine ⟨rfl, ?_, off_set (off_set (off_set (Off.refl _ _)))⟩
    have h1 : SesAt _ b { s with up := false } := h.set (i := 6) (v := .bool false) rfl
    have h2 : SesAt _ b { s with up := false, claim := s.role } := h1.set (i := 8) (v := iV s.role) rfl
    exact h2.set (i := 4) (v := iV (min (s.life + 1) 536870912)) rfl)
  clear h
  go_enter Tryd.func24, Tryd.ntmps24
  go_wp2
  all_goals
    go_end0
    exact Hend.out _ (by omega)

theorem elect_gt (b : Nat) (s : Ses) (other : Int) (w : World) (h : SesAt w b s) (hgt : other < s.claim) : Calls Tryd.prog 25 #[.pointer (some ⟨b, 0, none⟩), iV other] w (TurnPost w b (.tuple #[]) (s.elect other)) := by
  have e : s.elect other = { s with role := 2 } := by
    unfold Ses.elect electB
    rw [decide_eq_true (show s.claim > other from hgt)]
    rfl
  rw [e]
  obtain ⟨_, _, _, _, _, _, _, c7, c8, _, _⟩ := h.cells
  obtain ⟨_, _, _, _, f7, _, _, _⟩ := h.fz
  have d1 : decide (other < s.claim) = true := decide_eq_true hgt
  have Hend := Lib.hid (show ∀ n, TurnPost w b (.tuple #[]) { s with role := 2 } (.returned (.tuple #[])) (((w.setCell ⟨b, 7, none⟩ (iV 1)).setCell ⟨b, 7, none⟩ (iV 2)).drewN n) by
    intro n
    have h1 : SesAt _ b { s with role := 1 } := h.set (i := 7) (v := iV 1) rfl
    have h2 : SesAt _ b { s with role := 2 } := h1.set (i := 7) (v := iV 2) rfl
    exact ⟨rfl, h2, (off_set (off_set (Off.refl _ _))).drewN n⟩)
  clear h hgt e
  go_enter Tryd.func25, Tryd.ntmps25
  go_wp2_with fail
  go_quiet (fail)
  go_wp2
  go_end0
  exact Hend.out _
theorem elect_lt (b : Nat) (s : Ses) (other : Int) (w : World) (h : SesAt w b s) (hlt : s.claim < other) : Calls Tryd.prog 25 #[.pointer (some ⟨b, 0, none⟩), iV other] w (TurnPost w b (.tuple #[]) (s.elect other)) := by
  have e : s.elect other = { s with role := 1 } := by
    unfold Ses.elect electB
    rw [decide_eq_false (show ¬ s.claim > other by omega), decide_eq_false (show ¬ s.claim = other by omega)]
    rfl
  rw [e]
  obtain ⟨_, _, _, _, _, _, _, c7, c8, _, _⟩ := h.cells
  obtain ⟨_, _, _, _, f7, _, _, _⟩ := h.fz
  have d1 : decide (other < s.claim) = false := decide_eq_false (by omega)
  have d2 : (s.claim == other) = false := by rw [beq_eq_false_iff_ne]; omega
  have Hend := Lib.hid (show ∀ n, TurnPost w b (.tuple #[]) { s with role := 1 } (.returned (.tuple #[])) ((w.setCell ⟨b, 7, none⟩ (iV 1)).drewN n) by
    intro n
    have h1 : SesAt _ b { s with role := 1 } := h.set (i := 7) (v := iV 1) rfl
    exact ⟨rfl, h1, (off_set (Off.refl _ _)).drewN n⟩)
  clear h hlt e
  go_enter Tryd.func25, Tryd.ntmps25
  go_wp2_with fail
  go_quiet (fail)
  go_wp2
  go_end0
  exact Hend.out _
set_option maxHeartbeats 1000000 in
theorem elect_eq (b : Nat) (s : Ses) (other : Int) (w : World) (h : SesAt w b s) (heq : s.claim = other) : Calls Tryd.prog 25 #[.pointer (some ⟨b, 0, none⟩), iV other] w (TurnPost w b (.tuple #[]) (s.elect other)) := by
  subst heq
  have h1 : SesAt (w.setCell ⟨b, 7, none⟩ (iV 1)) b { s with role := 1 } := h.set (i := 7) (v := iV 1) rfl
  obtain ⟨_, _, _, _, _, _, _, c7, _, _, _⟩ := h.cells
  obtain ⟨_, _, _, _, f7, _, _, _⟩ := h.fz
  have Ho := Lib.hid (off_set (b := b) (i := 7) (v := iV 1) (Off.refl [b] w))
  have H1 := Lib.hid h1
  have Ha := Lib.hid (fun W => ahead_any s.prio s.id s.op s.oid W)
  have e : s.elect s.claim = { s with role := if aheadB s.prio s.id s.op s.oid then 2 else 1 } := by
    unfold Ses.elect electB
    rw [decide_eq_false (show ¬ s.claim > s.claim by omega), decide_eq_true (show s.claim = s.claim from rfl)]
    rfl
  rw [e]
  clear h h1 e
  generalize aheadB s.prio s.id s.op s.oid = ah at *
  have d1 : decide (s.claim < s.claim) = false := decide_eq_false (by omega)
  have d2 : (s.claim == s.claim) = true := by simp
  go_enter Tryd.func25, Tryd.ntmps25
  go_upto_region 1 with fail
  generalize w.setCell ⟨b, 7, none⟩ (iV 1) = w1 at *
  clear c7 f7
  obtain ⟨c0, c1, c2, c3, _, _, _, c7, c8, _, _⟩ := H1.out.cells
  obtain ⟨_, _, _, _, f7, _, _, _⟩ := H1.out.fz
  cases ah
  all_goals
    go_region_held3 (fun w' => w'.cell? ⟨b, 0, none⟩ = some (iV s.prio) ∧ w'.cell? ⟨b, 1, none⟩ = some (iV s.id) ∧ w'.cell? ⟨b, 2, none⟩ = some (iV s.op) ∧ w'.cell? ⟨b, 3, none⟩ = some (iV s.oid) ∧ w'.cell? ⟨b, 8, none⟩ = some (iV s.claim)) (first | (exact ⟨c0, c1, c2, c3, c8⟩) | (exact hk2)) (first | (go_at_call 31; refine (Ha.out _).mono ?_; rintro e w2 ⟨rfl, hB⟩; have hk2 : w2.cell? ⟨b, 0, none⟩ = some (iV s.prio) ∧ w2.cell? ⟨b, 1, none⟩ = some (iV s.id) ∧ w2.cell? ⟨b, 2, none⟩ = some (iV s.op) ∧ w2.cell? ⟨b, 3, none⟩ = some (iV s.oid) ∧ w2.cell? ⟨b, 8, none⟩ = some (iV s.claim) := ses_five (s := { s with role := 1 }) (H1.out.step ((Below.refl _ _).drew.trans hB))))
    have h2 := H1.out.step ((Below.refl _ _).drew.trans hB)
    have ho2 := (off_drew Ho.out).below hB
    have Hend := Lib.hid (show TurnPost w b (.tuple #[]) { s with role := 1 } (.returned (.tuple #[])) w2 from ⟨rfl, h2, ho2⟩)
    have Hend2 := Lib.hid (show TurnPost w b (.tuple #[]) { s with role := 2 } (.returned (.tuple #[])) (w2.setCell ⟨b, 7, none⟩ (iV 2)) from ⟨rfl, h2.set (i := 7) (v := iV 2) rfl, off_set ho2⟩)
    obtain ⟨_, _, _, _, _, _, _, k7, _, _, _⟩ := h2.cells
    obtain ⟨_, _, _, _, l7, _, _, _⟩ := h2.fz
    clear h2 ho2 hB c0 c1 c2 c3 c7 c8 f7
    go_wp2_with fail
    go_end0
    first | exact Hend.out | exact Hend2.out
theorem elect_any (b : Nat) (s : Ses) (other : Int) (w : World) (h : SesAt w b s) : Calls Tryd.prog 25 #[.pointer (some ⟨b, 0, none⟩), iV other] w (TurnPost w b (.tuple #[]) (s.elect other)) := by
  rcases (by omega : other < s.claim ∨ s.claim < other ∨ s.claim = other) with h1 | h1 | h1
  · exact elect_gt b s other w h h1
  · exact elect_lt b s other w h h1
  · exact elect_eq b s other w h h1

theorem up_any (b : Nat) (s : Ses) (w : World) (h : SesAt w b s) : Calls Tryd.prog 12 #[.pointer (some ⟨b, 0, none⟩)] w fun e w' => e = .returned (.bool s.up) ∧ w = w' := by
  obtain ⟨_, _, _, _, _, _, c6, _, _, _, _⟩ := h.cells
  clear h
  go_enter Tryd.func12, Tryd.ntmps12
  go_wp2
  go_ret
  exact ⟨rfl, rfl⟩
theorem role_any (b : Nat) (s : Ses) (w : World) (h : SesAt w b s) : Calls Tryd.prog 14 #[.pointer (some ⟨b, 0, none⟩)] w fun e w' => e = .returned (iV s.role) ∧ w = w' := by
  obtain ⟨_, _, _, _, _, _, _, c7, _, _, _⟩ := h.cells
  clear h
  go_enter Tryd.func14, Tryd.ntmps14
  go_wp2
  go_ret
  exact ⟨rfl, rfl⟩
theorem life_any (b : Nat) (s : Ses) (w : World) (h : SesAt w b s) : Calls Tryd.prog 16 #[.pointer (some ⟨b, 0, none⟩)] w fun e w' => e = .returned (iV s.life) ∧ w = w' := by
  obtain ⟨_, _, _, _, c4, _, _, _, _, _, _⟩ := h.cells
  clear h
  go_enter Tryd.func16, Tryd.ntmps16
  go_wp2
  go_ret
  exact ⟨rfl, rfl⟩
theorem epoch_any (b : Nat) (s : Ses) (w : World) (h : SesAt w b s) (hl : 0 ≤ s.life ∧ s.life ≤ 536870912) (hk : 0 ≤ s.known ∧ s.known ≤ 536870912) : Calls Tryd.prog 13 #[.pointer (some ⟨b, 0, none⟩)] w fun e w' => e = .returned (iV s.epoch) ∧ ∃ n, w' = w.drewN n := by
  obtain ⟨_, _, _, _, c4, c5, c6, _, _, _, _⟩ := h.cells
  clear h
  cases hu : s.up
  · have e : s.epoch = 0 := by unfold Ses.epoch; rw [hu]; rfl
    rw [hu] at c6
    rw [e]; clear e hu
    go_enter Tryd.func13, Tryd.ntmps13
    go_wp2
    go_ret
    exact ⟨rfl, 0, rfl⟩
  · have e : s.epoch = s.life + s.known := by unfold Ses.epoch; rw [hu]; rfl
    rw [hu] at c6
    rw [e]; clear e hu
    have hwr : IntKind.i64.wrap (s.life + s.known) = s.life + s.known := IntWalk.i64_in _ (by omega)
    go_enter Tryd.func13, Tryd.ntmps13
    go_wp2_with fail
    go_quiet (fail)
    go_wp2
    go_ret
    exact ⟨rfl, _, rfl⟩
theorem seen_any (b : Nat) (s : Ses) (now : Int) (w : World) (h : SesAt w b s) : Calls Tryd.prog 17 #[.pointer (some ⟨b, 0, none⟩), iV now] w (TurnPost w b (iV (s.seen now).2) (s.seen now).1) := by
  obtain ⟨_, _, _, _, _, _, _, _, _, c9, _⟩ := h.cells
  obtain ⟨_, _, _, _, _, _, f9, _⟩ := h.fz
  cases hm : momentB now
  · have Hm := Lib.hid (hm ▸ moment_any now w)
    have e : s.seen now = (s, 1) := by unfold Ses.seen; rw [hm]; rfl
    rw [e]
    have Hend := Lib.hid (show TurnPost w b (iV 1) s (.returned (iV 1)) w from ⟨rfl, h, Off.refl _ _⟩)
    clear h hm e
    go_enter Tryd.func17, Tryd.ntmps17
    go_wp2_with (go_at_call 22; refine Hm.out.mono ?_; rintro e w' ⟨rfl, rfl⟩)
    go_ret
    exact Hend.out
  · have Hm := Lib.hid (hm ▸ moment_any now w)
    have e : s.seen now = ({ s with link := now }, 0) := by unfold Ses.seen; rw [hm]; rfl
    rw [e]
    have Hend := Lib.hid (show TurnPost w b (iV 0) { s with link := now } (.returned (iV 0)) (w.setCell ⟨b, 9, none⟩ (iV now)) from ⟨rfl, h.set (i := 9) (v := iV now) rfl, off_set (Off.refl _ _)⟩)
    clear h hm e
    go_enter Tryd.func17, Tryd.ntmps17
    go_wp2_with (go_at_call 22; refine Hm.out.mono ?_; rintro e w' ⟨rfl, rfl⟩)
    go_ret
    exact Hend.out
theorem alive_any (b : Nat) (s : Ses) (now : Int) (w : World) (h : SesAt w b s) : Calls Tryd.prog 18 #[.pointer (some ⟨b, 0, none⟩), iV now] w (TurnPost w b (iV (s.alive now).2) (s.alive now).1) := by
  obtain ⟨_, _, _, _, _, _, _, _, _, _, c10⟩ := h.cells
  obtain ⟨_, _, _, _, _, _, _, f10⟩ := h.fz
  cases hm : momentB now
  · have Hm := Lib.hid (hm ▸ moment_any now w)
    have e : s.alive now = (s, 1) := by unfold Ses.alive; rw [hm]; rfl
    rw [e]
    have Hend := Lib.hid (show TurnPost w b (iV 1) s (.returned (iV 1)) w from ⟨rfl, h, Off.refl _ _⟩)
    clear h hm e
    go_enter Tryd.func18, Tryd.ntmps18
    go_wp2_with (go_at_call 22; refine Hm.out.mono ?_; rintro e w' ⟨rfl, rfl⟩)
    go_ret
    exact Hend.out
  · have Hm := Lib.hid (hm ▸ moment_any now w)
    have e : s.alive now = ({ s with beat := now }, 0) := by unfold Ses.alive; rw [hm]; rfl
    rw [e]
    have Hend := Lib.hid (show TurnPost w b (iV 0) { s with beat := now } (.returned (iV 0)) (w.setCell ⟨b, 10, none⟩ (iV now)) from ⟨rfl, h.set (i := 10) (v := iV now) rfl, off_set (Off.refl _ _)⟩)
    clear h hm e
    go_enter Tryd.func18, Tryd.ntmps18
    go_wp2_with (go_at_call 22; refine Hm.out.mono ?_; rintro e w' ⟨rfl, rfl⟩)
    go_ret
    exact Hend.out
end Go.Proofs.YtpglhnbekpafeaaDoor
