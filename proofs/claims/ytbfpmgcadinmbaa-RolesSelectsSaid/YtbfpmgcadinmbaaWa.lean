/-
  The contracts of the small functions under roles.Select: cmp, bytes, mac, bpdu, vector.
-/
import Derived.Test.YtbfpmgcadinmbaaProg
import Derived.Test.YtbfpmgcadinmbaaPlain
import Derived.KernelRfl
import Derived.Deep.QuietTactic
import Derived.BigQuiet
import Derived.Deep.RegionHeld3
import Derived.Outline
namespace Go.Proofs.Ytbfpmgcadinmbaa
set_option linter.unusedVariables false
set_option linter.unusedSimpArgs false
open Go Go.RowKit

theorem isNaN_any (x : Int) (w : World) : Calls Try.prog 33 #[iV x] w fun e w' => e = .returned (.bool false) ∧ w = w' := by
  go_enter Try.func33, Try.ntmps33
  go_wp2
  go_ret
  exact ⟨by simp, rfl⟩

theorem cmpInt_any (x y : Int) (w : World) : Calls Try.prog 30 #[iV x, iV y] w fun e w' => e = .returned (iV (cmpI x y)) ∧ w = w' := by
  rcases Int.lt_trichotomy x y with h | h | h
  · have hv : cmpI x y = -1 := by unfold cmpI; rw [if_pos h]
    go_enter Try.func30, Try.ntmps30
    go_wp2_with (go_at_call 33; refine (isNaN_any _ _).mono ?_; rintro e w' ⟨rfl, rfl⟩)
    go_ret
    exact ⟨by rw [hv]; rfl, rfl⟩
  · subst h
    have hv : cmpI x x = 0 := by unfold cmpI; simp
    go_enter Try.func30, Try.ntmps30
    go_wp2_with (go_at_call 33; refine (isNaN_any _ _).mono ?_; rintro e w' ⟨rfl, rfl⟩)
    go_ret
    exact ⟨by rw [hv]; rfl, rfl⟩
  · have hv : cmpI x y = 1 := by unfold cmpI; rw [if_neg (by omega), if_pos h]
    go_enter Try.func30, Try.ntmps30
    go_wp2_with (go_at_call 33; refine (isNaN_any _ _).mono ?_; rintro e w' ⟨rfl, rfl⟩)
    go_ret
    exact ⟨by rw [hv]; rfl, rfl⟩

theorem orI_skip (xs : List Int) (k : Nat) (h : ∀ i, i < k → xs.getD i 0 = 0) : orI xs = orI (xs.drop k) := by
  induction k generalizing xs with
  | zero => rfl
  | succ k ih =>
    cases xs with
    | nil => simp
    | cons x r =>
      have h0 : x = 0 := by simpa using h 0 (by omega)
      have := ih r (fun i hi => by simpa using h (i + 1) (by omega))
      simp only [List.drop_succ_cons, orI, h0, if_true]
      exact this

theorem orI_at (xs : List Int) (k : Nat) (h : ∀ i, i < k → xs.getD i 0 = 0) (hk : xs.getD k 0 ≠ 0) : orI xs = xs.getD k 0 := by
  rw [orI_skip xs k h]
  have hl : k < xs.length := by
    rcases Nat.lt_or_ge k xs.length with h' | h'
    · exact h'
    · exact absurd (by simp [List.getElem?_eq_none h']) hk
  rw [List.drop_eq_getElem_cons hl]
  have e : xs.getD k 0 = xs[k] := by simp [hl]
  rw [e] at hk ⊢
  simp [orI, hk]

theorem orI_zero (xs : List Int) (h : ∀ i, i < xs.length → xs.getD i 0 = 0) : orI xs = 0 := by
  rw [orI_skip xs xs.length h]; simp [orI]

theorem cmpOr_any (b off cap n : Nat) (xs : List Int) (w : World) (hn0 : n = xs.length) (hn : n < 1000)
    (hc : ∀ i, i < n → w.cell? ⟨b, off + i, none⟩ = some (iV (xs.getD i 0))) :
    Calls Try.prog 28 #[.slice (some ⟨b, off, none⟩) n cap] w fun e w' => e = .returned (iV (orI xs)) ∧ w = w' := by
  have Hn := Lib.hid hn0; clear hn0
  have Hc := Lib.hid hc; clear hc
  go_enter Try.func28, Try.ntmps28
  go_wp2
  go_loop [8] (fun i => ∃ k : Nat, k ≤ n ∧ i = iV k ∧ ∀ j, j < k → xs.getD j 0 = 0) (fun i => n - (intOf i).toNat)
  case atStart => exact ⟨0, Nat.zero_le _, rfl, fun _ h => by omega⟩
  case round =>
    obtain ⟨k, hk, rfl, hz⟩ := hrel
    have Hz := Lib.hid hz; clear hz
    by_cases hlt : k < n
    · have hck := Hc.out k hlt
      by_cases hx : xs.getD k 0 = 0
      · rw [hx] at hck
        go_wp2
        go_round
        case rel => exact ⟨k + 1, by omega, by go_num, fun j hj => by rcases Nat.lt_succ_iff_lt_or_eq.1 hj with h | h; exact Hz.out j h; rw [h]; exact hx⟩
        case measure => simp [intOf]; omega
      · have e := orI_at xs k Hz.out hx
        have He := Lib.hid e; clear e
        have hb : (xs.getD k 0 == 0) = false := by simpa using hx
        have hb2 : (xs.getD k 0 != 0) = true := by simpa using hx
        clear hx
        generalize xs.getD k 0 = x at *
        go_wp2
        go_ret
        exact ⟨by rw [He.out]; rfl, rfl⟩
    · go_wp2
      go_ret
      exact ⟨by rw [orI_zero xs (fun i hi => Hz.out i (by have := Hn.out; omega))]; rfl, rfl⟩

theorem cell_new (w : World) (cs : Array Value) (t : TypeId) (i : Nat) : (w.alloc (.cells cs t)).cell? ⟨w.heap.size, i, none⟩ = cs[i]? := by
  unfold World.cell?; rw [heap_alloc_new]; rfl

/-- cmp.Or of what the call itself has just laid. -/
theorem cmpOr_new (xs : List Int) (n : Nat) (hn : n = xs.length) (hb : n < 1000) (w : World) :
    Calls Try.prog 28 #[.slice (some ⟨w.heap.size, 0, none⟩) n n] (w.alloc (.cells (xs.map iV).toArray 3)) fun e w' => e = .returned (iV (orI xs)) ∧ w.alloc (.cells (xs.map iV).toArray 3) = w' :=
  cmpOr_any _ 0 n n xs _ hn hb (fun i hi => by rw [Nat.zero_add, cell_new]; simp [show i < xs.length by omega])
end Go.Proofs.Ytbfpmgcadinmbaa
