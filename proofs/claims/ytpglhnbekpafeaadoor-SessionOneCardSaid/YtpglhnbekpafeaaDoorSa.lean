/-
  control.Right and gemelref06.Right: may a note be?
-/
import Derived.Test.YtpglhnbekpafeaaDoorProg
import Derived.Test.YtpglhnbekpafeaaDoorSp
import Derived.Test.YtpglhnbekpafeaaDoorSe
import Derived.Below
import Derived.KernelRfl
import Derived.Outline
import Derived.Deep.DeepCutAuto
import Derived.Deep.CutBlock
import Derived.Deep.RegionWith
import Derived.Deep.QuietTactic
import Derived.BigQuiet
namespace Go.Proofs.YtpglhnbekpafeaaDoor
set_option linter.unusedVariables false
set_option linter.unusedSimpArgs false
open Go Go.RowKit

/-- what the program's table holds. -/
def HasLaid (w : World) : Prop := 0 < w.heap.size ∧ ∀ k : Int, 0 ≤ k → k ≤ 8 → w.cell? ⟨0, k.toNat, none⟩ = some (.int .u8 (hasN k : Int))
theorem HasLaid.below {w w' : World} {B : Nat} (h : HasLaid w) (hB : Below B w w') (hb : 0 < B) : HasLaid w' :=
  ⟨Nat.lt_of_lt_of_le h.1 hB.size, fun k h0 h8 => by rw [hB.cell (p := ⟨0, k.toNat, none⟩) hb]; exact h.2 k h0 h8⟩

theorem has_bits (k f : Int) (hk : 0 ≤ k ∧ k ≤ 8) (hf : f = 1 ∨ f = 2 ∨ f = 4 ∨ f = 8 ∨ f = 16) : (bits BinOp.and IntKind.i64 (wrap64 (hasN k : Int)) f == 0) = !hasB k f.toNat := by
  have h9 : k = 0 ∨ k = 1 ∨ k = 2 ∨ k = 3 ∨ k = 4 ∨ k = 5 ∨ k = 6 ∨ k = 7 ∨ k = 8 := by omega
  rcases h9 with rfl | rfl | rfl | rfl | rfl | rfl | rfl | rfl | rfl <;> rcases hf with rfl | rfl | rfl | rfl | rfl <;> decide +kernel

theorem within_any (n low high : Int) (w : World) : Calls Tryd.prog 47 #[iV n, iV low, iV high] w fun e w' => e = .returned (.bool (withinB n low high)) ∧ w = w' := by
  by_cases h1 : low ≤ n
  · have d1 : decide (low ≤ n) = true := decide_eq_true h1
    have hw : withinB n low high = decide (n ≤ high) := by unfold withinB; simp [h1]
    rw [hw]
    clear hw h1
    go_enter Tryd.func47, Tryd.ntmps47
    go_wp2
    go_ret
    exact ⟨rfl, rfl⟩
  · have d1 : decide (low ≤ n) = false := decide_eq_false h1
    have hw : withinB n low high = false := by unfold withinB; simp [h1]
    rw [hw]
    clear hw h1
    go_enter Tryd.func47, Tryd.ntmps47
    go_wp2
    go_ret
    exact ⟨rfl, rfl⟩

theorem bounds_any (k f low high : Int) (w : World) (hk : 0 ≤ k ∧ k ≤ 8) (hf : f = 1 ∨ f = 2 ∨ f = 4 ∨ f = 8 ∨ f = 16) (hl : HasLaid w) :
    Calls Tryd.prog 49 #[iV k, iV f, iV low, iV high] w fun e w' => e = .returned (.tuple #[iV (if hasB k f.toNat then low else 0), iV (if hasB k f.toNat then high else 0)]) ∧ w = w' := by
  have hc := hl.2 k hk.1 hk.2
  have hb := has_bits k f hk hf
  clear hf hl
  cases hh : hasB k f.toNat
  · rw [hh] at hb
    go_enter Tryd.func49, Tryd.ntmps49
    go_wp2
    go_ret2
    exact ⟨rfl, rfl⟩
  · rw [hh] at hb
    go_enter Tryd.func49, Tryd.ntmps49
    go_wp2
    go_ret2
    exact ⟨rfl, rfl⟩

/-- the closure of Right: a field's number is within its bounds; it looks into the note that Right has boxed. -/
theorem fits_any (b : Nat) (k v f low high : Int) (w : World) (hk : 0 ≤ k ∧ k ≤ 8) (hf : f = 1 ∨ f = 2 ∨ f = 4 ∨ f = 8 ∨ f = 16) (hl : HasLaid w) (hc : w.cell? ⟨b, 0, none⟩ = some (iV k)) :
    Calls Tryd.prog 48 #[iV v, iV f, iV low, iV high, .pointer (some ⟨b, 0, none⟩)] w fun e w' => e = .returned (.bool (fitsB k v f.toNat low high)) ∧ w = w' := by
  have Hl := Lib.hid hl; have Hf := Lib.hid hf; have Hk := Lib.hid hk; clear hl hf hk
  have Hb := Lib.hid (bounds_any k f low high w Hk.out Hf.out Hl.out)
  have e : fitsB k v f.toNat low high = withinB v (if hasB k f.toNat then low else 0) (if hasB k f.toNat then high else 0) := by
    unfold fitsB; cases hasB k f.toNat <;> rfl
  rw [e]
  generalize (if hasB k f.toNat then low else 0) = lo at *
  generalize (if hasB k f.toNat then high else 0) = hi at *
  clear e
  go_enter Tryd.func48, Tryd.ntmps48
  go_wp2_with (first | (go_at_call 49; refine Hb.out.mono ?_; rintro e w' ⟨rfl, rfl⟩) | (go_at_call 47; refine (within_any _ _ _ _).mono ?_; rintro e w' ⟨rfl, rfl⟩))
  go_ret
  exact ⟨rfl, rfl⟩

theorem states_cases (k : Int) : (k = 6 ∧ statesN k = 2) ∨ (k = 8 ∧ statesN k = 250) ∨ (k ≠ 6 ∧ k ≠ 8 ∧ statesN k = 1) := by
  unfold statesN
  by_cases h6 : k = 6
  · exact Or.inl ⟨h6, if_pos h6⟩
  · by_cases h8 : k = 8
    · exact Or.inr (Or.inl ⟨h8, by rw [if_neg h6, if_pos h8]⟩)
    · exact Or.inr (Or.inr ⟨h6, h8, by rw [if_neg h6, if_neg h8]⟩)

set_option maxHeartbeats 1000000 in
theorem right_out (n : Note) (w : World) (h : withinB n.kind 0 8 = false) : Calls Tryd.prog 36 #[n.val] w fun e w' => e = .returned (.bool (rightB n)) ∧ Below w.heap.size w w' := by
  have hr : rightB n = false := by unfold rightB; rw [h]; simp
  rw [hr]
  clear hr
  go_enter Tryd.func36, Tryd.ntmps36
  go_wp2_with (first | (go_at_call 47; refine (within_any _ _ _ _).mono ?_; rw [h]; rintro e w' ⟨rfl, rfl⟩))
  go_ret
  exact ⟨rfl, (Below.refl _ _).alloc (Nat.le_refl _) _⟩

set_option maxHeartbeats 4000000 in
theorem right_in (n : Note) (w : World) (h : withinB n.kind 0 8 = true) (hl : HasLaid w) : Calls Tryd.prog 36 #[n.val] w fun e w' => e = .returned (.bool (rightB n)) ∧ Below w.heap.size w w' := by
  have hk : 0 ≤ n.kind ∧ n.kind ≤ 8 := of_decide_eq_true h
  have hmf : ∀ (fn : Fn) (first cp : Array Value) (w : World), (Instr.makeFunc fn first cp).run Tryd.prog w = .ok (.func fn first cp) w := fun _ _ _ _ => rfl
  have hb2 := has_bits n.kind 2 hk (by omega)
  have hc := hl.2 n.kind hk.1 hk.2
  have hmn := fun w => neq_mac0 n.mac w
  have h0 := hl.1
  have Hl := Lib.hid (hl.below ((Below.refl w.heap.size w).alloc (Nat.le_refl _) (.cells (noteList n).toArray 34)) h0)
  have Hh := Lib.hid h
  have hk0 := hk.1
  have hk9 : n.kind < 9 := by omega
  have Hf := Lib.hid (fun (v f low high : Int) (r : Bool) (hf : f = 1 ∨ f = 2 ∨ f = 4 ∨ f = 8 ∨ f = 16) (hr : fitsB n.kind v f.toNat low high = r) => hr ▸ fits_any w.heap.size n.kind v f low high _ hk hf Hl.out (by rw [cell_of_block (heap_alloc_new w _)]; rfl))
  have hr : rightB n = ((hasB n.kind 2 || decide (n.mac = mac0)) && fitsB n.kind n.vlan 1 1 4094 && fitsB n.kind n.port 4 0 1000 && fitsB n.kind n.state 8 0 (statesN n.kind) && fitsB n.kind n.bl 16 0 1600) := by unfold rightB; rw [h]; rfl
  have Hr := Lib.hid hr
  clear h hl hk hr
  rw [show (Int.toNat 2) = 2 from rfl] at hb2
  go_enter Tryd.func36, Tryd.ntmps36
  go_upto_block 0 with (go_at_call 47; refine (within_any _ _ _ _).mono ?_; rw [Hh.out]; rintro e w' ⟨rfl, rfl⟩)
  go_cut [4] (fun s4 w' => s4 = iV (statesN n.kind) ∧ w' = w.alloc (.cells (noteList n).toArray 34))
  case first =>
    rcases states_cases n.kind with ⟨h1, h2⟩ | ⟨h1, h2⟩ | ⟨h1, h3, h2⟩
    · have H2 := Lib.hid h2
      have e6 : (n.kind == 6) = true := by simpa using h1
      clear h1 h2
      go_wp2
      go_meet
      exact ⟨by rw [H2.out], rfl⟩
    · have H2 := Lib.hid h2
      have e6 : (n.kind == 6) = false := by simp [h1]
      have e8 : (n.kind == 8) = true := by simpa using h1
      clear h1 h2
      go_wp2
      go_meet
      exact ⟨by rw [H2.out], rfl⟩
    · have H2 := Lib.hid h2
      have e6 : (n.kind == 6) = false := by simpa using h1
      have e8 : (n.kind == 8) = false := by simpa using h3
      clear h1 h2 h3
      go_wp2
      go_meet
      exact ⟨by rw [H2.out], rfl⟩
  case rest =>
    obtain ⟨rfl, rfl⟩ := hcut
    go_upto_region 10 with fail
    go_cut [5] (fun s5 w' => s5 = .bool (!(hasB n.kind 2 || decide (n.mac = mac0))) ∧ w' = w.alloc (.cells (noteList n).toArray 34))
    case first =>
      cases hB : hasB n.kind 2
      · rw [hB] at hb2
        have HB := Lib.hid hB
        cases hM : decide (n.mac = mac0)
        · rw [hM] at hmn
          have HM := Lib.hid hM
          clear hB hM
          go_wp2
          go_meet
          exact ⟨by rw [HB.out, HM.out]; rfl, rfl⟩
        · rw [hM] at hmn
          have HM := Lib.hid hM
          clear hB hM
          go_wp2
          go_meet
          exact ⟨by rw [HB.out, HM.out]; rfl, rfl⟩
      · rw [hB] at hb2
        have HB := Lib.hid hB
        clear hB
        go_wp2
        go_meet
        exact ⟨by rw [HB.out]; rfl, rfl⟩
    case rest =>
      obtain ⟨rfl, rfl⟩ := hcut
      clear hmn hb2 hc
      generalize (hasB n.kind 2 || decide (n.mac = mac0)) = B0 at *
      generalize statesN n.kind = st at *
      cases B0
      · clear Hf
        go_wp2
        go_ret
        exact ⟨by rw [Hr.out]; rfl, (Below.refl _ _).alloc (Nat.le_refl _) _⟩
      · have hr := Hr.out
        cases F1 : fitsB n.kind n.vlan 1 1 4094
        · rw [F1] at hr
          have H1 := Lib.hid (Hf.out n.vlan 1 1 4094 false (by omega) F1)
          clear F1
          have HR := Lib.hid hr
          clear hr Hf Hr
          go_wp2_with (first | (go_at_call_of 48 (Value.int IntKind.i64 1); refine H1.out.mono ?_; rintro e w' ⟨rfl, rfl⟩))
          go_ret
          exact ⟨by rw [HR.out]; rfl, (Below.refl _ _).alloc (Nat.le_refl _) _⟩
        · rw [F1] at hr
          have H1 := Lib.hid (Hf.out n.vlan 1 1 4094 true (by omega) F1)
          clear F1
          cases F2 : fitsB n.kind n.port 4 0 1000
          · rw [F2] at hr
            have H2 := Lib.hid (Hf.out n.port 4 0 1000 false (by omega) F2)
            clear F2
            have HR := Lib.hid hr
            clear hr Hf Hr
            go_wp2_with (first | (go_at_call_of 48 (Value.int IntKind.i64 1); refine H1.out.mono ?_; rintro e w' ⟨rfl, rfl⟩) | (go_at_call_of 48 (Value.int IntKind.i64 4); refine H2.out.mono ?_; rintro e w' ⟨rfl, rfl⟩))
            go_ret
            exact ⟨by rw [HR.out]; rfl, (Below.refl _ _).alloc (Nat.le_refl _) _⟩
          · rw [F2] at hr
            have H2 := Lib.hid (Hf.out n.port 4 0 1000 true (by omega) F2)
            clear F2
            cases F3 : fitsB n.kind n.state 8 0 st
            · rw [F3] at hr
              have H3 := Lib.hid (Hf.out n.state 8 0 st false (by omega) F3)
              clear F3
              have HR := Lib.hid hr
              clear hr Hf Hr
              go_wp2_with (first | (go_at_call_of 48 (Value.int IntKind.i64 1); refine H1.out.mono ?_; rintro e w' ⟨rfl, rfl⟩) | (go_at_call_of 48 (Value.int IntKind.i64 4); refine H2.out.mono ?_; rintro e w' ⟨rfl, rfl⟩) | (go_at_call_of 48 (Value.int IntKind.i64 8); refine H3.out.mono ?_; rintro e w' ⟨rfl, rfl⟩))
              go_ret
              exact ⟨by rw [HR.out]; rfl, (Below.refl _ _).alloc (Nat.le_refl _) _⟩
            · rw [F3] at hr
              have H3 := Lib.hid (Hf.out n.state 8 0 st true (by omega) F3)
              clear F3
              cases F4 : fitsB n.kind n.bl 16 0 1600
              · rw [F4] at hr
                have H4 := Lib.hid (Hf.out n.bl 16 0 1600 false (by omega) F4)
                clear F4
                have HR := Lib.hid hr
                clear hr Hf Hr
                go_wp2_with (first | (go_at_call_of 48 (Value.int IntKind.i64 1); refine H1.out.mono ?_; rintro e w' ⟨rfl, rfl⟩) | (go_at_call_of 48 (Value.int IntKind.i64 4); refine H2.out.mono ?_; rintro e w' ⟨rfl, rfl⟩) | (go_at_call_of 48 (Value.int IntKind.i64 8); refine H3.out.mono ?_; rintro e w' ⟨rfl, rfl⟩) | (go_at_call_of 48 (Value.int IntKind.i64 16); refine H4.out.mono ?_; rintro e w' ⟨rfl, rfl⟩))
                go_ret
                exact ⟨by rw [HR.out]; rfl, (Below.refl _ _).alloc (Nat.le_refl _) _⟩
              · rw [F4] at hr
                have H4 := Lib.hid (Hf.out n.bl 16 0 1600 true (by omega) F4)
                clear F4
                have HR := Lib.hid hr
                clear hr Hf Hr
                go_wp2_with (first | (go_at_call_of 48 (Value.int IntKind.i64 1); refine H1.out.mono ?_; rintro e w' ⟨rfl, rfl⟩) | (go_at_call_of 48 (Value.int IntKind.i64 4); refine H2.out.mono ?_; rintro e w' ⟨rfl, rfl⟩) | (go_at_call_of 48 (Value.int IntKind.i64 8); refine H3.out.mono ?_; rintro e w' ⟨rfl, rfl⟩) | (go_at_call_of 48 (Value.int IntKind.i64 16); refine H4.out.mono ?_; rintro e w' ⟨rfl, rfl⟩))
                go_ret
                exact ⟨by rw [HR.out]; rfl, (Below.refl _ _).alloc (Nat.le_refl _) _⟩

theorem right_any (n : Note) (w : World) (hl : HasLaid w) : Calls Tryd.prog 36 #[n.val] w fun e w' => e = .returned (.bool (rightB n)) ∧ Below w.heap.size w w' := by
  cases h : withinB n.kind 0 8
  · exact right_out n w h
  · exact right_in n w h hl
end Go.Proofs.YtpglhnbekpafeaaDoor
