/-
  vector.costs, vector.Add, roles.Offer, and the closure 'counts' of roles.Select.
-/
import Derived.Test.YtbfpmgcadinmbaaWc
import Derived.Test.YtbfpmgcadinmbaaKit
namespace Go.Proofs.Ytbfpmgcadinmbaa
set_option linter.unusedVariables false
set_option linter.unusedSimpArgs false
open Go Go.RowKit
attribute [local go_sem ↓] exec_loadVec exec_storeVec exec_loadHeard exec_storeHeard
attribute [local go_sem] ldRow_ptr ldFin_some cellsAt_succ cellsAt_zero allSome_cons allSome_nil stRow_ptr stFin_true allOne_cons allOne_nil there_succ there_zero frozens_succ frozens_zero one_int one_bool putCells_alloc_at putCells_alloc_old over_all


theorem Kept.put {k : Nat} {W w : World} (h : Kept k W w) {b : Nat} (hb : k ≤ b) (o i : Nat) (l : List Value) : Kept k W (putCells w ⟨b, o, none⟩ i l) :=
  Kept.mk' (below_putCells b o hb l i w h.2.1) h.2.2
theorem Kept.realloc {k : Nat} {W w : World} {x y : Obj} (h : Kept k W (w.alloc x)) (hk : k ≤ w.heap.size) : Kept k W (w.alloc y) := by
  have hb := h.2.1
  refine Kept.mk' ⟨hb.os, hb.tape, hb.output, ?_, fun j hj => ?_⟩ h.2.2
  · have := hb.size; simpa using this
  · have := hb.block j hj
    rw [Below.heap_alloc _ _ _ (by omega)] at this
    rw [Below.heap_alloc _ _ _ (by omega)]; exact this

theorem costs_yes (n : Int) (w : World) (h0 : 0 ≤ n) (h1 : n ≤ 4294967295) : Calls Try.prog 27 #[iV n] w fun e w' => e = .returned (.bool true) ∧ w = w' := by
  go_enter Try.func27, Try.ntmps27
  go_wp2
  go_ret
  exact ⟨by simp, rfl⟩
theorem costs_high (n : Int) (w : World) (h0 : 0 ≤ n) (h1 : 4294967295 < n) : Calls Try.prog 27 #[iV n] w fun e w' => e = .returned (.bool false) ∧ w = w' := by
  have hd : decide (n ≤ 4294967295) = false := by rw [decide_eq_false_iff_not]; omega
  go_enter Try.func27, Try.ntmps27
  go_wp2
  go_ret
  exact ⟨rfl, rfl⟩
theorem costs_low (n : Int) (w : World) (h0 : n < 0) : Calls Try.prog 27 #[iV n] w fun e w' => e = .returned (.bool false) ∧ w = w' := by
  go_enter Try.func27, Try.ntmps27
  go_wp2
  go_ret
  exact ⟨by simp, rfl⟩

theorem costs_any (n : Int) (w : World) : Calls Try.prog 27 #[iV n] w fun e w' => e = .returned (.bool (costsB n)) ∧ w = w' := by
  by_cases h0 : 0 ≤ n
  · by_cases h1 : n ≤ 4294967295
    · rw [(costsB_iff n).2 ⟨h0, h1⟩]; exact costs_yes n w h0 h1
    · have hv : costsB n = false := by rw [Bool.eq_false_iff]; intro h; exact h1 ((costsB_iff n).1 h).2
      rw [hv]; exact costs_high n w h0 (Int.not_le.1 h1)
  · have hv : costsB n = false := by rw [Bool.eq_false_iff]; intro h; exact h0 ((costsB_iff n).1 h).1
    rw [hv]; exact costs_low n w (Int.not_le.1 h0)


set_option maxHeartbeats 400000 in
theorem vecAdd_no1 (v : Vec) (c : Int) (w : World) (h0 : costsB v.cost = false) : Calls Try.prog 21 #[v.val, iV c] w fun e w' => e = .returned v.val ∧ Below w.heap.size w w' := by
  go_enter Try.func21, Try.ntmps21
  go_wp2_with (go_at_call 27; refine (costs_any _ _).mono ?_; rw [h0]; rintro e w' ⟨rfl, rfl⟩)
  refine bodyPost_ret (v := v.val) (results_row1 (l := vecList v) (n := 17) (a := ⟨w.heap.size + 1, 0, none⟩) rfl rfl (Try.isAgg29 _) (Try.sizeOf29 _) (by simp [go_sem])) rfl ⟨rfl, ?_⟩
  exact ((Below.refl _ _).alloc (Nat.le_refl _) _).alloc (by simp) _

set_option maxHeartbeats 400000 in
theorem vecAdd_no2 (v : Vec) (c : Int) (w : World) (h0 : costsB v.cost = true) (h1 : costsB c = false) : Calls Try.prog 21 #[v.val, iV c] w fun e w' => e = .returned v.val ∧ Below w.heap.size w w' := by
  go_enter Try.func21, Try.ntmps21
  go_wp2_with (go_at_call 27; refine (costs_any _ _).mono ?_; (first | rw [h0] | rw [h1]); rintro e w' ⟨rfl, rfl⟩)
  refine bodyPost_ret (v := v.val) (results_row1 (l := vecList v) (n := 17) (a := ⟨w.heap.size + 1, 0, none⟩) rfl rfl (Try.isAgg29 _) (Try.sizeOf29 _) (by simp [go_sem])) rfl ⟨rfl, ?_⟩
  exact ((Below.refl _ _).alloc (Nat.le_refl _) _).alloc (by simp) _

set_option maxHeartbeats 400000 in
theorem vecAdd_far (v : Vec) (c : Int) (w : World) (h0 : costsB v.cost = true) (h1 : costsB c = true) (a0 : 0 ≤ v.cost) (a1 : v.cost ≤ 4294967295) (b0 : 0 ≤ c) (b1 : c ≤ 4294967295) (hm : 4294967295 < v.cost + c) :
    Calls Try.prog 21 #[v.val, iV c] w fun e w' => e = .returned ({ v with cost := 4294967295 } : Vec).val ∧ Below w.heap.size w w' := by
  go_enter Try.func21, Try.ntmps21
  go_wp2_with (go_at_call 27; refine (costs_any _ _).mono ?_; (first | rw [h0] | rw [h1]); rintro e w' ⟨rfl, rfl⟩)
  refine bodyPost_ret (v := ({ v with cost := 4294967295 } : Vec).val) (results_row1 (l := vecList { v with cost := 4294967295 }) (n := 17) (a := ⟨w.heap.size + 1, 0, none⟩) rfl rfl (Try.isAgg29 _) (Try.sizeOf29 _) (by simp [go_sem])) rfl ⟨rfl, ?_⟩
  exact ((Below.refl _ _).alloc (Nat.le_refl _) _).alloc (by simp) _

set_option maxHeartbeats 400000 in
theorem vecAdd_near (v : Vec) (c : Int) (w : World) (h0 : costsB v.cost = true) (h1 : costsB c = true) (a0 : 0 ≤ v.cost) (a1 : v.cost ≤ 4294967295) (b0 : 0 ≤ c) (b1 : c ≤ 4294967295) (hm : v.cost + c ≤ 4294967295) :
    Calls Try.prog 21 #[v.val, iV c] w fun e w' => e = .returned ({ v with cost := v.cost + c } : Vec).val ∧ Below w.heap.size w w' := by
  go_enter Try.func21, Try.ntmps21
  go_wp2_with (go_at_call 27; refine (costs_any _ _).mono ?_; (first | rw [h0] | rw [h1]); rintro e w' ⟨rfl, rfl⟩)
  refine bodyPost_ret (v := ({ v with cost := v.cost + c } : Vec).val) (results_row1 (l := vecList { v with cost := v.cost + c }) (n := 17) (a := ⟨w.heap.size + 1, 0, none⟩) rfl rfl (Try.isAgg29 _) (Try.sizeOf29 _) (by simp [go_sem])) rfl ⟨rfl, ?_⟩
  exact ((Below.refl _ _).alloc (Nat.le_refl _) _).alloc (by simp) _

theorem vecAdd_any (v : Vec) (c : Int) (w : World) : Calls Try.prog 21 #[v.val, iV c] w fun e w' => e = .returned (addVec v c).val ∧ Below w.heap.size w w' := by
  cases h0 : costsB v.cost
  · have hv : addVec v c = v := by unfold addVec; rw [h0]; rfl
    rw [hv]; exact vecAdd_no1 v c w h0
  · cases h1 : costsB c
    · have hv : addVec v c = v := by unfold addVec; rw [h0, h1]; rfl
      rw [hv]; exact vecAdd_no2 v c w h0 h1
    · obtain ⟨a0, a1⟩ := (costsB_iff _).1 h0
      obtain ⟨b0, b1⟩ := (costsB_iff _).1 h1
      have hv : addVec v c = { v with cost := min (v.cost + c) 4294967295 } := by unfold addVec; rw [h0, h1]; rfl
      rw [hv]
      rcases Int.lt_or_le 4294967295 (v.cost + c) with hm | hm
      · rw [Int.min_eq_right (Int.le_of_lt hm)]; exact vecAdd_far v c w h0 h1 a0 a1 b0 b1 hm
      · rw [Int.min_eq_left hm]; exact vecAdd_near v c w h0 h1 a0 a1 b0 b1 hm


set_option maxHeartbeats 400000 in
theorem offer_any (me : Id) (v : Vec) (p : Int) (w : World) : Calls Try.prog 14 #[me.val, v.val, iV p] w fun e w' => e = .returned (offer me v p).val ∧ Below w.heap.size w w' := by
  go_enter Try.func14, Try.ntmps14
  go_wp2
  refine bodyPost_ret (v := (offer me v p).val) (results_row1 (l := vecList (offer me v p)) (n := 17) (a := ⟨w.heap.size + 2, 0, none⟩) rfl rfl (Try.isAgg29 _) (Try.sizeOf29 _) (by simp [go_sem, offer])) rfl ⟨rfl, ?_⟩
  exact (((Below.refl _ _).alloc (Nat.le_refl _) _).alloc (by simp) _).alloc (by simp; omega) _

set_option maxHeartbeats 400000 in
theorem counts_any (lb b off n cap : Nat) (i : Nat) (up has : Bool) (w : World) (hi : i < n) (hn : n ≤ 64)
    (hl : w.cell? ⟨lb, 0, none⟩ = some (.slice (some ⟨b, off, none⟩) n cap))
    (h2 : w.cell? ⟨b, off + i * 21 + 2, none⟩ = some (.bool up)) (h3 : w.cell? ⟨b, off + i * 21 + 3, none⟩ = some (.bool has)) :
    Calls Try.prog 20 #[iV i, .pointer (some ⟨lb, 0, none⟩)] w fun e w' => e = .returned (.bool (up && has)) ∧ w = w' := by
  cases up
  · go_enter Try.func20, Try.ntmps20
    go_wp2
    go_ret
    exact ⟨rfl, rfl⟩
  · go_enter Try.func20, Try.ntmps20
    go_wp2
    go_ret
    exact ⟨rfl, rfl⟩
end Go.Proofs.Ytbfpmgcadinmbaa
