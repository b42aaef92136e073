/-
  gemelref17.counts, gemelref17.Offer, gemelref16.Add, gemelref07.SameInts.
-/
import Derived.Test.YtbfpmgcadinmbaaRa
namespace Go.Proofs.Ytbfpmgcadinmbaa
set_option linter.unusedVariables false
set_option linter.unusedSimpArgs false
open Go Go.RowKit
attribute [local go_sem ↓] exec_loadVec exec_storeVec exec_loadHeard exec_storeHeard
attribute [local go_sem] ldRow_ptr ldFin_some cellsAt_succ cellsAt_zero allSome_cons allSome_nil stRow_ptr stFin_true allOne_cons allOne_nil there_succ there_zero frozens_succ frozens_zero one_int one_bool putCells_alloc_at putCells_alloc_old over_all

set_option maxHeartbeats 400000 in
theorem counts17_any (h : Heard) (w : World) : Calls Try.prog 23 #[h.val] w fun e w' => e = .returned (.bool (h.up && h.has)) ∧ Below w.heap.size w w' := by
  obtain ⟨p, c, up, has, v⟩ := h
  cases up
  · go_enter Try.func23, Try.ntmps23
    go_wp2
    go_ret
    exact ⟨rfl, (Below.refl _ _).alloc (Nat.le_refl _) _⟩
  · go_enter Try.func23, Try.ntmps23
    go_wp2
    go_ret
    exact ⟨rfl, (Below.refl _ _).alloc (Nat.le_refl _) _⟩

set_option maxHeartbeats 400000 in
theorem offer17_any (me : Id) (v : Vec) (p : Int) (w : World) : Calls Try.prog 15 #[me.val, v.val, iV p] w fun e w' => e = .returned (offer me v p).val ∧ Below w.heap.size w w' := by
  go_enter Try.func15, Try.ntmps15
  go_wp2
  refine bodyPost_ret (v := (offer me v p).val) (results_row1 (l := vecList (offer me v p)) (n := 17) (a := ⟨w.heap.size + 2, 0, none⟩) rfl rfl (Try.isAgg29 _) (Try.sizeOf29 _) (by simp [go_sem, offer])) rfl ⟨rfl, ?_⟩
  exact (((Below.refl _ _).alloc (Nat.le_refl _) _).alloc (by simp) _).alloc (by simp; omega) _

/-- the branch of the document's Add, a fact on its four tests. -/
theorem costs_tests (n : Int) (b : Bool) (h : costsB n = b) : (b = true ∧ 0 ≤ n ∧ n ≤ 4294967295) ∨ (b = false ∧ n < 0) ∨ (b = false ∧ 0 ≤ n ∧ 4294967295 < n) := by
  cases b
  · rcases Int.lt_or_le n 0 with h0 | h0
    · exact Or.inr (Or.inl ⟨rfl, h0⟩)
    · refine Or.inr (Or.inr ⟨rfl, h0, ?_⟩)
      rcases Int.lt_or_le 4294967295 n with h1 | h1
      · exact h1
      · rw [(costsB_iff n).2 ⟨h0, h1⟩] at h; cases h
  · obtain ⟨a, b⟩ := (costsB_iff n).1 h
    exact Or.inl ⟨rfl, a, b⟩

set_option maxHeartbeats 800000 in
theorem add16_no1 (v : Vec) (c : Int) (w : World) (t1 : decide (v.cost < 0) = true) : Calls Try.prog 24 #[v.val, iV c] w fun e w' => e = .returned v.val ∧ Below w.heap.size w w' := by
  go_enter Try.func24, Try.ntmps24
  go_wp2
  refine bodyPost_ret (v := v.val) (results_row1 (l := vecList v) (n := 17) (a := ⟨w.heap.size + 1, 0, none⟩) rfl rfl (Try.isAgg29 _) (Try.sizeOf29 _) (by simp [go_sem])) rfl ⟨rfl, ?_⟩
  exact ((Below.refl _ _).alloc (Nat.le_refl _) _).alloc (by simp) _

set_option maxHeartbeats 800000 in
theorem add16_no2 (v : Vec) (c : Int) (w : World) (t1 : decide (v.cost < 0) = false) (t2 : decide (4294967295 < v.cost) = true) : Calls Try.prog 24 #[v.val, iV c] w fun e w' => e = .returned v.val ∧ Below w.heap.size w w' := by
  go_enter Try.func24, Try.ntmps24
  go_wp2
  refine bodyPost_ret (v := v.val) (results_row1 (l := vecList v) (n := 17) (a := ⟨w.heap.size + 1, 0, none⟩) rfl rfl (Try.isAgg29 _) (Try.sizeOf29 _) (by simp [go_sem])) rfl ⟨rfl, ?_⟩
  exact ((Below.refl _ _).alloc (Nat.le_refl _) _).alloc (by simp) _

set_option maxHeartbeats 800000 in
theorem add16_no3 (v : Vec) (c : Int) (w : World) (t1 : decide (v.cost < 0) = false) (t2 : decide (4294967295 < v.cost) = false) (t3 : decide (c < 0) = true) : Calls Try.prog 24 #[v.val, iV c] w fun e w' => e = .returned v.val ∧ Below w.heap.size w w' := by
  go_enter Try.func24, Try.ntmps24
  go_wp2
  refine bodyPost_ret (v := v.val) (results_row1 (l := vecList v) (n := 17) (a := ⟨w.heap.size + 1, 0, none⟩) rfl rfl (Try.isAgg29 _) (Try.sizeOf29 _) (by simp [go_sem])) rfl ⟨rfl, ?_⟩
  exact ((Below.refl _ _).alloc (Nat.le_refl _) _).alloc (by simp) _

set_option maxHeartbeats 800000 in
theorem add16_no4 (v : Vec) (c : Int) (w : World) (t1 : decide (v.cost < 0) = false) (t2 : decide (4294967295 < v.cost) = false) (t3 : decide (c < 0) = false) (t4 : decide (4294967295 < c) = true) : Calls Try.prog 24 #[v.val, iV c] w fun e w' => e = .returned v.val ∧ Below w.heap.size w w' := by
  go_enter Try.func24, Try.ntmps24
  go_wp2
  refine bodyPost_ret (v := v.val) (results_row1 (l := vecList v) (n := 17) (a := ⟨w.heap.size + 1, 0, none⟩) rfl rfl (Try.isAgg29 _) (Try.sizeOf29 _) (by simp [go_sem])) rfl ⟨rfl, ?_⟩
  exact ((Below.refl _ _).alloc (Nat.le_refl _) _).alloc (by simp) _

set_option maxHeartbeats 800000 in
theorem add16_far (v : Vec) (c : Int) (w : World) (t1 : decide (v.cost < 0) = false) (t2 : decide (4294967295 < v.cost) = false) (t3 : decide (c < 0) = false) (t4 : decide (4294967295 < c) = false) (a0 : 0 ≤ v.cost) (a1 : v.cost ≤ 4294967295) (b0 : 0 ≤ c) (b1 : c ≤ 4294967295) (hm : 4294967295 < v.cost + c) : Calls Try.prog 24 #[v.val, iV c] w fun e w' => e = .returned ({ v with cost := 4294967295 } : Vec).val ∧ Below w.heap.size w w' := by
  go_enter Try.func24, Try.ntmps24
  go_wp2
  refine bodyPost_ret (v := ({ v with cost := 4294967295 } : Vec).val) (results_row1 (l := vecList { v with cost := 4294967295 }) (n := 17) (a := ⟨w.heap.size + 1, 0, none⟩) rfl rfl (Try.isAgg29 _) (Try.sizeOf29 _) (by simp [go_sem])) rfl ⟨rfl, ?_⟩
  exact ((Below.refl _ _).alloc (Nat.le_refl _) _).alloc (by simp) _

set_option maxHeartbeats 800000 in
theorem add16_near (v : Vec) (c : Int) (w : World) (t1 : decide (v.cost < 0) = false) (t2 : decide (4294967295 < v.cost) = false) (t3 : decide (c < 0) = false) (t4 : decide (4294967295 < c) = false) (a0 : 0 ≤ v.cost) (a1 : v.cost ≤ 4294967295) (b0 : 0 ≤ c) (b1 : c ≤ 4294967295) (hm : v.cost + c ≤ 4294967295) : Calls Try.prog 24 #[v.val, iV c] w fun e w' => e = .returned ({ v with cost := v.cost + c } : Vec).val ∧ Below w.heap.size w w' := by
  go_enter Try.func24, Try.ntmps24
  go_wp2
  refine bodyPost_ret (v := ({ v with cost := v.cost + c } : Vec).val) (results_row1 (l := vecList { v with cost := v.cost + c }) (n := 17) (a := ⟨w.heap.size + 1, 0, none⟩) rfl rfl (Try.isAgg29 _) (Try.sizeOf29 _) (by simp [go_sem])) rfl ⟨rfl, ?_⟩
  exact ((Below.refl _ _).alloc (Nat.le_refl _) _).alloc (by simp) _

theorem add16_any (v : Vec) (c : Int) (w : World) : Calls Try.prog 24 #[v.val, iV c] w fun e w' => e = .returned (addVec v c).val ∧ Below w.heap.size w w' := by
  rcases costs_tests v.cost _ rfl with ⟨h0, a0, a1⟩ | ⟨h0, a0⟩ | ⟨h0, a0, a1⟩
  · rcases costs_tests c _ rfl with ⟨h1, b0, b1⟩ | ⟨h1, b0⟩ | ⟨h1, b0, b1⟩
    · have hv : addVec v c = { v with cost := min (v.cost + c) 4294967295 } := by unfold addVec; rw [h0, h1]; rfl
      rw [hv]
      rcases Int.lt_or_le 4294967295 (v.cost + c) with hm | hm
      · rw [Int.min_eq_right (Int.le_of_lt hm)]; exact add16_far v c w (by simp; omega) (by simp; omega) (by simp; omega) (by simp; omega) a0 a1 b0 b1 hm
      · rw [Int.min_eq_left hm]; exact add16_near v c w (by simp; omega) (by simp; omega) (by simp; omega) (by simp; omega) a0 a1 b0 b1 hm
    · have hv : addVec v c = v := by unfold addVec; rw [h0, h1]; rfl
      rw [hv]; exact add16_no3 v c w (by simp; omega) (by simp; omega) (by simp; omega)
    · have hv : addVec v c = v := by unfold addVec; rw [h0, h1]; rfl
      rw [hv]; exact add16_no4 v c w (by simp; omega) (by simp; omega) (by simp; omega) (by simp; omega)
  · have hv : addVec v c = v := by unfold addVec; rw [h0]; rfl
    rw [hv]; exact add16_no1 v c w (by simp; omega)
  · have hv : addVec v c = v := by unfold addVec; rw [h0]; rfl
    rw [hv]; exact add16_no2 v c w (by simp; omega) (by simp; omega)
end Go.Proofs.Ytbfpmgcadinmbaa
