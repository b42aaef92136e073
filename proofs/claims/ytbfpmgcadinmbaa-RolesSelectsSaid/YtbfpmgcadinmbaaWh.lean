/-
  The law's 'awake': it answers true.
-/
import Derived.Test.YtbfpmgcadinmbaaWg
namespace Go.Proofs.Ytbfpmgcadinmbaa
set_option linter.unusedVariables false
set_option linter.unusedSimpArgs false
open Go Go.RowKit Go.Maps
attribute [local go_sem ↓] exec_loadVec exec_storeVec exec_loadHeard exec_storeHeard
attribute [local go_sem] ldRow_ptr ldFin_some cellsAt_succ cellsAt_zero allSome_cons allSome_nil stRow_ptr stFin_true allOne_cons allOne_nil there_succ there_zero frozens_succ frozens_zero one_int one_bool putCells_alloc_at putCells_alloc_old over_all

abbrev litV : Array Value := #[.int .i64 32768, .int .u8 2, .int .u8 0, .int .u8 0, .int .u8 0, .int .u8 0, .int .u8 1, .int .i64 0, .int .i64 32768, .int .u8 2, .int .u8 0, .int .u8 0, .int .u8 0, .int .u8 0, .int .u8 1, .int .i64 4, .int .i64 0]

theorem eq_lit1 (w : World) : (binOp .eql 25 (.agg lit1) (.agg lit1)).run Try.prog w = .ok (.bool true) w := by
  have h := eql_id aId1 aId1 w
  rw [decide_eq_true rfl] at h
  exact h

set_option maxRecDepth 100000 in
set_option maxHeartbeats 4000000 in
theorem awake_any (w : World) : Calls Try.prog 10 #[] w fun e w' => e = .returned (.bool true) ∧ Below w.heap.size w w' := by
  go_enter Try.func10, Try.ntmps10
  go_upto_region 2 with (go_at_call 18; refine (id_one _).mono ?_; rintro e w' ⟨rfl, rfl⟩)
  have hV : (((w.alloc (.cells lit1 25)).alloc (.cells lit1 25)).alloc (.cells litV 29)).heap[w.heap.size + 1 + 1]? = some (.cells litV 29 (0, 0)) := heap_new2 w _ _ _
  have hbw : Below w.heap.size w (((w.alloc (.cells lit1 25)).alloc (.cells lit1 25)).alloc (.cells litV 29)) := ((((Below.refl _ _).alloc (Nat.le_refl _) _).alloc (by simp) _).alloc (by simp; omega) _)
  generalize (((w.alloc (.cells lit1 25)).alloc (.cells lit1 25)).alloc (.cells litV 29)) = W at *
  have hlt : w.heap.size + 1 + 1 < W.heap.size := block_lt hV
  have rV := cell_of_block hV
  have Hbw := Lib.hid hbw
  clear hV hbw
  go_cut [2, 3, 4] (fun s2 s3 s4 wz => ∃ vb B, s2 = .pointer (some ⟨vb, 0, none⟩) ∧ s3 = .slice (some ⟨B, 0, none⟩) 2 2 ∧ s4 = .int .i64 0 ∧ Below W.heap.size W wz ∧ wz.heap[vb]? = some (.cells litBest.toArray 29 (0, 0)) ∧ wz.heap[B]? = some (.cells #[.int .i64 1, .int .i64 2] 3 (0, 0)))
  case first =>
    go_region_held3 (fun w' => Kept W.heap.size W w') (with_reducible first | assumption | exact Kept.drew (Kept.refl (Nat.le_refl _)) | exact Kept.drew (Kept.alloc (Kept.refl (Nat.le_refl _)) _) | exact Kept.drew (Kept.alloc (Kept.alloc (Kept.refl (Nat.le_refl _)) _) _) | exact Kept.drew (Kept.alloc (Kept.alloc (Kept.alloc (Kept.refl (Nat.le_refl _)) _) _) _) | exact Kept.put (by assumption) (by omega) _ _ _ | exact Kept.alloc (by assumption) _ | exact Kept.realloc (by assumption) (by have := hcall.size; simp at this; omega) | exact Kept.step (by assumption) (by assumption)) (first | (go_at_call 18; refine (id_two _).mono ?_; rintro e w' ⟨rfl, rfl⟩) | (go_at_call 11; refine (select_awake _ _ _ (by simp; try omega) (by rw [heap_drew']; with_reducible first | exact heap_at0 (by simp) | exact heap_at1 (by simp) | exact heap_at2 (by simp))).mono ?_; rintro e w2 ⟨B, rfl, hB, hrow, hcall⟩; have hcs2 := belowCells hcall; have hfs2 := belowFrozens hcall))
    all_goals (go_wp2_with fail; go_meet)
    all_goals (have hB' := hB; simp at hB'; have hlrow := block_lt hrow; have hK := (‹Kept W.heap.size W _›).2.1)
    all_goals refine ⟨_, B, rfl, rfl, rfl, hK, ?_, ?_⟩
    all_goals first
      | with_reducible exact heap_alloc_new _ _
      | with_reducible exact (heap_alloc_old _ _ hlrow).trans hrow
      | ((with_reducible refine (heap_putCells_other _ _ _ ?_ _ _ _).trans hrow); omega)
      | ((with_reducible refine heap_putCells_all (c := zeroVecList.toArray) ?_ rfl); rw [hcall.block _ (by simp; try omega), heap_drew']; with_reducible first | exact heap_at0 (by simp) | exact heap_at1 (by simp) | exact heap_at2 (by simp))
  case rest =>
    obtain ⟨vb, B, rfl, rfl, rfl, hb2, hv2, hB2⟩ := hcut
    have rv := cell_of_block hv2
    have rB := cell_of_block hB2
    have hbb := Hbw.out.trans (hb2.mono Hbw.out.size)
    have Hbb := Lib.hid hbb
    have hlv : vb < wc.heap.size := block_lt hv2
    have hlB : B < wc.heap.size := block_lt hB2
    clear rV hb2 hv2 hB2 hbb Hbw
    have he := fun w => eq_lit1 w
    go_upto_region 3 with fail
    go_region_held3 (fun w' => Kept wc.heap.size wc w') (with_reducible first | assumption | exact Kept.drew (Kept.refl (Nat.le_refl _)) | exact Kept.alloc (by assumption) _ | exact Kept.drew (Kept.alloc (Kept.refl (Nat.le_refl _)) _)) (first | (go_at_call 18; refine (id_one _).mono ?_; rintro e w' ⟨rfl, rfl⟩))
    go_wp2
    go_ret
    exact ⟨rfl, Kept.fin ‹Kept wc.heap.size wc _› Hbb.out (by have := Hbb.out.size; exact this)⟩
end Go.Proofs.Ytbfpmgcadinmbaa
