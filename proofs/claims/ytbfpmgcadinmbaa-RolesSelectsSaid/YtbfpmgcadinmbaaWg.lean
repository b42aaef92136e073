/-
  The law's own small functions: id, awake.
-/
import Derived.Test.YtbfpmgcadinmbaaWf
namespace Go.Proofs.Ytbfpmgcadinmbaa
set_option linter.unusedVariables false
set_option linter.unusedSimpArgs false
open Go Go.RowKit Go.Maps
attribute [local go_sem ↓] exec_loadVec exec_storeVec exec_loadHeard exec_storeHeard
attribute [local go_sem] ldRow_ptr ldFin_some cellsAt_succ cellsAt_zero allSome_cons allSome_nil stRow_ptr stFin_true allOne_cons allOne_nil there_succ there_zero frozens_succ frozens_zero one_int one_bool putCells_alloc_at putCells_alloc_old over_all

abbrev lit1 : Array Value := #[.int .i64 32768, .int .u8 2, .int .u8 0, .int .u8 0, .int .u8 0, .int .u8 0, .int .u8 1]
abbrev lit2 : Array Value := #[.int .i64 32768, .int .u8 2, .int .u8 0, .int .u8 0, .int .u8 0, .int .u8 0, .int .u8 2]
theorem id_one (w : World) : Calls Try.prog 18 #[iV 1] w fun e w' => e = .returned (.agg lit1) ∧ w.alloc (.cells lit1 25) = w' := by
  go_enter Try.func18, Try.ntmps18
  go_wp2
  refine bodyPost_ret (v := .agg lit1) (results_row1 (p := 2) (l := lit1.toList) (n := 7) (a := ⟨w.heap.size, 0, none⟩) rfl rfl (Try.isAgg25 _) (Try.sizeOf25 _) (by simp [go_sem])) rfl ⟨rfl, rfl⟩
theorem id_two (w : World) : Calls Try.prog 18 #[iV 2] w fun e w' => e = .returned (.agg lit2) ∧ w.alloc (.cells lit2 25) = w' := by
  go_enter Try.func18, Try.ntmps18
  go_wp2
  refine bodyPost_ret (v := .agg lit2) (results_row1 (p := 2) (l := lit2.toList) (n := 7) (a := ⟨w.heap.size, 0, none⟩) rfl rfl (Try.isAgg25 _) (Try.sizeOf25 _) (by simp [go_sem])) rfl ⟨rfl, rfl⟩

def aId1 : Id := ⟨32768, ⟨2, 0, 0, 0, 0, 1⟩⟩
def aId2 : Id := ⟨32768, ⟨2, 0, 0, 0, 0, 2⟩⟩
def aVec : Vec := ⟨aId1, 0, aId1, 4, 0⟩
def aHs : List Heard := [⟨1, 5, true, true, aVec⟩, ⟨2, 5, true, false, zeroVec⟩]
def aBest : Vec := ⟨aId1, 5, aId1, 4, 1⟩
theorem a_fair : fairN aHs = 0 := by decide
theorem a_best : selBest aId2 aHs = aBest := by decide
theorem a_roles : selRoles aId2 aHs = [1, 2] := by decide

abbrev litHs : Array Value := #[.int .i64 1, .int .i64 5, .bool true, .bool true, .int .i64 32768, .int .u8 2, .int .u8 0, .int .u8 0, .int .u8 0, .int .u8 0, .int .u8 1, .int .i64 0, .int .i64 32768, .int .u8 2, .int .u8 0, .int .u8 0, .int .u8 0, .int .u8 0, .int .u8 1, .int .i64 4, .int .i64 0,
  .int .i64 2, .int .i64 5, .bool true, .bool false, .int .i64 0, .int .u8 0, .int .u8 0, .int .u8 0, .int .u8 0, .int .u8 0, .int .u8 0, .int .i64 0, .int .i64 0, .int .u8 0, .int .u8 0, .int .u8 0, .int .u8 0, .int .u8 0, .int .u8 0, .int .i64 0, .int .i64 0]
theorem litHs_eq : litHs = (aHs.flatMap heardList).toArray := rfl
abbrev litBest : List Value := [.int .i64 32768, .int .u8 2, .int .u8 0, .int .u8 0, .int .u8 0, .int .u8 0, .int .u8 1, .int .i64 5, .int .i64 32768, .int .u8 2, .int .u8 0, .int .u8 0, .int .u8 0, .int .u8 0, .int .u8 1, .int .i64 4, .int .i64 1]

/-- roles.Select at the call of 'awake'. -/
def AwakeSel (w : World) (e : Ending) (w' : World) : Prop :=
  ∃ B, e = .returned (.tuple #[.agg litBest.toArray, .slice (some ⟨B, 0, none⟩) 2 2, .int .i64 0]) ∧ w.heap.size ≤ B ∧ w'.heap[B]? = some (.cells #[.int .i64 1, .int .i64 2] 3 (0, 0)) ∧ Below w.heap.size w w'

theorem select_awake (b cap : Nat) (w : World) (hb : b < w.heap.size) (h : w.heap[b]? = some (.cells litHs 38 (0, 0))) :
    Calls Try.prog 11 #[.agg lit2, .slice (some ⟨b, 0, none⟩) 2 cap] w (AwakeSel w) := by
  rw [litHs_eq] at h
  refine (select_any aId2 (some ⟨b, 0, none⟩) b 0 2 cap aHs w rfl hb (fun _ => rfl) (HeardsAt.block h)).mono ?_
  rintro e w' (⟨hf, _⟩ | ⟨_, B, he, h1, h2, h3⟩)
  · exact absurd a_fair hf
  · rw [a_best] at he
    rw [a_roles] at h2
    exact ⟨B, he, h1, h2, h3⟩
end Go.Proofs.Ytbfpmgcadinmbaa
