/-
  The loads and stores of this program's great structs, as whole operations.
-/
import Derived.Test.YtbfpmgcadinmbaaProg
import Derived.Test.YtbfpmgcadinmbaaLaws
import Derived.KernelRfl
namespace Go.Proofs.Ytbfpmgcadinmbaa
set_option linter.unusedVariables false
set_option linter.unusedSimpArgs false
open Go Go.RowKit
theorem exec_loadVec (ρ d x ty pos af g w) : (execOp ρ ⟨d, .load 29 x, ty, pos, af, g⟩).run Try.prog w = ldRow Try.prog 29 17 (ρ x) w :=
  exec_load_row (fun w => by simp [go_sem]) (fun w => by simp [go_sem]) ρ d x ty pos af g w
theorem exec_storeVec (ρ d x y ty pos af g w) : (execOp ρ ⟨d, .store 29 x y, ty, pos, af, g⟩).run Try.prog w = stRow Try.prog 29 17 (ρ x) (ρ y) w :=
  exec_store_row (fun w => by simp [go_sem]) ρ d x y ty pos af g w
theorem exec_loadHeard (ρ d x ty pos af g w) : (execOp ρ ⟨d, .load 38 x, ty, pos, af, g⟩).run Try.prog w = ldRow Try.prog 38 21 (ρ x) w :=
  exec_load_row (fun w => by simp [go_sem]) (fun w => by simp [go_sem]) ρ d x ty pos af g w
theorem exec_storeHeard (ρ d x y ty pos af g w) : (execOp ρ ⟨d, .store 38 x y, ty, pos, af, g⟩).run Try.prog w = stRow Try.prog 38 21 (ρ x) (ρ y) w :=
  exec_store_row (fun w => by simp [go_sem]) ρ d x y ty pos af g w
def zeroInts (n : Nat) : Array Value := (List.replicate n (Value.int .i64 0)).toArray
/-- a row of n numbers of which the first ones are set. -/
def rowC (n : Nat) (done : List Int) : Array Value := (done.map (fun x => Value.int .i64 x) ++ List.replicate (n - done.length) (Value.int .i64 0)).toArray
theorem zeroInts_row (n : Nat) : zeroInts n = rowC n [] := by simp [zeroInts, rowC]
theorem rowC_full (n : Nat) (done : List Int) (h : done.length = n) : rowC n done = (done.map (fun x => Value.int .i64 x)).toArray := by simp [rowC, h]
theorem rowC_get (n : Nat) (done : List Int) (h : done.length < n) : (rowC n done)[done.length]? = some (.int .i64 0) := by
  unfold rowC
  rw [List.getElem?_toArray, List.getElem?_append_right (by simp), List.length_map, Nat.sub_self, List.getElem?_replicate, if_pos (by omega)]
theorem rowC_set (n : Nat) (done : List Int) (h : done.length < n) (x : Int) : (rowC n done).setIfInBounds done.length (.int .i64 x) = rowC n (done ++ [x]) := by
  unfold rowC
  rw [List.setIfInBounds_toArray, List.set_append_right (h := by simp)]
  congr 1
  have e : n - done.length = (n - (done ++ [x]).length) + 1 := by simp; omega
  rw [e, List.replicate_succ]
  simp

theorem make_ints (n : Nat) (hn : n ≤ 1000000) (w : World) : (Instr.makeSlice 30 (.int .i64 (n : Int)) (.int .i64 (n : Int))).run Try.prog w = .ok (.slice (some ⟨w.heap.size, 0, none⟩) n n) (w.alloc (.cells (zeroInts n) 3)) := by
  obtain ⟨i, hi, h1, h2, h3⟩ := info_parts (P := Try.prog) (e := 3) (z := .int .i64 0) (size := 1) (bytes := 8) (by kernel_rfl)
  have := run_make w 30 3 i (.int .i64 0) Try.underlying30 hi h1 .i64 .i64 (n : Int) (n : Int) (by omega) (by omega) (by rw [h3]; omega) (by omega)
  rw [this, h2]
  have e : madeCells (Value.int .i64 0).cells ((n : Int).toNat * 1) = zeroInts n := by
    apply Array.toList_inj.1
    rw [show (Value.int .i64 0).cells = #[Value.int .i64 0] from rfl, toList_madeCells_one]
    simp [zeroInts]
  rw [e]; simp
end Go.Proofs.Ytbfpmgcadinmbaa
