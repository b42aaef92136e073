/-
  The loads and stores of the greater structs, as whole operations; the element types' rows of the table.
-/
import Derived.Test.YtpglhnbekpafeaaDoorProg
import Derived.Test.YtpglhnbekpafeaaDoorSm
import Derived.Test.YtpglhnbekpafeaaDoorLaws
import Derived.KernelRfl
namespace Go.Proofs.YtpglhnbekpafeaaDoor
set_option linter.unusedVariables false
set_option linter.unusedSimpArgs false
open Go Go.RowKit
theorem exec_loadNote (ρ d x ty pos af g w) : (execOp ρ ⟨d, .load 34 x, ty, pos, af, g⟩).run Tryd.prog w = ldRow Tryd.prog 34 11 (ρ x) w :=
  exec_load_row (fun w => by simp [go_sem]) (fun w => by simp [go_sem]) ρ d x ty pos af g w
theorem exec_storeNote (ρ d x y ty pos af g w) : (execOp ρ ⟨d, .store 34 x y, ty, pos, af, g⟩).run Tryd.prog w = stRow Tryd.prog 34 11 (ρ x) (ρ y) w :=
  exec_store_row (fun w => by simp [go_sem]) ρ d x y ty pos af g w
theorem noteInfo : ∃ i : TypeInfo, Tryd.prog.info? 34 = some i ∧ i.zero = some (.agg #[.int .i64 0, .int .i64 0, .int .u8 0, .int .u8 0, .int .u8 0, .int .u8 0, .int .u8 0, .int .u8 0, .int .i64 0, .int .i64 0, .slice none 0 0]) ∧ i.size = 11 ∧ i.bytes = 64 :=
  info_parts (by kernel_rfl)
theorem intInfo : ∃ i : TypeInfo, Tryd.prog.info? 3 = some i ∧ i.zero = some (.int .i64 0) ∧ i.size = 1 ∧ i.bytes = 8 :=
  info_parts (by kernel_rfl)
end Go.Proofs.YtpglhnbekpafeaaDoor
