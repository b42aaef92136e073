/-
  What the listed variable gives: the table of what kinds of notes have.
-/
import Derived.Test.YtpglhnbekpafeaaDoorRows
import Derived.Test.YtpglhnbekpafeaaDoorSa
import Derived.ProofKit
import Derived.LaidMore
import Derived.OpenShut
import Derived.Stop.Joined
namespace Go.Proofs.YtpglhnbekpafeaaDoor
set_option linter.unusedVariables false
set_option linter.unusedSimpArgs false
open Go.ChangeShapes Go.WideShapes Go.ChangeAt Go.RowKit
set_option linter.unusedVariables false

abbrev laidHas : List (String × DataW Unit) := [("gemel/control.has", Rows.laid_gemel_control_has)]
theorem gHas : Tryd.prog.globalNamed "gemel/control.has" = some 0 := by kernel_rfl
theorem tHas : (Tryd.prog.globals[0]?).map (·.type) = some 73 := by kernel_rfl

theorem has_of_laid {W : World} (h : laidMetH Tryd.prog laidHas W) : HasLaid W := by
  rw [MakeChecks.laidMetH_plain _ _ _ (by kernel_rfl)] at h
  obtain ⟨ps, ⟨g0, t0, cs0, f0, p0, q0, hg0, ht0, hv0, hd0, _, _⟩, _, _⟩ := h
  obtain rfl := Option.some.inj (gHas.symm.trans hg0)
  obtain rfl := Option.some.inj (tHas.symm.trans ht0)
  obtain ⟨xs, m1, rfl, hx1, hlen, hn9, hel⟩ := DataW.trod_array Tryd.underlying73 hd0
  have c5 : Tryd.prog.cellsOf 5 = 1 := by kernel_rfl
  simp only [Prod.mk.injEq] at hx1
  have hx := hx1.1
  have hx2 : (xs.map (·.1)) = [.lit (.int .u8 0), .lit (.int .u8 7), .lit (.int .u8 3), .lit (.int .u8 12), .lit (.int .u8 12), .lit (.int .u8 20), .lit (.int .u8 12), .lit (.int .u8 8), .lit (.int .u8 29)] := by
    have e : Rows.laid_gemel_control_has (H := Unit) = DataW.agg [.lit (.int .u8 0), .lit (.int .u8 7), .lit (.int .u8 3), .lit (.int .u8 12), .lit (.int .u8 12), .lit (.int .u8 20), .lit (.int .u8 12), .lit (.int .u8 8), .lit (.int .u8 29)] := rfl
    rw [e] at hx
    injection hx with hx
    exact hx.symm
  have key : ∀ (i : Nat) (v : Int), i < 9 → [(DataW.lit (.int .u8 0) : DataW Unit), .lit (.int .u8 7), .lit (.int .u8 3), .lit (.int .u8 12), .lit (.int .u8 12), .lit (.int .u8 20), .lit (.int .u8 12), .lit (.int .u8 8), .lit (.int .u8 29)][i]? = some (.lit (.int .u8 v)) → W.cell? ⟨0, i, none⟩ = some (.int .u8 v) := by
    intro i v hi hv
    rw [← hx2, List.getElem?_map] at hv
    obtain ⟨x, hxi, hx3⟩ := Option.map_eq_some_iff.1 hv
    have h1 := hel i hi
    rw [hxi, c5] at h1
    obtain ⟨k, e1, e2, _⟩ := DataW.trod_int Tryd.underlying5 h1
    rw [e2] at hx3
    injection hx3 with hx3
    injection hx3 with _ hx3
    subst hx3
    rw [World.var?_cell hg0 hv0 i]
    have e3 : (cs0.toList.drop (i * 1)).take 1 = [.int .u8 k] := e1
    have e4 : ((cs0.toList.drop (i * 1)).take 1)[0]? = some (.int .u8 k) := by rw [e3]; rfl
    rw [List.getElem?_take_of_lt (by omega), List.getElem?_drop] at e4
    simpa using e4
  have h0 := key 0 0 (by omega) rfl
  refine ⟨World.block_lt_of_cell? W _ h0, fun k h1 h2 => ?_⟩
  have h9 : k = 0 ∨ k = 1 ∨ k = 2 ∨ k = 3 ∨ k = 4 ∨ k = 5 ∨ k = 6 ∨ k = 7 ∨ k = 8 := by omega
  rcases h9 with rfl | rfl | rfl | rfl | rfl | rfl | rfl | rfl | rfl
  · exact key 0 0 (by omega) rfl
  · exact key 1 7 (by omega) rfl
  · exact key 2 3 (by omega) rfl
  · exact key 3 12 (by omega) rfl
  · exact key 4 12 (by omega) rfl
  · exact key 5 20 (by omega) rfl
  · exact key 6 12 (by omega) rfl
  · exact key 7 8 (by omega) rfl
  · exact key 8 29 (by omega) rfl
end Go.Proofs.YtpglhnbekpafeaaDoor
