/-
  Arrays of numbers that came in.
-/
import Derived.Test.YtpglhnbekpafeaaDoorProg
import Derived.Test.YtpglhnbekpafeaaDoorSp
import Derived.ProofKit
import Derived.LaidMore
import Derived.OpenShut
namespace Go.Proofs.YtpglhnbekpafeaaDoor
set_option linter.unusedVariables false
set_option linter.unusedSimpArgs false
open Go Go.RowKit Go.ChangeShapes Go.WideShapes Go.ChangeAt

theorem okWide_array' {P : Program} {w : World} {r : Reach} {base n : Nat} {t e : TypeId} {v : Value} (ht : P.underlying t = some (.array n e)) (h : Value.okWide P w r base t v) : ∃ cs, v = .agg cs ∧ cs.size = P.cellsOf t := by
  simp only [Value.okWide, ht] at h
  obtain ⟨cs, h1, h2, _⟩ := h
  exact ⟨cs, h1, h2⟩
section
variable {H : Type} {enc : TypeId × Value → H} {w : World} {held : Bool} {cs : Array Value} {d : DataW H} {p : List MemPlace}
theorem open_arr2 (h : DataW.Trod enc Tryd.prog w 0 (fun _ => true) held 41 (.agg cs) d p) : ∃ x0 x1 : Int, cs.toList = [iV x0, iV x1] := by
  obtain ⟨fuel, hf⟩ := h
  obtain ⟨xs, n, _, _, hl, hn, hi⟩ := DataW.trod_array Tryd.underlying41 hf
  have c1 : Tryd.prog.cellsOf 3 = 1 := by kernel_rfl
  have c2 : Tryd.prog.cellsOf 41 = 2 := by kernel_rfl
  rw [c2] at hl
  rw [c1] at hi
  have hcs : (Value.agg cs).cells.toList = cs.toList := rfl
  rw [hcs] at hl hi
  generalize cs.toList = l at hl hi ⊢
  match l, hl, hi with
  | [v0, v1], _, hi =>
    have get : ∀ i, i < 2 → ∃ y, DataW.trod enc Tryd.prog w 0 (fun _ => true) held n 3 (([v0, v1].drop (i * 1)).take 1) = some y := fun i h2 => by
      have := hi i h2
      rw [List.getElem?_eq_getElem (by omega)] at this
      exact ⟨_, this⟩
    obtain ⟨_, g0⟩ := get 0 (by omega)
    obtain ⟨b0, e0, _, _⟩ := DataW.trod_int Tryd.underlying3 g0
    obtain ⟨_, g1⟩ := get 1 (by omega)
    obtain ⟨b1, e1, _, _⟩ := DataW.trod_int Tryd.underlying3 g1
    simp at e0 e1
    subst e0 e1
    exact ⟨b0, b1, rfl⟩
theorem open_arr3 (h : DataW.Trod enc Tryd.prog w 0 (fun _ => true) held 47 (.agg cs) d p) : ∃ x0 x1 x2 : Int, cs.toList = [iV x0, iV x1, iV x2] := by
  obtain ⟨fuel, hf⟩ := h
  obtain ⟨xs, n, _, _, hl, hn, hi⟩ := DataW.trod_array Tryd.underlying47 hf
  have c1 : Tryd.prog.cellsOf 3 = 1 := by kernel_rfl
  have c2 : Tryd.prog.cellsOf 47 = 3 := by kernel_rfl
  rw [c2] at hl
  rw [c1] at hi
  have hcs : (Value.agg cs).cells.toList = cs.toList := rfl
  rw [hcs] at hl hi
  generalize cs.toList = l at hl hi ⊢
  match l, hl, hi with
  | [v0, v1, v2], _, hi =>
    have get : ∀ i, i < 3 → ∃ y, DataW.trod enc Tryd.prog w 0 (fun _ => true) held n 3 (([v0, v1, v2].drop (i * 1)).take 1) = some y := fun i h2 => by
      have := hi i h2
      rw [List.getElem?_eq_getElem (by omega)] at this
      exact ⟨_, this⟩
    obtain ⟨_, g0⟩ := get 0 (by omega)
    obtain ⟨b0, e0, _, _⟩ := DataW.trod_int Tryd.underlying3 g0
    obtain ⟨_, g1⟩ := get 1 (by omega)
    obtain ⟨b1, e1, _, _⟩ := DataW.trod_int Tryd.underlying3 g1
    obtain ⟨_, g2⟩ := get 2 (by omega)
    obtain ⟨b2, e2, _, _⟩ := DataW.trod_int Tryd.underlying3 g2
    simp at e0 e1 e2
    subst e0 e1 e2
    exact ⟨b0, b1, b2, rfl⟩
theorem open_arr4 (h : DataW.Trod enc Tryd.prog w 0 (fun _ => true) held 22 (.agg cs) d p) : ∃ x0 x1 x2 x3 : Int, cs.toList = [iV x0, iV x1, iV x2, iV x3] := by
  obtain ⟨fuel, hf⟩ := h
  obtain ⟨xs, n, _, _, hl, hn, hi⟩ := DataW.trod_array Tryd.underlying22 hf
  have c1 : Tryd.prog.cellsOf 3 = 1 := by kernel_rfl
  have c2 : Tryd.prog.cellsOf 22 = 4 := by kernel_rfl
  rw [c2] at hl
  rw [c1] at hi
  have hcs : (Value.agg cs).cells.toList = cs.toList := rfl
  rw [hcs] at hl hi
  generalize cs.toList = l at hl hi ⊢
  match l, hl, hi with
  | [v0, v1, v2, v3], _, hi =>
    have get : ∀ i, i < 4 → ∃ y, DataW.trod enc Tryd.prog w 0 (fun _ => true) held n 3 (([v0, v1, v2, v3].drop (i * 1)).take 1) = some y := fun i h2 => by
      have := hi i h2
      rw [List.getElem?_eq_getElem (by omega)] at this
      exact ⟨_, this⟩
    obtain ⟨_, g0⟩ := get 0 (by omega)
    obtain ⟨b0, e0, _, _⟩ := DataW.trod_int Tryd.underlying3 g0
    obtain ⟨_, g1⟩ := get 1 (by omega)
    obtain ⟨b1, e1, _, _⟩ := DataW.trod_int Tryd.underlying3 g1
    obtain ⟨_, g2⟩ := get 2 (by omega)
    obtain ⟨b2, e2, _, _⟩ := DataW.trod_int Tryd.underlying3 g2
    obtain ⟨_, g3⟩ := get 3 (by omega)
    obtain ⟨b3, e3, _, _⟩ := DataW.trod_int Tryd.underlying3 g3
    simp at e0 e1 e2 e3
    subst e0 e1 e2 e3
    exact ⟨b0, b1, b2, b3, rfl⟩
end
end Go.Proofs.YtpglhnbekpafeaaDoor
