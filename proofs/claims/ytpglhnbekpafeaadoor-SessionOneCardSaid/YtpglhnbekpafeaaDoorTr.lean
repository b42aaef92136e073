/-
  Triples of numbers that came in.
-/
import Derived.Test.YtpglhnbekpafeaaDoorProg
import Derived.Test.YtpglhnbekpafeaaDoorSm
import Derived.ProofKit
import Derived.LaidMore
import Derived.OpenShut
import Derived.Deep.Slices
namespace Go.Proofs.YtpglhnbekpafeaaDoor
set_option linter.unusedVariables false
set_option linter.unusedSimpArgs false
open Go Go.RowKit Go.ChangeShapes Go.WideShapes Go.ChangeAt

/-! triples -/
structure Tri where
  a : Int
  b : Int
  c : Int
abbrev triList (t : Tri) : List Value := [iV t.a, iV t.b, iV t.c]
theorem list3 {l : List Value} (h : l.length = 3) : ∃ a b c, l = [a, b, c] := by
  match l, h with
  | [a, b, c], _ => exact ⟨a, b, c, rfl⟩
section
variable {H : Type} {enc : TypeId × Value → H} {w : World} {base : Nat} {spare : Nat → Bool} {held : Bool} {fuel : Nat} {cs : List Value} {x : DataW H × List MemPlace}
theorem open_tril (h : DataW.trod enc Tryd.prog w base spare held fuel 47 cs = some x) : ∃ t : Tri, cs = triList t := by
  obtain ⟨xs, n, _, _, hl, hn, hi⟩ := DataW.trod_array Tryd.underlying47 h
  have c1 : Tryd.prog.cellsOf 3 = 1 := by kernel_rfl
  have c3 : Tryd.prog.cellsOf 47 = 3 := by kernel_rfl
  rw [c3] at hl
  rw [c1] at hi
  obtain ⟨v0, v1, v2, rfl⟩ := list3 hl
  have get : ∀ i, i < 3 → ∃ y, DataW.trod enc Tryd.prog w base spare held n 3 (([v0, v1, v2].drop (i * 1)).take 1) = some y := fun i h6 => by
    have := hi i h6
    rw [List.getElem?_eq_getElem (by omega)] at this
    exact ⟨_, this⟩
  obtain ⟨_, g0⟩ := get 0 (by omega)
  obtain ⟨_, g1⟩ := get 1 (by omega)
  obtain ⟨_, g2⟩ := get 2 (by omega)
  obtain ⟨b0, e0, _, _⟩ := DataW.trod_int Tryd.underlying3 g0
  obtain ⟨b1, e1, _, _⟩ := DataW.trod_int Tryd.underlying3 g1
  obtain ⟨b2, e2, _, _⟩ := DataW.trod_int Tryd.underlying3 g2
  simp at e0 e1 e2
  subst e0 e1 e2
  exact ⟨⟨b0, b1, b2⟩, rfl⟩
end
def TrisAt (w : World) (b off : Nat) (l : List Tri) : Prop := ∀ (i : Nat) (s : Tri), l[i]? = some s → ∀ (j : Nat) (v : Value), (triList s)[j]? = some v → w.cell? ⟨b, off + i * 3 + j, none⟩ = some v
theorem TrisAt.cells {w : World} {b off : Nat} {l : List Tri} (H : TrisAt w b off l) {i : Nat} {s : Tri} (hi : l[i]? = some s) :
    w.cell? ⟨b, off + i * 3, none⟩ = some (iV s.a) ∧ w.cell? ⟨b, off + i * 3 + 1, none⟩ = some (iV s.b) ∧ w.cell? ⟨b, off + i * 3 + 2, none⟩ = some (iV s.c) :=
  ⟨H i s hi 0 _ rfl, H i s hi 1 _ rfl, H i s hi 2 _ rfl⟩
def IsTris (w : World) (a : Option Addr) (n : Nat) (l : List Tri) : Prop :=
  n = l.length ∧ n ≤ 9223372036854775807 ∧ (n ≠ 0 → ∃ b off, a = some ⟨b, off, none⟩ ∧ b < w.heap.size ∧ TrisAt w b off l)
theorem IsTris.below {w w' : World} {a : Option Addr} {n : Nat} {l : List Tri} (h : IsTris w a n l) (hB : Below w.heap.size w w') : IsTris w' a n l := by
  refine ⟨h.1, h.2.1, fun hn => ?_⟩
  obtain ⟨b, off, ha, hb, hc⟩ := h.2.2 hn
  exact ⟨b, off, ha, Nat.lt_of_lt_of_le hb hB.size, fun i s hi j v hv => by rw [hB.cell (p := ⟨b, off + i * 3 + j, none⟩) hb]; exact hc i s hi j v hv⟩
theorem open_tris {H : Type} {enc : TypeId × Value → H} {w : World} {held : Bool} {a : Option Addr} {n cap : Nat} {d : DataW H} {p : List MemPlace}
    (h : DataW.Trod enc Tryd.prog w 0 (fun _ => true) held 44 (.slice a n cap) d p) : ∃ l, IsTris w a n l := by
  obtain ⟨fuel, hf⟩ := h
  have c14 : Tryd.prog.cellsOf 47 = 3 := by kernel_rfl
  rcases Deep.open_slice Tryd.underlying44 hf with ⟨hcs, _⟩ | ⟨x, len, c, m, k, D, Pl, hcs, _, hl, hm, hmc, _, hcell⟩
  · simp [Value.cells] at hcs
    obtain ⟨rfl, rfl, rfl⟩ := hcs
    exact ⟨[], rfl, by omega, fun h => absurd rfl h⟩
  · simp [Value.cells] at hcs
    obtain ⟨rfl, rfl, rfl⟩ := hcs
    simp at hmc
    subst hmc
    rw [c14] at hcell
    have hex : ∀ i, i < n → ∃ v : Tri, w.cells? 0 (x.add (i * 3)) 3 = some (triList v) := fun i hi => by
      obtain ⟨cs', h1, h2⟩ := hcell i (by omega)
      obtain ⟨v, rfl⟩ := open_tril h2
      exact ⟨v, h1⟩
    have hcells : ∀ i v, w.cells? 0 (x.add (i * 3)) 3 = some (triList v) → ∀ j u, (triList v)[j]? = some u → w.cell? ((x.add (i * 3)).add j) = some u := fun i v hv j u hu => by
      unfold World.cells? at hv
      rw [if_pos (Nat.zero_le _)] at hv
      have hj : j < 3 := (List.getElem?_eq_some_iff.1 hu).1
      have := mapM_some_get hv j j (by simp [hj])
      rw [this]; exact hu
    refine ⟨(List.range n).map (fun i => if h : i < n then Classical.choose (hex i h) else ⟨0, 0, 0⟩), by simp, by unfold maxLen at hm; omega, fun hn => ?_⟩
    obtain ⟨b, off, spot⟩ := x
    have hspec : ∀ i (h : i < n), w.cells? 0 (Addr.add ⟨b, off, spot⟩ (i * 3)) 3 = some (triList (Classical.choose (hex i h))) := fun i h => Classical.choose_spec (hex i h)
    have h00 := hcells 0 _ (hspec 0 (by omega)) 0 _ rfl
    simp [Addr.add] at h00
    have hspot : spot = none := by simpa using World.cell?_spot h00
    subst hspot
    refine ⟨b, off, rfl, World.block_lt_of_cell? w _ h00, ?_⟩
    intro i v hv j u hu
    have hi : i < n := by
      have := (List.getElem?_eq_some_iff.1 hv).1; simpa using this
    have hve : v = Classical.choose (hex i hi) := by
      rw [List.getElem?_map, List.getElem?_range hi] at hv
      simp [hi] at hv; exact hv.symm
    subst hve
    have := hcells i _ (hspec i hi) j u hu
    have ea : (Addr.add (Addr.add ⟨b, off, none⟩ (i * 3)) j) = ⟨b, off + i * 3 + j, none⟩ := by
      unfold Addr.add; by_cases h1 : i * 3 = 0 <;> by_cases h2 : j = 0 <;> simp [h1, h2]
    rw [ea] at this; exact this
end Go.Proofs.YtpglhnbekpafeaaDoor
