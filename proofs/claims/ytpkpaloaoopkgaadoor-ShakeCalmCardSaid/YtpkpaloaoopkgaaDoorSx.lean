/-
  How arguments read: steps of the layer shake.
-/
import Derived.Test.YtpkpaloaoopkgaaDoorProg
import Derived.Test.YtpkpaloaoopkgaaDoorSk
import Derived.ProofKit
import Derived.OpenShut
import Derived.Deep.Slices
import Derived.KernelRfl
namespace Go.Proofs.YtpkpaloaoopkgaaDoor
set_option linter.unusedVariables false
set_option linter.unusedSimpArgs false
open Go Go.RowKit Go.ChangeShapes Go.WideShapes Go.ChangeAt
theorem exec_loadStep (ρ d x ty pos af g w) : (execOp ρ ⟨d, .load 37 x, ty, pos, af, g⟩).run Tryd.prog w = ldRow Tryd.prog 37 14 (ρ x) w :=
  exec_load_row (fun w => by simp [go_sem]) (fun w => by simp [go_sem]) ρ d x ty pos af g w

structure Stp where
  d : Int
  link : Int
  is : Bool
  n : Note
abbrev stpList (s : Stp) : List Value := iV s.d :: iV s.link :: .bool s.is :: noteList s.n

section
variable {H : Type} {enc : TypeId × Value → H} {w : World} {base : Nat} {spare : Nat → Bool} {held : Bool} {fuel : Nat} {cs : List Value} {x : DataW H × List MemPlace}

theorem open_u8l (h : DataW.trod enc Tryd.prog w base spare held fuel 5 cs = some x) : ∃ b : UInt8, cs = [bV b] := by
  obtain ⟨n, rfl, _, hw⟩ := DataW.trod_int Tryd.underlying5 h
  have hb := bounds_u8 hw
  refine ⟨UInt8.ofNat n.toNat, ?_⟩
  have : (UInt8.ofNat n.toNat).toNat = n.toNat := by simp [UInt8.toNat_ofNat']; omega
  unfold bV; rw [this]
  have : ((n.toNat : Nat) : Int) = n := by omega
  rw [this]

theorem list6 {l : List Value} (h : l.length = 6) : ∃ a b c d e f, l = [a, b, c, d, e, f] := by
  match l, h with
  | [a, b, c, d, e, f], _ => exact ⟨a, b, c, d, e, f, rfl⟩

theorem open_macl (h : DataW.trod enc Tryd.prog w base spare held fuel 32 cs = some x) : ∃ m : Mac, cs = [bV m.a, bV m.b, bV m.c, bV m.d, bV m.e, bV m.f] := by
  obtain ⟨xs, n, _, _, hl, hn, hi⟩ := DataW.trod_array Tryd.underlying32 h
  have c1 : Tryd.prog.cellsOf 5 = 1 := by kernel_rfl
  have c6 : Tryd.prog.cellsOf 32 = 6 := by kernel_rfl
  rw [c6] at hl
  rw [c1] at hi
  obtain ⟨v0, v1, v2, v3, v4, v5, rfl⟩ := list6 hl
  have get : ∀ i, i < 6 → ∃ y, DataW.trod enc Tryd.prog w base spare held n 5 (([v0, v1, v2, v3, v4, v5].drop (i * 1)).take 1) = some y := fun i h6 => by
    have := hi i h6
    rw [List.getElem?_eq_getElem (by omega)] at this
    exact ⟨_, this⟩
  obtain ⟨_, g0⟩ := get 0 (by omega)
  obtain ⟨_, g1⟩ := get 1 (by omega)
  obtain ⟨_, g2⟩ := get 2 (by omega)
  obtain ⟨_, g3⟩ := get 3 (by omega)
  obtain ⟨_, g4⟩ := get 4 (by omega)
  obtain ⟨_, g5⟩ := get 5 (by omega)
  obtain ⟨b0, e0⟩ := open_u8l g0
  obtain ⟨b1, e1⟩ := open_u8l g1
  obtain ⟨b2, e2⟩ := open_u8l g2
  obtain ⟨b3, e3⟩ := open_u8l g3
  obtain ⟨b4, e4⟩ := open_u8l g4
  obtain ⟨b5, e5⟩ := open_u8l g5
  simp at e0 e1 e2 e3 e4 e5
  subst e0 e1 e2 e3 e4 e5
  exact ⟨⟨b0, b1, b2, b3, b4, b5⟩, rfl⟩

theorem take_drop_glue (l : List Value) (a b : Nat) : (l.drop a).take b ++ l.drop (a + b) = l.drop a := by
  rw [← List.drop_drop, List.take_append_drop]

theorem open_bytesl (h : DataW.trod enc Tryd.prog w base spare held fuel 33 cs = some x) : ∃ a n c, cs = [.slice a n c] := by
  rcases DataW.trod_slice Tryd.underlying33 h with ⟨h0, _⟩ | ⟨a, len, cap, _, _, _, _, h0, _⟩
  · exact ⟨none, 0, 0, h0⟩
  · exact ⟨some a, len, cap, h0⟩

theorem open_notel (h : DataW.trod enc Tryd.prog w base spare held fuel 35 cs = some x) : ∃ v : Note, cs = noteList v := by
  obtain ⟨xs, n, _, _, hl, hn, hi⟩ := DataW.trod_struct Tryd.underlying35 h
  have c11 : Tryd.prog.cellsOf 35 = 11 := by kernel_rfl
  have c6 : Tryd.prog.cellsOf 32 = 6 := by kernel_rfl
  have c1 : Tryd.prog.cellsOf 3 = 1 := by kernel_rfl
  have c1' : Tryd.prog.cellsOf 33 = 1 := by kernel_rfl
  have hn' : xs.length = 6 := hn
  have g0 : DataW.trod enc Tryd.prog w base spare held n 3 ((cs.drop 0).take (Tryd.prog.cellsOf 3)) = xs[0]? := hi 0 _ rfl
  have g1 : DataW.trod enc Tryd.prog w base spare held n 3 ((cs.drop 1).take (Tryd.prog.cellsOf 3)) = xs[1]? := hi 1 _ rfl
  have g2 : DataW.trod enc Tryd.prog w base spare held n 32 ((cs.drop 2).take (Tryd.prog.cellsOf 32)) = xs[2]? := hi 2 _ rfl
  have g3 : DataW.trod enc Tryd.prog w base spare held n 3 ((cs.drop 8).take (Tryd.prog.cellsOf 3)) = xs[3]? := hi 3 _ rfl
  have g4 : DataW.trod enc Tryd.prog w base spare held n 3 ((cs.drop 9).take (Tryd.prog.cellsOf 3)) = xs[4]? := hi 4 _ rfl
  have g5 : DataW.trod enc Tryd.prog w base spare held n 33 ((cs.drop 10).take (Tryd.prog.cellsOf 33)) = xs[5]? := hi 5 _ rfl
  rw [List.getElem?_eq_getElem (by omega)] at g0 g1 g2 g3 g4 g5
  rw [c1] at g0 g1 g3 g4
  rw [c6] at g2
  rw [c1'] at g5
  obtain ⟨k, e0, _, _⟩ := DataW.trod_int Tryd.underlying3 g0
  obtain ⟨v, e1, _, _⟩ := DataW.trod_int Tryd.underlying3 g1
  obtain ⟨m, e2⟩ := open_macl g2
  obtain ⟨p, e3, _, _⟩ := DataW.trod_int Tryd.underlying3 g3
  obtain ⟨s, e4, _, _⟩ := DataW.trod_int Tryd.underlying3 g4
  obtain ⟨a, l, c, e5⟩ := open_bytesl g5
  refine ⟨⟨k, v, m, p, s, a, l, c⟩, ?_⟩
  rw [c11] at hl
  have e : cs = (cs.drop 0).take 1 ++ ((cs.drop 1).take 1 ++ ((cs.drop 2).take 6 ++ ((cs.drop 8).take 1 ++ ((cs.drop 9).take 1 ++ (cs.drop 10).take 1)))) := by
    rw [List.take_of_length_le (l := cs.drop 10) (by simp; omega)]
    rw [take_drop_glue cs 9 1, take_drop_glue cs 8 1, take_drop_glue cs 2 6, take_drop_glue cs 1 1, take_drop_glue cs 0 1, List.drop_zero]
  rw [e, e0, e1, e2, e3, e4, e5]; rfl

theorem open_stepl (h : DataW.trod enc Tryd.prog w base spare held fuel 37 cs = some x) : ∃ v : Stp, cs = stpList v := by
  obtain ⟨xs, n, _, _, hl, hn, hi⟩ := DataW.trod_struct Tryd.underlying37 h
  have c14 : Tryd.prog.cellsOf 37 = 14 := by kernel_rfl
  have c11 : Tryd.prog.cellsOf 35 = 11 := by kernel_rfl
  have c1 : Tryd.prog.cellsOf 3 = 1 := by kernel_rfl
  have c1' : Tryd.prog.cellsOf 4 = 1 := by kernel_rfl
  have hn' : xs.length = 4 := hn
  have g0 : DataW.trod enc Tryd.prog w base spare held n 3 ((cs.drop 0).take (Tryd.prog.cellsOf 3)) = xs[0]? := hi 0 _ rfl
  have g1 : DataW.trod enc Tryd.prog w base spare held n 3 ((cs.drop 1).take (Tryd.prog.cellsOf 3)) = xs[1]? := hi 1 _ rfl
  have g2 : DataW.trod enc Tryd.prog w base spare held n 4 ((cs.drop 2).take (Tryd.prog.cellsOf 4)) = xs[2]? := hi 2 _ rfl
  have g3 : DataW.trod enc Tryd.prog w base spare held n 35 ((cs.drop 3).take (Tryd.prog.cellsOf 35)) = xs[3]? := hi 3 _ rfl
  rw [List.getElem?_eq_getElem (by omega)] at g0 g1 g2 g3
  rw [c1] at g0 g1
  rw [c1'] at g2
  rw [c11] at g3
  obtain ⟨d, e0, _, _⟩ := DataW.trod_int Tryd.underlying3 g0
  obtain ⟨l, e1, _, _⟩ := DataW.trod_int Tryd.underlying3 g1
  obtain ⟨u, e2, _⟩ := DataW.trod_bool Tryd.underlying4 g2
  obtain ⟨v, e3⟩ := open_notel g3
  refine ⟨⟨d, l, u, v⟩, ?_⟩
  rw [c14] at hl
  have e : cs = (cs.drop 0).take 1 ++ ((cs.drop 1).take 1 ++ ((cs.drop 2).take 1 ++ (cs.drop 3).take 11)) := by
    rw [List.take_of_length_le (l := cs.drop 3) (by simp; omega)]
    rw [take_drop_glue cs 2 1, take_drop_glue cs 1 1, take_drop_glue cs 0 1, List.drop_zero]
  rw [e, e0, e1, e2, e3]; rfl
end

/-- a row of steps in memory. -/
def StpsAt (w : World) (b off : Nat) (l : List Stp) : Prop := ∀ (i : Nat) (s : Stp), l[i]? = some s → ∀ (j : Nat) (v : Value), (stpList s)[j]? = some v → w.cell? ⟨b, off + i * 14 + j, none⟩ = some v
theorem StpsAt.cells {w : World} {b off : Nat} {l : List Stp} (H : StpsAt w b off l) {i : Nat} {s : Stp} (hi : l[i]? = some s) :
    w.cell? ⟨b, off + i * 14, none⟩ = some (iV s.d) ∧ w.cell? ⟨b, off + i * 14 + 1, none⟩ = some (iV s.link) ∧ w.cell? ⟨b, off + i * 14 + 2, none⟩ = some (.bool s.is) ∧ w.cell? ⟨b, off + i * 14 + 3, none⟩ = some (iV s.n.kind) ∧
    w.cell? ⟨b, off + i * 14 + 4, none⟩ = some (iV s.n.vlan) ∧ w.cell? ⟨b, off + i * 14 + 5, none⟩ = some (bV s.n.mac.a) ∧ w.cell? ⟨b, off + i * 14 + 6, none⟩ = some (bV s.n.mac.b) ∧ w.cell? ⟨b, off + i * 14 + 7, none⟩ = some (bV s.n.mac.c) ∧
    w.cell? ⟨b, off + i * 14 + 8, none⟩ = some (bV s.n.mac.d) ∧ w.cell? ⟨b, off + i * 14 + 9, none⟩ = some (bV s.n.mac.e) ∧ w.cell? ⟨b, off + i * 14 + 10, none⟩ = some (bV s.n.mac.f) ∧ w.cell? ⟨b, off + i * 14 + 11, none⟩ = some (iV s.n.port) ∧
    w.cell? ⟨b, off + i * 14 + 12, none⟩ = some (iV s.n.state) ∧ w.cell? ⟨b, off + i * 14 + 13, none⟩ = some (.slice s.n.ba s.n.bl s.n.bc) :=
  ⟨H i s hi 0 _ rfl, H i s hi 1 _ rfl, H i s hi 2 _ rfl, H i s hi 3 _ rfl, H i s hi 4 _ rfl, H i s hi 5 _ rfl, H i s hi 6 _ rfl, H i s hi 7 _ rfl, H i s hi 8 _ rfl, H i s hi 9 _ rfl, H i s hi 10 _ rfl, H i s hi 11 _ rfl, H i s hi 12 _ rfl, H i s hi 13 _ rfl⟩

/-- What the walk is told of a row of steps that came in. -/
def IsStps (w : World) (a : Option Addr) (n : Nat) (l : List Stp) : Prop :=
  n = l.length ∧ n ≤ 9223372036854775807 ∧ (n ≠ 0 → ∃ b off, a = some ⟨b, off, none⟩ ∧ b < w.heap.size ∧ StpsAt w b off l)
theorem IsStps.below {w w' : World} {a : Option Addr} {n : Nat} {l : List Stp} (h : IsStps w a n l) (hB : Below w.heap.size w w') : IsStps w' a n l := by
  refine ⟨h.1, h.2.1, fun hn => ?_⟩
  obtain ⟨b, off, ha, hb, hc⟩ := h.2.2 hn
  exact ⟨b, off, ha, Nat.lt_of_lt_of_le hb hB.size, fun i s hi j v hv => by rw [hB.cell (p := ⟨b, off + i * 14 + j, none⟩) hb]; exact hc i s hi j v hv⟩

theorem open_steps {H : Type} {enc : TypeId × Value → H} {w : World} {held : Bool} {a : Option Addr} {n cap : Nat} {d : DataW H} {p : List MemPlace}
    (h : DataW.Trod enc Tryd.prog w 0 (fun _ => true) held 22 (.slice a n cap) d p) : ∃ l, IsStps w a n l := by
  obtain ⟨fuel, hf⟩ := h
  have c14 : Tryd.prog.cellsOf 37 = 14 := by kernel_rfl
  rcases Deep.open_slice Tryd.underlying22 hf with ⟨hcs, _⟩ | ⟨x, len, c, m, k, D, Pl, hcs, _, hl, hm, hmc, _, hcell⟩
  · simp [Value.cells] at hcs
    obtain ⟨rfl, rfl, rfl⟩ := hcs
    exact ⟨[], rfl, by omega, fun h => absurd rfl h⟩
  · simp [Value.cells] at hcs
    obtain ⟨rfl, rfl, rfl⟩ := hcs
    simp at hmc
    subst hmc
    rw [c14] at hcell
    have hex : ∀ i, i < n → ∃ v : Stp, w.cells? 0 (x.add (i * 14)) 14 = some (stpList v) := fun i hi => by
      obtain ⟨cs', h1, h2⟩ := hcell i (by omega)
      obtain ⟨v, rfl⟩ := open_stepl h2
      exact ⟨v, h1⟩
    have hcells : ∀ i v, w.cells? 0 (x.add (i * 14)) 14 = some (stpList v) → ∀ j u, (stpList v)[j]? = some u → w.cell? ((x.add (i * 14)).add j) = some u := fun i v hv j u hu => by
      unfold World.cells? at hv
      rw [if_pos (Nat.zero_le _)] at hv
      have hj : j < 14 := (List.getElem?_eq_some_iff.1 hu).1
      have := mapM_some_get hv j j (by simp [hj])
      rw [this]; exact hu
    refine ⟨(List.range n).map (fun i => if h : i < n then Classical.choose (hex i h) else ⟨0, 0, false, ⟨0, 0, mac0, 0, 0, none, 0, 0⟩⟩), by simp, by unfold maxLen at hm; omega, fun hn => ?_⟩
    obtain ⟨b, off, spot⟩ := x
    have hspec : ∀ i (h : i < n), w.cells? 0 (Addr.add ⟨b, off, spot⟩ (i * 14)) 14 = some (stpList (Classical.choose (hex i h))) := fun i h => Classical.choose_spec (hex i h)
    have h00 := hcells 0 _ (hspec 0 (by omega)) 0 _ rfl
    simp [Addr.add] at h00
    have hspot : spot = none := by simpa using World.cell?_spot h00
    subst hspot
    refine ⟨b, off, rfl, World.block_lt_of_cell? w _ h00, ?_⟩
    intro i v hv j u hu
    have hi : i < n := by
      have := (List.getElem?_eq_some_iff.1 hv).1; simpa using this
    have hve : v = Classical.choose (hex i hi) := by
      rw [List.getElem?_map, List.getElem?_range hi] at hv
      simp [hi] at hv; exact hv.symm
    subst hve
    have := hcells i _ (hspec i hi) j u hu
    have ea : (Addr.add (Addr.add ⟨b, off, none⟩ (i * 14)) j) = ⟨b, off + i * 14 + j, none⟩ := by
      unfold Addr.add; by_cases h1 : i * 14 = 0 <;> by_cases h2 : j = 0 <;> simp [h1, h2]
    rw [ea] at this; exact this
end Go.Proofs.YtpkpaloaoopkgaaDoor
