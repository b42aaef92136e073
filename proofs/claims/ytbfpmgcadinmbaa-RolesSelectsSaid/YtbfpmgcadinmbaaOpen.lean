/-
  How arguments read: a bridge's name, a row of what ports have heard.
-/
import Derived.Test.YtbfpmgcadinmbaaProg
import Derived.Test.YtbfpmgcadinmbaaPlain
import Derived.ProofKit
import Derived.OpenShut
import Derived.Deep.Slices
import Derived.KernelRfl
namespace Go.Proofs.Ytbfpmgcadinmbaa
set_option linter.unusedVariables false
set_option linter.unusedSimpArgs false
open Go Go.RowKit Go.ChangeShapes Go.WideShapes Go.ChangeAt

section
variable {H : Type} {enc : TypeId × Value → H} {w : World} {base : Nat} {spare : Nat → Bool} {held : Bool} {fuel : Nat} {cs : List Value} {x : DataW H × List MemPlace}

theorem open_u8l (h : DataW.trod enc Try.prog w base spare held fuel 5 cs = some x) : ∃ b : UInt8, cs = [bV b] := by
  obtain ⟨n, rfl, _, hw⟩ := DataW.trod_int Try.underlying5 h
  have hb := bounds_u8 hw
  refine ⟨UInt8.ofNat n.toNat, ?_⟩
  have : (UInt8.ofNat n.toNat).toNat = n.toNat := by simp [UInt8.toNat_ofNat']; omega
  unfold bV; rw [this]
  have : ((n.toNat : Nat) : Int) = n := by omega
  rw [this]

theorem list6 {l : List Value} (h : l.length = 6) : ∃ a b c d e f, l = [a, b, c, d, e, f] := by
  match l, h with
  | [a, b, c, d, e, f], _ => exact ⟨a, b, c, d, e, f, rfl⟩

theorem open_macl (h : DataW.trod enc Try.prog w base spare held fuel 23 cs = some x) : ∃ m : Mac, cs = [bV m.a, bV m.b, bV m.c, bV m.d, bV m.e, bV m.f] := by
  obtain ⟨xs, n, _, _, hl, hn, hi⟩ := DataW.trod_array Try.underlying23 h
  have c1 : Try.prog.cellsOf 5 = 1 := by kernel_rfl
  have c6 : Try.prog.cellsOf 23 = 6 := by kernel_rfl
  rw [c6] at hl
  rw [c1] at hi
  obtain ⟨v0, v1, v2, v3, v4, v5, rfl⟩ := list6 hl
  have get : ∀ i, i < 6 → ∃ y, DataW.trod enc Try.prog w base spare held n 5 (([v0, v1, v2, v3, v4, v5].drop (i * 1)).take 1) = some y := fun i h6 => by
    have := hi i h6
    rw [List.getElem?_eq_getElem (by omega)] at this
    exact ⟨_, this⟩
  obtain ⟨_, g0⟩ := get 0 (by omega)
  obtain ⟨_, g1⟩ := get 1 (by omega)
  obtain ⟨_, g2⟩ := get 2 (by omega)
  obtain ⟨_, g3⟩ := get 3 (by omega)
  obtain ⟨_, g4⟩ := get 4 (by omega)
  obtain ⟨_, g5⟩ := get 5 (by omega)
  obtain ⟨b0, e0⟩ := open_u8l g0
  obtain ⟨b1, e1⟩ := open_u8l g1
  obtain ⟨b2, e2⟩ := open_u8l g2
  obtain ⟨b3, e3⟩ := open_u8l g3
  obtain ⟨b4, e4⟩ := open_u8l g4
  obtain ⟨b5, e5⟩ := open_u8l g5
  simp at e0 e1 e2 e3 e4 e5
  subst e0 e1 e2 e3 e4 e5
  exact ⟨⟨b0, b1, b2, b3, b4, b5⟩, rfl⟩

theorem open_idl (h : DataW.trod enc Try.prog w base spare held fuel 25 cs = some x) : ∃ i : Id, cs = idList i := by
  obtain ⟨xs, n, _, _, hl, hn, hi⟩ := DataW.trod_struct Try.underlying25 h
  have c7 : Try.prog.cellsOf 25 = 7 := by kernel_rfl
  have c1 : Try.prog.cellsOf 3 = 1 := by kernel_rfl
  have c6 : Try.prog.cellsOf 23 = 6 := by kernel_rfl
  have hn' : xs.length = 2 := hn
  have g0 : DataW.trod enc Try.prog w base spare held n 3 ((cs.drop 0).take (Try.prog.cellsOf 3)) = xs[0]? := hi 0 _ rfl
  have g1 : DataW.trod enc Try.prog w base spare held n 23 ((cs.drop 1).take (Try.prog.cellsOf 23)) = xs[1]? := hi 1 _ rfl
  rw [List.getElem?_eq_getElem (by omega)] at g0 g1
  rw [c1] at g0
  rw [c6] at g1
  obtain ⟨p, e0, _, _⟩ := DataW.trod_int Try.underlying3 g0
  obtain ⟨m, e1⟩ := open_macl g1
  refine ⟨⟨p, m⟩, ?_⟩
  have e : cs = (cs.drop 0).take 1 ++ (cs.drop 1).take 6 := by
    rw [c7] at hl
    rw [List.drop_zero, List.take_of_length_le (l := cs.drop 1) (by simp; omega), List.take_append_drop]
  rw [e, e0, e1]; rfl

theorem take_drop_glue (l : List Value) (a b : Nat) : (l.drop a).take b ++ l.drop (a + b) = l.drop a := by
  rw [← List.drop_drop, List.take_append_drop]

theorem open_vecl (h : DataW.trod enc Try.prog w base spare held fuel 29 cs = some x) : ∃ v : Vec, cs = vecList v := by
  obtain ⟨xs, n, _, _, hl, hn, hi⟩ := DataW.trod_struct Try.underlying29 h
  have c17 : Try.prog.cellsOf 29 = 17 := by kernel_rfl
  have c7 : Try.prog.cellsOf 25 = 7 := by kernel_rfl
  have c1 : Try.prog.cellsOf 3 = 1 := by kernel_rfl
  have hn' : xs.length = 5 := hn
  have g0 : DataW.trod enc Try.prog w base spare held n 25 ((cs.drop 0).take (Try.prog.cellsOf 25)) = xs[0]? := hi 0 _ rfl
  have g1 : DataW.trod enc Try.prog w base spare held n 3 ((cs.drop 7).take (Try.prog.cellsOf 3)) = xs[1]? := hi 1 _ rfl
  have g2 : DataW.trod enc Try.prog w base spare held n 25 ((cs.drop 8).take (Try.prog.cellsOf 25)) = xs[2]? := hi 2 _ rfl
  have g3 : DataW.trod enc Try.prog w base spare held n 3 ((cs.drop 15).take (Try.prog.cellsOf 3)) = xs[3]? := hi 3 _ rfl
  have g4 : DataW.trod enc Try.prog w base spare held n 3 ((cs.drop 16).take (Try.prog.cellsOf 3)) = xs[4]? := hi 4 _ rfl
  rw [List.getElem?_eq_getElem (by omega)] at g0 g1 g2 g3 g4
  rw [c1] at g1 g3 g4
  rw [c7] at g0 g2
  obtain ⟨r, e0⟩ := open_idl g0
  obtain ⟨c, e1, _, _⟩ := DataW.trod_int Try.underlying3 g1
  obtain ⟨b, e2⟩ := open_idl g2
  obtain ⟨p, e3, _, _⟩ := DataW.trod_int Try.underlying3 g3
  obtain ⟨o, e4, _, _⟩ := DataW.trod_int Try.underlying3 g4
  refine ⟨⟨r, c, b, p, o⟩, ?_⟩
  rw [c17] at hl
  have e : cs = (cs.drop 0).take 7 ++ ((cs.drop 7).take 1 ++ ((cs.drop 8).take 7 ++ ((cs.drop 15).take 1 ++ (cs.drop 16).take 1))) := by
    rw [List.take_of_length_le (l := cs.drop 16) (by simp; omega)]
    rw [take_drop_glue cs 15 1, take_drop_glue cs 8 7, take_drop_glue cs 7 1, take_drop_glue cs 0 7, List.drop_zero]
  rw [e, e0, e1, e2, e3, e4]; rfl

theorem open_heardl (h : DataW.trod enc Try.prog w base spare held fuel 38 cs = some x) : ∃ v : Heard, cs = heardList v := by
  obtain ⟨xs, n, _, _, hl, hn, hi⟩ := DataW.trod_struct Try.underlying38 h
  have c21 : Try.prog.cellsOf 38 = 21 := by kernel_rfl
  have c17 : Try.prog.cellsOf 29 = 17 := by kernel_rfl
  have c1 : Try.prog.cellsOf 3 = 1 := by kernel_rfl
  have c1' : Try.prog.cellsOf 4 = 1 := by kernel_rfl
  have hn' : xs.length = 5 := hn
  have g0 : DataW.trod enc Try.prog w base spare held n 3 ((cs.drop 0).take (Try.prog.cellsOf 3)) = xs[0]? := hi 0 _ rfl
  have g1 : DataW.trod enc Try.prog w base spare held n 3 ((cs.drop 1).take (Try.prog.cellsOf 3)) = xs[1]? := hi 1 _ rfl
  have g2 : DataW.trod enc Try.prog w base spare held n 4 ((cs.drop 2).take (Try.prog.cellsOf 4)) = xs[2]? := hi 2 _ rfl
  have g3 : DataW.trod enc Try.prog w base spare held n 4 ((cs.drop 3).take (Try.prog.cellsOf 4)) = xs[3]? := hi 3 _ rfl
  have g4 : DataW.trod enc Try.prog w base spare held n 29 ((cs.drop 4).take (Try.prog.cellsOf 29)) = xs[4]? := hi 4 _ rfl
  rw [List.getElem?_eq_getElem (by omega)] at g0 g1 g2 g3 g4
  rw [c1] at g0 g1
  rw [c1'] at g2 g3
  rw [c17] at g4
  obtain ⟨p, e0, _, _⟩ := DataW.trod_int Try.underlying3 g0
  obtain ⟨c, e1, _, _⟩ := DataW.trod_int Try.underlying3 g1
  obtain ⟨u, e2, _⟩ := DataW.trod_bool Try.underlying4 g2
  obtain ⟨s, e3, _⟩ := DataW.trod_bool Try.underlying4 g3
  obtain ⟨v, e4⟩ := open_vecl g4
  refine ⟨⟨p, c, u, s, v⟩, ?_⟩
  rw [c21] at hl
  have e : cs = (cs.drop 0).take 1 ++ ((cs.drop 1).take 1 ++ ((cs.drop 2).take 1 ++ ((cs.drop 3).take 1 ++ (cs.drop 4).take 17))) := by
    rw [List.take_of_length_le (l := cs.drop 4) (by simp; omega)]
    rw [take_drop_glue cs 3 1, take_drop_glue cs 2 1, take_drop_glue cs 1 1, take_drop_glue cs 0 1, List.drop_zero]
  rw [e, e0, e1, e2, e3, e4]; rfl
end

theorem okWide_array' {P : Program} {w : World} {r : Reach} {base n : Nat} {t e : TypeId} {v : Value} (ht : P.underlying t = some (.array n e)) (h : Value.okWide P w r base t v) : ∃ cs, v = .agg cs ∧ cs.size = P.cellsOf t := by
  simp only [Value.okWide, ht] at h
  obtain ⟨cs, h1, h2, _⟩ := h
  exact ⟨cs, h1, h2⟩

/-- an array of two numbers. -/
theorem open_arr2l {H : Type} {enc : TypeId × Value → H} {w : World} {base : Nat} {spare : Nat → Bool} {held : Bool} {fuel : Nat} {cs : List Value} {x : DataW H × List MemPlace}
    (h : DataW.trod enc Try.prog w base spare held fuel 43 cs = some x) : ∃ a b : Int, cs = [iV a, iV b] := by
  obtain ⟨xs, n, _, _, hl, hn, hi⟩ := DataW.trod_array Try.underlying43 h
  have c1 : Try.prog.cellsOf 3 = 1 := by kernel_rfl
  have c2 : Try.prog.cellsOf 43 = 2 := by kernel_rfl
  rw [c2] at hl
  rw [c1] at hi
  match cs, hl with
  | [v0, v1], _ =>
    have get : ∀ i, i < 2 → ∃ y, DataW.trod enc Try.prog w base spare held n 3 (([v0, v1].drop (i * 1)).take 1) = some y := fun i h2 => by
      have := hi i h2
      rw [List.getElem?_eq_getElem (by omega)] at this
      exact ⟨_, this⟩
    obtain ⟨_, g0⟩ := get 0 (by omega)
    obtain ⟨_, g1⟩ := get 1 (by omega)
    obtain ⟨a, e0, _, _⟩ := DataW.trod_int Try.underlying3 g0
    obtain ⟨b, e1, _, _⟩ := DataW.trod_int Try.underlying3 g1
    simp at e0 e1
    subst e0 e1
    exact ⟨a, b, rfl⟩

/-- What the walk is told of a row that came in. -/
def IsHeards (w : World) (a : Option Addr) (n : Nat) (l : List Heard) : Prop :=
  n = l.length ∧ n ≤ 9223372036854775807 ∧ (n ≠ 0 → ∃ b off, a = some ⟨b, off, none⟩ ∧ b < w.heap.size ∧ HeardsAt w b off l)

theorem open_heards {H : Type} {enc : TypeId × Value → H} {w : World} {held : Bool} {a : Option Addr} {n cap : Nat} {d : DataW H} {p : List MemPlace}
    (h : DataW.Trod enc Try.prog w 0 (fun _ => true) held 26 (.slice a n cap) d p) : ∃ l, IsHeards w a n l := by
  obtain ⟨fuel, hf⟩ := h
  have c21 : Try.prog.cellsOf 38 = 21 := by kernel_rfl
  rcases Deep.open_slice Try.underlying26 hf with ⟨hcs, _⟩ | ⟨x, len, c, m, k, D, Pl, hcs, _, hl, hm, hmc, _, hcell⟩
  · simp [Value.cells] at hcs
    obtain ⟨rfl, rfl, rfl⟩ := hcs
    exact ⟨[], rfl, by omega, fun h => absurd rfl h⟩
  · simp [Value.cells] at hcs
    obtain ⟨rfl, rfl, rfl⟩ := hcs
    simp at hmc
    subst hmc
    rw [c21] at hcell
    have hex : ∀ i, i < n → ∃ v : Heard, w.cells? 0 (x.add (i * 21)) 21 = some (heardList v) := fun i hi => by
      obtain ⟨cs', h1, h2⟩ := hcell i (by omega)
      obtain ⟨v, rfl⟩ := open_heardl h2
      exact ⟨v, h1⟩
    have hcells : ∀ i v, w.cells? 0 (x.add (i * 21)) 21 = some (heardList v) → ∀ j u, (heardList v)[j]? = some u → w.cell? ((x.add (i * 21)).add j) = some u := fun i v hv j u hu => by
      unfold World.cells? at hv
      rw [if_pos (Nat.zero_le _)] at hv
      have hj : j < 21 := (List.getElem?_eq_some_iff.1 hu).1
      have := mapM_some_get hv j j (by simp [hj])
      rw [this]; exact hu
    refine ⟨(List.range n).map (fun i => if h : i < n then Classical.choose (hex i h) else ⟨0, 0, false, false, zeroVec⟩), by simp, by unfold maxLen at hm; omega, fun hn => ?_⟩
    obtain ⟨b, off, spot⟩ := x
    have hspec : ∀ i (h : i < n), w.cells? 0 (Addr.add ⟨b, off, spot⟩ (i * 21)) 21 = some (heardList (Classical.choose (hex i h))) := fun i h => Classical.choose_spec (hex i h)
    have h00 := hcells 0 _ (hspec 0 (by omega)) 0 _ rfl
    simp [Addr.add] at h00
    have hspot : spot = none := by simpa using World.cell?_spot h00
    subst hspot
    refine ⟨b, off, rfl, World.block_lt_of_cell? w _ h00, ?_⟩
    intro i v hv j u hu
    have hi : i < n := by
      have := (List.getElem?_eq_some_iff.1 hv).1; simpa using this
    have hve : v = Classical.choose (hex i hi) := by
      rw [List.getElem?_map, List.getElem?_range hi] at hv
      simp [hi] at hv; exact hv.symm
    subst hve
    have := hcells i _ (hspec i hi) j u hu
    have ea : (Addr.add (Addr.add ⟨b, off, none⟩ (i * 21)) j) = ⟨b, off + i * 21 + j, none⟩ := by
      unfold Addr.add; by_cases h1 : i * 21 = 0 <;> by_cases h2 : j = 0 <;> simp [h1, h2]
    rw [ea] at this; exact this

theorem IsHeards.below {w w' : World} {a : Option Addr} {n : Nat} {l : List Heard} (h : IsHeards w a n l) (hB : RowKit.Below w.heap.size w w') : IsHeards w' a n l := by
  refine ⟨h.1, h.2.1, fun hn => ?_⟩
  obtain ⟨b, off, ha, hb, hc⟩ := h.2.2 hn
  exact ⟨b, off, ha, Nat.lt_of_lt_of_le hb hB.size, hc.below hb hB⟩
end Go.Proofs.Ytbfpmgcadinmbaa
