/-
  gemellaw22.hear as a whole; triples of numbers that came in.
-/
import Derived.Test.YtpkpaloaoopkgaaDoorHt
import Derived.Test.YtpkpaloaoopkgaaDoorSx
namespace Go.Proofs.YtpkpaloaoopkgaaDoor
set_option linter.unusedVariables false
set_option linter.unusedSimpArgs false
open Go Go.RowKit Go.ChangeShapes Go.WideShapes Go.ChangeAt

/-- what hearing does. -/
def hearS (s : Shk) (q : List Itm) : Shk × List Itm × List Tn :=
  match q with
  | [] => (s, [], [])
  | x :: r => if x.fr then (s, r, []) else ((s.take x.t.note).1, r, (s.take x.t.note).2.1)

theorem hearS_nil (s : Shk) : hearS s [] = (s, [], []) := rfl
theorem hearS_fr (s : Shk) {x : Itm} (r : List Itm) (h : x.fr = true) : hearS s (x :: r) = (s, r, []) := by
  show (if x.fr then (s, r, []) else _) = _
  rw [if_pos h]
theorem hearS_nt (s : Shk) {x : Itm} (r : List Itm) (h : x.fr = false) : hearS s (x :: r) = ((s.take x.t.note).1, r, (s.take x.t.note).2.1) := by
  show (if x.fr then (s, r, []) else _) = _
  rw [if_neg (by rw [h]; simp)]
theorem hear_any (base bx bw i j : Nat) (A B : Side) (M : Int) (w : World) (h : NetAt w base bx bw i j A B) (hone : One A.s M) (hd : Dir B.s A.s A.q) (hM : M ≤ 1000000) (hbase : 0 < base) (hl : HasLaid w) (hlen2 : B.q.length ≤ 1000000) :
    Calls Tryd.prog 18 #[.pointer (some ⟨A.p, 0, none⟩), .pointer (some ⟨bw, i, none⟩), .pointer (some ⟨bw, j, none⟩)] w fun e w' => ∃ v' vb', HearPost base bx bw i j w { A with s := (hearS A.s A.q).1, v := v', q := (hearS A.s A.q).2.1 } { B with v := vb', q := B.q ++ (hearS A.s A.q).2.2.map noteItm } e w' := by
  match hq : A.q with
  | [] =>
    rw [hearS_nil]
    refine (hear_nil base bx bw i j A B w h hq).mono ?_
    rintro e w' ⟨rfl, rfl⟩
    refine ⟨A.v, B.v, rfl, ?_, Below.refl _ _⟩
    have e1 : ({ A with s := A.s, v := A.v, q := [] } : Side) = A := by rw [← hq]
    have e2 : ({ B with v := B.v, q := B.q ++ ([] : List Tn).map noteItm } : Side) = B := by rw [List.map_nil, List.append_nil]
    show NetAt w base bx bw i j { A with s := A.s, v := A.v, q := [] } { B with v := B.v, q := B.q ++ ([] : List Tn).map noteItm }
    rw [e1, e2]; exact h
  | x :: r =>
    cases hfr : x.fr with
    | true =>
      rw [hearS_fr _ _ hfr]
      refine (hear_probe base bx bw i j A B x r M w h hq hfr hone hd).mono ?_
      rintro e w' ⟨v', he, hn, hb⟩
      refine ⟨v', B.v, he, ?_, hb⟩
      show NetAt w' base bx bw i j { A with s := A.s, v := v', q := r } { B with v := B.v, q := B.q ++ ([] : List Tn).map noteItm }
      have e2 : ({ B with v := B.v, q := B.q ++ ([] : List Tn).map noteItm } : Side) = B := by rw [List.map_nil, List.append_nil]
      rw [e2]; exact hn
    | false =>
      rw [hearS_nt _ _ hfr]
      exact hear_note base bx bw i j A B x r M w h hq hfr hone hM (dir_fine (hq ▸ hd) hfr) hbase hl hlen2

/-- the two in agreement. -/
structure Good (P Q : Side) (M : Int) (L : Nat) : Prop where
  a : One P.s M
  b : One Q.s M
  ab : Dir P.s Q.s Q.q
  ba : Dir Q.s P.s P.q
  la : P.q.length ≤ L
  lb : Q.q.length ≤ L
theorem Good.swap {P Q : Side} {M : Int} {L : Nat} (h : Good P Q M L) : Good Q P M L := ⟨h.b, h.a, h.ba, h.ab, h.lb, h.la⟩
theorem hearS_one {s : Shk} {q : List Itm} {o : Shk} {M : Int} (h : One s M) (hM : 0 ≤ M) (hd : Dir o s q) : One (hearS s q).1 (M + 1) ∧ Dir o (hearS s q).1 (hearS s q).2.1 ∧ (hearS s q).2.1.length ≤ q.length ∧ (hearS s q).2.2.length ≤ 63 := by
  match q, hd with
  | [], hd => exact ⟨h.mono (by omega), hd, Nat.le_refl _, Nat.zero_le _⟩
  | x :: r, hd =>
    cases hfr : x.fr with
    | true => rw [hearS_fr _ _ hfr]; exact ⟨h.mono (by omega), (hear_frame h hd hfr).2, by simp, by simp⟩
    | false => rw [hearS_nt _ _ hfr]; exact ⟨take_one h hM (dir_fine hd hfr), take_to h hd hfr, by simp, told_few2 _ _⟩
theorem hearS_told {s : Shk} {q : List Itm} {o : Shk} {M : Int} (h : One s M) (hd : Dir o s q) {qo : List Itm} (hd2 : Dir s o qo) : Dir (hearS s q).1 o (qo ++ (hearS s q).2.2.map noteItm) := by
  match q, hd with
  | [], hd => rw [hearS_nil]; simpa using hd2
  | x :: r, hd =>
    cases hfr : x.fr with
    | true => rw [hearS_fr _ _ hfr]; simpa using hd2
    | false => rw [hearS_nt _ _ hfr]; exact take_from h (dir_fine hd hfr) hd2
theorem Good.hear {P Q : Side} {M : Int} {L : Nat} (h : Good P Q M L) (hM : 0 ≤ M) (v' vb' : Value) :
    Good { P with s := (hearS P.s P.q).1, v := v', q := (hearS P.s P.q).2.1 } { Q with v := vb', q := Q.q ++ (hearS P.s P.q).2.2.map noteItm } (M + 1) (L + 63) := by
  obtain ⟨h1, h2, h3, h4⟩ := hearS_one h.a hM h.ba
  exact ⟨h1, h.b.mono (by omega), hearS_told h.a h.ba h.ab, h2, by have := h.la; show (hearS P.s P.q).2.1.length ≤ L + 63; omega, by have := h.lb; simp; omega⟩
theorem Good.local {P Q : Side} {M : Int} {L : Nat} (h : Good P Q M L) (link : Int) (up : Bool) (vb' : Value) :
    Good { P with s := (localRes P.s link up).1 } { Q with v := vb', q := Q.q ++ (localRes P.s link up).2.1.map noteItm } (M + 1) (L + 63) :=
  ⟨localRes_one h.a link up, h.b.mono (by omega), localRes_from h.a h.ab link up, localRes_to h.ba link up, by have := h.la; show P.q.length ≤ L + 63; omega, by have := h.lb; have := told_few P.s link up; simp; omega⟩
theorem Good.frame {P Q : Side} {M : Int} {L : Nat} (h : Good P Q M L) (vb' : Value) :
    Good P { Q with v := vb', q := Q.q ++ [frameItm (servesB P.s 1) (servesB P.s 2) (servesB P.s 3)] } (M + 1) (L + 63) :=
  ⟨h.a.mono (by omega), h.b.mono (by omega), dir_frame h.ab, h.ba, by have := h.la; omega, by have := h.lb; simp; omega⟩

/-! triples -/
structure Tri where
  a : Int
  b : Int
  c : Int
abbrev triList (t : Tri) : List Value := [iV t.a, iV t.b, iV t.c]
theorem list3 {l : List Value} (h : l.length = 3) : ∃ a b c, l = [a, b, c] := by
  match l, h with
  | [a, b, c], _ => exact ⟨a, b, c, rfl⟩
section
variable {H : Type} {enc : TypeId × Value → H} {w : World} {base : Nat} {spare : Nat → Bool} {held : Bool} {fuel : Nat} {cs : List Value} {x : DataW H × List MemPlace}
theorem open_tril (h : DataW.trod enc Tryd.prog w base spare held fuel 45 cs = some x) : ∃ t : Tri, cs = triList t := by
  obtain ⟨xs, n, _, _, hl, hn, hi⟩ := DataW.trod_array Tryd.underlying45 h
  have c1 : Tryd.prog.cellsOf 3 = 1 := by kernel_rfl
  have c3 : Tryd.prog.cellsOf 45 = 3 := by kernel_rfl
  rw [c3] at hl
  rw [c1] at hi
  obtain ⟨v0, v1, v2, rfl⟩ := list3 hl
  have get : ∀ i, i < 3 → ∃ y, DataW.trod enc Tryd.prog w base spare held n 3 (([v0, v1, v2].drop (i * 1)).take 1) = some y := fun i h6 => by
    have := hi i h6
    rw [List.getElem?_eq_getElem (by omega)] at this
    exact ⟨_, this⟩
  obtain ⟨_, g0⟩ := get 0 (by omega)
  obtain ⟨_, g1⟩ := get 1 (by omega)
  obtain ⟨_, g2⟩ := get 2 (by omega)
  obtain ⟨b0, e0, _, _⟩ := DataW.trod_int Tryd.underlying3 g0
  obtain ⟨b1, e1, _, _⟩ := DataW.trod_int Tryd.underlying3 g1
  obtain ⟨b2, e2, _, _⟩ := DataW.trod_int Tryd.underlying3 g2
  simp at e0 e1 e2
  subst e0 e1 e2
  exact ⟨⟨b0, b1, b2⟩, rfl⟩
end
def TrisAt (w : World) (b off : Nat) (l : List Tri) : Prop := ∀ (i : Nat) (s : Tri), l[i]? = some s → ∀ (j : Nat) (v : Value), (triList s)[j]? = some v → w.cell? ⟨b, off + i * 3 + j, none⟩ = some v
theorem TrisAt.cells {w : World} {b off : Nat} {l : List Tri} (H : TrisAt w b off l) {i : Nat} {s : Tri} (hi : l[i]? = some s) :
    w.cell? ⟨b, off + i * 3, none⟩ = some (iV s.a) ∧ w.cell? ⟨b, off + i * 3 + 1, none⟩ = some (iV s.b) ∧ w.cell? ⟨b, off + i * 3 + 2, none⟩ = some (iV s.c) :=
  ⟨H i s hi 0 _ rfl, H i s hi 1 _ rfl, H i s hi 2 _ rfl⟩
def IsTris (w : World) (a : Option Addr) (n : Nat) (l : List Tri) : Prop :=
  n = l.length ∧ n ≤ 9223372036854775807 ∧ (n ≠ 0 → ∃ b off, a = some ⟨b, off, none⟩ ∧ b < w.heap.size ∧ TrisAt w b off l)
theorem IsTris.below {w w' : World} {a : Option Addr} {n : Nat} {l : List Tri} (h : IsTris w a n l) (hB : Below w.heap.size w w') : IsTris w' a n l := by
  refine ⟨h.1, h.2.1, fun hn => ?_⟩
  obtain ⟨b, off, ha, hb, hc⟩ := h.2.2 hn
  exact ⟨b, off, ha, Nat.lt_of_lt_of_le hb hB.size, fun i s hi j v hv => by rw [hB.cell (p := ⟨b, off + i * 3 + j, none⟩) hb]; exact hc i s hi j v hv⟩
theorem open_tris {H : Type} {enc : TypeId × Value → H} {w : World} {held : Bool} {a : Option Addr} {n cap : Nat} {d : DataW H} {p : List MemPlace}
    (h : DataW.Trod enc Tryd.prog w 0 (fun _ => true) held 41 (.slice a n cap) d p) : ∃ l, IsTris w a n l := by
  obtain ⟨fuel, hf⟩ := h
  have c14 : Tryd.prog.cellsOf 45 = 3 := by kernel_rfl
  rcases Deep.open_slice Tryd.underlying41 hf with ⟨hcs, _⟩ | ⟨x, len, c, m, k, D, Pl, hcs, _, hl, hm, hmc, _, hcell⟩
  · simp [Value.cells] at hcs
    obtain ⟨rfl, rfl, rfl⟩ := hcs
    exact ⟨[], rfl, by omega, fun h => absurd rfl h⟩
  · simp [Value.cells] at hcs
    obtain ⟨rfl, rfl, rfl⟩ := hcs
    simp at hmc
    subst hmc
    rw [c14] at hcell
    have hex : ∀ i, i < n → ∃ v : Tri, w.cells? 0 (x.add (i * 3)) 3 = some (triList v) := fun i hi => by
      obtain ⟨cs', h1, h2⟩ := hcell i (by omega)
      obtain ⟨v, rfl⟩ := open_tril h2
      exact ⟨v, h1⟩
    have hcells : ∀ i v, w.cells? 0 (x.add (i * 3)) 3 = some (triList v) → ∀ j u, (triList v)[j]? = some u → w.cell? ((x.add (i * 3)).add j) = some u := fun i v hv j u hu => by
      unfold World.cells? at hv
      rw [if_pos (Nat.zero_le _)] at hv
      have hj : j < 3 := (List.getElem?_eq_some_iff.1 hu).1
      have := mapM_some_get hv j j (by simp [hj])
      rw [this]; exact hu
    refine ⟨(List.range n).map (fun i => if h : i < n then Classical.choose (hex i h) else ⟨0, 0, 0⟩), by simp, by unfold maxLen at hm; omega, fun hn => ?_⟩
    obtain ⟨b, off, spot⟩ := x
    have hspec : ∀ i (h : i < n), w.cells? 0 (Addr.add ⟨b, off, spot⟩ (i * 3)) 3 = some (triList (Classical.choose (hex i h))) := fun i h => Classical.choose_spec (hex i h)
    have h00 := hcells 0 _ (hspec 0 (by omega)) 0 _ rfl
    simp [Addr.add] at h00
    have hspot : spot = none := by simpa using World.cell?_spot h00
    subst hspot
    refine ⟨b, off, rfl, World.block_lt_of_cell? w _ h00, ?_⟩
    intro i v hv j u hu
    have hi : i < n := by
      have := (List.getElem?_eq_some_iff.1 hv).1; simpa using this
    have hve : v = Classical.choose (hex i hi) := by
      rw [List.getElem?_map, List.getElem?_range hi] at hv
      simp [hi] at hv; exact hv.symm
    subst hve
    have := hcells i _ (hspec i hi) j u hu
    have ea : (Addr.add (Addr.add ⟨b, off, none⟩ (i * 3)) j) = ⟨b, off + i * 3 + j, none⟩ := by
      unfold Addr.add; by_cases h1 : i * 3 = 0 <;> by_cases h2 : j = 0 <;> simp [h1, h2]
    rw [ea] at this; exact this
end Go.Proofs.YtpkpaloaoopkgaaDoor
