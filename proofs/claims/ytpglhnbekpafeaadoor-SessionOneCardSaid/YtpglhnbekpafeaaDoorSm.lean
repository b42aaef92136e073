/-
  Memory of the layer shake: where a Shake lies; what a call leaves alone.
-/
import Derived.Test.YtpglhnbekpafeaaDoorSp
import Derived.Deep.AppendLies
import Derived.Below
namespace Go.Proofs.YtpglhnbekpafeaaDoor
set_option linter.unusedVariables false
set_option linter.unusedSimpArgs false
open Go Go.RowKit

/-- all blocks that there were are as they were, but these. -/
structure Off (ks : List Nat) (w w' : World) : Prop where
  os : w'.os = w.os
  tape : w'.tape = w.tape
  output : w'.output = w.output
  size : w.heap.size ≤ w'.heap.size
  block : ∀ k, k < w.heap.size → k ∉ ks → w'.heap[k]? = w.heap[k]?
theorem Off.refl (ks : List Nat) (w : World) : Off ks w w := ⟨rfl, rfl, rfl, Nat.le_refl _, fun _ _ _ => rfl⟩
theorem Off.trans {ks : List Nat} {a b c : World} (h : Off ks a b) (k : Off ks b c) : Off ks a c :=
  ⟨k.os.trans h.os, k.tape.trans h.tape, k.output.trans h.output, Nat.le_trans h.size k.size, fun i hi hn => (k.block i (Nat.lt_of_lt_of_le hi h.size) hn).trans (h.block i hi hn)⟩
theorem Off.mono {ks ls : List Nat} {w w' : World} (h : Off ks w w') (hs : ∀ k, k ∈ ks → k ∈ ls) : Off ls w w' := ⟨h.os, h.tape, h.output, h.size, fun k hk hn => h.block k hk (fun hm => hn (hs k hm))⟩
theorem Off.below {ks : List Nat} {w a w' : World} (h : Off ks w a) (hB : Below a.heap.size a w') : Off ks w w' :=
  h.trans ⟨hB.os, hB.tape, hB.output, hB.size, fun k hk _ => hB.block k hk⟩
theorem Off.of_below {ks : List Nat} {w w' : World} (hB : Below w.heap.size w w') : Off ks w w' := (Off.refl ks w).below hB
theorem Off.setCell {ks : List Nat} {w a : World} (h : Off ks w a) {p : Addr} (hp : p.block ∈ ks) (u : Value) : Off ks w (a.setCell p u) :=
  h.trans ⟨rfl, rfl, rfl, by simp [World.setCell], fun k hk hn => Below.heap_setCell _ _ _ _ (fun e => hn (e ▸ hp))⟩
theorem Off.setNew {ks : List Nat} {w a : World} (h : Off ks w a) {p : Addr} (hp : w.heap.size ≤ p.block) (u : Value) : Off ks w (a.setCell p u) := by
  refine ⟨h.os, h.tape, h.output, by have := h.size; simpa [World.setCell] using this, fun k hk hn => ?_⟩
  rw [Below.heap_setCell _ _ _ _ (by omega)]; exact h.block k hk hn
theorem Off.alloc {ks : List Nat} {w a : World} (h : Off ks w a) (o : Obj) : Off ks w (a.alloc o) := h.below ((Below.refl _ _).alloc (Nat.le_refl _) _)
theorem Off.drewN {ks : List Nat} {w a : World} (h : Off ks w a) (n : Nat) : Off ks w (a.drewN n) := h.below ⟨rfl, rfl, rfl, Nat.le_refl _, fun _ _ => rfl⟩
theorem Off.toBelow {ks : List Nat} {w w' : World} {B : Nat} (h : Off ks w w') (hB : B ≤ w.heap.size) (hk : ∀ k, k ∈ ks → B ≤ k) : Below B w w' :=
  ⟨h.os, h.tape, h.output, h.size, fun k hkB => h.block k (by omega) (fun hm => by have := hk k hm; omega)⟩
theorem Off.grown {ks : List Nat} {w a w' : World} {row : Option Nat} (h : Off ks w a) (hg : a.grownBy w' row) (hr : ∀ k, row = some k → w.heap.size ≤ k ∨ k ∈ ks) : Off ks w w' :=
  ⟨hg.os.trans h.os, hg.tape.trans h.tape, hg.output.trans h.output, Nat.le_trans h.size hg.size, fun k hk hn => (hg.block k (Nat.lt_of_lt_of_le hk h.size) (fun e => by
    rcases hr k e.symm with h1 | h1
    · omega
    · exact hn h1)).trans (h.block k hk hn)⟩
theorem Off.cell {ks : List Nat} {w w' : World} (h : Off ks w w') {p : Addr} (hp : p.block < w.heap.size) (hn : p.block ∉ ks) : w'.cell? p = w.cell? p :=
  World.cell?_of_block (w := w) (h.block p.block hp hn)
theorem Off.cells {ks : List Nat} {w w' : World} (h : Off ks w w') : ∀ b o, b < w.heap.size → b ∉ ks → w'.cell? ⟨b, o, none⟩ = w.cell? ⟨b, o, none⟩ := fun b o hb hn => h.cell (p := ⟨b, o, none⟩) hb hn

theorem below_drewN' {B : Nat} {a w : World} (h : Below B a w) (n : Nat) : Below B a (w.drewN n) := ⟨h.os, h.tape, h.output, h.size, h.block⟩
theorem below_cells {B : Nat} {w w' : World} (h : Below B w w') : (∀ b o, b < B → w'.cell? ⟨b, o, none⟩ = w.cell? ⟨b, o, none⟩) := fun b o hb => h.cell (p := ⟨b, o, none⟩) hb
theorem below_frozens {B : Nat} {w w' : World} (h : Below B w w') : (∀ b o, b < B → w'.frozen? ⟨b, o, none⟩ = w.frozen? ⟨b, o, none⟩) := fun b o hb => h.frozen (p := ⟨b, o, none⟩) hb

/-- where a Shake lies: itself in block p, its links in block g. -/
structure ShkAt (tS tL : TypeId) (w : World) (p g : Nat) (s : Shk) : Prop where
  hp : w.heap[p]? = some (.cells #[.slice (some ⟨g, 0, none⟩) s.l.length s.l.length, .bool s.session, .bool s.alone] tS (0, 0))
  hg : w.heap[g]? = some (.cells (lnkFlat s.l).toArray tL (0, 0))
  ne : p ≠ g
theorem ShkAt.lt {tS tL : TypeId} {w : World} {p g : Nat} {s : Shk} (h : ShkAt tS tL w p g s) : p < w.heap.size ∧ g < w.heap.size := ⟨block_lt h.hp, block_lt h.hg⟩
theorem ShkAt.of_blocks {tS tL : TypeId} {w w' : World} {p g : Nat} {s : Shk} (h : ShkAt tS tL w p g s) (e1 : w'.heap[p]? = w.heap[p]?) (e2 : w'.heap[g]? = w.heap[g]?) : ShkAt tS tL w' p g s :=
  ⟨e1.trans h.hp, e2.trans h.hg, h.ne⟩
theorem ShkAt.step {tS tL : TypeId} {w w' : World} {p g : Nat} {s : Shk} (h : ShkAt tS tL w p g s) (hB : Below w.heap.size w w') : ShkAt tS tL w' p g s :=
  h.of_blocks (hB.block _ h.lt.1) (hB.block _ h.lt.2)
theorem ShkAt.off {tS tL : TypeId} {w w' : World} {p g : Nat} {s : Shk} {ks : List Nat} (h : ShkAt tS tL w p g s) (hB : Off ks w w') (hp : p ∉ ks) (hg : g ∉ ks) : ShkAt tS tL w' p g s :=
  h.of_blocks (hB.block _ h.lt.1 hp) (hB.block _ h.lt.2 hg)
theorem ShkAt.grown {tS tL : TypeId} {w w' : World} {p g B : Nat} {s : Shk} {row : Option Nat} (h : ShkAt tS tL w p g s) (hg : w.grownBy w' row) (hr : ∀ k, row = some k → B ≤ k) (hp : p < B) (hgB : g < B) : ShkAt tS tL w' p g s :=
  h.of_blocks (hg.block _ h.lt.1 (fun e => by have := hr _ e.symm; omega)) (hg.block _ h.lt.2 (fun e => by have := hr _ e.symm; omega))
theorem ShkAt.other {tS tL : TypeId} {w : World} {p g : Nat} {s : Shk} (h : ShkAt tS tL w p g s) (b o : Nat) (hp : b ≠ p) (hg : b ≠ g) (v : Value) : ShkAt tS tL (w.setCell ⟨b, o, none⟩ v) p g s :=
  h.of_blocks (Below.heap_setCell _ _ _ _ (fun e => hp e.symm)) (Below.heap_setCell _ _ _ _ (fun e => hg e.symm))

theorem set_same {α : Type} : ∀ (l : List α) (i : Nat) (v : α), l[i]? = some v → l.set i v = l
  | [], _, _, h => by simp at h
  | x :: r, 0, v, h => by simp at h; rw [h]; rfl
  | x :: r, i + 1, v, h => by show x :: r.set i v = _; rw [set_same r i v (by simpa using h)]

section
variable {l : List Lnk} {i : Nat} {x : Lnk} (hx : l[i]? = some x)
include hx
theorem flat0 : (lnkFlat l)[i * 3]? = some (.bool x.up) := by simpa using lnkFlat_get l i x hx 0 _ rfl
theorem flat1 : (lnkFlat l)[i * 3 + 1]? = some (iV x.owed) := lnkFlat_get l i x hx 1 _ rfl
theorem flat2 : (lnkFlat l)[i * 3 + 2]? = some (.bool x.down) := lnkFlat_get l i x hx 2 _ rfl
theorem flat_up (u : Bool) : lnkFlat (l.set i { x with up := u }) = (lnkFlat l).set (i * 3) (.bool u) := by
  rw [lnkFlat_set l i _ (List.getElem?_eq_some_iff.1 hx).1]
  dsimp only
  rw [set_same _ (i * 3 + 1) (iV x.owed) (by rw [List.getElem?_set_ne (by omega)]; exact flat1 hx), set_same _ (i * 3 + 2) (Value.bool x.down) (by rw [List.getElem?_set_ne (by omega)]; exact flat2 hx)]
theorem flat_owed (u : Int) : lnkFlat (l.set i { x with owed := u }) = (lnkFlat l).set (i * 3 + 1) (iV u) := by
  rw [lnkFlat_set l i _ (List.getElem?_eq_some_iff.1 hx).1]
  dsimp only
  rw [set_same (lnkFlat l) (i * 3) (Value.bool x.up) (flat0 hx), set_same _ (i * 3 + 2) (Value.bool x.down) (by rw [List.getElem?_set_ne (by omega)]; exact flat2 hx)]
theorem flat_down (u : Bool) : lnkFlat (l.set i { x with down := u }) = (lnkFlat l).set (i * 3 + 2) (.bool u) := by
  rw [lnkFlat_set l i _ (List.getElem?_eq_some_iff.1 hx).1]
  dsimp only
  rw [set_same (lnkFlat l) (i * 3) (Value.bool x.up) (flat0 hx), set_same _ (i * 3 + 1) (iV x.owed) (flat1 hx)]
end

theorem shk_heap_same {w : World} {b o : Nat} {T : TypeId} {fr : Nat × Nat} {c : List Value} (h : w.heap[b]? = some (.cells c.toArray T fr)) (v : Value) : (w.setCell ⟨b, o, none⟩ v).heap[b]? = some (.cells (c.set o v).toArray T fr) := by
  simp only [World.setCell, Array.getElem?_modify, if_true, h, Option.map_some]
  simp

section
variable {tS tL : TypeId} {w : World} {p g : Nat} {s : Shk} (h : ShkAt tS tL w p g s) {i : Nat} {x : Lnk} (hx : s.l[i]? = some x)
include h hx
theorem ShkAt.c0 : w.cell? ⟨g, i * 3, none⟩ = some (.bool x.up) := by rw [cell_of_block h.hg]; simpa using flat0 hx
theorem ShkAt.c1 : w.cell? ⟨g, i * 3 + 1, none⟩ = some (iV x.owed) := by rw [cell_of_block h.hg]; simpa using flat1 hx
theorem ShkAt.c2 : w.cell? ⟨g, i * 3 + 2, none⟩ = some (.bool x.down) := by rw [cell_of_block h.hg]; simpa using flat2 hx
theorem ShkAt.setUp (u : Bool) : ShkAt tS tL (w.setCell ⟨g, i * 3, none⟩ (.bool u)) p g { s with l := s.l.set i { x with up := u } } :=
  ⟨by rw [Below.heap_setCell _ _ _ _ h.ne, h.hp]; simp, by show _ = some (Obj.cells (lnkFlat (s.l.set i { x with up := u })).toArray _ _); rw [flat_up hx]; exact shk_heap_same h.hg _, h.ne⟩
theorem ShkAt.setOwed (u : Int) : ShkAt tS tL (w.setCell ⟨g, i * 3 + 1, none⟩ (iV u)) p g { s with l := s.l.set i { x with owed := u } } :=
  ⟨by rw [Below.heap_setCell _ _ _ _ h.ne, h.hp]; simp, by show _ = some (Obj.cells (lnkFlat (s.l.set i { x with owed := u })).toArray _ _); rw [flat_owed hx]; exact shk_heap_same h.hg _, h.ne⟩
theorem ShkAt.setDown (u : Bool) : ShkAt tS tL (w.setCell ⟨g, i * 3 + 2, none⟩ (.bool u)) p g { s with l := s.l.set i { x with down := u } } :=
  ⟨by rw [Below.heap_setCell _ _ _ _ h.ne, h.hp]; simp, by show _ = some (Obj.cells (lnkFlat (s.l.set i { x with down := u })).toArray _ _); rw [flat_down hx]; exact shk_heap_same h.hg _, h.ne⟩
end

theorem set_get {α : Type} {l : List α} {i : Nat} {x : α} (hx : l[i]? = some x) (y : α) : (l.set i y)[i]? = some y := by
  rw [List.getElem?_set, if_pos rfl, if_pos (List.getElem?_eq_some_iff.1 hx).1]
theorem ShkAt.setAll {tS tL : TypeId} {w : World} {p g : Nat} {s : Shk} (h : ShkAt tS tL w p g s) {i : Nat} {x : Lnk} (hx : s.l[i]? = some x) (u : Bool) (o : Int) (d : Bool) :
    ShkAt tS tL (((w.setCell ⟨g, i * 3, none⟩ (.bool u)).setCell ⟨g, i * 3 + 1, none⟩ (iV o)).setCell ⟨g, i * 3 + 2, none⟩ (.bool d)) p g { s with l := s.l.set i { up := u, owed := o, down := d } } := by
  have h1 := h.setUp hx u
  have h2 := h1.setOwed (x := { x with up := u }) (set_get hx _) o
  have h3 := h2.setDown (x := { x with up := u, owed := o }) (set_get (set_get hx { x with up := u }) _) d
  simp only [List.set_set] at h3
  exact h3

/-- its own cells, in the walk's spelling. -/
theorem ShkAt.head {tS tL : TypeId} {w : World} {p g : Nat} {s : Shk} (h : ShkAt tS tL w p g s) :
    w.cell? ⟨p, 0, none⟩ = some (.slice (some ⟨g, 0, none⟩) s.l.length s.l.length) ∧ w.cell? ⟨p, 1, none⟩ = some (.bool s.session) ∧ w.cell? ⟨p, 2, none⟩ = some (.bool s.alone) := by
  refine ⟨?_, ?_, ?_⟩ <;> rw [cell_of_block h.hp] <;> rfl
theorem ShkAt.fz {tS tL : TypeId} {w : World} {p g : Nat} {s : Shk} (h : ShkAt tS tL w p g s) : (∀ o, w.frozen? ⟨p, o, none⟩ = false) ∧ (∀ o, w.frozen? ⟨g, o, none⟩ = false) :=
  ⟨fun o => frozen_of_block h.hp o, fun o => frozen_of_block h.hg o⟩
theorem ShkAt.setSession {tS tL : TypeId} {w : World} {p g : Nat} {s : Shk} (h : ShkAt tS tL w p g s) (b : Bool) : ShkAt tS tL (w.setCell ⟨p, 1, none⟩ (.bool b)) p g { s with session := b } :=
  ⟨by have := shk_heap_same (o := 1) (c := [.slice (some ⟨g, 0, none⟩) s.l.length s.l.length, .bool s.session, .bool s.alone]) h.hp (.bool b); exact this, by rw [Below.heap_setCell _ _ _ _ h.ne.symm]; exact h.hg, h.ne⟩
theorem ShkAt.setAlone {tS tL : TypeId} {w : World} {p g : Nat} {s : Shk} (h : ShkAt tS tL w p g s) (b : Bool) : ShkAt tS tL (w.setCell ⟨p, 2, none⟩ (.bool b)) p g { s with alone := b } :=
  ⟨by have := shk_heap_same (o := 2) (c := [.slice (some ⟨g, 0, none⟩) s.l.length s.l.length, .bool s.session, .bool s.alone]) h.hp (.bool b); exact this, by rw [Below.heap_setCell _ _ _ _ h.ne.symm]; exact h.hg, h.ne⟩

/-- notes that a call has told: a value that owns their cells. -/
abbrev Told (T : TypeId) (w : World) (base : Nat) (v : Value) (ns : List Tn) : Prop := w.ownsRow base T 11 v ns.length (ns.flatMap tnList)
theorem own_lit {w : World} {base g : Nat} {e : TypeId} {size n : Nat} {xs : List Value} (h : w.heap[g]? = some (.cells xs.toArray e (0, 0))) (hb : base ≤ g) (hl : xs.length = n * size) (hm : n ≤ maxLen) : w.ownsRow base e size (.slice (some ⟨g, 0, none⟩) n n) n xs :=
  ⟨hl, Or.inr ⟨g, n, xs.toArray, rfl, hb, h, Nat.le_refl _, hm, by simp [hl], by rw [List.take_of_length_le (by simp [hl])]⟩⟩
theorem own_step {w w' : World} {base : Nat} {e : TypeId} {size : Nat} {v : Value} {n : Nat} {xs : List Value} (h : w.ownsRow base e size v n xs) (hB : Below w.heap.size w w') : w'.ownsRow base e size v n xs := by
  obtain ⟨hl, hn | ⟨g, cap, cur, hv, hb, hg, rest⟩⟩ := h
  · exact ⟨hl, Or.inl hn⟩
  · exact ⟨hl, Or.inr ⟨g, cap, cur, hv, hb, by rw [hB.block _ (block_lt hg)]; exact hg, rest⟩⟩
theorem own_off {w w' : World} {base : Nat} {e : TypeId} {size : Nat} {v : Value} {n : Nat} {xs : List Value} {ks : List Nat} (h : w.ownsRow base e size v n xs) (hB : Off ks w w') (hk : ∀ k, k ∈ ks → v.ownBlock ≠ some k) : w'.ownsRow base e size v n xs := by
  obtain ⟨hl, hn | ⟨g, cap, cur, hv, hb, hg, rest⟩⟩ := h
  · exact ⟨hl, Or.inl hn⟩
  · refine ⟨hl, Or.inr ⟨g, cap, cur, hv, hb, ?_, rest⟩⟩
    rw [hB.block _ (block_lt hg) (fun hm => hk g hm (by rw [hv]; rfl))]; exact hg
theorem own_mono {w : World} {base base' : Nat} {e : TypeId} {size : Nat} {v : Value} {n : Nat} {xs : List Value} (h : w.ownsRow base e size v n xs) (hb : base' ≤ base) : w.ownsRow base' e size v n xs := by
  obtain ⟨hl, hn | ⟨g, cap, cur, hv, hg, rest⟩⟩ := h
  · exact ⟨hl, Or.inl hn⟩
  · exact ⟨hl, Or.inr ⟨g, cap, cur, hv, Nat.le_trans hb hg, rest⟩⟩
theorem own_ge {w : World} {base : Nat} {e : TypeId} {size : Nat} {v : Value} {n : Nat} {xs : List Value} (h : w.ownsRow base e size v n xs) : ∀ k, v.ownBlock = some k → base ≤ k := by
  intro k hk
  obtain ⟨_, ⟨rfl, _⟩ | ⟨g, cap, cur, rfl, hg, _⟩⟩ := h
  · cases hk
  · injection hk with hk; subst hk; exact hg
theorem news_block {w : World} {b : Nat} {T : TypeId} {fr : Nat × Nat} {l : List Value} (h : w.heap[b]? = some (.cells l.toArray T fr)) : ∀ j u, l[j]? = some u → w.cell? (Addr.add ⟨b, 0, none⟩ j) = some u := by
  intro j u hj
  have ea : (Addr.add ⟨b, 0, none⟩ j) = ⟨b, j, none⟩ := by unfold Addr.add; by_cases h : j = 0 <;> simp [h]
  rw [ea, cell_of_block h]; simpa using hj
theorem one_tn (t : Tn) : ∀ u ∈ tnList t, u.oneCell' = true := by
  intro u hu
  simp only [tnList, List.mem_cons, List.not_mem_nil, or_false] at hu
  rcases hu with h | h | h | h | h | h | h | h | h | h | h <;> (rw [h]; rfl)
end Go.Proofs.YtpglhnbekpafeaaDoor
