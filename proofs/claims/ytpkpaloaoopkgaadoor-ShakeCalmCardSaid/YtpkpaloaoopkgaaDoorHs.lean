/-
  What is told is put on the way, note for note.
-/
import Derived.Test.YtpkpaloaoopkgaaDoorHr
import Derived.Deep.RegionHeld3
namespace Go.Proofs.YtpkpaloaoopkgaaDoor
set_option linter.unusedVariables false
set_option linter.unusedSimpArgs false
open Go Go.RowKit

/-- the notes of a list are put on the way to B: behind k of them. -/
structure PushRel (w0 : World) (base bx bw i j : Nat) (A B : Side) (v : Value) (ns : List Tn) (wr : World) (k : Nat) (vb : Value) : Prop where
  net : NetAt wr base bx bw i j A { B with v := vb, q := B.q ++ (ns.take k).map noteItm }
  notes : NotesAt wr v ns
  far : ∀ m, v.ownBlock = some m → m ≠ bw ∧ m < wr.heap.size ∧ vb.ownBlock ≠ some m
  bel : Below base w0 wr

theorem PushRel.start {w0 wr : World} {base bx bw i j : Nat} {A B : Side} {v : Value} {ns : List Tn} {k0 : Nat} (h : NetAt wr base bx bw i j A B) (ht : Told 35 wr k0 v ns) (hk : bw < k0 ∧ ∀ m, B.v.ownBlock = some m → m < k0) (hb : Below base w0 wr) :
    PushRel w0 base bx bw i j A B v ns wr 0 B.v where
  net := by simpa using h
  notes := NotesAt.of_told ht
  far := fun m hm => by
    have h1 := own_ge ht m hm
    refine ⟨by have := hk.1; omega, (ht.lt m hm).2, fun e => by have := hk.2 m e; omega⟩
  bel := hb

theorem below_grown {base : Nat} {w w' : World} {row : Option Nat} (hg : w.grownBy w' row) (hr : ∀ k, row = some k → base ≤ k) (hb : base ≤ w.heap.size) : Below base w w' :=
  ⟨hg.os, hg.tape, hg.output, hg.size, fun k hk => hg.block k (by omega) (fun e => by have := hr k e.symm; omega)⟩

section
variable {w0 wr w1 : World} {base bx bw i j : Nat} {A B : Side} {v vb : Value} {ns : List Tn} {k g off cap : Nat} {t : Tn} {o : Obj}
theorem NetAt.below (h : NetAt wr base bx bw i j A B) : base ≤ wr.heap.size := by have := h.ltx.2; have := h.lo.2.2.2.2.2; omega
theorem step_ad (wr : World) (o : Obj) : Below wr.heap.size wr (wr.alloc o).drew := ((Below.refl _ _).alloc (Nat.le_refl _) o).drew
theorem NetAt.push_cell (h : NetAt wr base bx bw i j A B) (hg : ((wr.alloc o).drew).grownBy w1 B.v.ownBlock) :
    w1.cell? ⟨bw, j, none⟩ = some B.v ∧ w1.frozen? ⟨bw, j, none⟩ = false := by
  have h1 := h.step (step_ad wr o)
  have hb : w1.heap[bw]? = ((wr.alloc o).drew).heap[bw]? := hg.block bw h1.ltx.2 (fun e => (h1.vb bw e.symm).2.2.1 rfl)
  exact ⟨by rw [World.cell?_of_block (a := ⟨bw, j, none⟩) hb]; exact h1.cb, by rw [World.frozen?_of_block (a := ⟨bw, j, none⟩) hb]; exact h1.fb⟩
theorem take_snoc {ns : List Tn} {k : Nat} {t : Tn} (ht : ns[k]? = some t) : (ns.take (k + 1)).map noteItm = (ns.take k).map noteItm ++ [noteItm t] := by
  rw [List.take_add_one, ht]; simp
theorem PushRel.next (h : PushRel w0 base bx bw i j A B v ns wr k vb) (ht : ns[k]? = some t) {n : Nat} (hn : n = (B.q ++ (ns.take k).map noteItm).length)
    (hq : qRow w1 base 53 16 (.slice (some ⟨g, off, none⟩) (n + 1) cap) (n + 1) (itmFlat (B.q ++ (ns.take k).map noteItm) ++ itmList (noteItm t)))
    (hg : ((wr.alloc o).drew).grownBy w1 vb.ownBlock) (hat : vb.ownBlock = some g ∨ g = wr.heap.size + 1) :
    PushRel w0 base bx bw i j A B v ns (w1.setCell ⟨bw, j, none⟩ (.slice (some ⟨g, off, none⟩) (n + 1) cap)) (k + 1) (.slice (some ⟨g, off, none⟩) (n + 1) cap) := by
  subst hn
  have h1 := h.net.step (step_ad wr o)
  have hp := h1.push (x := noteItm t) hq hg (by rcases hat with e | e; exact .inl e; exact .inr (by rw [e]; simp))
  have hsz : wr.heap.size + 1 ≤ w1.heap.size := by have := hg.size; simpa using this
  have e1 : (B.q ++ (ns.take k).map noteItm) ++ [noteItm t] = B.q ++ (ns.take (k + 1)).map noteItm := by rw [take_snoc ht, List.append_assoc]
  refine ⟨?_, ?_, ?_, ?_⟩
  · rw [← e1]; exact hp
  · obtain ⟨a, c, hv, hc⟩ := h.notes
    refine ⟨a, c, hv, fun hn => ?_⟩
    obtain ⟨b, ha, hb, hcell⟩ := hc hn
    have hown : v.ownBlock = some b := by rw [hv, ha]; rfl
    obtain ⟨f1, f2, f3⟩ := h.far b hown
    refine ⟨b, ha, by simp; omega, fun i' t' hi' j' u hu => ?_⟩
    rw [World.cell?_setCell_far (h := fun e => f1 e.symm), World.cell?_of_block (a := ⟨b, i' * 11 + j', none⟩) (hg.block b (by simp; omega) (fun e => f3 e.symm)),
      (step_ad wr o).cell (p := ⟨b, i' * 11 + j', none⟩) hb]
    exact hcell i' t' hi' j' u hu
  · intro m hm
    obtain ⟨f1, f2, f3⟩ := h.far m hm
    refine ⟨f1, by simp; omega, fun e => ?_⟩
    have e' : g = m := by injection e
    subst e'
    rcases hat with e | e
    · exact f3 e
    · omega
  · have hlo := h.net.lo.2.2.2.2.2
    have hb0 := h.net.below
    have b1 : Below base wr (wr.alloc o).drew := (step_ad wr o).mono hb0
    have b2 : Below base (wr.alloc o).drew w1 := below_grown hg (fun m hm => (h1.qb.lt m hm).1) (by simp; omega)
    exact ((h.bel.trans b1).trans b2).setCell hlo _
end
end Go.Proofs.YtpkpaloaoopkgaaDoor
