/-
  ShakeCalm: memory of the law's own: the block of what members are, the start, the weight that falls.
-/
import Derived.Test.YtpkpaloaoopkgaaDoorCp
namespace Go.Proofs.YtpkpaloaoopkgaaDoor
set_option linter.unusedVariables false
set_option linter.unusedSimpArgs false
open Go Go.RowKit

/-- what members are: two rows of four. -/
def upAt (s : Shk) (l : Nat) : Bool := if l = 0 then false else ((s.l[l - 1]?).map Lnk.up).getD false
def isList (a b : Shk) : List Value := [.bool false, .bool (upAt a 1), .bool (upAt a 2), .bool (upAt a 3), .bool false, .bool (upAt b 1), .bool (upAt b 2), .bool (upAt b 3)]
def isObj (a b : Shk) : Obj := .cells (isList a b).toArray 57 (0, 0)

theorem NetAt.newC {w : World} {base p g p' g' : Nat} {T T' : TypeId} (h : ShkOk w p g (Shk.new 3)) (h' : ShkOk w p' g' (Shk.new 3)) (hlo : base ≤ p ∧ base ≤ g ∧ base ≤ p' ∧ base ≤ g') (hap : p ≠ p' ∧ p ≠ g' ∧ g ≠ p' ∧ g ≠ g') :
    NetAt (((w.alloc (.cells #[.pointer (some ⟨p, 0, none⟩), .pointer (some ⟨p', 0, none⟩)] T)).alloc (.cells #[.slice none 0 0, .slice none 0 0] T')).alloc (isObj (Shk.new 3) (Shk.new 3))) base w.heap.size (w.heap.size + 1) 0 1
      ⟨p, g, Shk.new 3, .slice none 0 0, [], w.heap.size + 2, isObj (Shk.new 3) (Shk.new 3)⟩ ⟨p', g', Shk.new 3, .slice none 0 0, [], w.heap.size + 2, isObj (Shk.new 3) (Shk.new 3)⟩ := by
  have l1 := h.lt
  have l2 := h'.lt
  generalize hw1 : w.alloc (.cells #[.pointer (some ⟨p, 0, none⟩), .pointer (some ⟨p', 0, none⟩)] T) = w1
  have b1 : Below w.heap.size w w1 := by rw [← hw1]; exact (Below.refl _ _).alloc (Nat.le_refl _) _
  have z1 : w1.heap.size = w.heap.size + 1 := by rw [← hw1]; simp
  have d1 : w1.heap[w.heap.size]? = some (.cells #[.pointer (some ⟨p, 0, none⟩), .pointer (some ⟨p', 0, none⟩)] T (0, 0)) := by rw [← hw1]; exact heap_alloc_new w _
  generalize hw2 : w1.alloc (.cells #[.slice none 0 0, .slice none 0 0] T') = w2
  have b2 : Below w1.heap.size w1 w2 := by rw [← hw2]; exact (Below.refl _ _).alloc (Nat.le_refl _) _
  have z2 : w2.heap.size = w.heap.size + 2 := by rw [← hw2]; simp [z1]
  have d2 : w2.heap[w.heap.size + 1]? = some (.cells #[.slice none 0 0, .slice none 0 0] T' (0, 0)) := by rw [← hw2, ← z1]; exact heap_alloc_new w1 _
  generalize hw3 : w2.alloc (isObj (Shk.new 3) (Shk.new 3)) = w3
  have b3 : Below w2.heap.size w2 w3 := by rw [← hw3]; exact (Below.refl _ _).alloc (Nat.le_refl _) _
  have c3 : w3.heap[w.heap.size + 2]? = some (isObj (Shk.new 3) (Shk.new 3)) := by rw [← hw3, ← z2]; exact heap_alloc_new w2 _
  have c2 : w3.heap[w.heap.size + 1]? = some (.cells #[.slice none 0 0, .slice none 0 0] T' (0, 0)) := by rw [b3.block _ (by omega)]; exact d2
  have c1 : w3.heap[w.heap.size]? = some (.cells #[.pointer (some ⟨p, 0, none⟩), .pointer (some ⟨p', 0, none⟩)] T (0, 0)) := by rw [b3.block _ (by omega), b2.block _ (by omega)]; exact d1
  have hB : Below w.heap.size w w3 := (b1.trans (b2.mono (by omega))).trans (b3.mono (by omega))
  exact {
    sa := h.step hB
    sb := h'.step hB
    xa := by rw [cell_of_block c1]; rfl
    xb := by rw [cell_of_block c1]; rfl
    ca := by rw [cell_of_block c2]; rfl
    cb := by rw [cell_of_block c2]; rfl
    fa := by unfold World.frozen?; rw [c2]; rfl
    fb := by unfold World.frozen?; rw [c2]; rfl
    ij := by decide
    qa := qRow_nil _ _ _ _
    qb := qRow_nil _ _ _ _
    lo := by dsimp only; omega
    ap := by dsimp only; omega
    va := fun k hk => by cases hk
    vb := fun k hk => by cases hk
    kk := ⟨rfl, rfl⟩
    ka := c3
    kp := by dsimp only; omega
    kv := ⟨fun e => (by cases e), fun e => (by cases e)⟩ }

section
variable {w : World} {base bx bw i j : Nat} {A B : Side}
/-- a store into the kept block. -/
theorem NetAt.setKept {c : Nat} {v : Value} {o : Obj} (h : NetAt w base bx bw i j A B) (ho : (w.setCell ⟨A.kb, c, none⟩ v).heap[A.kb]? = some o) :
    NetAt (w.setCell ⟨A.kb, c, none⟩ v) base bx bw i j { A with ko := o } { B with ko := o } := by
  have hof : Off [A.kb] w (w.setCell ⟨A.kb, c, none⟩ v) := (Off.refl _ _).setCell (by simp) _
  obtain ⟨⟨k1, k2, k3, k4⟩, k5, k6⟩ := h.kp
  exact {
    sa := h.sa.off hof (by simp; exact k1.symm) (by simp; exact k2.symm)
    sb := h.sb.off hof (by simp; exact k3.symm) (by simp; exact k4.symm)
    xa := by rw [hof.cell (p := ⟨bx, i, none⟩) h.ltx.1 (by simp; exact k5.symm)]; exact h.xa
    xb := by rw [hof.cell (p := ⟨bx, j, none⟩) h.ltx.1 (by simp; exact k5.symm)]; exact h.xb
    ca := by rw [hof.cell (p := ⟨bw, i, none⟩) h.ltx.2 (by simp; exact k6.symm)]; exact h.ca
    cb := by rw [hof.cell (p := ⟨bw, j, none⟩) h.ltx.2 (by simp; exact k6.symm)]; exact h.cb
    fa := by rw [setCell_frozen]; exact h.fa
    fb := by rw [setCell_frozen]; exact h.fb
    ij := h.ij
    qa := h.qa.off hof (fun k hk e => by simp at hk; subst hk; exact h.kv.1 e)
    qb := h.qb.off hof (fun k hk e => by simp at hk; subst hk; exact h.kv.2 e)
    lo := h.lo
    ap := h.ap
    va := h.va
    vb := h.vb
    kk := ⟨h.kk.1, rfl⟩
    ka := ho
    kp := h.kp
    kv := h.kv }
end
end Go.Proofs.YtpkpaloaoopkgaaDoor
