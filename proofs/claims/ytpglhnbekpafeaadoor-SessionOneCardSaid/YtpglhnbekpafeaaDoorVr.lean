/-
  Memory of SessionOne: two sessions, what each has said.
-/
import Derived.Test.YtpglhnbekpafeaaDoorQu
import Derived.Test.YtpglhnbekpafeaaDoorVf
import Derived.Test.YtpglhnbekpafeaaDoorVq
namespace Go.Proofs.YtpglhnbekpafeaaDoor
set_option linter.unusedVariables false
set_option linter.unusedSimpArgs false
open Go Go.RowKit

theorem pktInfo : ∃ i : TypeInfo, Tryd.prog.info? 36 = some i ∧ i.zero = some (.agg #[.int .i64 0, .int .i64 0, .int .i64 0, .int .i64 0, .int .i64 0, .int .u8 0, .int .u8 0, .int .u8 0, .int .u8 0, .int .u8 0, .int .u8 0, .int .i64 0, .int .i64 0, .slice none 0 0]) ∧ i.size = 14 ∧ i.bytes = 88 :=
  info_parts (by kernel_rfl)
def pktFlat (q : List Pkt) : List Value := q.flatMap pktList
theorem pktFlat_snoc (q : List Pkt) (x : Pkt) : pktFlat (q ++ [x]) = pktFlat q ++ pktList x := by simp [pktFlat]
theorem pktFlat_get : ∀ (l : List Pkt) (i : Nat) (x : Pkt), l[i]? = some x → ∀ j v, (pktList x)[j]? = some v → (pktFlat l)[i * 14 + j]? = some v := by
  intro l
  induction l with
  | nil => intro i x h; simp at h
  | cons y r ih =>
    intro i x h j v hv
    have e : pktFlat (y :: r) = pktList y ++ pktFlat r := rfl
    rw [e]
    cases i with
    | zero =>
      simp at h; subst h
      rw [List.getElem?_append_left (by simpa using (List.getElem?_eq_some_iff.1 hv).1)]
      simpa using hv
    | succ i =>
      rw [List.getElem?_append_right (by simp; omega)]
      have := ih i x (by simpa using h) j v hv
      rw [show (i + 1) * 14 + j - (pktList y).length = i * 14 + j by simp; omega]
      exact this
theorem one_pkt (x : Pkt) : ∀ u ∈ pktList x, u.oneCell' = true := by
  intro u hu
  simp only [pktList, List.mem_cons, List.not_mem_nil, or_false] at hu
  rcases hu with h | h | h | h | h | h | h | h | h | h | h | h | h | h <;> (rw [h]; rfl)

/-- one of the two, and what it has said. -/
structure Side where
  p : Nat
  s : Ses
  v : Value
  q : List Pkt
structure NetS (w : World) (base bx bw i j : Nat) (A B : Side) : Prop where
  sa : SesAt w A.p A.s
  sb : SesAt w B.p B.s
  xa : w.cell? ⟨bx, i, none⟩ = some (.pointer (some ⟨A.p, 0, none⟩))
  xb : w.cell? ⟨bx, j, none⟩ = some (.pointer (some ⟨B.p, 0, none⟩))
  ca : w.cell? ⟨bw, i, none⟩ = some A.v
  cb : w.cell? ⟨bw, j, none⟩ = some B.v
  fa : w.frozen? ⟨bw, i, none⟩ = false
  fb : w.frozen? ⟨bw, j, none⟩ = false
  ij : i ≠ j
  qa : qRow w base 36 14 A.v A.q.length (pktFlat A.q)
  qb : qRow w base 36 14 B.v B.q.length (pktFlat B.q)
  lo : base ≤ A.p ∧ base ≤ B.p ∧ base ≤ bx ∧ base ≤ bw
  ap : A.p ≠ B.p ∧ (bx ≠ A.p ∧ bx ≠ B.p) ∧ (bw ≠ A.p ∧ bw ≠ B.p) ∧ bx ≠ bw
  va : ∀ k, A.v.ownBlock = some k → (k ≠ A.p ∧ k ≠ B.p) ∧ k ≠ bx ∧ k ≠ bw ∧ B.v.ownBlock ≠ some k
  vb : ∀ k, B.v.ownBlock = some k → (k ≠ A.p ∧ k ≠ B.p) ∧ k ≠ bx ∧ k ≠ bw ∧ A.v.ownBlock ≠ some k

section
variable {w : World} {base bx bw i j : Nat} {A B : Side}
theorem NetS.swap (h : NetS w base bx bw i j A B) : NetS w base bx bw j i B A where
  sa := h.sb
  sb := h.sa
  xa := h.xb
  xb := h.xa
  ca := h.cb
  cb := h.ca
  fa := h.fb
  fb := h.fa
  ij := h.ij.symm
  qa := h.qb
  qb := h.qa
  lo := ⟨h.lo.2.1, h.lo.1, h.lo.2.2⟩
  ap := by
    obtain ⟨a1, ⟨b1, b2⟩, ⟨c1, c2⟩, d⟩ := h.ap
    exact ⟨a1.symm, ⟨b2, b1⟩, ⟨c2, c1⟩, d⟩
  va := fun k hk => by
    obtain ⟨⟨a1, a2⟩, r⟩ := h.vb k hk
    exact ⟨⟨a2, a1⟩, r⟩
  vb := fun k hk => by
    obtain ⟨⟨a1, a2⟩, r⟩ := h.va k hk
    exact ⟨⟨a2, a1⟩, r⟩
theorem NetS.ltx (h : NetS w base bx bw i j A B) : bx < w.heap.size ∧ bw < w.heap.size := ⟨World.block_lt_of_cell? w _ h.xa, World.block_lt_of_cell? w _ h.ca⟩
theorem NetS.below (h : NetS w base bx bw i j A B) : base ≤ w.heap.size := by have := h.ltx.2; have := h.lo.2.2.2; omega
theorem NetS.step {w' : World} (h : NetS w base bx bw i j A B) (hB : Below w.heap.size w w') : NetS w' base bx bw i j A B where
  sa := h.sa.step hB
  sb := h.sb.step hB
  xa := by rw [hB.cell (p := ⟨bx, i, none⟩) h.ltx.1]; exact h.xa
  xb := by rw [hB.cell (p := ⟨bx, j, none⟩) h.ltx.1]; exact h.xb
  ca := by rw [hB.cell (p := ⟨bw, i, none⟩) h.ltx.2]; exact h.ca
  cb := by rw [hB.cell (p := ⟨bw, j, none⟩) h.ltx.2]; exact h.cb
  fa := by rw [hB.frozen (p := ⟨bw, i, none⟩) h.ltx.2]; exact h.fa
  fb := by rw [hB.frozen (p := ⟨bw, j, none⟩) h.ltx.2]; exact h.fb
  ij := h.ij
  qa := h.qa.step hB
  qb := h.qb.step hB
  lo := h.lo
  ap := h.ap
  va := h.va
  vb := h.vb
/-- a session is turned. -/
theorem NetS.turn {w' : World} {s' : Ses} (h : NetS w base bx bw i j A B) (hs : SesAt w' A.p s') (ho : Off [A.p] w w') : NetS w' base bx bw i j { A with s := s' } B := by
  obtain ⟨a1, ⟨b1, b2⟩, ⟨c1, c2⟩, d⟩ := h.ap
  exact {
    sa := hs
    sb := h.sb.off ho (by simp; exact a1.symm)
    xa := by rw [ho.cell (p := ⟨bx, i, none⟩) h.ltx.1 (by simp; exact b1)]; exact h.xa
    xb := by rw [ho.cell (p := ⟨bx, j, none⟩) h.ltx.1 (by simp; exact b1)]; exact h.xb
    ca := by rw [ho.cell (p := ⟨bw, i, none⟩) h.ltx.2 (by simp; exact c1)]; exact h.ca
    cb := by rw [ho.cell (p := ⟨bw, j, none⟩) h.ltx.2 (by simp; exact c1)]; exact h.cb
    fa := by rw [World.frozen?_of_block (w := w) (ho.block bw h.ltx.2 (by simp; exact c1))]; exact h.fa
    fb := by rw [World.frozen?_of_block (w := w) (ho.block bw h.ltx.2 (by simp; exact c1))]; exact h.fb
    ij := h.ij
    qa := h.qa.off ho (fun k hk e => by simp at hk; subst hk; exact (h.va _ e).1.1 rfl)
    qb := h.qb.off ho (fun k hk e => by simp at hk; subst hk; exact (h.vb _ e).1.1 rfl)
    lo := h.lo
    ap := h.ap
    va := h.va
    vb := h.vb }
/-- something more is said by A. -/
theorem NetS.push {w1 : World} {g off cap : Nat} {x : Pkt} (h : NetS w base bx bw i j A B)
    (hq : qRow w1 base 36 14 (.slice (some ⟨g, off, none⟩) (A.q.length + 1) cap) (A.q.length + 1) (pktFlat A.q ++ pktList x)) (hg : w.grownBy w1 A.v.ownBlock) (hat : A.v.ownBlock = some g ∨ g = w.heap.size) :
    NetS (w1.setCell ⟨bw, i, none⟩ (.slice (some ⟨g, off, none⟩) (A.q.length + 1) cap)) base bx bw i j { A with v := .slice (some ⟨g, off, none⟩) (A.q.length + 1) cap, q := A.q ++ [x] } B := by
  have hlt := h.ltx
  have hla := h.sa.lt
  have hlb := h.sb.lt
  have hva := h.va
  have far : ∀ b, b < w.heap.size → (∀ k, A.v.ownBlock = some k → k ≠ b) → w1.heap[b]? = w.heap[b]? := fun b hb hn => hg.block b hb (fun e => hn b e.symm rfl)
  have ho : Off [bw] w1 (w1.setCell ⟨bw, i, none⟩ (.slice (some ⟨g, off, none⟩) (A.q.length + 1) cap)) := (Off.refl _ _).setCell (by simp) _
  obtain ⟨a1, ⟨b1, b2⟩, ⟨c1, c2⟩, d⟩ := h.ap
  have hbx := far bx hlt.1 (fun k hk => (hva k hk).2.1)
  have hbw := far bw hlt.2 (fun k hk => (hva k hk).2.2.1)
  have hgn : (g ≠ A.p ∧ g ≠ B.p) ∧ g ≠ bx ∧ g ≠ bw ∧ B.v.ownBlock ≠ some g := by
    rcases hat with hat | rfl
    · exact hva g hat
    · exact ⟨⟨by omega, by omega⟩, by omega, by omega, fun e => by have := (h.qb.lt _ e).2; omega⟩
  have sa1 : SesAt w1 A.p A.s := by unfold SesAt; rw [far _ hla (fun k hk => (hva k hk).1.1)]; exact h.sa
  have sb1 : SesAt w1 B.p B.s := by unfold SesAt; rw [far _ hlb (fun k hk => (hva k hk).1.2)]; exact h.sb
  have hne : (⟨bw, i, none⟩ : Addr) ≠ ⟨bw, j, none⟩ := by intro e; injection e with _ e _; exact h.ij e
  have hc : (w1.cell? ⟨bw, i, none⟩).isSome = true := by rw [World.cell?_of_block (w := w) hbw, h.ca]; rfl
  have hb1 : bx < w1.heap.size ∧ bw < w1.heap.size := ⟨Nat.lt_of_lt_of_le hlt.1 hg.size, Nat.lt_of_lt_of_le hlt.2 hg.size⟩
  exact {
    sa := sa1.off ho (by simp; exact c1.symm)
    sb := sb1.off ho (by simp; exact c2.symm)
    xa := by rw [ho.cell (p := ⟨bx, i, none⟩) hb1.1 (by simp; exact d), World.cell?_of_block (w := w) hbx]; exact h.xa
    xb := by rw [ho.cell (p := ⟨bx, j, none⟩) hb1.1 (by simp; exact d), World.cell?_of_block (w := w) hbx]; exact h.xb
    ca := World.cell?_setCell_same' _ _ _ hc
    cb := by rw [World.cell?_setCell_other (h := hne), World.cell?_of_block (w := w) hbw]; exact h.cb
    fa := by rw [World.frozen?_setCell, World.frozen?_of_block (w := w) hbw]; exact h.fa
    fb := by rw [World.frozen?_setCell, World.frozen?_of_block (w := w) hbw]; exact h.fb
    ij := h.ij
    qa := by
      have := hq.off ho (fun k hk e => by simp at hk; subst hk; injection e with e; exact hgn.2.2.1 e)
      show qRow _ base 36 14 _ (A.q ++ [x]).length (pktFlat (A.q ++ [x]))
      rw [pktFlat_snoc, List.length_append]; exact this
    qb := (h.qb.kept hg (fun k hk e => (h.vb k hk).2.2.2 e)).off ho (fun k hk e => by simp at hk; subst hk; exact (h.vb _ e).2.2.1 rfl)
    lo := h.lo
    ap := h.ap
    va := fun k hk => by injection hk with hk; subst hk; exact hgn
    vb := fun k hk => by
      obtain ⟨r1, r2, r3, r4⟩ := h.vb k hk
      exact ⟨r1, r2, r3, fun e => by (have e' : g = k := by injection e); subst e'; exact hgn.2.2.2 hk⟩ }
end
theorem NetS.new {w : World} {base p p' : Nat} {T T' : TypeId} {s s' : Ses} (h : SesAt w p s) (h' : SesAt w p' s') (hlo : base ≤ p ∧ base ≤ p') (hap : p ≠ p') :
    NetS ((w.alloc (.cells #[.pointer (some ⟨p, 0, none⟩), .pointer (some ⟨p', 0, none⟩)] T)).alloc (.cells #[.slice none 0 0, .slice none 0 0] T')) base w.heap.size (w.heap.size + 1) 0 1 ⟨p, s, .slice none 0 0, []⟩ ⟨p', s', .slice none 0 0, []⟩ := by
  have hB : Below w.heap.size w ((w.alloc (.cells #[.pointer (some ⟨p, 0, none⟩), .pointer (some ⟨p', 0, none⟩)] T)).alloc (.cells #[.slice none 0 0, .slice none 0 0] T')) := ((Below.refl _ _).alloc (Nat.le_refl _) _).alloc (by simp) _
  have l1 := h.lt
  have l2 := h'.lt
  have c1 : ((w.alloc (.cells #[.pointer (some ⟨p, 0, none⟩), .pointer (some ⟨p', 0, none⟩)] T)).alloc (.cells #[.slice none 0 0, .slice none 0 0] T')).heap[w.heap.size]? = some (.cells #[.pointer (some ⟨p, 0, none⟩), .pointer (some ⟨p', 0, none⟩)] T (0, 0)) := by
    rw [heap_alloc_old _ _ (by simp)]; exact heap_alloc_new w _
  have c2 : ((w.alloc (.cells #[.pointer (some ⟨p, 0, none⟩), .pointer (some ⟨p', 0, none⟩)] T)).alloc (.cells #[.slice none 0 0, .slice none 0 0] T')).heap[w.heap.size + 1]? = some (.cells #[.slice none 0 0, .slice none 0 0] T' (0, 0)) := by
    have := heap_alloc_new (w.alloc (.cells #[.pointer (some ⟨p, 0, none⟩), .pointer (some ⟨p', 0, none⟩)] T)) (.cells #[.slice none 0 0, .slice none 0 0] T')
    simpa using this
  exact {
    sa := h.step hB
    sb := h'.step hB
    xa := by rw [cell_of_block c1]; rfl
    xb := by rw [cell_of_block c1]; rfl
    ca := by rw [cell_of_block c2]; rfl
    cb := by rw [cell_of_block c2]; rfl
    fa := frozen_of_block c2 0
    fb := frozen_of_block c2 1
    ij := by decide
    qa := qRow_nil _ _ _ _
    qb := qRow_nil _ _ _ _
    lo := by dsimp only; omega
    ap := by dsimp only; omega
    va := fun k hk => by cases hk
    vb := fun k hk => by cases hk }
def OneW (w : World) (base bx bw x y : Nat) (N : Int) : Prop := ∃ A B, NetS w base bx bw 0 1 A B ∧ OneInv A.s B.s A.q B.q N ∧ A.p = x ∧ B.p = y
def Sits (k x y p q : Nat) : Prop := (k = 0 ∧ p = x ∧ q = y) ∨ (k = 1 ∧ p = y ∧ q = x)
theorem OneW.view {w : World} {base bx bw x y : Nat} {N : Int} (h : OneW w base bx bw x y N) (k : Nat) (hk : k < 2) : ∃ o P Q, k + o = 1 ∧ NetS w base bx bw k o P Q ∧ OneInv P.s Q.s P.q Q.q N ∧ Sits k x y P.p Q.p := by
  obtain ⟨A, B, hn, hr, h1, h2⟩ := h
  rcases (by omega : k = 0 ∨ k = 1) with rfl | rfl
  · exact ⟨1, A, B, rfl, hn, hr, .inl ⟨rfl, h1, h2⟩⟩
  · exact ⟨0, B, A, rfl, hn.swap, hr.swap, .inr ⟨rfl, h2, h1⟩⟩
theorem OneW.back {w : World} {base bx bw x y k o : Nat} {N : Int} {P Q : Side} (hn : NetS w base bx bw k o P Q) (hko : k + o = 1) (hr : OneInv P.s Q.s P.q Q.q N) (hs : Sits k x y P.p Q.p) : OneW w base bx bw x y N := by
  rcases hs with ⟨rfl, h1, h2⟩ | ⟨rfl, h1, h2⟩
  · obtain rfl : o = 1 := by omega
    exact ⟨P, Q, hn, hr, h1, h2⟩
  · obtain rfl : o = 0 := by omega
    exact ⟨Q, P, hn.swap, hr.swap, h2, h1⟩
theorem OneW.step {w w' : World} {base bx bw x y : Nat} {N : Int} (h : OneW w base bx bw x y N) (hB : Below w.heap.size w w') : OneW w' base bx bw x y N := by
  obtain ⟨A, B, hn, hr⟩ := h
  exact ⟨A, B, hn.step hB, hr⟩

theorem NetS.push_cell {w w1 : World} {base bx bw i j : Nat} {A B : Side} {o : Obj} (h : NetS w base bx bw i j A B) (hg : (w.alloc o).grownBy w1 A.v.ownBlock) : w1.cell? ⟨bw, i, none⟩ = some A.v ∧ w1.frozen? ⟨bw, i, none⟩ = false := by
  have h1 := h.step ((Below.refl _ _).alloc (Nat.le_refl _) o)
  have hb : w1.heap[bw]? = (w.alloc o).heap[bw]? := hg.block bw h1.ltx.2 (fun e => (h1.va bw e.symm).2.2.1 rfl)
  exact ⟨by rw [World.cell?_of_block (a := ⟨bw, i, none⟩) hb]; exact h1.ca, by rw [World.frozen?_of_block (a := ⟨bw, i, none⟩) hb]; exact h1.fa⟩
theorem one_say {w w1 : World} {base bx bw x y k o n1 g off cap : Nat} {N : Int} {P Q : Side} {ob : Obj} (h : NetS w base bx bw k o P Q) (hko : k + o = 1) (hi : OneInv P.s Q.s P.q Q.q N) (hs : Sits k x y P.p Q.p) (hN : 0 ≤ N) (hn : n1 = P.q.length)
    (hq : qRow w1 base 36 14 (.slice (some ⟨g, off, none⟩) (n1 + 1) cap) (n1 + 1) (pktFlat P.q ++ pktList P.s.hello)) (hg : (w.alloc ob).grownBy w1 P.v.ownBlock) (hat : P.v.ownBlock = some g ∨ g = w.heap.size + 1) :
    OneW (w1.setCell ⟨bw, k, none⟩ (.slice (some ⟨g, off, none⟩) (n1 + 1) cap)) base bx bw x y (N + 1) ∧ Below base w (w1.setCell ⟨bw, k, none⟩ (.slice (some ⟨g, off, none⟩) (n1 + 1) cap)) := by
  subst hn
  have h1 := h.step ((Below.refl _ _).alloc (Nat.le_refl _) ob)
  have hp := h1.push (x := P.s.hello) hq hg (by rcases hat with e | e; exact .inl e; exact .inr (by rw [e]; simp))
  constructor
  · exact OneW.back hp hko (hi.say hN) hs
  · have hb0 := h.below
    have b1 : Below base w (w.alloc ob) := (Below.refl _ _).alloc hb0 _
    have b2 : Below base (w.alloc ob) w1 := ⟨hg.os, hg.tape, hg.output, hg.size, fun m hm => hg.block m (by simp; omega) (fun e => by have := (h.qa.lt m e.symm).1; omega)⟩
    exact (b1.trans b2).setCell h.lo.2.2.2 _
theorem one_turn {w w1 : World} {base bx bw x y k o : Nat} {N : Int} {P Q : Side} {s' : Ses} (h : NetS w base bx bw k o P Q) (hko : k + o = 1) (hi : OneInv s' Q.s P.q Q.q N) (hs : Sits k x y P.p Q.p) (hs' : SesAt w1 P.p s') (ho : Off [P.p] w w1) :
    OneW w1 base bx bw x y N ∧ Below base w w1 :=
  ⟨OneW.back (h.turn hs' ho) hko hi hs, ho.toBelow h.below (by have := h.lo.1; simp; exact this)⟩
/-- a packet, cell by cell. -/
abbrev PktAt (w : World) (g o : Nat) (p : Pkt) : Prop :=
  w.cell? ⟨g, o, none⟩ = some (iV p.epoch) ∧ w.cell? ⟨g, o + 1, none⟩ = some (iV p.seq) ∧ w.cell? ⟨g, o + 2, none⟩ = some (iV p.ack) ∧ w.cell? ⟨g, o + 3, none⟩ = some (iV p.note.kind) ∧ w.cell? ⟨g, o + 4, none⟩ = some (iV p.note.vlan) ∧
  w.cell? ⟨g, o + 5, none⟩ = some (bV p.note.mac.a) ∧ w.cell? ⟨g, o + 6, none⟩ = some (bV p.note.mac.b) ∧ w.cell? ⟨g, o + 7, none⟩ = some (bV p.note.mac.c) ∧ w.cell? ⟨g, o + 8, none⟩ = some (bV p.note.mac.d) ∧ w.cell? ⟨g, o + 9, none⟩ = some (bV p.note.mac.e) ∧ w.cell? ⟨g, o + 10, none⟩ = some (bV p.note.mac.f) ∧
  w.cell? ⟨g, o + 11, none⟩ = some (iV p.note.port) ∧ w.cell? ⟨g, o + 12, none⟩ = some (iV p.note.state) ∧ w.cell? ⟨g, o + 13, none⟩ = some (.slice p.note.ba p.note.bl p.note.bc)
theorem pktAt_mk {w : World} {g o : Nat} {p : Pkt} (h : ∀ j u, (pktList p)[j]? = some u → w.cell? ⟨g, o + j, none⟩ = some u) : PktAt w g o p :=
  ⟨h 0 _ rfl, h 1 _ rfl, h 2 _ rfl, h 3 _ rfl, h 4 _ rfl, h 5 _ rfl, h 6 _ rfl, h 7 _ rfl, h 8 _ rfl, h 9 _ rfl, h 10 _ rfl, h 11 _ rfl, h 12 _ rfl, h 13 _ rfl⟩
theorem pktAt_of {w : World} {g o : Nat} {p : Pkt} (h : PktAt w g o p) : ∀ j u, (pktList p)[j]? = some u → w.cell? ⟨g, o + j, none⟩ = some u := by
  obtain ⟨c0, c1, c2, c3, c4, c5, c6, c7, c8, c9, c10, c11, c12, c13⟩ := h
  intro j u hu
  match j, hu with
  | 0, hu => injection hu with hu; subst hu; exact c0
  | 1, hu => injection hu with hu; subst hu; exact c1
  | 2, hu => injection hu with hu; subst hu; exact c2
  | 3, hu => injection hu with hu; subst hu; exact c3
  | 4, hu => injection hu with hu; subst hu; exact c4
  | 5, hu => injection hu with hu; subst hu; exact c5
  | 6, hu => injection hu with hu; subst hu; exact c6
  | 7, hu => injection hu with hu; subst hu; exact c7
  | 8, hu => injection hu with hu; subst hu; exact c8
  | 9, hu => injection hu with hu; subst hu; exact c9
  | 10, hu => injection hu with hu; subst hu; exact c10
  | 11, hu => injection hu with hu; subst hu; exact c11
  | 12, hu => injection hu with hu; subst hu; exact c12
  | 13, hu => injection hu with hu; subst hu; exact c13
  | j + 14, hu => simp at hu
theorem pktAt_off {w w' : World} {g o : Nat} {p : Pkt} {ks : List Nat} (h : PktAt w g o p) (ho : Off ks w w') (hg : g ∉ ks) : PktAt w' g o p := by
  have hlt : g < w.heap.size := World.block_lt_of_cell? w _ h.1
  exact pktAt_mk fun j u hu => by rw [ho.cell (p := ⟨g, o + j, none⟩) hlt hg]; exact pktAt_of h j u hu
/-- what one has said, at a place. -/
theorem NetS.at_ {w : World} {base bx bw i j : Nat} {A B : Side} (h : NetS w base bx bw i j A B) {m : Nat} {p : Pkt} (hm : A.q[m]? = some p) : ∃ g off cap, A.v = .slice (some ⟨g, off, none⟩) A.q.length cap ∧ PktAt w g (off + m * 14) p ∧ (g ≠ A.p ∧ g ≠ B.p) ∧ g ≠ bx ∧ g ≠ bw ∧ g < w.heap.size := by
  have hqa := h.qa
  rcases hqa.form with ⟨_, hv⟩ | ⟨g, off, cap, hv, _, hlt⟩
  · have := (List.getElem?_eq_some_iff.1 hm).1
    omega
  · rw [hv] at hqa
    have hc := hqa.cells
    have hva := h.va g (by rw [hv]; rfl)
    refine ⟨g, off, cap, hv, pktAt_mk fun j u hu => ?_, hva.1, hva.2.1, hva.2.2.1, hlt⟩
    rw [Nat.add_assoc]
    exact hc _ u (pktFlat_get A.q m p hm j u hu)
end Go.Proofs.YtpglhnbekpafeaaDoor
