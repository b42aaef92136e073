/-
  Memory of the pair: two Shakes, what is on the way to each.
-/
import Derived.Test.YtpkpaloaoopkgaaDoorQu
import Derived.Test.YtpkpaloaoopkgaaDoorSOp
namespace Go.Proofs.YtpkpaloaoopkgaaDoor
set_option linter.unusedVariables false
set_option linter.unusedSimpArgs false
open Go Go.RowKit

theorem exec_loadItem (ρ d x ty pos af g w) : (execOp ρ ⟨d, .load 53 x, ty, pos, af, g⟩).run Tryd.prog w = ldRow Tryd.prog 53 16 (ρ x) w :=
  exec_load_row (fun w => by simp [go_sem]) (fun w => by simp [go_sem]) ρ d x ty pos af g w
theorem exec_storeItem (ρ d x y ty pos af g w) : (execOp ρ ⟨d, .store 53 x y, ty, pos, af, g⟩).run Tryd.prog w = stRow Tryd.prog 53 16 (ρ x) (ρ y) w :=
  exec_store_row (fun w => by simp [go_sem]) ρ d x y ty pos af g w
theorem itemInfo : ∃ i : TypeInfo, Tryd.prog.info? 53 = some i ∧ i.zero = some (.agg #[.int .i64 0, .int .i64 0, .int .u8 0, .int .u8 0, .int .u8 0, .int .u8 0, .int .u8 0, .int .u8 0, .int .i64 0, .int .i64 0, .slice none 0 0, .bool false, .bool false, .bool false, .bool false, .bool false]) ∧ i.size = 16 ∧ i.bytes = 72 :=
  info_parts (by kernel_rfl)

def itmFlat (q : List Itm) : List Value := q.flatMap itmList
theorem itmFlat_cons (x : Itm) (r : List Itm) : itmFlat (x :: r) = itmList x ++ itmFlat r := rfl
theorem itmFlat_snoc (q : List Itm) (x : Itm) : itmFlat (q ++ [x]) = itmFlat q ++ itmList x := by simp [itmFlat]
theorem one_itm (x : Itm) : ∀ u ∈ itmList x, u.oneCell' = true := by
  intro u hu
  rcases List.mem_append.1 hu with h | h
  · exact one_tn x.t u h
  · simp only [List.mem_cons, List.not_mem_nil, or_false] at h
    rcases h with h | h | h | h | h <;> (rw [h]; rfl)

/-- one of the two, and what is on the way to it. -/
structure Side where
  p : Nat
  g : Nat
  s : Shk
  v : Value
  q : List Itm
  kb : Nat
  ko : Obj

structure NetAt (w : World) (base bx bw i j : Nat) (A B : Side) : Prop where
  sa : ShkOk w A.p A.g A.s
  sb : ShkOk w B.p B.g B.s
  xa : w.cell? ⟨bx, i, none⟩ = some (.pointer (some ⟨A.p, 0, none⟩))
  xb : w.cell? ⟨bx, j, none⟩ = some (.pointer (some ⟨B.p, 0, none⟩))
  ca : w.cell? ⟨bw, i, none⟩ = some A.v
  cb : w.cell? ⟨bw, j, none⟩ = some B.v
  fa : w.frozen? ⟨bw, i, none⟩ = false
  fb : w.frozen? ⟨bw, j, none⟩ = false
  ij : i ≠ j
  qa : qRow w base 53 16 A.v A.q.length (itmFlat A.q)
  qb : qRow w base 53 16 B.v B.q.length (itmFlat B.q)
  lo : base ≤ A.p ∧ base ≤ A.g ∧ base ≤ B.p ∧ base ≤ B.g ∧ base ≤ bx ∧ base ≤ bw
  ap : (A.p ≠ B.p ∧ A.p ≠ B.g ∧ A.g ≠ B.p ∧ A.g ≠ B.g) ∧ (bx ≠ A.p ∧ bx ≠ A.g ∧ bx ≠ B.p ∧ bx ≠ B.g) ∧ (bw ≠ A.p ∧ bw ≠ A.g ∧ bw ≠ B.p ∧ bw ≠ B.g) ∧ bx ≠ bw
  va : ∀ k, A.v.ownBlock = some k → (k ≠ A.p ∧ k ≠ A.g ∧ k ≠ B.p ∧ k ≠ B.g) ∧ k ≠ bx ∧ k ≠ bw ∧ B.v.ownBlock ≠ some k
  vb : ∀ k, B.v.ownBlock = some k → (k ≠ A.p ∧ k ≠ A.g ∧ k ≠ B.p ∧ k ≠ B.g) ∧ k ≠ bx ∧ k ≠ bw ∧ A.v.ownBlock ≠ some k
  kk : A.kb = B.kb ∧ A.ko = B.ko
  ka : w.heap[A.kb]? = some A.ko
  kp : (A.kb ≠ A.p ∧ A.kb ≠ A.g ∧ A.kb ≠ B.p ∧ A.kb ≠ B.g) ∧ A.kb ≠ bx ∧ A.kb ≠ bw
  kv : A.v.ownBlock ≠ some A.kb ∧ B.v.ownBlock ≠ some A.kb

section
variable {w : World} {base bx bw i j : Nat} {A B : Side}
theorem NetAt.swap (h : NetAt w base bx bw i j A B) : NetAt w base bx bw j i B A where
  sa := h.sb
  sb := h.sa
  xa := h.xb
  xb := h.xa
  ca := h.cb
  cb := h.ca
  fa := h.fb
  fb := h.fa
  ij := h.ij.symm
  qa := h.qb
  qb := h.qa
  lo := ⟨h.lo.2.2.1, h.lo.2.2.2.1, h.lo.1, h.lo.2.1, h.lo.2.2.2.2⟩
  ap := by
    obtain ⟨⟨a1, a2, a3, a4⟩, ⟨b1, b2, b3, b4⟩, ⟨c1, c2, c3, c4⟩, d⟩ := h.ap
    exact ⟨⟨a1.symm, a3.symm, a2.symm, a4.symm⟩, ⟨b3, b4, b1, b2⟩, ⟨c3, c4, c1, c2⟩, d⟩
  va := fun k hk => by
    obtain ⟨⟨a1, a2, a3, a4⟩, r⟩ := h.vb k hk
    exact ⟨⟨a3, a4, a1, a2⟩, r⟩
  vb := fun k hk => by
    obtain ⟨⟨a1, a2, a3, a4⟩, r⟩ := h.va k hk
    exact ⟨⟨a3, a4, a1, a2⟩, r⟩
  kk := ⟨h.kk.1.symm, h.kk.2.symm⟩
  ka := by rw [← h.kk.1, ← h.kk.2]; exact h.ka
  kp := by
    rw [← h.kk.1]
    obtain ⟨⟨a1, a2, a3, a4⟩, r⟩ := h.kp
    exact ⟨⟨a3, a4, a1, a2⟩, r⟩
  kv := by rw [← h.kk.1]; exact ⟨h.kv.2, h.kv.1⟩
theorem NetAt.ltx (h : NetAt w base bx bw i j A B) : bx < w.heap.size ∧ bw < w.heap.size := ⟨World.block_lt_of_cell? w _ h.xa, World.block_lt_of_cell? w _ h.ca⟩
theorem NetAt.step {w' : World} (h : NetAt w base bx bw i j A B) (hB : Below w.heap.size w w') : NetAt w' base bx bw i j A B where
  sa := h.sa.step hB
  sb := h.sb.step hB
  xa := by rw [hB.cell (p := ⟨bx, i, none⟩) h.ltx.1]; exact h.xa
  xb := by rw [hB.cell (p := ⟨bx, j, none⟩) h.ltx.1]; exact h.xb
  ca := by rw [hB.cell (p := ⟨bw, i, none⟩) h.ltx.2]; exact h.ca
  cb := by rw [hB.cell (p := ⟨bw, j, none⟩) h.ltx.2]; exact h.cb
  fa := by rw [hB.frozen (p := ⟨bw, i, none⟩) h.ltx.2]; exact h.fa
  fb := by rw [hB.frozen (p := ⟨bw, j, none⟩) h.ltx.2]; exact h.fb
  ij := h.ij
  qa := h.qa.step hB
  qb := h.qb.step hB
  lo := h.lo
  ap := h.ap
  va := h.va
  vb := h.vb
  kk := h.kk
  ka := by rw [hB.block _ (block_lt h.ka)]; exact h.ka
  kp := h.kp
  kv := h.kv
/-- a Shake is turned. -/
theorem NetAt.shake {w' : World} {s' : Shk} (h : NetAt w base bx bw i j A B) (hs : ShkOk w' A.p A.g s') (ho : Off [A.p, A.g] w w') : NetAt w' base bx bw i j { A with s := s' } B := by
  obtain ⟨⟨a1, a2, a3, a4⟩, ⟨b1, b2, b3, b4⟩, ⟨c1, c2, c3, c4⟩, d⟩ := h.ap
  exact {
    sa := hs
    sb := h.sb.off ho (by simp; exact ⟨a1.symm, a3.symm⟩) (by simp; exact ⟨a2.symm, a4.symm⟩)
    xa := by rw [ho.cell (p := ⟨bx, i, none⟩) h.ltx.1 (by simp; exact ⟨b1, b2⟩)]; exact h.xa
    xb := by rw [ho.cell (p := ⟨bx, j, none⟩) h.ltx.1 (by simp; exact ⟨b1, b2⟩)]; exact h.xb
    ca := by rw [ho.cell (p := ⟨bw, i, none⟩) h.ltx.2 (by simp; exact ⟨c1, c2⟩)]; exact h.ca
    cb := by rw [ho.cell (p := ⟨bw, j, none⟩) h.ltx.2 (by simp; exact ⟨c1, c2⟩)]; exact h.cb
    fa := by rw [World.frozen?_of_block (w := w) (ho.block bw h.ltx.2 (by simp; exact ⟨c1, c2⟩))]; exact h.fa
    fb := by rw [World.frozen?_of_block (w := w) (ho.block bw h.ltx.2 (by simp; exact ⟨c1, c2⟩))]; exact h.fb
    ij := h.ij
    qa := h.qa.off ho (fun k hk e => by
      obtain ⟨⟨e1, e2, _, _⟩, _⟩ := h.va k e
      simp at hk; rcases hk with rfl | rfl
      · exact e1 rfl
      · exact e2 rfl)
    qb := h.qb.off ho (fun k hk e => by
      obtain ⟨⟨e1, e2, _, _⟩, _⟩ := h.vb k e
      simp at hk; rcases hk with rfl | rfl
      · exact e1 rfl
      · exact e2 rfl)
    lo := h.lo
    ap := h.ap
    va := h.va
    vb := h.vb
    kk := h.kk
    ka := by rw [ho.block _ (block_lt h.ka) (by simp; exact ⟨h.kp.1.1, h.kp.1.2.1⟩)]; exact h.ka
    kp := h.kp
    kv := h.kv }
theorem setCell_frozen (w : World) (a b : Addr) (v : Value) : (w.setCell a v).frozen? b = w.frozen? b := by simp
/-- the head is taken off. -/
theorem NetAt.pop {v' : Value} {r : List Itm} (h : NetAt w base bx bw i j A B) (hq : qRow w base 53 16 v' r.length (itmFlat r)) (hv : ∀ k, v'.ownBlock = some k → A.v.ownBlock = some k) :
    NetAt (w.setCell ⟨bw, i, none⟩ v') base bx bw i j { A with v := v', q := r } B := by
  have ho : Off [bw] w (w.setCell ⟨bw, i, none⟩ v') := (Off.refl _ _).setCell (by simp) _
  obtain ⟨⟨a1, a2, a3, a4⟩, ⟨b1, b2, b3, b4⟩, ⟨c1, c2, c3, c4⟩, d⟩ := h.ap
  have hne : (⟨bw, i, none⟩ : Addr) ≠ ⟨bw, j, none⟩ := by intro e; injection e with _ e _; exact h.ij e
  have hc : (w.cell? ⟨bw, i, none⟩).isSome = true := by rw [h.ca]; rfl
  exact {
    sa := h.sa.off ho (by simp; exact c1.symm) (by simp; exact c2.symm)
    sb := h.sb.off ho (by simp; exact c3.symm) (by simp; exact c4.symm)
    xa := by rw [ho.cell (p := ⟨bx, i, none⟩) h.ltx.1 (by simp; exact d)]; exact h.xa
    xb := by rw [ho.cell (p := ⟨bx, j, none⟩) h.ltx.1 (by simp; exact d)]; exact h.xb
    ca := World.cell?_setCell_same' _ _ _ hc
    cb := by rw [World.cell?_setCell_other (h := hne)]; exact h.cb
    fa := by rw [setCell_frozen]; exact h.fa
    fb := by rw [setCell_frozen]; exact h.fb
    ij := h.ij
    qa := hq.off ho (fun k hk e => by simp at hk; subst hk; exact (h.va _ (hv _ e)).2.2.1 rfl)
    qb := h.qb.off ho (fun k hk e => by simp at hk; subst hk; exact (h.vb _ e).2.2.1 rfl)
    lo := h.lo
    ap := h.ap
    va := fun k hk => h.va k (hv k hk)
    vb := fun k hk => by
      obtain ⟨r1, r2, r3, r4⟩ := h.vb k hk
      exact ⟨r1, r2, r3, fun e => r4 (hv k e)⟩
    kk := h.kk
    ka := by rw [ho.block _ (block_lt h.ka) (by simp; exact h.kp.2.2)]; exact h.ka
    kp := h.kp
    kv := ⟨fun e => h.kv.1 (hv _ e), h.kv.2⟩ }
/-- something is put at the end of what is on the way to B. -/
theorem NetAt.push {w1 : World} {g off cap : Nat} {x : Itm} (h : NetAt w base bx bw i j A B)
    (hq : qRow w1 base 53 16 (.slice (some ⟨g, off, none⟩) (B.q.length + 1) cap) (B.q.length + 1) (itmFlat B.q ++ itmList x)) (hg : w.grownBy w1 B.v.ownBlock) (hat : B.v.ownBlock = some g ∨ g = w.heap.size) :
    NetAt (w1.setCell ⟨bw, j, none⟩ (.slice (some ⟨g, off, none⟩) (B.q.length + 1) cap)) base bx bw i j A { B with v := .slice (some ⟨g, off, none⟩) (B.q.length + 1) cap, q := B.q ++ [x] } := by
  have hlt := h.ltx
  have hla := h.sa.lt
  have hlb := h.sb.lt
  have hvb := h.vb
  have far : ∀ b, b < w.heap.size → (∀ k, B.v.ownBlock = some k → k ≠ b) → w1.heap[b]? = w.heap[b]? := fun b hb hn => hg.block b hb (fun e => hn b e.symm rfl)
  have ho : Off [bw] w1 (w1.setCell ⟨bw, j, none⟩ (.slice (some ⟨g, off, none⟩) (B.q.length + 1) cap)) := (Off.refl _ _).setCell (by simp) _
  obtain ⟨⟨a1, a2, a3, a4⟩, ⟨b1, b2, b3, b4⟩, ⟨c1, c2, c3, c4⟩, d⟩ := h.ap
  have hbx := far bx hlt.1 (fun k hk => (hvb k hk).2.1)
  have hbw := far bw hlt.2 (fun k hk => (hvb k hk).2.2.1)
  have hkl := block_lt h.ka
  have hkb := far A.kb hkl (fun k hk e => h.kv.2 (e ▸ hk))
  have hgk : g ≠ A.kb := by
    rcases hat with hat | rfl
    · exact fun e => h.kv.2 (e ▸ hat)
    · omega
  have hgn : (g ≠ A.p ∧ g ≠ A.g ∧ g ≠ B.p ∧ g ≠ B.g) ∧ g ≠ bx ∧ g ≠ bw ∧ A.v.ownBlock ≠ some g := by
    rcases hat with hat | rfl
    · exact hvb g hat
    · exact ⟨⟨by omega, by omega, by omega, by omega⟩, by omega, by omega, fun e => by have := (h.qa.lt _ e).2; omega⟩
  have sa1 : ShkOk w1 A.p A.g A.s := h.sa.of_blocks (far _ hla.1 (fun k hk => (hvb k hk).1.1)) (far _ hla.2 (fun k hk => (hvb k hk).1.2.1))
  have sb1 : ShkOk w1 B.p B.g B.s := h.sb.of_blocks (far _ hlb.1 (fun k hk => (hvb k hk).1.2.2.1)) (far _ hlb.2 (fun k hk => (hvb k hk).1.2.2.2))
  have hne : (⟨bw, j, none⟩ : Addr) ≠ ⟨bw, i, none⟩ := by intro e; injection e with _ e _; exact h.ij e.symm
  have hc : (w1.cell? ⟨bw, j, none⟩).isSome = true := by rw [World.cell?_of_block (w := w) hbw, h.cb]; rfl
  have hb1 : bx < w1.heap.size ∧ bw < w1.heap.size := ⟨Nat.lt_of_lt_of_le hlt.1 hg.size, Nat.lt_of_lt_of_le hlt.2 hg.size⟩
  exact {
    sa := sa1.off ho (by simp; exact c1.symm) (by simp; exact c2.symm)
    sb := sb1.off ho (by simp; exact c3.symm) (by simp; exact c4.symm)
    xa := by rw [ho.cell (p := ⟨bx, i, none⟩) hb1.1 (by simp; exact d), World.cell?_of_block (w := w) hbx]; exact h.xa
    xb := by rw [ho.cell (p := ⟨bx, j, none⟩) hb1.1 (by simp; exact d), World.cell?_of_block (w := w) hbx]; exact h.xb
    ca := by rw [World.cell?_setCell_other (h := hne), World.cell?_of_block (w := w) hbw]; exact h.ca
    cb := World.cell?_setCell_same' _ _ _ hc
    fa := by rw [setCell_frozen, World.frozen?_of_block (w := w) hbw]; exact h.fa
    fb := by rw [setCell_frozen, World.frozen?_of_block (w := w) hbw]; exact h.fb
    ij := h.ij
    qa := (h.qa.kept hg (fun k hk e => (h.va k hk).2.2.2 e)).off ho (fun k hk e => by simp at hk; subst hk; exact (h.va _ e).2.2.1 rfl)
    qb := by
      have := hq.off ho (fun k hk e => by simp at hk; subst hk; injection e with e; exact hgn.2.2.1 e)
      show qRow _ base 53 16 _ (B.q ++ [x]).length (itmFlat (B.q ++ [x]))
      rw [itmFlat_snoc, List.length_append]; exact this
    lo := h.lo
    ap := h.ap
    va := fun k hk => by
      obtain ⟨r1, r2, r3, r4⟩ := h.va k hk
      exact ⟨r1, r2, r3, fun e => by (have e' : g = k := by injection e); subst e'; exact hgn.2.2.2 hk⟩
    vb := fun k hk => by injection hk with hk; subst hk; exact hgn
    kk := h.kk
    ka := by rw [ho.block _ (Nat.lt_of_lt_of_le hkl hg.size) (by simp; exact h.kp.2.2), hkb]; exact h.ka
    kp := h.kp
    kv := ⟨h.kv.1, fun e => by (have e' : g = A.kb := by injection e); exact hgk e'⟩ }
end
end Go.Proofs.YtpkpaloaoopkgaaDoor
