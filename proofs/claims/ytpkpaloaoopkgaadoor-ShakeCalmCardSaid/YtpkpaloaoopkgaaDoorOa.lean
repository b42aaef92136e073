/-
  The pair as the law's own loops see it.
-/
import Derived.Test.YtpkpaloaoopkgaaDoorHu
import Derived.Test.YtpkpaloaoopkgaaDoorSz
namespace Go.Proofs.YtpkpaloaoopkgaaDoor
set_option linter.unusedVariables false
set_option linter.unusedSimpArgs false
open Go Go.RowKit

theorem and_small (x : Int) (c : Nat) (hc : c < 4611686018427387904) : ∃ n : Nat, n ≤ c ∧ bits .and .i64 x (c : Int) = (n : Int) := by
  have h1 : c % 2 ^ 64 = c := Nat.mod_eq_of_lt (by omega)
  refine ⟨(BitVec.ofInt 64 x).toNat &&& c, Nat.and_le_right, ?_⟩
  have h2 : (BitVec.ofInt 64 x).toNat &&& c ≤ c := Nat.and_le_right
  have h3 : (BitVec.ofInt 64 x &&& BitVec.ofNat 64 c).toNat = (BitVec.ofInt 64 x).toNat &&& c := by
    rw [BitVec.toNat_and, BitVec.toNat_ofNat, h1]
  show IntKind.i64.wrap ((BitVec.ofInt 64 x &&& BitVec.ofInt 64 (c : Int)).toNat : Int) = _
  rw [BitVec.ofInt_natCast, h3, IntWalk.i64_in _ (by omega)]
theorem and_one (x : Int) : ∃ n : Nat, n < 2 ∧ bits .and .i64 x 1 = (n : Int) := by
  obtain ⟨n, h1, h2⟩ := and_small x 1 (by decide)
  exact ⟨n, by omega, h2⟩
theorem and_three (x : Int) : ∃ n : Nat, n ≤ 3 ∧ bits .and .i64 x 3 = (n : Int) := and_small x 3 (by decide)
def NetEx (w : World) (base bx bw : Nat) (R : Side → Side → Prop) : Prop := ∃ A B, NetAt w base bx bw 0 1 A B ∧ R A B
theorem NetEx.view {w : World} {base bx bw : Nat} {R : Side → Side → Prop} (h : NetEx w base bx bw R) (hR : ∀ A B, R A B → R B A) (k : Nat) (hk : k < 2) : ∃ o P Q, k + o = 1 ∧ NetAt w base bx bw k o P Q ∧ R P Q := by
  obtain ⟨A, B, hn, hr⟩ := h
  rcases (by omega : k = 0 ∨ k = 1) with rfl | rfl
  · exact ⟨1, A, B, rfl, hn, hr⟩
  · exact ⟨0, B, A, rfl, hn.swap, hR _ _ hr⟩
theorem NetEx.back {w : World} {base bx bw k o : Nat} {R : Side → Side → Prop} {P Q : Side} (hn : NetAt w base bx bw k o P Q) (hko : k + o = 1) (hr : R P Q) (hR : ∀ A B, R A B → R B A) : NetEx w base bx bw R := by
  rcases (by omega : (k = 0 ∧ o = 1) ∨ (k = 1 ∧ o = 0)) with ⟨rfl, rfl⟩ | ⟨rfl, rfl⟩
  · exact ⟨P, Q, hn, hr⟩
  · exact ⟨Q, P, hn.swap, hR _ _ hr⟩

/-- ahead of the start. -/
structure Pre1 (S : Side) : Prop where
  q : S.q = []
  len : S.s.l.length = 3
  ses : S.s.session = false
  owed : OwedIn S.s.l 0
def Pre (A B : Side) : Prop := Pre1 A ∧ Pre1 B
theorem Pre.swap (A B : Side) (h : Pre A B) : Pre B A := ⟨h.2, h.1⟩
theorem Pre1.up {S : Side} (h : Pre1 S) (link : Int) : Pre1 { S with s := (localRes S.s link true).1 } ∧ (localRes S.s link true).2.1 = [] := by
  cases hla : linkAt S.s link with
  | none =>
    have e : localRes S.s link true = (S.s, [], 1) := by unfold localRes; rw [hla]
    rw [e]; exact ⟨h, rfl⟩
  | some ix =>
    obtain ⟨i, x⟩ := ix
    obtain ⟨_, hx⟩ := linkAt_some hla
    rw [local_off h.ses hla]
    refine ⟨⟨h.q, by show (S.s.l.set i _).length = 3; rw [List.length_set]; exact h.len, h.ses, ?_⟩, rfl⟩
    intro y hy
    rcases List.mem_or_eq_of_mem_set hy with hy | hy
    · exact h.owed y hy
    · subst hy; exact h.owed x (List.mem_of_getElem? hx)

theorem pre_up {w w' : World} {base bx bw k o : Nat} {P Q : Side} (link : Int) (hn : NetAt w base bx bw k o P Q) (hko : k + o = 1) (hp : Pre P Q) (hs : ShkOk w' P.p P.g (localRes P.s link true).1) (ho : Off [P.g] w w') : NetEx w' base bx bw Pre :=
  NetEx.back (hn.shake hs (ho.mono (by simp))) hko ⟨(hp.1.up link).1, hp.2⟩ Pre.swap
theorem NetAt.new {w : World} {base p g p' g' : Nat} {T T' : TypeId} (h : ShkOk w p g (Shk.new 3)) (h' : ShkOk w p' g' (Shk.new 3)) (hlo : base ≤ p ∧ base ≤ g ∧ base ≤ p' ∧ base ≤ g') (hap : p ≠ p' ∧ p ≠ g' ∧ g ≠ p' ∧ g ≠ g') {kb : Nat} {ko : Obj} (hkb : kb < base) (hko : w.heap[kb]? = some ko) :
    NetAt ((w.alloc (.cells #[.pointer (some ⟨p, 0, none⟩), .pointer (some ⟨p', 0, none⟩)] T)).alloc (.cells #[.slice none 0 0, .slice none 0 0] T')) base w.heap.size (w.heap.size + 1) 0 1 ⟨p, g, Shk.new 3, .slice none 0 0, [], kb, ko⟩ ⟨p', g', Shk.new 3, .slice none 0 0, [], kb, ko⟩ := by
  have hB : Below w.heap.size w ((w.alloc (.cells #[.pointer (some ⟨p, 0, none⟩), .pointer (some ⟨p', 0, none⟩)] T)).alloc (.cells #[.slice none 0 0, .slice none 0 0] T')) := ((Below.refl _ _).alloc (Nat.le_refl _) _).alloc (by simp) _
  have l1 := h.lt
  have l2 := h'.lt
  have c1 : ((w.alloc (.cells #[.pointer (some ⟨p, 0, none⟩), .pointer (some ⟨p', 0, none⟩)] T)).alloc (.cells #[.slice none 0 0, .slice none 0 0] T')).heap[w.heap.size]? = some (.cells #[.pointer (some ⟨p, 0, none⟩), .pointer (some ⟨p', 0, none⟩)] T (0, 0)) := by
    rw [heap_alloc_old _ _ (by simp)]; exact heap_alloc_new w _
  have c2 : ((w.alloc (.cells #[.pointer (some ⟨p, 0, none⟩), .pointer (some ⟨p', 0, none⟩)] T)).alloc (.cells #[.slice none 0 0, .slice none 0 0] T')).heap[w.heap.size + 1]? = some (.cells #[.slice none 0 0, .slice none 0 0] T' (0, 0)) := by
    have := heap_alloc_new (w.alloc (.cells #[.pointer (some ⟨p, 0, none⟩), .pointer (some ⟨p', 0, none⟩)] T)) (.cells #[.slice none 0 0, .slice none 0 0] T')
    simpa using this
  exact {
    sa := h.step hB
    sb := h'.step hB
    xa := by rw [cell_of_block c1]; rfl
    xb := by rw [cell_of_block c1]; rfl
    ca := by rw [cell_of_block c2]; rfl
    cb := by rw [cell_of_block c2]; rfl
    fa := by unfold World.frozen?; rw [c2]; rfl
    fb := by unfold World.frozen?; rw [c2]; rfl
    ij := by decide
    qa := qRow_nil _ _ _ _
    qb := qRow_nil _ _ _ _
    lo := by dsimp only; omega
    ap := by dsimp only; omega
    va := fun k hk => by cases hk
    vb := fun k hk => by cases hk
    kk := ⟨rfl, rfl⟩
    ka := by rw [hB.block _ (block_lt hko)]; exact hko
    kp := by have := block_lt hko; dsimp only; omega
    kv := ⟨fun e => (by cases e), fun e => (by cases e)⟩ }

/-- a frame, behind some links. -/
def frK (s : Shk) (m : Nat) : Itm := frameItm (decide (1 < m) && servesB s 1) (decide (2 < m) && servesB s 2) (decide (3 < m) && servesB s 3)
theorem frK_next (s : Shk) (m : Nat) (h1 : 1 ≤ m) (h3 : m ≤ 3) : (itmList (frK s m)).set (12 + m) (.bool (servesB s m)) = itmList (frK s (m + 1)) := by
  have : m = 1 ∨ m = 2 ∨ m = 3 := by omega
  rcases this with rfl | rfl | rfl <;> rfl
theorem frK_last (s : Shk) : frK s 4 = frameItm (servesB s 1) (servesB s 2) (servesB s 3) := rfl
theorem frK_store {w : World} {y : Nat} {T : TypeId} {s : Shk} {m : Nat} (h : w.heap[y]? = some (.cells (itmList (frK s m)).toArray T (0, 0))) (h1 : 1 ≤ m) (h3 : m ≤ 3) :
    (w.setCell ⟨y, 12 + m, none⟩ (.bool (servesB s m))).heap[y]? = some (.cells (itmList (frK s (m + 1))).toArray T (0, 0)) := by
  have := shk_heap_same (o := 12 + m) (c := itmList (frK s m)) h (.bool (servesB s m))
  rw [frK_next s m h1 h3] at this
  exact this
theorem frame_done {w0 wq w1 : World} {base bx bw k o g off cap : Nat} {P Q : Side} {M : Int} {L n : Nat} {ob : Obj} {X : Itm} (hn : NetAt wq base bx bw k o P Q) (hko : k + o = 1) (hg0 : Good P Q M L) (hX : X = frameItm (servesB P.s 1) (servesB P.s 2) (servesB P.s 3)) (hb : Below base w0 wq) (hnn : n = Q.q.length)
    (hq : qRow w1 base 53 16 (.slice (some ⟨g, off, none⟩) (n + 1) cap) (n + 1) (itmFlat Q.q ++ itmList X)) (hg : ((wq.alloc ob).drew).grownBy w1 Q.v.ownBlock) (hat : Q.v.ownBlock = some g ∨ g = wq.heap.size + 1) :
    NetEx (w1.setCell ⟨bw, o, none⟩ (.slice (some ⟨g, off, none⟩) (n + 1) cap)) base bx bw (fun A B => Good A B (M + 1) (L + 63)) ∧ Below base w0 (w1.setCell ⟨bw, o, none⟩ (.slice (some ⟨g, off, none⟩) (n + 1) cap)) := by
  subst hnn
  have h1 := hn.step (step_ad wq ob)
  have hp := h1.push (x := X) hq hg (by rcases hat with e | e; exact .inl e; exact .inr (by rw [e]; simp))
  constructor
  · subst hX
    exact NetEx.back (R := fun A B => Good A B (M + 1) (L + 63)) hp hko (hg0.frame _) (fun A B h => h.swap)
  · have hlo := hn.lo.2.2.2.2.2
    have hb0 := hn.below
    have b1 : Below base wq (wq.alloc ob).drew := (step_ad wq ob).mono hb0
    have b2 : Below base (wq.alloc ob).drew w1 := below_grown hg (fun m hm => (h1.qb.lt m hm).1) (by simp; omega)
    exact ((hb.trans b1).trans b2).setCell hlo _

/-- Start, one behind the other. -/
def Stage (w : World) (base bx bw : Nat) : Nat → Prop
  | 0 => NetEx w base bx bw Pre
  | 1 => ∃ (A B : Side) (s0 : Shk), NetAt w base bx bw 0 1 A B ∧ A.s = s0.start ∧ s0.l.length = 3 ∧ A.q = [] ∧ B.s.l.length = 3 ∧ B.q = (startTold s0.l).map noteItm
  | _ => NetEx w base bx bw fun A B => Good A B 1 3
theorem told3 {s : Shk} (h : s.l.length = 3) : ((startTold s.l).map noteItm).length = 3 := by simp [startTold, h]
theorem Stage.view {w : World} {base bx bw k : Nat} (hk : k < 2) (h : Stage w base bx bw k) :
    ∃ o P Q, k + o = 1 ∧ NetAt w base bx bw k o P Q ∧ P.s.l.length = 3 ∧ Q.q = [] ∧
      ∀ w' v', NetAt w' base bx bw k o { P with s := P.s.start } { Q with v := v', q := Q.q ++ (startTold P.s.l).map noteItm } → Stage w' base bx bw (k + 1) := by
  rcases (by omega : k = 0 ∨ k = 1) with rfl | rfl
  · obtain ⟨A, B, hn, h1, h2⟩ := h
    refine ⟨1, A, B, rfl, hn, h1.len, h2.q, fun w' v' hn' => ?_⟩
    rw [h2.q, List.nil_append] at hn'
    exact ⟨_, _, A.s, hn', rfl, h1.len, h1.q, h2.len, rfl⟩
  · obtain ⟨A, B, s0, hn, e1, e2, e3, e4, e5⟩ := h
    refine ⟨0, B, A, rfl, hn.swap, e4, e3, fun w' v' hn' => ?_⟩
    rw [e3, List.nil_append] at hn'
    refine ⟨_, _, hn'.swap, ⟨?_, start_one e4, ?_, ?_, ?_, ?_⟩⟩
    · show One A.s 1; rw [e1]; exact start_one e2
    · show Dir A.s B.s.start B.q; rw [e1, e5]; exact start_dir e2 e4
    · show Dir B.s.start A.s ((startTold B.s.l).map noteItm); rw [e1]; exact start_dir e4 e2
    · show ((startTold B.s.l).map noteItm).length ≤ 3; rw [told3 e4]; exact Nat.le_refl _
    · show B.q.length ≤ 3; rw [e5, told3 e2]; exact Nat.le_refl _
end Go.Proofs.YtpkpaloaoopkgaaDoor
