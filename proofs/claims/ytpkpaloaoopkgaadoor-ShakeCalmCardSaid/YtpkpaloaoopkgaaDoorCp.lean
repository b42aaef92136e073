/-
  The plain law of ShakeCalm: where all was told, each member that is up serves. No program in sight.
-/
import Derived.Test.YtpkpaloaoopkgaaDoorOa
namespace Go.Proofs.YtpkpaloaoopkgaaDoor
set_option linter.unusedVariables false
set_option linter.unusedSimpArgs false
open Go Go.RowKit

def isUp (i : Nat) (x : Itm) : Bool := decide (x.t.kind = 3 ∧ x.t.port = (i : Int) + 1 ∧ x.t.state ≠ 0)
def isBl (i : Nat) (x : Itm) : Bool := decide (x.t.kind = 4 ∧ x.t.port = (i : Int) + 1)
/-- answers that are on the way to come. -/
def Owe (o : Shk) (q q' : List Itm) : Prop := ∀ (i : Nat) (x : Lnk), o.l[i]? = some x → x.owed = (q.countP (isUp i) : Int) + (q'.countP (isBl i) : Int)
def NoFr (q : List Itm) : Prop := ∀ x ∈ q, x.fr = false
structure Calm (A B : Side) (M : Int) (L : Nat) : Prop where
  good : Good A B M L
  na : NoFr A.q
  nb : NoFr B.q
  oa : Owe A.s B.q A.q
  ob : Owe B.s A.q B.q
theorem Calm.swap {A B : Side} {M : Int} {L : Nat} (h : Calm A B M L) : Calm B A M L := ⟨h.good.swap, h.nb, h.na, h.ob, h.oa⟩
theorem noFr_notes {q : List Itm} (h : NoFr q) (ts : List Tn) : NoFr (q ++ ts.map noteItm) := by
  intro x hx
  rcases List.mem_append.1 hx with hx | hx
  · exact h x hx
  · obtain ⟨t, _, rfl⟩ := List.mem_map.1 hx; rfl
theorem isUp_note (i : Nat) (t : Tn) : isUp i (noteItm t) = decide (t.kind = 3 ∧ t.port = (i : Int) + 1 ∧ t.state ≠ 0) := rfl
theorem isBl_note (i : Nat) (t : Tn) : isBl i (noteItm t) = decide (t.kind = 4 ∧ t.port = (i : Int) + 1) := rfl

theorem Calm.local {P Q : Side} {M : Int} {L : Nat} (h : Calm P Q M L) (link : Int) (up : Bool) (vb' : Value) :
    Calm { P with s := (localRes P.s link up).1 } { Q with v := vb', q := Q.q ++ (localRes P.s link up).2.1.map noteItm } (M + 1) (L + 63) := by
  refine ⟨h.good.local link up vb', h.na, noFr_notes h.nb _, ?_, ?_⟩
  · show Owe (localRes P.s link up).1 (Q.q ++ (localRes P.s link up).2.1.map noteItm) P.q
    have hoa := h.oa
    have hses := h.good.a.ses
    unfold localRes
    cases hla : linkAt P.s link with
    | none => simpa using hoa
    | some ix =>
      obtain ⟨k, x⟩ := ix
      obtain ⟨_, hx⟩ := linkAt_some hla
      have hk := (List.getElem?_eq_some_iff.1 hx).1
      intro i y hy
      have hy' : (P.s.l.set k (if x.up = up ∨ P.s.session = false then { x with up := up } else Lnk.tell { x with up := up }))[i]? = some y := hy
      show y.owed = ((Q.q ++ (localTold P.s k x up).map noteItm).countP (isUp i) : Int) + _
      rw [List.countP_append]
      by_cases hik : k = i
      · subst hik
        rw [List.getElem?_set, if_pos rfl, if_pos hk] at hy'
        injection hy' with hy'
        have hox := hoa k x hx
        unfold localTold
        split at hy'
        · rename_i hc
          rw [if_pos hc, ← hy']
          simpa using hox
        · rename_i hc
          rw [if_neg hc, ← hy']
          show _ = ((Q.q.countP (isUp k) + [noteItm (memberTn k up)].countP (isUp k) : Nat) : Int) + _
          cases up
          · have : [noteItm (memberTn k false)].countP (isUp k) = 0 := by
              rw [List.countP_singleton, isUp_note]; simp [memberTn]
            rw [this]
            show x.owed = _
            simpa using hox
          · have : [noteItm (memberTn k true)].countP (isUp k) = 1 := by
              rw [List.countP_singleton, isUp_note]; simp [memberTn]
            rw [this]
            show x.owed + 1 = _
            omega
      · rw [List.getElem?_set, if_neg hik] at hy'
        have hox := hoa i y hy'
        have : ((localTold P.s k x up).map noteItm).countP (isUp i) = 0 := by
          unfold localTold
          split
          · rfl
          · show [noteItm (memberTn k up)].countP (isUp i) = 0
            rw [List.countP_singleton, isUp_note, decide_eq_false]; rfl
            intro ⟨_, h2, _⟩
            have h2' : (k : Int) + 1 = (i : Int) + 1 := h2
            omega
        rw [this]; simpa using hox
  · show Owe Q.s P.q (Q.q ++ (localRes P.s link up).2.1.map noteItm)
    intro i y hy
    have hoy := h.ob i y hy
    rw [List.countP_append]
    have : ((localRes P.s link up).2.1.map noteItm).countP (isBl i) = 0 := by
      rw [List.countP_eq_zero]
      intro z hz
      obtain ⟨t, ht, rfl⟩ := List.mem_map.1 hz
      rw [isBl_note]
      unfold localRes at ht
      cases hla : linkAt P.s link with
      | none => rw [hla] at ht; cases ht
      | some ix =>
        obtain ⟨k, x⟩ := ix
        rw [hla] at ht
        have ht' : t ∈ localTold P.s k x up := ht
        unfold localTold at ht'
        split at ht'
        · cases ht'
        · rw [List.mem_singleton] at ht'
          subst ht'
          simp [memberTn]
    rw [this]; simpa using hoy

/-! hearing -/
theorem noFr_tail {x : Itm} {r : List Itm} (h : NoFr (x :: r)) : NoFr r := fun y hy => h y (List.mem_cons_of_mem _ hy)
def wt (x : Itm) : Nat := if x.t.kind = 3 then 2 else 1
def weight (q : List Itm) : Nat := (q.map wt).sum
theorem weight_pos {x : Itm} {r : List Itm} : 0 < weight (x :: r) := by
  show 0 < wt x + weight r
  unfold wt; split <;> omega
theorem Calm.hear {P Q : Side} {M : Int} {L : Nat} (h : Calm P Q M L) (hM : 0 ≤ M) (v' vb' : Value) :
    Calm { P with s := (hearS P.s P.q).1, v := v', q := (hearS P.s P.q).2.1 } { Q with v := vb', q := Q.q ++ (hearS P.s P.q).2.2.map noteItm } (M + 1) (L + 63) ∧
      weight (hearS P.s P.q).2.1 + weight (Q.q ++ (hearS P.s P.q).2.2.map noteItm) + (if P.q = [] then 0 else 1) ≤ weight P.q + weight Q.q := by
  have hg := h.good.hear hM v' vb'
  match hq : P.q with
  | [] =>
    rw [hq, hearS_nil] at hg
    rw [hearS_nil]
    refine ⟨⟨hg, fun _ hx => (by cases hx), noFr_notes h.nb _, ?_, ?_⟩, by simp [weight]⟩
    · have := h.oa; rw [hq] at this; simpa using this
    · have := h.ob; rw [hq] at this; simpa using this
  | x :: r =>
    have hfr : x.fr = false := h.na x (by rw [hq]; exact List.mem_cons_self)
    have hf := dir_fine (hq ▸ h.good.ba) hfr
    rw [hq, hearS_nt _ _ hfr] at hg
    rw [hearS_nt _ _ hfr]
    have hoa := h.oa
    have hob := h.ob
    rw [hq] at hoa hob
    have htold := take_told h.good.a hf
    obtain ⟨k, y, hk3, hp, hy, e⟩ := take_fine h.good.a hf
    have hk := (List.getElem?_eq_some_iff.1 hy).1
    have hup0 : ∀ i, ((P.s.take x.t.note).2.1.map noteItm).countP (isUp i) = 0 := by
      intro i
      rw [List.countP_eq_zero]
      intro z hz
      obtain ⟨t, ht, rfl⟩ := List.mem_map.1 hz
      rw [isUp_note, decide_eq_false]
      · simp
      · intro ⟨h3, _⟩
        rw [(htold t ht).2] at h3
        cases h3
    refine ⟨⟨hg, noFr_tail (hq ▸ h.na), noFr_notes h.nb _, ?_, ?_⟩, ?_⟩
    · show Owe (P.s.take x.t.note).1 (Q.q ++ (P.s.take x.t.note).2.1.map noteItm) r
      intro i z hz
      rw [List.countP_append, hup0 i]
      rw [e] at hz
      by_cases h4 : x.t.kind = 4
      · rw [if_pos h4] at hz
        have hz' : (P.s.l.set k { y with owed := max (y.owed - 1) 0 })[i]? = some z := hz
        by_cases hik : k = i
        · subst hik
          rw [List.getElem?_set, if_pos rfl, if_pos hk] at hz'
          injection hz' with hz'
          have ho := hoa k y hy
          have hb : isBl k x = true := by unfold isBl; rw [decide_eq_true ⟨h4, hp⟩]
          rw [List.countP_cons, hb] at ho
          rw [← hz']
          show max (y.owed - 1) 0 = _
          simp at ho ⊢
          omega
        · rw [List.getElem?_set, if_neg hik] at hz'
          have ho := hoa i z hz'
          have hb : isBl i x = false := by unfold isBl; rw [decide_eq_false]; rintro ⟨_, h2⟩; rw [hp] at h2; omega
          rw [List.countP_cons, hb] at ho
          simpa using ho
      · rw [if_neg h4] at hz
        have hz' : (P.s.l.set k { y with down := decide (x.t.state = 0) })[i]? = some z := hz
        have hb : isBl i x = false := by unfold isBl; rw [decide_eq_false]; rintro ⟨h2, _⟩; exact h4 h2
        by_cases hik : k = i
        · subst hik
          rw [List.getElem?_set, if_pos rfl, if_pos hk] at hz'
          injection hz' with hz'
          have ho := hoa k y hy
          rw [List.countP_cons, hb] at ho
          rw [← hz']
          simpa using ho
        · rw [List.getElem?_set, if_neg hik] at hz'
          have ho := hoa i z hz'
          rw [List.countP_cons, hb] at ho
          simpa using ho
    · show Owe Q.s r (Q.q ++ (P.s.take x.t.note).2.1.map noteItm)
      intro i z hz
      have ho := hob i z hz
      rw [List.countP_append]
      rw [List.countP_cons] at ho
      rw [e]
      by_cases h4 : x.t.kind = 4
      · rw [if_pos h4]
        have hb : isUp i x = false := by unfold isUp; rw [decide_eq_false]; rintro ⟨h2, _⟩; rw [h4] at h2; cases h2
        rw [hb] at ho
        simpa using ho
      · rw [if_neg h4]
        have h3 : x.t.kind = 3 := by rcases hf.1 with h | h; exact h; exact absurd h h4
        show _ = (r.countP (isUp i) : Int) + ((Q.q.countP (isBl i) + ((memberTold k x.t.state).map noteItm).countP (isBl i) : Nat) : Int)
        by_cases hst : x.t.state = 0
        · have hb : isUp i x = false := by unfold isUp; rw [decide_eq_false]; rintro ⟨_, _, h2⟩; exact h2 hst
          rw [hb] at ho
          have : memberTold k x.t.state = [] := by unfold memberTold; rw [if_pos hst]
          rw [this]; simpa using ho
        · have : memberTold k x.t.state = [⟨4, (k : Int) + 1, 1⟩] := by unfold memberTold; rw [if_neg hst]
          rw [this, List.map_cons, List.map_nil, List.countP_singleton, isBl_note]
          by_cases hik : k = i
          · subst hik
            have hb : isUp k x = true := by unfold isUp; rw [decide_eq_true ⟨h3, hp, hst⟩]
            rw [hb] at ho
            simp at ho ⊢
            omega
          · have hb : isUp i x = false := by unfold isUp; rw [decide_eq_false]; rintro ⟨_, h2, _⟩; rw [hp] at h2; omega
            rw [hb] at ho
            have : decide ((4 : Int) = 4 ∧ (k : Int) + 1 = (i : Int) + 1) = false := by rw [decide_eq_false]; rintro ⟨_, h2⟩; omega
            rw [this]
            simpa using ho
    · have hw : weight (Q.q ++ (P.s.take x.t.note).2.1.map noteItm) = weight Q.q + weight ((P.s.take x.t.note).2.1.map noteItm) := by simp [weight]
      show weight r + weight (Q.q ++ (P.s.take x.t.note).2.1.map noteItm) + (if x :: r = [] then 0 else 1) ≤ (wt x + weight r) + weight Q.q
      rw [hw, if_neg (by simp), e]
      by_cases h4 : x.t.kind = 4
      · rw [if_pos h4]
        have : wt x = 1 := by unfold wt; rw [if_neg (by rw [h4]; decide)]
        have : weight (([] : List Tn).map noteItm) = 0 := rfl
        show weight r + (weight Q.q + weight (([] : List Tn).map noteItm)) + 1 ≤ _
        omega
      · rw [if_neg h4]
        have h3 : x.t.kind = 3 := by rcases hf.1 with h | h; exact h; exact absurd h h4
        have : wt x = 2 := by unfold wt; rw [if_pos h3]
        have : weight ((memberTold k x.t.state).map noteItm) ≤ 1 := by
          unfold memberTold; split
          · exact Nat.zero_le _
          · exact Nat.le_refl _
        show weight r + (weight Q.q + weight ((memberTold k x.t.state).map noteItm)) + 1 ≤ _
        omega
/-- where all was told. -/
theorem Calm.done {A B : Side} {M : Int} {L : Nat} (h : Calm A B M L) (ha : A.q = []) (hb : B.q = []) {i : Nat} {xa xb : Lnk} (hxa : A.s.l[i]? = some xa) (hxb : B.s.l[i]? = some xb) (hi : i < 3) :
    servesB A.s ((i : Int) + 1) = xa.up ∧ blockedB A.s ((i : Int) + 1) = xb.up := by
  have ho := h.oa i xa hxa
  rw [ha, hb] at ho
  obtain ⟨yo, ys, h1, h2, h3⟩ := h.good.ba i hi
  rw [ha] at h3
  obtain rfl : yo = xb := by rw [hxb] at h1; injection h1 with h1; exact h1.symm
  obtain rfl : ys = xa := by rw [hxa] at h2; injection h2 with h2; exact h2.symm
  have h4 : ys.down = !yo.up := h3
  have hses := h.good.a.ses
  constructor
  · unfold servesB
    rw [linkAt_is hxa]
    show (ys.up && (if A.s.session then decide (ys.owed = 0) else A.s.alone)) = ys.up
    rw [hses, if_pos rfl, decide_eq_true (by simpa using ho), Bool.and_true]
  · unfold blockedB
    rw [linkAt_is hxa]
    show (!A.s.session || !ys.down) = yo.up
    rw [hses, h4]; simp

/-! the start, out of new ones -/
theorem calm_start (p g p' g' : Nat) (v v' : Value) (kb kb' : Nat) (ko ko' : Obj) : Calm ⟨p, g, (Shk.new 3).start, v, (startTold (Shk.new 3).l).map noteItm, kb, ko⟩ ⟨p', g', (Shk.new 3).start, v', (startTold (Shk.new 3).l).map noteItm, kb', ko'⟩ 1 3 := by
  have hl : (Shk.new 3).l.length = 3 := rfl
  have hg : Good ⟨p, g, (Shk.new 3).start, v, (startTold (Shk.new 3).l).map noteItm, kb, ko⟩ ⟨p', g', (Shk.new 3).start, v', (startTold (Shk.new 3).l).map noteItm, kb', ko'⟩ 1 3 :=
    ⟨start_one hl, start_one hl, start_dir hl hl, start_dir hl hl, Nat.le_refl _, Nat.le_refl _⟩
  have hn : NoFr ((startTold (Shk.new 3).l).map noteItm) := by
    intro x hx
    obtain ⟨t, _, rfl⟩ := List.mem_map.1 hx; rfl
  have ho : Owe (Shk.new 3).start ((startTold (Shk.new 3).l).map noteItm) ((startTold (Shk.new 3).l).map noteItm) := by
    intro i x hx
    have hx' : x = ⟨false, 0, false⟩ := by
      have : x ∈ (Shk.new 3).start.l := List.mem_of_getElem? hx
      have e : (Shk.new 3).start.l = [⟨false, 0, false⟩, ⟨false, 0, false⟩, ⟨false, 0, false⟩] := rfl
      rw [e] at this
      simpa using this
    have e1 : (startTold (Shk.new 3).l).map noteItm = [noteItm (memberTn 0 false), noteItm (memberTn 1 false), noteItm (memberTn 2 false)] := rfl
    rw [hx', e1]
    simp [isUp_note, isBl_note, memberTn]
  exact ⟨hg, hn, hn, ho, ho⟩
end Go.Proofs.YtpkpaloaoopkgaaDoor
