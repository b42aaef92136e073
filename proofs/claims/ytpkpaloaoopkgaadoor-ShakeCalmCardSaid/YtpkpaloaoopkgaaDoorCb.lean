/-
  ShakeCalm: the pair as the law's own loops see it.
-/
import Derived.Test.YtpkpaloaoopkgaaDoorCa
import Derived.Test.YtpkpaloaoopkgaaDoorCp
namespace Go.Proofs.YtpkpaloaoopkgaaDoor
set_option linter.unusedVariables false
set_option linter.unusedSimpArgs false
open Go Go.RowKit

theorem upAt_set {s s' : Shk} (h : ∀ i : Nat, (s'.l[i]?).map Lnk.up = (s.l[i]?).map Lnk.up) (l : Nat) : upAt s' l = upAt s l := by
  unfold upAt
  split
  · rfl
  · rw [h]
theorem up_set_same {l : List Lnk} {i : Nat} {x y : Lnk} (hx : l[i]? = some x) (hu : y.up = x.up) (j : Nat) : ((l.set i y)[j]?).map Lnk.up = (l[j]?).map Lnk.up := by
  rw [List.getElem?_set]
  split
  · rename_i e
    subst e
    rw [if_pos (List.getElem?_eq_some_iff.1 hx).1, hx]
    simp [hu]
  · rfl
theorem take_upAt (s : Shk) (n : Note) (l : Nat) : upAt (s.take n).1 l = upAt s l := by
  apply upAt_set
  intro j
  unfold Shk.take
  split
  · rfl
  · cases hla : linkAt s n.port with
    | none => rfl
    | some ix =>
      obtain ⟨i, x⟩ := ix
      obtain ⟨_, hx⟩ := linkAt_some hla
      dsimp only
      split
      · rfl
      · split
        · exact up_set_same (y := { x with owed := max (x.owed - 1) 0 }) hx rfl j
        · exact up_set_same (y := { x with down := decide (n.state = 0) }) hx rfl j
theorem hear_up (s : Shk) (q : List Itm) (l : Nat) : upAt (hearS s q).1 l = upAt s l := by
  match q with
  | [] => rfl
  | x :: r =>
    cases hfr : x.fr with
    | true => rw [hearS_fr _ _ hfr]
    | false => rw [hearS_nt _ _ hfr]; exact take_upAt s _ l
theorem start_up (s : Shk) (l : Nat) : upAt s.start l = upAt s l := by
  apply upAt_set
  intro j
  show ((s.l.map _)[j]?).map Lnk.up = _
  rw [List.getElem?_map]
  cases s.l[j]? with
  | none => rfl
  | some x => simp [tell_up]
theorem local_up {s : Shk} (h3 : s.l.length = 3) (m : Nat) (hm : m < 3) (up : Bool) (l : Nat) : upAt (localRes s (1 + (m : Int)) up).1 l = if l = m + 1 then up else upAt s l := by
  unfold localRes
  have hla : linkAt s (1 + (m : Int)) = (s.l[m]?).map fun x => (m, x) := by
    unfold linkAt
    rw [if_pos (by omega), show (1 + (m : Int) - 1).toNat = m by omega]
  have hx : s.l[m]? = some s.l[m] := List.getElem?_eq_getElem (by omega)
  rw [hla, hx]
  show upAt (s.local m s.l[m] up) l = _
  have key : ∀ j, ((s.local m s.l[m] up).l[j]?).map Lnk.up = if j = m then some up else (s.l[j]?).map Lnk.up := by
    intro j
    show ((s.l.set m _)[j]?).map Lnk.up = _
    rw [List.getElem?_set]
    by_cases e : m = j
    · subst e
      rw [if_pos rfl, if_pos (by omega), if_pos rfl]
      split
      · rfl
      · simp [tell_up]
    · rw [if_neg e, if_neg (fun h => e h.symm)]
  unfold upAt
  by_cases h0 : l = 0
  · rw [if_pos h0, if_neg (by omega), if_pos h0]
  · rw [if_neg h0, if_neg h0, key]
    by_cases e : l = m + 1
    · rw [if_pos e, if_pos (by omega)]; rfl
    · rw [if_neg e, if_neg (by omega)]

/-- what members are, seen from the k-th. -/
def isAt (k : Nat) (P Q : Shk) : Obj := if k = 0 then isObj P Q else isObj Q P
structure RC (M : Int) (L : Nat) (kb : Nat) (k : Nat) (P Q : Side) : Prop where
  calm : Calm P Q M L
  kbP : P.kb = kb
  koP : P.ko = isAt k P.s Q.s
def NetC (w : World) (base bx bw : Nat) (R : Nat → Side → Side → Prop) : Prop := ∃ A B, NetAt w base bx bw 0 1 A B ∧ R 0 A B
/-- both must say the same. -/
def Turns (R : Nat → Side → Side → Prop) : Prop := ∀ A B, (A.kb = B.kb ∧ A.ko = B.ko) → (R 0 A B ↔ R 1 B A)
theorem NetC.view {w : World} {base bx bw : Nat} {R : Nat → Side → Side → Prop} (h : NetC w base bx bw R) (hR : Turns R) (k : Nat) (hk : k < 2) : ∃ o P Q, k + o = 1 ∧ NetAt w base bx bw k o P Q ∧ R k P Q := by
  obtain ⟨A, B, hn, hr⟩ := h
  rcases (by omega : k = 0 ∨ k = 1) with rfl | rfl
  · exact ⟨1, A, B, rfl, hn, hr⟩
  · exact ⟨0, B, A, rfl, hn.swap, (hR _ _ hn.kk).1 hr⟩
theorem NetC.back {w : World} {base bx bw k o : Nat} {R : Nat → Side → Side → Prop} {P Q : Side} (hn : NetAt w base bx bw k o P Q) (hko : k + o = 1) (hr : R k P Q) (hR : Turns R) : NetC w base bx bw R := by
  rcases (by omega : (k = 0 ∧ o = 1) ∨ (k = 1 ∧ o = 0)) with ⟨rfl, rfl⟩ | ⟨rfl, rfl⟩
  · exact ⟨P, Q, hn, hr⟩
  · exact ⟨Q, P, hn.swap, (hR _ _ hn.swap.kk).2 hr⟩
theorem RC.turns (M : Int) (L : Nat) (kb : Nat) : Turns (RC M L kb) := by
  intro A B ⟨e1, e2⟩
  constructor
  · intro h
    exact ⟨h.calm.swap, by rw [← e1]; exact h.kbP, by rw [← e2, h.koP]; rfl⟩
  · intro h
    exact ⟨h.calm.swap, by rw [e1]; exact h.kbP, by rw [e2, h.koP]; rfl⟩

/-- a round: a member is up, or not; the store into the block of what is. -/
theorem RC.local {M : Int} {L kb k : Nat} {P Q : Side} (h : RC M L kb k P Q) (hk : k < 2) (m : Nat) (hm : m < 3) (up : Bool) (vb' : Value) :
    RC (M + 1) (L + 63) kb k { P with s := (localRes P.s (1 + (m : Int)) up).1, ko := isAt k (localRes P.s (1 + (m : Int)) up).1 Q.s } { Q with v := vb', q := Q.q ++ (localRes P.s (1 + (m : Int)) up).2.1.map noteItm, ko := isAt k (localRes P.s (1 + (m : Int)) up).1 Q.s } := by
  have hc := h.calm.local (1 + (m : Int)) up vb'
  exact ⟨⟨⟨hc.good.a, hc.good.b, hc.good.ab, hc.good.ba, hc.good.la, hc.good.lb⟩, hc.na, hc.nb, hc.oa, hc.ob⟩, h.kbP, rfl⟩
theorem is_store {w : World} {kb k : Nat} {P Q P' : Shk} {m : Nat} {up : Bool} (hk : k < 2) (hm : m < 3) (h : w.heap[kb]? = some (isAt k P Q)) (hu : ∀ l, upAt P' l = if l = m + 1 then up else upAt P l) :
    (w.setCell ⟨kb, 4 * k + (m + 1), none⟩ (.bool up)).heap[kb]? = some (isAt k P' Q) := by
  have e0 : upAt P' 1 = if 0 = m then up else upAt P 1 := by rw [hu]; by_cases e : m = 0 <;> simp [e] ; omega
  have e1 : upAt P' 2 = if 1 = m then up else upAt P 2 := by rw [hu]; by_cases e : m = 1 <;> simp [e] ; omega
  have e2 : upAt P' 3 = if 2 = m then up else upAt P 3 := by rw [hu]; by_cases e : m = 2 <;> simp [e] ; omega
  rcases (by omega : k = 0 ∨ k = 1) with rfl | rfl
  · have := shk_heap_same (o := 4 * 0 + (m + 1)) (c := isList P Q) h (.bool up)
    rw [this]
    show some (Obj.cells _ _ _) = some (Obj.cells _ _ _)
    unfold isList
    rw [e0, e1, e2]
    rcases (by omega : m = 0 ∨ m = 1 ∨ m = 2) with rfl | rfl | rfl <;> rfl
  · have := shk_heap_same (o := 4 * 1 + (m + 1)) (c := isList Q P) h (.bool up)
    rw [this]
    show some (Obj.cells _ _ _) = some (Obj.cells _ _ _)
    unfold isList
    rw [e0, e1, e2]
    rcases (by omega : m = 0 ∨ m = 1 ∨ m = 2) with rfl | rfl | rfl <;> rfl
theorem RC.hear {M : Int} {L kb k : Nat} {P Q : Side} (h : RC M L kb k P Q) (hM : 0 ≤ M) (v' vb' : Value) :
    RC (M + 1) (L + 63) kb k { P with s := (hearS P.s P.q).1, v := v', q := (hearS P.s P.q).2.1 } { Q with v := vb', q := Q.q ++ (hearS P.s P.q).2.2.map noteItm } := by
  refine ⟨(h.calm.hear hM v' vb').1, h.kbP, ?_⟩
  show P.ko = _
  rw [h.koP]
  have e : ∀ l, upAt (hearS P.s P.q).1 l = upAt P.s l := hear_up P.s P.q
  unfold isAt isObj isList
  simp only [e]
theorem RC.mono {M M' : Int} {L L' kb k : Nat} {P Q : Side} (h : RC M L kb k P Q) (hM : M ≤ M') (hL : L ≤ L') : RC M' L' kb k P Q :=
  ⟨⟨⟨h.calm.good.a.mono hM, h.calm.good.b.mono hM, h.calm.good.ab, h.calm.good.ba, by have := h.calm.good.la; omega, by have := h.calm.good.lb; omega⟩, h.calm.na, h.calm.nb, h.calm.oa, h.calm.ob⟩, h.kbP, h.koP⟩

theorem told_keep {w w' : World} {T : TypeId} {k0 kb c : Nat} {v u : Value} {ns : List Tn} (h : Told T w k0 v ns) (hk : kb < k0) (hw : w' = (w.setCell ⟨kb, c, none⟩ u).drew) : Told T w' k0 v ns := by
  subst hw
  have h1 : Told T (w.setCell ⟨kb, c, none⟩ u) k0 v ns := own_off (ks := [kb]) h ((Off.refl _ _).setCell (by simp) _) (fun k hk1 e => by
    simp at hk1; subst hk1
    have := own_ge h _ e; omega)
  exact own_step h1 (Below.refl _ _).drew
/-- a member is up, or not, and the store into the block of what is. -/
theorem calm_local {w w4 : World} {base bx bw k o kb L : Nat} {M : Int} {P Q : Side} (hn : NetAt w base bx bw k o P Q) (hrc : RC M L kb k P Q) (hk : k < 2) (m : Nat) (hm : m < 3) (up : Bool)
    (hs : ShkOk w4 P.p P.g (localRes P.s (1 + (m : Int)) up).1) (ho : Off [P.g] w w4) :
    NetAt ((w4.setCell ⟨kb, k * 4 + (1 + m), none⟩ (.bool up)).drew) base bx bw k o { P with s := (localRes P.s (1 + (m : Int)) up).1, ko := isAt k (localRes P.s (1 + (m : Int)) up).1 Q.s } { Q with ko := isAt k (localRes P.s (1 + (m : Int)) up).1 Q.s } := by
  have h4 := hn.shake hs (ho.mono (by simp))
  have hka : w4.heap[kb]? = some (isAt k P.s Q.s) := by
    have := h4.ka
    have e1 : ({ P with s := (localRes P.s (1 + (m : Int)) up).1 } : Side).kb = kb := hrc.kbP
    have e2 : ({ P with s := (localRes P.s (1 + (m : Int)) up).1 } : Side).ko = isAt k P.s Q.s := hrc.koP
    rw [e1, e2] at this
    exact this
  have hst := is_store (P' := (localRes P.s (1 + (m : Int)) up).1) hk hm hka (fun l => local_up hrc.calm.good.a.len m hm up l)
  rw [show 4 * k + (m + 1) = k * 4 + (1 + m) by omega] at hst
  have hkb : P.kb = kb := hrc.kbP
  subst hkb
  exact (h4.setKept hst).step (Below.refl _ _).drew

theorem calm_cast {w : World} {base bx bw kb L L' : Nat} {M M' : Int} (h : NetC w base bx bw (RC M L kb)) (hM : M = M') (hL : L = L') : NetC w base bx bw (RC M' L' kb) := by subst hM hL; exact h
theorem keep_far {w0 wr w1 : World} {base bx bw i j k b o : Nat} {A B : Side} {v vb u cv : Value} {ns : List Tn} {ob : Obj} (hb : b < base) (hp : PushRel w0 base bx bw i j A B v ns wr k vb)
    (hg : ((wr.alloc ob).drew).grownBy w1 vb.ownBlock) (hc : wr.cell? ⟨b, o, none⟩ = some u) : (w1.setCell ⟨bw, j, none⟩ cv).cell? ⟨b, o, none⟩ = some u := by
  have hlo := hp.net.lo.2.2.2.2.2
  have hlt := World.block_lt_of_cell? wr _ hc
  rw [World.cell?_setCell_far (h := by show bw ≠ b; omega), World.cell?_of_block (a := ⟨b, o, none⟩) (hg.block b (by simp; exact Nat.lt_succ_of_lt hlt) (fun e => by have := (hp.net.qb.lt b e.symm).1; omega)), (step_ad wr ob).cell (p := ⟨b, o, none⟩) hlt]
  exact hc

/-! the last loops: all is told -/
theorem weight_len : ∀ q : List Itm, q.length ≤ weight q
  | [] => Nat.le_refl _
  | x :: r => by
    have := weight_len r
    have h : weight (x :: r) = wt x + weight r := by simp [weight]
    rw [h]
    simp only [List.length_cons]
    unfold wt; split <;> omega
theorem weight_le : ∀ q : List Itm, weight q ≤ 2 * q.length
  | [] => Nat.le_refl _
  | x :: r => by
    have := weight_le r
    have h : weight (x :: r) = wt x + weight r := by simp [weight]
    rw [h]
    simp only [List.length_cons]
    unfold wt; split <;> omega
/-- G: the weight that was ahead of a round, st: how far the round is. -/
structure Drain (M : Int) (kb G st : Nat) (k : Nat) (P Q : Side) : Prop where
  rc : ∃ L, RC M L kb k P Q
  wt : weight P.q + weight Q.q ≤ G
  fall : (st = 1 ∧ (if k = 0 then Q.q ≠ [] else P.q ≠ [])) ∨ (st = 0 ∧ (P.q ≠ [] ∨ Q.q ≠ [])) ∨ weight P.q + weight Q.q + 1 ≤ G
theorem Drain.turns (M : Int) (kb G st : Nat) : Turns (Drain M kb G st) := by
  intro A B e
  constructor
  · rintro ⟨⟨L, h⟩, hw, hf⟩
    refine ⟨⟨L, (RC.turns M L kb A B e).1 h⟩, by omega, ?_⟩
    rcases hf with ⟨h1, h2⟩ | ⟨h1, h2⟩ | h3
    · exact .inl ⟨h1, by rw [if_neg (by decide)]; rw [if_pos rfl] at h2; exact h2⟩
    · exact .inr (.inl ⟨h1, h2.symm⟩)
    · exact .inr (.inr (by omega))
  · rintro ⟨⟨L, h⟩, hw, hf⟩
    refine ⟨⟨L, (RC.turns M L kb A B e).2 h⟩, by omega, ?_⟩
    rcases hf with ⟨h1, h2⟩ | ⟨h1, h2⟩ | h3
    · exact .inl ⟨h1, by rw [if_neg (by decide)] at h2; rw [if_pos rfl]; exact h2⟩
    · exact .inr (.inl ⟨h1, h2.symm⟩)
    · exact .inr (.inr (by omega))
theorem nil_of_hear {s : Shk} : (hearS s []).2.1 = [] ∧ (hearS s []).2.2 = [] := ⟨rfl, rfl⟩
theorem Drain.hear {M : Int} {kb G k : Nat} {P Q : Side} (h : Drain M kb G k k P Q) (hk : k < 2) (hM : 0 ≤ M) (v' vb' : Value) :
    Drain (M + 1) kb G (k + 1) k { P with s := (hearS P.s P.q).1, v := v', q := (hearS P.s P.q).2.1 } { Q with v := vb', q := Q.q ++ (hearS P.s P.q).2.2.map noteItm } := by
  obtain ⟨⟨L, hrc⟩, hw, hf⟩ := h
  have hfall := (hrc.calm.hear hM v' vb').2
  refine ⟨⟨L + 63, hrc.hear hM v' vb'⟩, ?_, ?_⟩
  · show weight (hearS P.s P.q).2.1 + weight (Q.q ++ (hearS P.s P.q).2.2.map noteItm) ≤ G
    omega
  · show (k + 1 = 1 ∧ (if k = 0 then Q.q ++ (hearS P.s P.q).2.2.map noteItm ≠ [] else (hearS P.s P.q).2.1 ≠ [])) ∨ (k + 1 = 0 ∧ _) ∨ weight (hearS P.s P.q).2.1 + weight (Q.q ++ (hearS P.s P.q).2.2.map noteItm) + 1 ≤ G
    by_cases hp : P.q = []
    · rw [if_pos hp] at hfall
      rcases (by omega : k = 0 ∨ k = 1) with rfl | rfl
      · rcases hf with ⟨h1, _⟩ | ⟨_, h2⟩ | h3
        · cases h1
        · refine .inl ⟨rfl, ?_⟩
          rw [if_pos rfl]
          have hq : Q.q ≠ [] := by
            rcases h2 with h2 | h2
            · exact absurd hp h2
            · exact h2
          intro e
          exact hq (List.append_eq_nil_iff.1 e).1
        · exact .inr (.inr (by omega))
      · rcases hf with ⟨_, h2⟩ | ⟨h1, _⟩ | h3
        · rw [if_neg (by decide)] at h2
          exact absurd hp h2
        · cases h1
        · exact .inr (.inr (by omega))
    · rw [if_neg hp] at hfall
      exact .inr (.inr (by omega))
theorem Drain.first {M : Int} {kb G k L : Nat} {P Q : Side} (h : RC M L kb k P Q) (hw : weight P.q + weight Q.q ≤ G) (hne : 0 < P.q.length + Q.q.length) : Drain M kb G 0 k P Q := by
  refine ⟨⟨L, h⟩, hw, .inr (.inl ⟨rfl, ?_⟩)⟩
  by_cases hp : P.q = []
  · refine .inr ?_
    intro e
    rw [hp, e] at hne
    simp at hne
  · exact .inl hp
/-- the end of a round. -/
theorem Drain.last {M : Int} {kb G k : Nat} {P Q : Side} (h : Drain M kb G 2 k P Q) : (∃ L, RC M L kb k P Q) ∧ weight P.q + weight Q.q + 1 ≤ G := by
  obtain ⟨hrc, hw, hf⟩ := h
  rcases hf with ⟨h1, _⟩ | ⟨h1, _⟩ | h3
  · cases h1
  · cases h1
  · exact ⟨hrc, h3⟩

/-- Start, one behind the other, the block of what is besides. -/
structure Pre0 (S : Side) : Prop where
  q : S.q = []
  s : S.s = Shk.new 3
def StageC (w : World) (base bx bw kb : Nat) : Nat → Prop
  | 0 => NetC w base bx bw fun _ A B => Pre0 A ∧ Pre0 B ∧ A.kb = kb ∧ A.ko = isObj (Shk.new 3) (Shk.new 3)
  | 1 => ∃ A B : Side, NetAt w base bx bw 0 1 A B ∧ A.s = (Shk.new 3).start ∧ A.q = [] ∧ B.s = Shk.new 3 ∧ B.q = (startTold (Shk.new 3).l).map noteItm ∧ A.kb = kb ∧ A.ko = isObj (Shk.new 3) (Shk.new 3)
  | _ => NetC w base bx bw (RC 1 3 kb)
theorem StageC.view {w : World} {base bx bw kb k : Nat} (hk : k < 2) (h : StageC w base bx bw kb k) :
    ∃ o P Q, k + o = 1 ∧ NetAt w base bx bw k o P Q ∧ P.s = Shk.new 3 ∧ Q.q = [] ∧
      ∀ w' v', NetAt w' base bx bw k o { P with s := P.s.start } { Q with v := v', q := Q.q ++ (startTold P.s.l).map noteItm } → StageC w' base bx bw kb (k + 1) := by
  rcases (by omega : k = 0 ∨ k = 1) with rfl | rfl
  · obtain ⟨A, B, hn, h1, h2, h3, h4⟩ := h
    refine ⟨1, A, B, rfl, hn, h1.s, h2.q, fun w' v' hn' => ?_⟩
    rw [h2.q, List.nil_append, h1.s] at hn'
    exact ⟨_, _, hn', rfl, h1.q, h2.s, rfl, h3, h4⟩
  · obtain ⟨A, B, hn, e1, e2, e3, e4, e5, e6⟩ := h
    refine ⟨0, B, A, rfl, hn.swap, e3, e2, fun w' v' hn' => ?_⟩
    rw [e2, List.nil_append, e3] at hn'
    refine ⟨_, _, hn'.swap, ?_, e5, ?_⟩
    · obtain ⟨p, g, s, v, q, kb1, ko1⟩ := A
      obtain ⟨p2, g2, s2, v2, q2, kb2, ko2⟩ := B
      subst e1 e2 e3 e4
      exact calm_start _ _ _ _ _ _ _ _ _ _
    · show A.ko = _
      rw [e6]
      show isObj (Shk.new 3) (Shk.new 3) = isObj A.s (Shk.new 3).start
      rw [e1]; rfl

/-! the end -/
theorem is_cell {w : World} {kb k : Nat} {P Q : Shk} (hk : k < 2) (h : w.heap[kb]? = some (isAt k P Q)) (m : Nat) (h1 : 1 ≤ m) (h3 : m ≤ 3) :
    w.cell? ⟨kb, 4 * k + m, none⟩ = some (.bool (upAt P m)) ∧ w.cell? ⟨kb, 4 * (1 - k) + m, none⟩ = some (.bool (upAt Q m)) := by
  rcases (by omega : k = 0 ∨ k = 1) with rfl | rfl
  · rw [cell_of_block h, cell_of_block h]
    rcases (by omega : m = 1 ∨ m = 2 ∨ m = 3) with rfl | rfl | rfl <;> exact ⟨rfl, rfl⟩
  · rw [cell_of_block h, cell_of_block h]
    rcases (by omega : m = 1 ∨ m = 2 ∨ m = 3) with rfl | rfl | rfl <;> exact ⟨rfl, rfl⟩
theorem is_free {w : World} {kb k : Nat} {P Q : Shk} (h : w.heap[kb]? = some (isAt k P Q)) (c : Nat) : w.frozen? ⟨kb, c, none⟩ = false := by
  unfold isAt isObj at h
  split at h
  · exact frozen_of_block h c
  · exact frozen_of_block h c
theorem RC.done {M : Int} {L kb k : Nat} {P Q : Side} (h : RC M L kb k P Q) (hp : P.q = []) (hq : Q.q = []) (m : Nat) (h1 : 1 ≤ m) (h3 : m ≤ 3) :
    servesB P.s (m : Int) = upAt P.s m ∧ blockedB P.s (m : Int) = upAt Q.s m := by
  have la := h.calm.good.a.len
  have lb := h.calm.good.b.len
  have hxa : P.s.l[m - 1]? = some P.s.l[m - 1] := List.getElem?_eq_getElem (by omega)
  have hxb : Q.s.l[m - 1]? = some Q.s.l[m - 1] := List.getElem?_eq_getElem (by omega)
  have := h.calm.done hp hq hxa hxb (by omega)
  rw [show ((m - 1 : Nat) : Int) + 1 = (m : Int) by omega] at this
  rw [this.1, this.2]
  have m0 : ¬ m = 0 := by omega
  unfold upAt
  rw [if_neg m0, if_neg m0, hxa, hxb]
  exact ⟨rfl, rfl⟩
theorem qRow_val {w : World} {base : Nat} {e : TypeId} {size : Nat} {v : Value} {n : Nat} {xs : List Value} (h : qRow w base e size v n xs) : ∃ a c, v = .slice a n c := by
  rcases h.form with ⟨rfl, rfl⟩ | ⟨g, off, cap, rfl, _⟩
  · exact ⟨_, _, rfl⟩
  · exact ⟨_, _, rfl⟩
theorem netC_step {w w' : World} {base bx bw : Nat} {R : Nat → Side → Side → Prop} (h : NetC w base bx bw R) (hB : Below w.heap.size w w') : NetC w' base bx bw R := by
  obtain ⟨A, B, hn, hr⟩ := h
  exact ⟨A, B, hn.step hB, hr⟩
/-- ahead of a round of the last loop but one. -/
structure DrainR (kb G : Nat) (k : Nat) (P Q : Side) : Prop where
  rc : ∃ L, RC (401 + 2 * (100812 - (G : Int))) L kb k P Q
  wt : weight P.q + weight Q.q ≤ G
theorem calm_end {w : World} {base bx bw kb L : Nat} {M : Int} (h : NetC w base bx bw (RC M L kb)) (hM : M ≤ 401) (hL : L ≤ 25203) : NetC w base bx bw (DrainR kb 100812) := by
  obtain ⟨A, B, hn, hr⟩ := h
  refine ⟨A, B, hn, ⟨⟨L, hr.mono (by omega) (Nat.le_refl _)⟩, ?_⟩⟩
  have h1 := weight_le A.q
  have h2 := weight_le B.q
  have h3 := hr.calm.good.la
  have h4 := hr.calm.good.lb
  omega
theorem Drain.start {kb G : Nat} {P Q : Side} (h : DrainR kb G 0 P Q) (hpos : 0 < P.q.length + Q.q.length) : Drain (401 + 2 * (100812 - (G : Int))) kb G 0 0 P Q := by
  obtain ⟨⟨L, hrc⟩, hw⟩ := h
  exact Drain.first hrc hw hpos
theorem DrainR.of_last {kb G : Nat} {P Q : Side} (h : Drain (401 + 2 * (100812 - (G : Int)) + ((2 : Nat) : Int)) kb G 2 0 P Q) (hG : G ≤ 100812) : DrainR kb (G - 1) 0 P Q := by
  obtain ⟨⟨L, hrc⟩, hw⟩ := h.last
  exact ⟨⟨L, hrc.mono (by omega) (Nat.le_refl _)⟩, by omega⟩
structure Still (kb : Nat) (k : Nat) (P Q : Side) : Prop where
  rc : ∃ M L, RC M L kb k P Q
  p : P.q = []
  q : Q.q = []
theorem Still.turns (kb : Nat) : Turns (Still kb) := by
  intro A B e
  constructor
  · rintro ⟨⟨M, L, h⟩, hp, hq⟩
    exact ⟨⟨M, L, (RC.turns M L kb A B e).1 h⟩, hq, hp⟩
  · rintro ⟨⟨M, L, h⟩, hp, hq⟩
    exact ⟨⟨M, L, (RC.turns M L kb A B e).2 h⟩, hq, hp⟩
theorem Still.of {kb G k : Nat} {P Q : Side} (h : DrainR kb G k P Q) (hp : P.q = []) (hq : Q.q = []) : Still kb k P Q := by
  obtain ⟨⟨L, hrc⟩, _⟩ := h
  exact ⟨⟨_, L, hrc⟩, hp, hq⟩
theorem Still.len {kb k : Nat} {P Q : Side} (h : Still kb k P Q) : P.s.l.length = 3 := by obtain ⟨⟨M, L, hrc⟩, _, _⟩ := h; exact hrc.calm.good.a.len
theorem Still.cells {w : World} {base bx bw o kb k : Nat} {P Q : Side} (h : Still kb k P Q) (hn : NetAt w base bx bw k o P Q) (hk : k < 2) (m : Nat) (h1 : 1 ≤ m) (h3 : m ≤ 3) :
    w.cell? ⟨kb, 4 * k + m, none⟩ = some (.bool (upAt P.s m)) ∧ w.cell? ⟨kb, 4 * (1 - k) + m, none⟩ = some (.bool (upAt Q.s m)) := by
  obtain ⟨⟨M, L, hrc⟩, _, _⟩ := h
  have hka := hn.ka
  rw [hrc.kbP, hrc.koP] at hka
  exact is_cell hk hka m h1 h3
theorem Still.res {w : World} {base bx bw o kb k : Nat} {P Q : Side} (h : Still kb k P Q) (hn : NetAt w base bx bw k o P Q) (m : Nat) (h1 : 1 ≤ m) (h3 : m ≤ 3) :
    servesB P.s (m : Int) = upAt P.s m ∧ blockedB P.s (m : Int) = upAt Q.s m := by
  obtain ⟨⟨M, L, hrc⟩, hp, hq⟩ := h
  exact hrc.done hp hq m h1 h3
theorem drain_hear {w : World} {base bx bw k o kb G : Nat} {M : Int} {P Q : Side} (hn : NetAt w base bx bw k o P Q) (hd : Drain M kb G k k P Q) (hbase : 0 < base) (hl : HasLaid w) (hM : M ≤ 1000000) (hG : G ≤ 1000000) :
    Calls Tryd.prog 18 #[.pointer (some ⟨P.p, 0, none⟩), .pointer (some ⟨bw, k, none⟩), .pointer (some ⟨bw, o, none⟩)] w fun e w' => ∃ v' vb', HearPost base bx bw k o w { P with s := (hearS P.s P.q).1, v := v', q := (hearS P.s P.q).2.1 } { Q with v := vb', q := Q.q ++ (hearS P.s P.q).2.2.map noteItm } e w' := by
  obtain ⟨⟨L, hrc⟩, hw, _⟩ := hd
  refine hear_any base bx bw k o P Q M w hn hrc.calm.good.a hrc.calm.good.ba hM hbase hl ?_
  have := weight_len Q.q
  omega
end Go.Proofs.YtpkpaloaoopkgaaDoor
