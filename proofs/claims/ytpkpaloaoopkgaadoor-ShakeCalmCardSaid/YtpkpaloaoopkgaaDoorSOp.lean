/-
  The plain law of ShakeOnce: two that tell one another all in order. No program in sight.
-/
import Derived.Test.YtpkpaloaoopkgaaDoorSw
import Derived.Test.YtpkpaloaoopkgaaDoorSy
namespace Go.Proofs.YtpkpaloaoopkgaaDoor
set_option linter.unusedVariables false
set_option linter.unusedSimpArgs false
open Go Go.RowKit

/-- on the way: what is told, or a frame and the links it was sent over. -/
structure Itm where
  t : Tn
  fr : Bool
  s1 : Bool
  s2 : Bool
  s3 : Bool
def noteItm (t : Tn) : Itm := ⟨t, false, false, false, false⟩
def frameItm (a b c : Bool) : Itm := ⟨⟨0, 0, 0⟩, true, a, b, c⟩
abbrev itmList (x : Itm) : List Value := tnList x.t ++ [.bool x.fr, .bool false, .bool x.s1, .bool x.s2, .bool x.s3]
def Itm.sent (x : Itm) (i : Nat) : Bool := if i = 0 then x.s1 else if i = 1 then x.s2 else x.s3

/-- what is told between the two. -/
def Fine (t : Tn) : Prop := (t.kind = 3 ∨ t.kind = 4) ∧ (1 ≤ t.port ∧ t.port ≤ 3) ∧ (t.state = 0 ∨ t.state = 1)
theorem Fine.right {t : Tn} (h : Fine t) : rightB t.note = true := by
  obtain ⟨k, p, s⟩ := t
  obtain ⟨hk, hp, hs⟩ := h
  simp only at hk hp hs
  have hp' : p = 1 ∨ p = 2 ∨ p = 3 := by omega
  rcases hk with rfl | rfl <;> rcases hs with rfl | rfl <;> rcases hp' with rfl | rfl | rfl <;> decide +kernel
def downBy (i : Nat) (d : Bool) (t : Tn) : Bool := if t.kind = 3 ∧ t.port = (i : Int) + 1 then decide (t.state = 0) else d
def upBy (i : Nat) (u : Bool) (t : Tn) : Bool := if t.kind = 3 ∧ t.port = (i : Int) + 1 then !decide (t.state = 0) else u

/-- what is on the way ends at what the other one's member is. -/
def okQ (i : Nat) : Bool → List Itm → Bool → Prop
  | d, [], u => d = !u
  | d, x :: r, u => (x.fr = true → x.sent i = true → d = false) ∧ (x.fr = false → Fine x.t) ∧ okQ i (if x.fr then d else downBy i d x.t) r u

theorem okQ_note {i : Nat} : ∀ {q : List Itm} {d u : Bool} {t : Tn}, okQ i d q u → Fine t → okQ i d (q ++ [noteItm t]) (upBy i u t)
  | [], d, u, t, h, hf => by
    refine ⟨fun h => (by cases h), fun _ => hf, ?_⟩
    show downBy i d t = !upBy i u t
    unfold downBy upBy
    have h' : d = !u := h
    split
    · simp
    · exact h'
  | x :: r, d, u, t, h, hf => ⟨h.1, h.2.1, okQ_note h.2.2 hf⟩
theorem okQ_notes {i : Nat} : ∀ {ts : List Tn} {q : List Itm} {d u : Bool}, okQ i d q u → (∀ t ∈ ts, Fine t) → okQ i d (q ++ ts.map noteItm) (ts.foldl (upBy i) u)
  | [], q, d, u, h, _ => by simpa using h
  | t :: r, q, d, u, h, hf => by
    have h1 := okQ_note h (hf t (by simp))
    have h2 := okQ_notes (ts := r) h1 (fun t ht => hf t (by simp [ht]))
    simpa using h2
theorem okQ_frame {i : Nat} {a b c : Bool} : ∀ {q : List Itm} {d u : Bool}, okQ i d q u → ((frameItm a b c).sent i = true → u = true) → okQ i d (q ++ [frameItm a b c]) u
  | [], d, u, h, hs => by
    have h' : d = !u := h
    refine ⟨fun _ hx => by rw [h', hs hx]; rfl, (fun h => by cases h), ?_⟩
    show d = !u
    exact h'
  | x :: r, d, u, h, hs => ⟨h.1, h.2.1, okQ_frame h.2.2 hs⟩

/-- one direction: from o to s. -/
def Dir (o s : Shk) (q : List Itm) : Prop := ∀ i, i < 3 → ∃ xo xs, o.l[i]? = some xo ∧ s.l[i]? = some xs ∧ okQ i xs.down q xo.up
/-- one of the two. -/
structure One (s : Shk) (M : Int) : Prop where
  len : s.l.length = 3
  ses : s.session = true
  owed : OwedIn s.l M
theorem One.mono {s : Shk} {M N : Int} (h : One s M) (hn : M ≤ N) : One s N := ⟨h.len, h.ses, fun x hx => by have := h.owed x hx; omega⟩

/-! a step: Local -/
theorem localRes_one {s : Shk} {M : Int} (h : One s M) (link : Int) (up : Bool) : One (localRes s link up).1 (M + 1) := by
  unfold localRes
  cases hla : linkAt s link with
  | none => exact h.mono (by omega)
  | some ix =>
    obtain ⟨i, x⟩ := ix
    obtain ⟨_, hx⟩ := linkAt_some hla
    have ho := h.owed x (List.mem_of_getElem? hx)
    refine ⟨by show (s.l.set i _).length = 3; rw [List.length_set]; exact h.len, h.ses, h.owed.set i _ ?_⟩
    split
    · exact ⟨ho.1, by show x.owed ≤ M + 1; omega⟩
    · unfold Lnk.tell
      split
      · exact ⟨by show 0 ≤ x.owed + 1; omega, by show x.owed + 1 ≤ M + 1; omega⟩
      · exact ⟨ho.1, by show x.owed ≤ M + 1; omega⟩
theorem localRes_fine {s : Shk} {M : Int} (h : One s M) (link : Int) (up : Bool) : ∀ t ∈ (localRes s link up).2.1, Fine t := by
  unfold localRes
  cases hla : linkAt s link with
  | none => intro t ht; cases ht
  | some ix =>
    obtain ⟨i, x⟩ := ix
    obtain ⟨_, hx⟩ := linkAt_some hla
    have hi := (List.getElem?_eq_some_iff.1 hx).1
    rw [h.len] at hi
    intro t ht
    show Fine t
    have ht' : t ∈ localTold s i x up := ht
    unfold localTold at ht'
    split at ht'
    · cases ht'
    · rw [List.mem_singleton] at ht'
      subst ht'
      refine ⟨.inl rfl, ⟨by show 1 ≤ (i : Int) + 1; omega, by show (i : Int) + 1 ≤ 3; omega⟩, ?_⟩
      show (if up then (1 : Int) else 0) = 0 ∨ (if up then (1 : Int) else 0) = 1
      cases up <;> simp
/-- the one that lets its member be up, or not. -/
theorem localRes_from {o s : Shk} {q : List Itm} {M : Int} (h : One o M) (hd : Dir o s q) (link : Int) (up : Bool) : Dir (localRes o link up).1 s (q ++ (localRes o link up).2.1.map noteItm) := by
  have hf := localRes_fine h link up
  unfold localRes at hf ⊢
  cases hla : linkAt o link with
  | none => simpa using hd
  | some ix =>
    obtain ⟨k, x⟩ := ix
    rw [hla] at hf
    obtain ⟨_, hx⟩ := linkAt_some hla
    have hk := (List.getElem?_eq_some_iff.1 hx).1
    intro i hi
    obtain ⟨xo, xs, ho, hs, hok⟩ := hd i hi
    have hn := okQ_notes hok hf
    have hses := h.ses
    by_cases hik : k = i
    · subst hik
      obtain rfl : x = xo := by rw [hx] at ho; injection ho
      refine ⟨_, xs, by show (o.l.set k _)[k]? = _; rw [List.getElem?_set, if_pos rfl, if_pos hk], hs, ?_⟩
      have e : ((localTold o k x up).foldl (upBy k) x.up) = (if x.up = up ∨ o.session = false then { x with up := up } else Lnk.tell { x with up := up } : Lnk).up := by
        unfold localTold
        split
        · rename_i hc
          rcases hc with hc | hc
          · exact hc
          · rw [hses] at hc; cases hc
        · rw [tell_up]
          show upBy k x.up (memberTn k up) = up
          unfold upBy memberTn
          rw [if_pos ⟨rfl, rfl⟩]
          cases up <;> rfl
      rw [← e]; exact hn
    · refine ⟨xo, xs, by show (o.l.set k _)[i]? = _; rw [List.getElem?_set, if_neg hik]; exact ho, hs, ?_⟩
      have e : ((localTold o k x up).foldl (upBy i) xo.up) = xo.up := by
        unfold localTold
        split
        · rfl
        · show upBy i xo.up (memberTn k up) = xo.up
          unfold upBy memberTn
          rw [if_neg (by simp; omega)]
      have hn' : okQ i xs.down (q ++ (localTold o k x up).map noteItm) ((localTold o k x up).foldl (upBy i) xo.up) := hn
      rw [e] at hn'
      exact hn'
theorem localRes_to {o s : Shk} {q : List Itm} (hd : Dir o s q) (link : Int) (up : Bool) : Dir o (localRes s link up).1 q := by
  unfold localRes
  cases hla : linkAt s link with
  | none => exact hd
  | some ix =>
    obtain ⟨k, x⟩ := ix
    obtain ⟨_, hx⟩ := linkAt_some hla
    have hk := (List.getElem?_eq_some_iff.1 hx).1
    intro i hi
    obtain ⟨xo, xs, ho, hs, hok⟩ := hd i hi
    by_cases hik : k = i
    · subst hik
      obtain rfl : x = xs := by rw [hx] at hs; injection hs
      refine ⟨xo, _, ho, by show (s.l.set k _)[k]? = _; rw [List.getElem?_set, if_pos rfl, if_pos hk], ?_⟩
      have e : (if x.up = up ∨ s.session = false then { x with up := up } else Lnk.tell { x with up := up } : Lnk).down = x.down := by
        split
        · rfl
        · unfold Lnk.tell; split <;> rfl
      rw [e]; exact hok
    · exact ⟨xo, xs, ho, by show (s.l.set k _)[i]? = _; rw [List.getElem?_set, if_neg hik]; exact hs, hok⟩

/-! a frame -/
theorem dir_frame {o s : Shk} {q : List Itm} (hd : Dir o s q) : Dir o s (q ++ [frameItm (servesB o 1) (servesB o 2) (servesB o 3)]) := by
  intro i hi
  obtain ⟨xo, xs, ho, hs, hok⟩ := hd i hi
  refine ⟨xo, xs, ho, hs, okQ_frame hok ?_⟩
  intro hx
  have hsv : servesB o ((i : Int) + 1) = true := by
    match i, hi, hx with
    | 0, _, hx => exact hx
    | 1, _, hx => exact hx
    | 2, _, hx => exact hx
  unfold servesB linkAt at hsv
  rw [if_pos (by omega), show ((i : Int) + 1 - 1).toNat = i by omega, ho] at hsv
  have : o.serves xo = true := hsv
  unfold Shk.serves at this
  rw [Bool.and_eq_true] at this
  exact this.1

/-! hear -/
/-- a frame is sent but once. -/
theorem hear_frame {o s : Shk} {x : Itm} {r : List Itm} {M : Int} (h1 : One s M) (hd : Dir o s (x :: r)) (hx : x.fr = true) : (∀ i, i < 3 → (x.sent i && servesB s ((i : Int) + 1) && !blockedB s ((i : Int) + 1)) = false) ∧ Dir o s r := by
  constructor
  · intro i hi
    obtain ⟨xo, xs, ho, hs, hok⟩ := hd i hi
    cases hsn : x.sent i
    · rfl
    · have hdn := hok.1 hx hsn
      have : blockedB s ((i : Int) + 1) = true := by
        unfold blockedB linkAt
        rw [if_pos (by omega), show ((i : Int) + 1 - 1).toNat = i by omega, hs]
        show (!s.session || !xs.down) = true
        rw [hdn]; simp
      rw [this]; simp
  · intro i hi
    obtain ⟨xo, xs, ho, hs, hok⟩ := hd i hi
    refine ⟨xo, xs, ho, hs, ?_⟩
    have := hok.2.2
    rw [if_pos hx] at this
    exact this
theorem dir_fine {o s : Shk} {x : Itm} {r : List Itm} (hd : Dir o s (x :: r)) (hx : x.fr = false) : Fine x.t := by
  obtain ⟨xo, xs, ho, hs, hok⟩ := hd 0 (by omega)
  exact hok.2.1 hx
/-- which it is of the two. -/
theorem take_fine {s : Shk} {M : Int} (h1 : One s M) {t : Tn} (hf : Fine t) :
    ∃ (i : Nat) (x : Lnk), i < 3 ∧ t.port = (i : Int) + 1 ∧ s.l[i]? = some x ∧ s.take t.note = if t.kind = 4 then (s.takeBlocked i x, [], 0) else (s.takeMember i x t.state, memberTold i t.state, 0) := by
  have hr := hf.right
  obtain ⟨hk, hp, hs⟩ := hf
  have hi : (t.port - 1).toNat < s.l.length := by rw [h1.len]; omega
  refine ⟨(t.port - 1).toNat, s.l[(t.port - 1).toNat], by omega, by omega, List.getElem?_eq_getElem hi, ?_⟩
  have hla : linkAt s t.note.port = some ((t.port - 1).toNat, s.l[(t.port - 1).toNat]) := by
    show linkAt s t.port = _
    unfold linkAt
    rw [if_pos hp.1, List.getElem?_eq_getElem hi]; rfl
  unfold Shk.take
  have hg : (rightB t.note && (decide (t.note.kind = 3) || decide (t.note.kind = 4))) = true := by
    rw [hr]
    rcases hk with h | h
    · rw [show t.note.kind = 3 from h]; rfl
    · rw [show t.note.kind = 4 from h]; rfl
  rw [if_neg (by rw [hg]; simp), hla]
  simp only
  rw [if_neg (by rw [h1.ses]; simp)]
  rfl
theorem take_ok {s : Shk} {M : Int} (h1 : One s M) {t : Tn} (hf : Fine t) : (s.take t.note).2.2 = 0 := by
  obtain ⟨i, x, _, _, _, e⟩ := take_fine h1 hf
  rw [e]; split <;> rfl
theorem take_one {s : Shk} {M : Int} (h1 : One s M) (hM : 0 ≤ M) {t : Tn} (hf : Fine t) : One (s.take t.note).1 (M + 1) := by
  obtain ⟨i, x, hi, hp, hx, e⟩ := take_fine h1 hf
  have ho := h1.owed x (List.mem_of_getElem? hx)
  rw [e]
  split
  · exact ⟨by show (s.l.set i _).length = 3; rw [List.length_set]; exact h1.len, h1.ses, h1.owed.set i _ ⟨by show 0 ≤ max (x.owed - 1) 0; omega, by show max (x.owed - 1) 0 ≤ M + 1; omega⟩⟩
  · exact ⟨by show (s.l.set i _).length = 3; rw [List.length_set]; exact h1.len, h1.ses, h1.owed.set i _ ⟨ho.1, by show x.owed ≤ M + 1; omega⟩⟩
theorem take_told {s : Shk} {M : Int} (h1 : One s M) {t : Tn} (hf : Fine t) : ∀ u ∈ (s.take t.note).2.1, Fine u ∧ u.kind = 4 := by
  obtain ⟨i, x, hi, hp, hx, e⟩ := take_fine h1 hf
  rw [e]
  intro u hu
  split at hu
  · cases hu
  · have hu' : u ∈ memberTold i t.state := hu
    unfold memberTold at hu'
    split at hu'
    · cases hu'
    · rw [List.mem_singleton] at hu'
      subst hu'
      exact ⟨⟨.inr rfl, ⟨by show 1 ≤ (i : Int) + 1; omega, by show (i : Int) + 1 ≤ 3; omega⟩, .inr rfl⟩, rfl⟩
/-- the direction that is heard. -/
theorem take_to {o s : Shk} {x : Itm} {r : List Itm} {M : Int} (h1 : One s M) (hd : Dir o s (x :: r)) (hx : x.fr = false) : Dir o (s.take x.t.note).1 r := by
  have hf := dir_fine hd hx
  obtain ⟨k, y, hk3, hp, hy, e⟩ := take_fine h1 hf
  have hk := (List.getElem?_eq_some_iff.1 hy).1
  rw [e]
  intro i hi
  obtain ⟨xo, xs, ho, hs, hok⟩ := hd i hi
  have hok' := hok.2.2
  rw [if_neg (by rw [hx]; simp)] at hok'
  unfold downBy at hok'
  by_cases h4 : x.t.kind = 4
  · rw [if_pos h4]
    rw [if_neg (by rw [h4]; simp)] at hok'
    by_cases hik : k = i
    · subst hik
      obtain rfl : y = xs := by rw [hy] at hs; injection hs
      exact ⟨xo, { y with owed := max (y.owed - 1) 0 }, ho, by show (s.l.set k _)[k]? = _; rw [List.getElem?_set, if_pos rfl, if_pos hk], hok'⟩
    · exact ⟨xo, xs, ho, by show (s.l.set k _)[i]? = _; rw [List.getElem?_set, if_neg hik]; exact hs, hok'⟩
  · rw [if_neg h4]
    have h3 : x.t.kind = 3 := by rcases hf.1 with h | h; exact h; exact absurd h h4
    by_cases hik : k = i
    · subst hik
      obtain rfl : y = xs := by rw [hy] at hs; injection hs
      rw [if_pos ⟨h3, hp⟩] at hok'
      exact ⟨xo, _, ho, by show (s.l.set k _)[k]? = _; rw [List.getElem?_set, if_pos rfl, if_pos hk], hok'⟩
    · rw [if_neg (by rw [hp]; omega)] at hok'
      exact ⟨xo, xs, ho, by show (s.l.set k _)[i]? = _; rw [List.getElem?_set, if_neg hik]; exact hs, hok'⟩
/-- the other direction. -/
theorem take_from {o s : Shk} {t : Tn} {q : List Itm} {M : Int} (h1 : One s M) (hf : Fine t) (hd : Dir s o q) : Dir (s.take t.note).1 o (q ++ (s.take t.note).2.1.map noteItm) := by
  have ht := take_told h1 hf
  obtain ⟨k, y, hk3, hp, hy, e⟩ := take_fine h1 hf
  have hk := (List.getElem?_eq_some_iff.1 hy).1
  intro i hi
  obtain ⟨xo, xs, ho, hs, hok⟩ := hd i hi
  have hn := okQ_notes hok (fun u hu => (ht u hu).1)
  have e2 : ∀ (l : List Tn) (u : Bool), (∀ t ∈ l, t.kind = 4) → l.foldl (upBy i) u = u := by
    intro l
    induction l with
    | nil => intro u _; rfl
    | cons z r ih =>
      intro u hz
      show r.foldl (upBy i) (upBy i u z) = u
      have : upBy i u z = u := by unfold upBy; rw [if_neg (by rw [hz z (by simp)]; simp)]
      rw [this]; exact ih u (fun t ht => hz t (by simp [ht]))
  rw [e2 _ _ (fun u hu => (ht u hu).2)] at hn
  have e3 : ∃ x', (s.take t.note).1.l[i]? = some x' ∧ x'.up = xo.up := by
    rw [e]
    by_cases h4 : t.kind = 4
    · rw [if_pos h4]
      by_cases hik : k = i
      · subst hik
        obtain rfl : y = xo := by rw [hy] at ho; injection ho
        exact ⟨{ y with owed := max (y.owed - 1) 0 }, by show (s.l.set k _)[k]? = _; rw [List.getElem?_set, if_pos rfl, if_pos hk], rfl⟩
      · exact ⟨xo, by show (s.l.set k _)[i]? = _; rw [List.getElem?_set, if_neg hik]; exact ho, rfl⟩
    · rw [if_neg h4]
      by_cases hik : k = i
      · subst hik
        obtain rfl : y = xo := by rw [hy] at ho; injection ho
        exact ⟨{ y with down := decide (t.state = 0) }, by show (s.l.set k _)[k]? = _; rw [List.getElem?_set, if_pos rfl, if_pos hk], rfl⟩
      · exact ⟨xo, by show (s.l.set k _)[i]? = _; rw [List.getElem?_set, if_neg hik]; exact ho, rfl⟩
  obtain ⟨x', hx', hup⟩ := e3
  exact ⟨x', xs, hx', hs, by rw [hup]; exact hn⟩

/-! the start -/
theorem start_one {s : Shk} (h : s.l.length = 3) : One s.start 1 := by
  refine ⟨by show (s.l.map _).length = 3; rw [List.length_map]; exact h, rfl, ?_⟩
  intro x hx
  obtain ⟨y, _, rfl⟩ := List.mem_map.1 hx
  unfold Lnk.tell
  split <;> exact ⟨by simp, by simp⟩
theorem start_ok (i : Nat) (a b c : Bool) (hi : i < 3) : okQ i false ([memberTn 0 a, memberTn 1 b, memberTn 2 c].map noteItm) (if i = 0 then a else if i = 1 then b else c) := by
  have hf : ∀ (k : Nat) (u : Bool), k < 3 → Fine (memberTn k u) := fun k u hk => ⟨.inl rfl, ⟨by show 1 ≤ (k : Int) + 1; omega, by show (k : Int) + 1 ≤ 3; omega⟩, by cases u <;> simp [memberTn]⟩
  refine ⟨fun h => (by cases h), fun _ => hf 0 a (by omega), fun h => (by cases h), fun _ => hf 1 b (by omega), fun h => (by cases h), fun _ => hf 2 c (by omega), ?_⟩
  match i, hi with
  | 0, _ => cases a <;> rfl
  | 1, _ => cases b <;> rfl
  | 2, _ => cases c <;> rfl
theorem start_dir {o s : Shk} (ho : o.l.length = 3) (hs : s.l.length = 3) : Dir o.start s.start ((startTold o.l).map noteItm) := by
  obtain ⟨lo, so, ao2⟩ := o
  obtain ⟨ls, ss, as2⟩ := s
  simp only at ho hs
  match lo, ho with
  | [a, b, c], _ =>
    match ls, hs with
    | [d, g, f], _ =>
      intro i hi
      have t (x : Lnk) : (Lnk.tell { up := x.up, owed := 0, down := false }).down = false := by unfold Lnk.tell; split <;> rfl
      have e : startTold [a, b, c] = [memberTn 0 a.up, memberTn 1 b.up, memberTn 2 c.up] := rfl
      show ∃ xo xs, ([a, b, c].map fun x => Lnk.tell { up := x.up, owed := 0, down := false })[i]? = some xo ∧ ([d, g, f].map fun x => Lnk.tell { up := x.up, owed := 0, down := false })[i]? = some xs ∧ okQ i xs.down ((startTold [a, b, c]).map noteItm) xo.up
      rw [e]
      match i, hi with
      | 0, _ => exact ⟨_, _, rfl, rfl, by rw [tell_up, t]; exact start_ok 0 a.up b.up c.up (by omega)⟩
      | 1, _ => exact ⟨_, _, rfl, rfl, by rw [tell_up, t]; exact start_ok 1 a.up b.up c.up (by omega)⟩
      | 2, _ => exact ⟨_, _, rfl, rfl, by rw [tell_up, t]; exact start_ok 2 a.up b.up c.up (by omega)⟩
end Go.Proofs.YtpkpaloaoopkgaaDoor
