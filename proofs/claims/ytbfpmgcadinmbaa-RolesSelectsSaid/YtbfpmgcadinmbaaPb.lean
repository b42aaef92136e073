/-
  Plain law: the order of ways; what the best way and the roles are, whatever the order of the ports.
-/
import Derived.Test.YtbfpmgcadinmbaaPa
namespace Go.Proofs.Ytbfpmgcadinmbaa
set_option linter.unusedVariables false
set_option linter.unusedSimpArgs false
open Go

/-- numbers in the order in which they count. -/
def cmpL : List Int → List Int → Int
  | a :: x, b :: y => if cmpI a b = 0 then cmpL x y else cmpI a b
  | _, _ => 0

theorem cmpI_zero (a b : Int) : cmpI a b = 0 ↔ a = b := by unfold cmpI; split <;> (try split) <;> constructor <;> intro h <;> omega
theorem cmpI_neg (a b : Int) : cmpI a b < 0 ↔ a < b := by unfold cmpI; split <;> (try split) <;> constructor <;> intro h <;> omega
theorem cmpI_swap (a b : Int) : cmpI b a = - cmpI a b := by unfold cmpI; split <;> (try split) <;> (try split) <;> (try split) <;> omega

theorem cmpL_swap : ∀ x y : List Int, cmpL y x = - cmpL x y
  | [], [] => rfl
  | [], _ :: _ => rfl
  | _ :: _, [] => rfl
  | a :: x, b :: y => by
    have h := cmpI_swap a b
    have := cmpL_swap x y
    unfold cmpL
    by_cases h0 : cmpI a b = 0
    · rw [if_pos h0, if_pos (by omega), this]
    · rw [if_neg h0, if_neg (by omega), h]

theorem cmpL_zero : ∀ x y : List Int, x.length = y.length → (cmpL x y = 0 ↔ x = y)
  | [], [], _ => by simp [cmpL]
  | [], _ :: _, h => by simp at h
  | _ :: _, [], h => by simp at h
  | a :: x, b :: y, h => by
    have ih := cmpL_zero x y (by simpa using h)
    unfold cmpL
    have hz := cmpI_zero a b
    by_cases h0 : cmpI a b = 0
    · rw [if_pos h0, ih, hz.1 h0]; simp
    · rw [if_neg h0]
      constructor
      · intro h'; exact absurd h' h0
      · intro h'; injection h' with h1 _; exact absurd (hz.2 h1) h0

theorem cmpL_trans : ∀ x y z : List Int, x.length = y.length → y.length = z.length → cmpL x y < 0 → cmpL y z ≤ 0 → cmpL x z < 0
  | [], [], [], _, _, h, _ => h
  | a :: x, b :: y, c :: z, h1, h2, h, h' => by
    have ih := cmpL_trans x y z (by simpa using h1) (by simpa using h2)
    have za := cmpI_zero a b
    have zb := cmpI_zero b c
    have na := cmpI_neg a b
    have nb := cmpI_neg b c
    unfold cmpL at h h' ⊢
    have zc := cmpI_zero a c
    have nc := cmpI_neg a c
    by_cases e1 : cmpI a b = 0
    · rw [if_pos e1] at h
      have : a = b := za.1 e1
      subst this
      by_cases e2 : cmpI a c = 0
      · rw [if_pos e2] at h' ⊢; exact ih h h'
      · rw [if_neg e2] at h' ⊢; omega
    · rw [if_neg e1] at h
      by_cases e2 : cmpI b c = 0
      · have : b = c := zb.1 e2
        subst this
        rw [if_neg e1]; exact h
      · rw [if_neg e2] at h'
        have hab := na.1 h
        have hbc := nb.1 (by omega)
        have hac : cmpI a c < 0 := nc.2 (by omega)
        rw [if_neg (by omega)]; exact hac

def idL (i : Id) : List Int := [i.prio, i.mac.a.toNat, i.mac.b.toNat, i.mac.c.toNat, i.mac.d.toNat, i.mac.e.toNat, i.mac.f.toNat]
def vecL (v : Vec) : List Int := idL v.root ++ (v.cost :: (idL v.bridge ++ [v.port, v.own]))

theorem idL_len (a b : Id) : (idL a).length = (idL b).length := by simp [idL]
theorem vecL_len (a b : Vec) : (vecL a).length = (vecL b).length := by simp [vecL, idL]
theorem orI_cons (a : Int) (l : List Int) : orI (a :: l) = if a = 0 then orI l else a := rfl
theorem cmpL_app : ∀ (x x' y y' : List Int), x.length = x'.length → cmpL (x ++ y) (x' ++ y') = if cmpL x x' = 0 then cmpL y y' else cmpL x x'
  | [], [], y, y', _ => by simp [cmpL]
  | [], _ :: _, _, _, h => by simp at h
  | _ :: _, [], _, _, h => by simp at h
  | a :: x, b :: x', y, y', h => by
    have ih := cmpL_app x x' y y' (by simpa using h)
    simp only [List.cons_append, cmpL]
    by_cases h0 : cmpI a b = 0
    · simp only [if_pos h0]; exact ih
    · simp only [if_neg h0]

theorem cmpId_L (a b : Id) : cmpId a b = cmpL (idL a) (idL b) := by
  unfold cmpId cmpMac idL
  simp only [orI_cons, orI, cmpL]
  split <;> rename_i h0 <;> try rfl
  repeat (first | rfl | (split <;> rename_i h1 <;> try simp_all))

theorem cmpVec_L (a b : Vec) : cmpVec a b = cmpL (vecL a) (vecL b) := by
  unfold cmpVec vecL
  rw [cmpL_app _ _ _ _ (idL_len a.root b.root), ← cmpId_L]
  simp only [orI_cons, orI, cmpL]
  rw [cmpL_app _ _ _ _ (idL_len a.bridge b.bridge), ← cmpId_L]
  simp only [cmpL]

theorem idL_inj (a b : Id) (h : idL a = idL b) : a = b := by
  obtain ⟨p, ⟨a0, a1, a2, a3, a4, a5⟩⟩ := a
  obtain ⟨q, ⟨b0, b1, b2, b3, b4, b5⟩⟩ := b
  unfold idL at h
  simp only [List.cons.injEq] at h
  obtain ⟨h0, h1, h2, h3, h4, h5, h6, _⟩ := h
  have e1 : a0 = b0 := UInt8.toNat_inj.1 (by omega)
  have e2 : a1 = b1 := UInt8.toNat_inj.1 (by omega)
  have e3 : a2 = b2 := UInt8.toNat_inj.1 (by omega)
  have e4 : a3 = b3 := UInt8.toNat_inj.1 (by omega)
  have e5 : a4 = b4 := UInt8.toNat_inj.1 (by omega)
  have e6 : a5 = b5 := UInt8.toNat_inj.1 (by omega)
  have e0 : p = q := h0
  subst e0 e1 e2 e3 e4 e5 e6; rfl
theorem cmpId_zero (a b : Id) : cmpId a b = 0 ↔ a = b := by
  rw [cmpId_L, cmpL_zero _ _ (idL_len a b)]
  exact ⟨idL_inj a b, fun h => by rw [h]⟩
theorem vecL_inj (a b : Vec) (h : vecL a = vecL b) : a = b := by
  unfold vecL at h
  obtain ⟨h1, h2⟩ := List.append_inj h rfl
  injection h2 with h2 h3
  obtain ⟨h3, h4⟩ := List.append_inj h3 rfl
  injection h4 with h4 h5
  injection h5 with h5
  have e1 := idL_inj _ _ h1
  have e3 := idL_inj _ _ h3
  cases a; cases b; simp_all
theorem cmpVec_zero (a b : Vec) : cmpVec a b = 0 ↔ a = b := by
  rw [cmpVec_L, cmpL_zero _ _ (vecL_len a b)]
  exact ⟨vecL_inj a b, fun h => by rw [h]⟩
theorem cmpVec_swap (a b : Vec) : cmpVec b a = - cmpVec a b := by rw [cmpVec_L, cmpVec_L, cmpL_swap]
theorem cmpVec_trans (a b c : Vec) (h : cmpVec a b < 0) (h' : cmpVec b c ≤ 0) : cmpVec a c < 0 := by
  rw [cmpVec_L] at *; exact cmpL_trans _ _ _ (vecL_len a b) (vecL_len b c) h h'
theorem cmpVec_le_trans (a b c : Vec) (h : cmpVec a b ≤ 0) (h' : cmpVec b c ≤ 0) : cmpVec a c ≤ 0 := by
  by_cases h0 : cmpVec a b = 0
  · rw [(cmpVec_zero a b).1 h0]; exact h'
  · exact Int.le_of_lt (cmpVec_trans a b c (by omega) h')
theorem cmpVec_self (a : Vec) : cmpVec a a = 0 := (cmpVec_zero a a).2 rfl

/-- may what a port has heard be the way? -/
def cand (me : Id) (h : Heard) : Bool := h.up && h.has && !decide ((addVec h.v h.cost).bridge = me)
/-- the way over a port. -/
def way (h : Heard) : Vec := { addVec h.v h.cost with own := h.port }

theorem addVec_bridge (v : Vec) (c : Int) : (addVec v c).bridge = v.bridge := by unfold addVec; split <;> rfl
theorem addVec_root (v : Vec) (c : Int) : (addVec v c).root = v.root := by unfold addVec; split <;> rfl

theorem selStep_eq (me : Id) (i : Nat) (h : Heard) (acc : Vec × Int) : selStep me i h acc = if cand me h = true ∧ cmpVec (way h) acc.1 < 0 then (way h, (i : Int)) else acc := by
  unfold selStep cand way
  simp only [Bool.and_eq_true, decide_eq_true_eq]

/-- what is known of the best way of the first ports. -/
structure Best (me : Id) (l : List Heard) (k : Nat) (best : Vec) (root : Int) : Prop where
  own : cmpVec best (ownWay me) ≤ 0
  all : ∀ i h, i < k → l[i]? = some h → cand me h = true → cmpVec best (way h) ≤ 0
  is : (root = -1 ∧ best = ownWay me) ∨ ∃ i h, i < k ∧ l[i]? = some h ∧ cand me h = true ∧ root = (i : Int) ∧ best = way h

theorem best_loop (me : Id) (l : List Heard) : ∀ k, k ≤ l.length → Best me l k (selLoop me l k).1 (selLoop me l k).2 := by
  intro k
  induction k with
  | zero => intro _; exact ⟨by simp [selLoop, cmpVec_self], fun i h hi => by omega, Or.inl ⟨rfl, rfl⟩⟩
  | succ k ih =>
    intro hk
    have h0 := ih (by omega)
    have hl : l[k]? = some l[k] := List.getElem?_eq_getElem hk
    rw [selLoop_succ me l k l[k] hl, selStep_eq]
    split
    · rename_i hc
      obtain ⟨hc, hlt⟩ := hc
      refine ⟨Int.le_of_lt (cmpVec_trans _ _ _ hlt h0.own), fun i h hi hh hcd => ?_, Or.inr ⟨k, l[k], by omega, hl, hc, rfl, rfl⟩⟩
      by_cases hik : i < k
      · exact Int.le_of_lt (cmpVec_trans _ _ _ hlt (h0.all i h hik hh hcd))
      · have : i = k := by omega
        subst this
        rw [hl] at hh; injection hh with hh; subst hh
        exact Int.le_of_eq (cmpVec_self _)
    · rename_i hc
      refine ⟨h0.own, fun i h hi hh hcd => ?_, ?_⟩
      · by_cases hik : i < k
        · exact h0.all i h hik hh hcd
        · have : i = k := by omega
          subst this
          rw [hl] at hh; injection hh with hh; subst hh
          have hn : ¬ cmpVec (way l[i]) (selLoop me l i).1 < 0 := fun h => hc ⟨hcd, h⟩
          have := cmpVec_swap (way l[i]) (selLoop me l i).1
          omega
      · rcases h0.is with h | ⟨i, h, hi, h2, h3, h4, h5⟩
        · exact Or.inl h
        · exact Or.inr ⟨i, h, by omega, h2, h3, h4, h5⟩

theorem best_all (me : Id) (l : List Heard) : Best me l l.length (selBest me l) (selRoot me l) := best_loop me l l.length (Nat.le_refl _)

theorem way_ne_own (me : Id) (h : Heard) (hc : cand me h = true) : way h ≠ ownWay me := by
  intro e
  have : (way h).bridge = me := by rw [e]; rfl
  unfold cand at hc
  simp at hc
  exact hc.2 this

/-- the role of a port, by what it has heard. -/
def roleBy (me : Id) (best : Vec) (h : Heard) : Int :=
  if h.up = false then 0
  else if cand me h = true ∧ way h = best then 1
  else if h.has = false then 2
  else if 0 ≤ cmpVec { h.v with own := 0 } (offer me best h.port) then 2
  else if h.v.bridge = me then 4 else 3

theorem ports_ne (l : List Heard) (hd : (l.map Heard.port).Nodup) (i j : Nat) (x y : Heard) (hi : l[i]? = some x) (hj : l[j]? = some y) (h : x.port = y.port) : i = j := by
  have h1 : (l.map Heard.port)[i]? = some x.port := by rw [List.getElem?_map, hi]; rfl
  have h2 : (l.map Heard.port)[j]? = some y.port := by rw [List.getElem?_map, hj]; rfl
  obtain ⟨hi', e1⟩ := List.getElem?_eq_some_iff.1 h1
  obtain ⟨hj', e2⟩ := List.getElem?_eq_some_iff.1 h2
  have hp := List.pairwise_iff_getElem.1 hd
  rcases Nat.lt_trichotomy i j with hl | hl | hl
  · exact absurd (by rw [e1, e2, h]) (hp i j hi' hj' hl)
  · exact hl
  · exact absurd (by rw [e1, e2, h]) (hp j i hj' hi' hl)

theorem fairN_nodup (l : List Heard) (h : fairN l = 0) : (l.map Heard.port).Nodup := by
  unfold fairN at h
  split at h
  · cases h
  · split at h
    · cases h
    · split at h
      · assumption
      · cases h

theorem root_iff (me : Id) (l : List Heard) (hd : (l.map Heard.port).Nodup) (i : Nat) (h : Heard) (hh : l[i]? = some h) : (i : Int) = selRoot me l ↔ cand me h = true ∧ way h = selBest me l := by
  have hb := best_all me l
  rcases hb.is with ⟨h1, h2⟩ | ⟨j, y, hj, hy, hc, h1, h2⟩
  · rw [h1, h2]
    constructor
    · intro h; omega
    · intro ⟨hc, he⟩; exact absurd he (way_ne_own me h hc)
  · rw [h1, h2]
    constructor
    · intro e
      have : i = j := by omega
      subst this
      rw [hh] at hy; injection hy with hy; subst hy
      exact ⟨hc, rfl⟩
    · intro ⟨_, he⟩
      have hp : h.port = y.port := by
        have : (way h).own = (way y).own := by rw [he]
        exact this
      have := ports_ne l hd i j h y hh hy hp
      omega

theorem roles_by (me : Id) (l : List Heard) (hd : (l.map Heard.port).Nodup) : selRoles me l = l.map (roleBy me (selBest me l)) := by
  apply List.ext_getElem?
  intro i
  rcases Nat.lt_or_ge i l.length with hi | hi
  · have hh : l[i]? = some l[i] := List.getElem?_eq_getElem hi
    rw [selRoles_get me l i l[i] hh, List.getElem?_map, hh]
    simp only [Option.map_some, Option.some.injEq]
    have hr := root_iff me l hd i l[i] hh
    unfold roleOf roleBy
    by_cases hu : l[i].up = false
    · rw [if_pos hu, if_pos hu]
    · rw [if_neg hu, if_neg hu]
      by_cases hc : (i : Int) = selRoot me l
      · rw [if_pos hc, if_pos (hr.1 hc)]
      · rw [if_neg hc, if_neg (fun h => hc (hr.2 h))]
  · rw [List.getElem?_eq_none (by rw [selRoles_length]; exact hi), List.getElem?_eq_none (by simpa using hi)]

/-- two rows of the same ports have one best way. -/
theorem best_same (me : Id) (l m : List Heard) (h1 : ∀ x ∈ l, x ∈ m) (h2 : ∀ x ∈ m, x ∈ l) : selBest me l = selBest me m := by
  have le : ∀ l m : List Heard, (∀ x ∈ m, x ∈ l) → cmpVec (selBest me l) (selBest me m) ≤ 0 := by
    intro l m h
    have hb := best_all me l
    rcases (best_all me m).is with ⟨_, e⟩ | ⟨j, y, _, hy, hc, _, e⟩
    · rw [e]; exact hb.own
    · rw [e]
      obtain ⟨i, hi⟩ := List.mem_iff_getElem?.1 (h y (List.mem_of_getElem? hy))
      exact hb.all i y (List.getElem?_eq_some_iff.1 hi).1 hi hc
  have a := le l m h2
  have b := le m l h1
  have := cmpVec_swap (selBest me l) (selBest me m)
  exact (cmpVec_zero _ _).1 (by omega)

theorem fairN_reverse (l : List Heard) : fairN l.reverse = fairN l := by
  unfold fairN
  rw [List.length_reverse, List.any_reverse, List.map_reverse]
  have : (l.map Heard.port).reverse.Nodup ↔ (l.map Heard.port).Nodup := List.pairwise_reverse.trans ⟨fun h => h.imp (fun h e => h e.symm), fun h => h.imp (fun h e => h e.symm)⟩
  by_cases h : (l.map Heard.port).Nodup
  · simp only [if_pos h, if_pos (this.2 h)]
  · simp only [if_neg h, if_neg (fun h' => h (this.1 h'))]
theorem selBest_reverse (me : Id) (l : List Heard) : selBest me l.reverse = selBest me l :=
  best_same me _ _ (fun x h => by simpa using h) (fun x h => by simpa using h)
theorem selRoles_reverse (me : Id) (l : List Heard) (hf : fairN l = 0) : selRoles me l.reverse = (selRoles me l).reverse := by
  have hd := fairN_nodup l hf
  rw [roles_by me l hd, roles_by me l.reverse (fairN_nodup _ (by rw [fairN_reverse]; exact hf)), selBest_reverse, List.map_reverse]
end Go.Proofs.Ytbfpmgcadinmbaa
