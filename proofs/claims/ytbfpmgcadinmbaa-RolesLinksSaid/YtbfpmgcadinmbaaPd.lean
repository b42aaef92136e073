/-
  Plain law: of two bridges that hear one another just one has a root port, and of each link just one end is designated.
-/
import Derived.Test.YtbfpmgcadinmbaaPc
namespace Go.Proofs.Ytbfpmgcadinmbaa
set_option linter.unusedVariables false
set_option linter.unusedSimpArgs false
open Go

def linkPort (i : Nat) (c : Int) : Heard := { port := i + 1, cost := c, up := true, has := false, v := zeroVec }
/-- the ports of a bridge that has heard nothing. -/
def linkList (costs : List Int) : List Heard := costs.mapIdx linkPort
/-- what one of two tells the other one at its first j links. -/
def tellTo (me : Id) (best : Vec) (roles : List Int) (L : List Heard) (j : Nat) : List Heard :=
  L.mapIdx fun i h => if i < j ∧ roles[i]? = some 2 then { h with has := true, v := offer me best ((i : Int) + 1) } else h
def linkState (a b : Id) (costs : List Int) : Nat → List Heard × List Heard
  | 0 => (linkList costs, linkList costs)
  | t + 1 => (tellTo b (selBest b (linkState a b costs t).2) (selRoles b (linkState a b costs t).2) (linkState a b costs t).1 costs.length,
      tellTo a (selBest a (linkState a b costs t).1) (selRoles a (linkState a b costs t).1) (linkState a b costs t).2 costs.length)

theorem tellTo_zero (me : Id) (best : Vec) (roles : List Int) (L : List Heard) : tellTo me best roles L 0 = L := by
  unfold tellTo
  apply List.ext_getElem?
  intro i
  rw [List.getElem?_mapIdx]
  cases L[i]? <;> simp
theorem tellTo_get (me : Id) (best : Vec) (roles : List Int) (L : List Heard) (j i : Nat) : (tellTo me best roles L j)[i]? = L[i]?.map fun h => if i < j ∧ roles[i]? = some 2 then { h with has := true, v := offer me best ((i : Int) + 1) } else h := by
  unfold tellTo; rw [List.getElem?_mapIdx]
theorem tellTo_length (me : Id) (best : Vec) (roles : List Int) (L : List Heard) (j : Nat) : (tellTo me best roles L j).length = L.length := by
  unfold tellTo; rw [List.length_mapIdx]
theorem tellTo_no (me : Id) (best : Vec) (roles : List Int) (L : List Heard) (j : Nat) (h : roles[j]? ≠ some 2) : tellTo me best roles L (j + 1) = tellTo me best roles L j := by
  apply List.ext_getElem?
  intro i
  rw [tellTo_get, tellTo_get]
  congr 1
  funext x
  by_cases hij : i = j
  · subst hij; rw [if_neg (fun h' => h h'.2), if_neg (fun h' => h h'.2)]
  · have : (i < j + 1 ∧ roles[i]? = some 2) ↔ (i < j ∧ roles[i]? = some 2) := by
      constructor <;> intro ⟨h1, h2⟩ <;> exact ⟨by omega, h2⟩
    simp only [this]
theorem tellTo_yes (me : Id) (best : Vec) (roles : List Int) (L : List Heard) (j : Nat) (x : Heard) (hx : L[j]? = some x) (h : roles[j]? = some 2) :
    tellTo me best roles L (j + 1) = (tellTo me best roles L j).set j { x with has := true, v := offer me best ((j : Int) + 1) } := by
  apply List.ext_getElem?
  intro i
  rw [tellTo_get, List.getElem?_set, tellTo_length]
  by_cases hij : j = i
  · subst hij
    rw [hx, if_pos rfl, if_pos (List.getElem?_eq_some_iff.1 hx).1]
    simp [h]
  · rw [if_neg hij, tellTo_get]
    congr 1
    funext x
    have : (i < j + 1 ∧ roles[i]? = some 2) ↔ (i < j ∧ roles[i]? = some 2) := by
      constructor <;> intro ⟨h1, h2⟩ <;> exact ⟨by omega, h2⟩
    simp only [this]
/-- ahead of its own round a port has heard what it had. -/
theorem tellTo_here (me : Id) (best : Vec) (roles : List Int) (L : List Heard) (j : Nat) : (tellTo me best roles L j)[j]? = L[j]? := by
  rw [tellTo_get]; cases L[j]? <;> simp

/-- a row of ports of these costs, numbered from 1 on, all up. -/
structure Ports (costs : List Int) (L : List Heard) : Prop where
  len : L.length = costs.length
  at_ : ∀ (i : Nat) (h : Heard), L[i]? = some h → h.port = (i : Int) + 1 ∧ costs[i]? = some h.cost ∧ h.up = true

theorem ports_link (costs : List Int) : Ports costs (linkList costs) := by
  refine ⟨by simp [linkList], fun i h hh => ?_⟩
  unfold linkList at hh
  rw [List.getElem?_mapIdx, Option.map_eq_some_iff] at hh
  obtain ⟨c, hc, rfl⟩ := hh
  exact ⟨rfl, hc, rfl⟩
theorem ports_tell {costs : List Int} {L : List Heard} (h : Ports costs L) (me : Id) (best : Vec) (roles : List Int) (j : Nat) : Ports costs (tellTo me best roles L j) := by
  refine ⟨by rw [tellTo_length]; exact h.len, fun i x hx => ?_⟩
  rw [tellTo_get, Option.map_eq_some_iff] at hx
  obtain ⟨y, hy, rfl⟩ := hx
  obtain ⟨h1, h2, h3⟩ := h.at_ i y hy
  split <;> exact ⟨h1, h2, h3⟩
theorem ports_state (a b : Id) (costs : List Int) : ∀ t, Ports costs (linkState a b costs t).1 ∧ Ports costs (linkState a b costs t).2
  | 0 => ⟨ports_link costs, ports_link costs⟩
  | t + 1 => ⟨ports_tell (ports_state a b costs t).1 _ _ _ _, ports_tell (ports_state a b costs t).2 _ _ _ _⟩

theorem ports_fair {costs : List Int} {L : List Heard} (h : Ports costs L) (hn : costs.length ≤ 64) (hc : ∀ c ∈ costs, 1 ≤ c ∧ c ≤ 200000000) : fairN L = 0 := by
  have hl := h.len
  unfold fairN
  rw [if_neg (by omega), if_neg, if_pos]
  · rw [List.Nodup, List.pairwise_iff_getElem]
    intro i j hi hj hij
    rw [List.length_map] at hi hj
    rw [List.getElem_map, List.getElem_map, (h.at_ i L[i] (List.getElem?_eq_getElem hi)).1, (h.at_ j L[j] (List.getElem?_eq_getElem hj)).1]
    omega
  · intro ha
    rw [List.any_eq_true] at ha
    obtain ⟨x, hx, hb⟩ := ha
    obtain ⟨i, hi⟩ := List.mem_iff_getElem?.1 hx
    obtain ⟨h1, h2, h3⟩ := h.at_ i x hi
    have hil := (List.getElem?_eq_some_iff.1 hi).1
    have := hc x.cost (List.mem_of_getElem? h2)
    unfold badPort at hb
    have := of_decide_eq_true hb
    omega

/-- what all ports of a bridge have heard, if the other one is the root. -/
def hearing (o : Id) (costs : List Int) : List Heard := costs.mapIdx fun i c => { port := i + 1, cost := c, up := true, has := true, v := offer o (ownWay o) ((i : Int) + 1) }
theorem hearing_get (o : Id) (costs : List Int) (i : Nat) (h : Heard) (hh : (hearing o costs)[i]? = some h) :
    ∃ c, costs[i]? = some c ∧ h = { port := (i : Int) + 1, cost := c, up := true, has := true, v := offer o (ownWay o) ((i : Int) + 1) } := by
  unfold hearing at hh
  rw [List.getElem?_mapIdx, Option.map_eq_some_iff] at hh
  obtain ⟨c, hc, rfl⟩ := hh
  exact ⟨c, hc, rfl⟩
theorem hearing_length (o : Id) (costs : List Int) : (hearing o costs).length = costs.length := by simp [hearing]

theorem tell_all (me : Id) (costs : List Int) (roles : List Int) (L : List Heard) (hL : Ports costs L) (hr : ∀ i, i < costs.length → roles[i]? = some 2) :
    tellTo me (ownWay me) roles L costs.length = hearing me costs := by
  apply List.ext_getElem?
  intro i
  rw [tellTo_get]
  unfold hearing
  rw [List.getElem?_mapIdx]
  rcases Nat.lt_or_ge i costs.length with hi | hi
  · have hiL : i < L.length := by rw [hL.len]; exact hi
    have hg := List.getElem?_eq_getElem hiL
    obtain ⟨h1, h2, h3⟩ := hL.at_ i L[i] hg
    rw [hg, h2]
    simp only [Option.map_some, Option.some.injEq]
    rw [if_pos ⟨hi, hr i hi⟩]
    rw [← h1]
    generalize L[i] = x at *
    cases x
    simp_all
  · rw [List.getElem?_eq_none (l := L) (by rw [hL.len]; exact hi), List.getElem?_eq_none hi]; rfl
theorem tell_none (me : Id) (best : Vec) (roles : List Int) (L : List Heard) (n : Nat) (hr : ∀ i, i < n → roles[i]? ≠ some 2) : tellTo me best roles L n = L := by
  apply List.ext_getElem?
  intro i
  rw [tellTo_get]
  cases L[i]? with
  | none => rfl
  | some x =>
    simp only [Option.map_some, Option.some.injEq]
    rw [if_neg]
    intro ⟨h1, h2⟩; exact hr i h1 h2

/-- a bridge that has heard nothing. -/
theorem deaf_link (me : Id) (costs : List Int) : selBest me (linkList costs) = ownWay me ∧ ∀ i, i < costs.length → (selRoles me (linkList costs))[i]? = some 2 := by
  have e : deafs (linkList costs) = linkList costs := by
    unfold deafs linkList
    apply List.ext_getElem?
    intro i
    rw [List.getElem?_map, List.getElem?_mapIdx]
    cases costs[i]? <;> rfl
  have h1 := selBest_deafs me (linkList costs)
  rw [e] at h1
  refine ⟨h1, fun i hi => ?_⟩
  have hg : (linkList costs)[i]? = some (linkPort i costs[i]) := by
    unfold linkList; rw [List.getElem?_mapIdx, List.getElem?_eq_getElem hi]; rfl
  have := roles_deafs me (linkList costs) i _ hg
  rw [e] at this
  rw [this]; rfl

theorem cmpI_self (a : Int) : cmpI a a = 0 := (cmpI_zero a a).2 rfl
theorem cmpId_self (a : Id) : cmpId a a = 0 := (cmpId_zero a a).2 rfl
theorem cmpId_swap (a b : Id) : cmpId b a = - cmpId a b := by rw [cmpId_L, cmpId_L, cmpL_swap]

/-- which way is less, where the roots differ. -/
theorem cmpVec_root (u v : Vec) (h : cmpId u.root v.root ≠ 0) : cmpVec u v = cmpId u.root v.root := by
  unfold cmpVec; rw [orI_cons, if_neg h]
theorem cmpVec_cost (u v : Vec) (h : u.root = v.root) (h1 : cmpI u.cost v.cost ≠ 0) : cmpVec u v = cmpI u.cost v.cost := by
  unfold cmpVec; rw [orI_cons, h, if_pos (cmpId_self _), orI_cons, if_neg h1]

theorem way_hear (o : Id) (c p : Int) (hc : 1 ≤ c ∧ c ≤ 200000000) : way { port := p, cost := c, up := true, has := true, v := offer o (ownWay o) p } = { root := o, cost := c, bridge := o, port := p, own := p } := by
  unfold way addVec offer ownWay
  rw [if_pos (by
    rw [Bool.and_eq_true]
    exact ⟨(costsB_iff 0).2 ⟨by omega, by omega⟩, (costsB_iff c).2 ⟨by omega, by omega⟩⟩)]
  simp only [Int.zero_add]
  rw [Int.min_eq_left (by omega)]

/-- the one that is the root hears the other one. -/
theorem lead_best (a b : Id) (costs : List Int) (hab : cmpId a b < 0) (hn : costs.length ≤ 64) (hc : ∀ c ∈ costs, 1 ≤ c ∧ c ≤ 200000000) : selBest a (hearing b costs) = ownWay a := by
  rcases (best_all a (hearing b costs)).is with ⟨_, h⟩ | ⟨i, x, hi, hx, hcd, _, he⟩
  · exact h
  · have ho := (best_all a (hearing b costs)).own
    rw [he] at ho
    obtain ⟨c, hcc, rfl⟩ := hearing_get b costs i x hx
    rw [way_hear b c _ (hc c (List.mem_of_getElem? hcc))] at ho
    have hs := cmpId_swap a b
    rw [cmpVec_root _ _ (by show cmpId b a ≠ 0; omega)] at ho
    have : cmpId b a ≤ 0 := ho
    omega

theorem ports_hear (o : Id) (costs : List Int) : Ports costs (hearing o costs) := by
  refine ⟨hearing_length o costs, fun i h hh => ?_⟩
  obtain ⟨c, hcc, rfl⟩ := hearing_get o costs i h hh
  exact ⟨rfl, hcc, rfl⟩

theorem lead_roles (a b : Id) (costs : List Int) (hab : cmpId a b < 0) (hn : costs.length ≤ 64) (hc : ∀ c ∈ costs, 1 ≤ c ∧ c ≤ 200000000) (i : Nat) (hi : i < costs.length) :
    (selRoles a (hearing b costs))[i]? = some 2 := by
  have hb := lead_best a b costs hab hn hc
  have hd := fairN_nodup _ (ports_fair (ports_hear b costs) hn hc)
  rw [roles_by a _ hd, hb, List.getElem?_map]
  have hg : i < (hearing b costs).length := by rw [hearing_length]; exact hi
  rw [List.getElem?_eq_getElem hg]
  simp only [Option.map_some, Option.some.injEq]
  obtain ⟨c, hcc, he⟩ := hearing_get b costs i _ (List.getElem?_eq_getElem hg)
  rw [he]
  have hs := cmpId_swap a b
  unfold roleBy
  rw [if_neg (by simp), if_neg (fun h => way_ne_own a _ h.1 h.2), if_neg (by simp), if_pos]
  rw [cmpVec_root _ _ (by show cmpId b a ≠ 0; omega)]
  show 0 ≤ cmpId b a
  omega

/-- the other one hears the root. -/
theorem follow_roles (a b : Id) (costs : List Int) (hab : cmpId a b < 0) (hn : costs.length ≤ 64) (hpos : 0 < costs.length) (hc : ∀ c ∈ costs, 1 ≤ c ∧ c ≤ 200000000) :
    ∃ k, k < costs.length ∧ ∀ i, i < costs.length → (selRoles b (hearing a costs))[i]? = some (if i = k then 1 else 3) := by
  have hba := best_all b (hearing a costs)
  have hne : a ≠ b := by rintro rfl; rw [cmpId_self] at hab; omega
  have hcand : ∀ (i : Nat) (x : Heard), (hearing a costs)[i]? = some x → cand b x = true := by
    intro i x hx
    obtain ⟨c, hcc, rfl⟩ := hearing_get a costs i x hx
    unfold cand
    rw [addVec_bridge]
    simp [offer, hne]
  have hd := fairN_nodup _ (ports_fair (ports_hear a costs) hn hc)
  rcases hba.is with ⟨_, h⟩ | ⟨k, x, hk, hx, hcd, _, he⟩
  · exfalso
    have h0 : 0 < (hearing a costs).length := by rw [hearing_length]; exact hpos
    have hg := List.getElem?_eq_getElem h0
    have := hba.all 0 _ h0 hg (hcand 0 _ hg)
    rw [h] at this
    obtain ⟨c, hcc, hx⟩ := hearing_get a costs 0 _ hg
    rw [hx, way_hear a c _ (hc c (List.mem_of_getElem? hcc))] at this
    have hs := cmpId_swap a b
    rw [cmpVec_root _ _ (by show cmpId b a ≠ 0; omega)] at this
    have : cmpId b a ≤ 0 := this
    omega
  · refine ⟨k, by rw [hearing_length] at hk; exact hk, fun i hi => ?_⟩
    rw [roles_by b _ hd, List.getElem?_map]
    have hg : i < (hearing a costs).length := by rw [hearing_length]; exact hi
    have hgi := List.getElem?_eq_getElem hg
    rw [hgi]
    simp only [Option.map_some, Option.some.injEq]
    obtain ⟨c, hcc, hxi⟩ := hearing_get a costs i _ hgi
    obtain ⟨ck, hck, hxk⟩ := hearing_get a costs k _ hx
    have hci := hcand i _ hgi
    rw [hxi] at hci ⊢
    rw [he, hxk, way_hear a ck _ (hc ck (List.mem_of_getElem? hck))]
    unfold roleBy
    rw [if_neg (by simp), way_hear a c _ (hc c (List.mem_of_getElem? hcc))]
    by_cases hik : i = k
    · subst hik
      rw [hck] at hcc; injection hcc with hcc; subst hcc
      rw [if_pos ⟨hci, rfl⟩, if_pos rfl]
    · rw [if_neg (fun h => by
        have := h.2
        injection this with _ _ _ h4 _
        omega), if_neg (by simp), if_neg, if_neg (by show ¬ a = b; exact hne), if_neg hik]
      have hck1 := (hc ck (List.mem_of_getElem? hck)).1
      have hlt : cmpI 0 ck < 0 := (cmpI_neg 0 ck).2 (by omega)
      have hx : cmpVec { offer a (ownWay a) ((i : Int) + 1) with own := 0 } (offer b { root := a, cost := ck, bridge := a, port := (k : Int) + 1, own := (k : Int) + 1 } ((i : Int) + 1)) = cmpI 0 ck :=
        cmpVec_cost _ _ rfl (by show cmpI 0 ck ≠ 0; omega)
      intro h'
      have h2 : 0 ≤ cmpVec { offer a (ownWay a) ((i : Int) + 1) with own := 0 } (offer b { root := a, cost := ck, bridge := a, port := (k : Int) + 1, own := (k : Int) + 1 } ((i : Int) + 1)) := h'
      rw [hx] at h2
      omega

/-- what the law asks of the roles at last. -/
structure LinkEnd (n : Nat) (x y : List Int) (k : Nat) : Prop where
  lt : k < n
  at_ : ∀ i, i < n → ∃ p q, x[i]? = some p ∧ y[i]? = some q ∧ ((p = 2 ∧ q ≠ 2) ∨ (p ≠ 2 ∧ q = 2)) ∧ ((p = 1 ∨ q = 1) ↔ i = k)

theorem state_lead (a b : Id) (costs : List Int) (hab : cmpId a b < 0) (hn : costs.length ≤ 64) (hpos : 0 < costs.length) (hc : ∀ c ∈ costs, 1 ≤ c ∧ c ≤ 200000000) :
    ∀ t, linkState a b costs (t + 1) = (hearing b costs, hearing a costs) := by
  intro t
  induction t with
  | zero =>
    have hl1 := deaf_link a costs
    have hl2 := deaf_link b costs
    show (tellTo b (selBest b (linkList costs)) (selRoles b (linkList costs)) (linkList costs) costs.length, tellTo a (selBest a (linkList costs)) (selRoles a (linkList costs)) (linkList costs) costs.length) = _
    rw [hl1.1, hl2.1, tell_all b costs _ _ (ports_link costs) hl2.2, tell_all a costs _ _ (ports_link costs) hl1.2]
  | succ t ih =>
    obtain ⟨k, hk, hf⟩ := follow_roles a b costs hab hn hpos hc
    rw [linkState, ih]
    show (tellTo b (selBest b (hearing a costs)) (selRoles b (hearing a costs)) (hearing b costs) costs.length, tellTo a (selBest a (hearing b costs)) (selRoles a (hearing b costs)) (hearing a costs) costs.length) = _
    rw [lead_best a b costs hab hn hc, tell_all a costs _ _ (ports_hear a costs) (lead_roles a b costs hab hn hc), tell_none b _ _ _ _ (fun i hi => by rw [hf i hi]; split <;> simp)]

theorem state_swap (a b : Id) (costs : List Int) : ∀ t, linkState a b costs t = ((linkState b a costs t).2, (linkState b a costs t).1)
  | 0 => rfl
  | t + 1 => by rw [linkState, state_swap a b costs t]; rfl

theorem link_end (a b : Id) (costs : List Int) (hab : a ≠ b) (hn : costs.length ≤ 64) (hpos : 0 < costs.length) (hc : ∀ c ∈ costs, 1 ≤ c ∧ c ≤ 200000000) :
    ∃ k, LinkEnd costs.length (selRoles a (linkState a b costs 2).1) (selRoles b (linkState a b costs 2).2) k := by
  have hz : cmpId a b ≠ 0 := fun h => hab ((cmpId_zero a b).1 h)
  rcases Int.lt_or_lt_of_ne hz with h | h
  · rw [state_lead a b costs h hn hpos hc 1]
    obtain ⟨k, hk, hf⟩ := follow_roles a b costs h hn hpos hc
    refine ⟨k, hk, fun i hi => ⟨2, _, lead_roles a b costs h hn hc i hi, hf i hi, Or.inl ⟨rfl, by split <;> decide⟩, ?_⟩⟩
    by_cases hik : i = k <;> simp [hik]
  · have h' : cmpId b a < 0 := by rw [cmpId_swap]; omega
    rw [state_swap a b costs 2, state_lead b a costs h' hn hpos hc 1]
    obtain ⟨k, hk, hf⟩ := follow_roles b a costs h' hn hpos hc
    refine ⟨k, hk, fun i hi => ⟨_, 2, hf i hi, lead_roles b a costs h' hn hc i hi, Or.inr ⟨by split <;> decide, rfl⟩, ?_⟩⟩
    by_cases hik : i = k <;> simp [hik]
end Go.Proofs.Ytbfpmgcadinmbaa
