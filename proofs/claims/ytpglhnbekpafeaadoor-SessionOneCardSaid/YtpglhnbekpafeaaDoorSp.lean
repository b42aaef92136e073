/-
  Plain Lean values and functions of the layers control and shake: no program in sight.
-/
import Derived.WalkKit
import Derived.WalkLawsBesides
import Derived.WalkSpells
import Derived.Lib.Hide
import Derived.Laws.AppendOwn
import Derived.Test.YtpglhnbekpafeaaDoorLaws
namespace Go.Proofs.YtpglhnbekpafeaaDoor
set_option linter.unusedVariables false
set_option linter.unusedSimpArgs false
open Go

structure Mac where
  a : UInt8
  b : UInt8
  c : UInt8
  d : UInt8
  e : UInt8
  f : UInt8
  deriving DecidableEq

/-- a note; of its body where it lies. -/
structure Note where
  kind : Int
  vlan : Int
  mac : Mac
  port : Int
  state : Int
  ba : Option Addr
  bl : Nat
  bc : Nat

abbrev bV (x : UInt8) : Value := .int .u8 (x.toNat : Int)
abbrev iV (x : Int) : Value := .int .i64 x
abbrev macList (m : Mac) : List Value := [bV m.a, bV m.b, bV m.c, bV m.d, bV m.e, bV m.f]
abbrev noteList (n : Note) : List Value := [iV n.kind, iV n.vlan, bV n.mac.a, bV n.mac.b, bV n.mac.c, bV n.mac.d, bV n.mac.e, bV n.mac.f, iV n.port, iV n.state, .slice n.ba n.bl n.bc]
abbrev Note.val (n : Note) : Value := .agg #[iV n.kind, iV n.vlan, bV n.mac.a, bV n.mac.b, bV n.mac.c, bV n.mac.d, bV n.mac.e, bV n.mac.f, iV n.port, iV n.state, .slice n.ba n.bl n.bc]
abbrev mac0 : Mac := ⟨0, 0, 0, 0, 0, 0⟩

/-- what kinds have, as the program's table says. -/
def hasN (k : Int) : Nat := [0, 7, 3, 12, 12, 20, 12, 8, 29].getD k.toNat 0
def hasB (k : Int) (f : Nat) : Bool := hasN k &&& f != 0
def statesN (k : Int) : Int := if k = 6 then 2 else if k = 8 then 250 else 1
def withinB (n low high : Int) : Bool := decide (low ≤ n ∧ n ≤ high)
def fitsB (k v : Int) (f : Nat) (low high : Int) : Bool := if hasB k f then withinB v low high else withinB v 0 0
/-- may a note be? -/
def rightB (n : Note) : Bool :=
  withinB n.kind 0 8 && (hasB n.kind 2 || decide (n.mac = mac0)) && fitsB n.kind n.vlan 1 1 4094 && fitsB n.kind n.port 4 0 1000 && fitsB n.kind n.state 8 0 (statesN n.kind) && fitsB n.kind n.bl 16 0 1600

/-- what is known of a link. -/
structure Lnk where
  up : Bool
  owed : Int
  down : Bool
  deriving DecidableEq
structure Shk where
  l : List Lnk
  session : Bool
  alone : Bool
abbrev lnkList (x : Lnk) : List Value := [.bool x.up, iV x.owed, .bool x.down]
def lnkFlat (l : List Lnk) : List Value := l.flatMap lnkList

theorem lnkFlat_length (l : List Lnk) : (lnkFlat l).length = l.length * 3 := by
  unfold lnkFlat
  induction l with
  | nil => rfl
  | cons x r ih => rw [List.flatMap_cons, List.length_append, ih]; simp; omega
theorem lnkFlat_get : ∀ (l : List Lnk) (i : Nat) (x : Lnk), l[i]? = some x → ∀ j v, (lnkList x)[j]? = some v → (lnkFlat l)[i * 3 + j]? = some v := by
  intro l
  induction l with
  | nil => intro i h hi; simp at hi
  | cons y r ih =>
    intro i x hi j v hv
    unfold lnkFlat
    rw [List.flatMap_cons]
    have hj : j < 3 := (List.getElem?_eq_some_iff.1 hv).1
    cases i with
    | zero =>
      simp at hi; subst hi
      rw [List.getElem?_append_left (by simp; omega)]; simpa using hv
    | succ i =>
      rw [List.getElem?_append_right (by simp; omega)]
      have := ih i x (by simpa using hi) j v hv
      rw [show (i + 1) * 3 + j - (lnkList y).length = i * 3 + j by simp; omega]; exact this
theorem lnkFlat_set (l : List Lnk) (i : Nat) (x : Lnk) (hi : i < l.length) :
    lnkFlat (l.set i x) = (((lnkFlat l).set (i * 3) (.bool x.up)).set (i * 3 + 1) (iV x.owed)).set (i * 3 + 2) (.bool x.down) := by
  induction l generalizing i with
  | nil => simp at hi
  | cons y r ih =>
    cases i with
    | zero => rfl
    | succ i =>
      have := ih i (by simpa using hi)
      have e : ∀ (k : Nat) (v : Value) (m : List Value), (lnkList y ++ m).set (k + 3) v = lnkList y ++ m.set k v := fun k v m => by
        rw [List.set_append_right (h := by simp)]; simp
      show lnkList y ++ lnkFlat (r.set i x) = _
      rw [this]
      show _ = (((lnkList y ++ lnkFlat r).set ((i + 1) * 3) _).set ((i + 1) * 3 + 1) _).set ((i + 1) * 3 + 2) _
      rw [show (i + 1) * 3 = i * 3 + 3 by omega, show i * 3 + 3 + 1 = i * 3 + 1 + 3 by omega, show i * 3 + 3 + 2 = i * 3 + 2 + 3 by omega, e, e, e]

/-- what is told: of a member, of a link that is blocked. -/
structure Tn where
  kind : Int
  port : Int
  state : Int
  deriving DecidableEq
def Tn.note (t : Tn) : Note := ⟨t.kind, 0, mac0, t.port, t.state, none, 0, 0⟩
abbrev tnList (t : Tn) : List Value := [iV t.kind, .int .i64 0, .int .u8 0, .int .u8 0, .int .u8 0, .int .u8 0, .int .u8 0, .int .u8 0, iV t.port, iV t.state, .slice none 0 0]
theorem tnList_eq (t : Tn) : noteList t.note = tnList t := rfl
def memberTn (i : Nat) (up : Bool) : Tn := ⟨3, (i : Int) + 1, if up then 1 else 0⟩

def Shk.new (n : Nat) : Shk := { l := List.replicate n ⟨false, 0, false⟩, session := false, alone := false }
/-- a member's state is told: an answer is owed where it is up. -/
def Lnk.tell (x : Lnk) : Lnk := if x.up then { x with owed := x.owed + 1 } else x
def Shk.stop (s : Shk) (serve : Bool) : Shk := { l := s.l.map fun x => { up := x.up, owed := 0, down := false }, session := false, alone := serve }
def Shk.start (s : Shk) : Shk := { l := s.l.map fun x => Lnk.tell { up := x.up, owed := 0, down := false }, session := true, alone := false }
def startTold (l : List Lnk) : List Tn := l.mapIdx fun i x => memberTn i x.up
/-- Stop, behind k rounds. -/
def stopK (l : List Lnk) (k : Nat) : List Lnk := l.mapIdx fun j x => if j < k then { up := x.up, owed := 0, down := false } else x
theorem stopK_zero (l : List Lnk) : stopK l 0 = l := by
  unfold stopK
  apply List.ext_getElem?
  intro i
  rw [List.getElem?_mapIdx]
  cases l[i]? <;> simp
theorem stopK_length (l : List Lnk) (k : Nat) : (stopK l k).length = l.length := by simp [stopK]
theorem stopK_get (l : List Lnk) (k i : Nat) : (stopK l k)[i]? = l[i]?.map fun x => if i < k then { up := x.up, owed := 0, down := false } else x := by
  unfold stopK; rw [List.getElem?_mapIdx]
theorem stopK_here (l : List Lnk) (k : Nat) : (stopK l k)[k]? = l[k]? := by rw [stopK_get]; cases l[k]? <;> simp
theorem stopK_succ (l : List Lnk) (k : Nat) (x : Lnk) (hx : l[k]? = some x) : stopK l (k + 1) = (stopK l k).set k { up := x.up, owed := 0, down := false } := by
  apply List.ext_getElem?
  intro i
  rw [stopK_get, List.getElem?_set, stopK_length]
  by_cases hik : k = i
  · subst hik
    rw [if_pos rfl, if_pos (List.getElem?_eq_some_iff.1 hx).1, hx]
    simp
  · rw [if_neg hik, stopK_get]
    congr 1
    funext y
    have : i < k + 1 ↔ i < k := by omega
    simp only [this]
theorem stopK_all (l : List Lnk) : stopK l l.length = l.map fun x => { up := x.up, owed := 0, down := false } := by
  apply List.ext_getElem?
  intro i
  rw [stopK_get, List.getElem?_map]
  rcases Nat.lt_or_ge i l.length with h | h
  · rw [List.getElem?_eq_getElem h]; simp [h]
  · rw [List.getElem?_eq_none h]; rfl

/-- members tells of these links, one behind the other. -/
def tells (l : List Lnk) : List Nat → List Lnk
  | [] => l
  | i :: r => match l[i]? with
    | some x => tells (l.set i (Lnk.tell x)) r
    | none => tells l r
def tellsUp (l : List Lnk) (is : List Nat) : List Tn := is.map fun i => memberTn i ((l[i]?.map Lnk.up).getD false)
theorem tells_length : ∀ (is : List Nat) (l : List Lnk), (tells l is).length = l.length
  | [], l => rfl
  | i :: r, l => by
    unfold tells
    split
    · rw [tells_length r, List.length_set]
    · exact tells_length r l
theorem tells_cons (l : List Lnk) (i : Nat) (r : List Nat) : tells l (i :: r) = match l[i]? with | some x => tells (l.set i (Lnk.tell x)) r | none => tells l r := rfl
theorem tells_snoc : ∀ (is : List Nat) (l : List Lnk) (j : Nat) (x : Lnk), (tells l is)[j]? = some x → tells l (is ++ [j]) = (tells l is).set j (Lnk.tell x)
  | [], l, j, x, h => by
    have h' : l[j]? = some x := h
    show tells l [j] = l.set j (Lnk.tell x)
    rw [tells_cons, h']; rfl
  | i :: r, l, j, x, h => by
    rw [List.cons_append, tells_cons, tells_cons]
    rw [tells_cons] at h
    cases hi : l[i]? with
    | none => rw [hi] at h; exact tells_snoc r l j x h
    | some y => rw [hi] at h; exact tells_snoc r _ j x h
theorem tell_up (x : Lnk) : (Lnk.tell x).up = x.up := by unfold Lnk.tell; split <;> rfl
theorem tells_up : ∀ (is : List Nat) (l : List Lnk) (j : Nat), (tells l is)[j]?.map Lnk.up = l[j]?.map Lnk.up
  | [], _, _ => rfl
  | i :: r, l, j => by
    unfold tells
    cases hi : l[i]? with
    | none => exact tells_up r l j
    | some y =>
      show (tells (l.set i (Lnk.tell y)) r)[j]?.map Lnk.up = _
      rw [tells_up r, List.getElem?_set]
      by_cases hij : i = j
      · subst hij
        rw [if_pos rfl, if_pos (List.getElem?_eq_some_iff.1 hi).1, hi]
        simp [tell_up]
      · rw [if_neg hij]
theorem tells_owed : ∀ (is : List Nat) (l : List Lnk) (M : Int), (∀ x ∈ l, 0 ≤ x.owed ∧ x.owed ≤ M) → ∀ x ∈ tells l is, 0 ≤ x.owed ∧ x.owed ≤ M + is.length
  | [], l, M, h, x, hx => by have := h x hx; simp; omega
  | i :: r, l, M, h, x, hx => by
    unfold tells at hx
    cases hi : l[i]? with
    | none =>
      rw [hi] at hx
      have := tells_owed r l M h x hx
      simp; omega
    | some y =>
      rw [hi] at hx
      have hy := h y (List.mem_of_getElem? hi)
      have := tells_owed r (l.set i (Lnk.tell y)) (M + 1) (fun z hz => by
        rcases List.mem_or_eq_of_mem_set hz with hz | hz
        · have := h z hz; omega
        · subst hz; unfold Lnk.tell; split
          · show 0 ≤ y.owed + 1 ∧ y.owed + 1 ≤ M + 1; omega
          · omega) x hx
      simp; omega

theorem tells_range (l : List Lnk) : ∀ k, k ≤ l.length → ∀ j, (tells l (List.range k))[j]? = l[j]?.map fun x => if j < k then Lnk.tell x else x := by
  intro k
  induction k with
  | zero => intro _ j; show l[j]? = _; cases l[j]? <;> simp
  | succ k ih =>
    intro hk j
    have ih' := ih (by omega)
    have hkk : (tells l (List.range k))[k]? = some l[k] := by rw [ih' k, List.getElem?_eq_getElem hk]; simp
    rw [List.range_succ, tells_snoc _ _ k _ hkk, List.getElem?_set, tells_length, ih' j]
    by_cases hjk : k = j
    · subst hjk
      rw [if_pos rfl, if_pos (by omega), List.getElem?_eq_getElem hk]; simp
    · rw [if_neg hjk]
      congr 1
      funext x
      have : j < k + 1 ↔ j < k := by omega
      simp only [this]
theorem tells_all (l : List Lnk) : tells l (List.range l.length) = l.map Lnk.tell := by
  apply List.ext_getElem?
  intro j
  rw [tells_range l l.length (Nat.le_refl _), List.getElem?_map]
  rcases Nat.lt_or_ge j l.length with h | h
  · rw [List.getElem?_eq_getElem h]; simp [h]
  · rw [List.getElem?_eq_none h]; rfl
theorem tellsUp_all (l : List Lnk) : tellsUp l (List.range l.length) = startTold l := by
  unfold tellsUp startTold
  apply List.ext_getElem?
  intro j
  rw [List.getElem?_map, List.getElem?_mapIdx]
  rcases Nat.lt_or_ge j l.length with h | h
  · rw [List.getElem?_range h, List.getElem?_eq_getElem h]; simp [h]
  · rw [List.getElem?_eq_none (by simpa using h), List.getElem?_eq_none h]; rfl
theorem startTold_stop (l : List Lnk) : startTold (l.map fun x => ({ up := x.up, owed := 0, down := false } : Lnk)) = startTold l := by
  unfold startTold
  apply List.ext_getElem?
  intro j
  rw [List.getElem?_mapIdx, List.getElem?_mapIdx, List.getElem?_map]
  cases l[j]? <;> rfl

/-- Local at a link that there is. -/
def Shk.local (s : Shk) (i : Nat) (x : Lnk) (up : Bool) : Shk :=
  { s with l := s.l.set i (if x.up = up ∨ s.session = false then { x with up := up } else Lnk.tell { x with up := up }) }
def localTold (s : Shk) (i : Nat) (x : Lnk) (up : Bool) : List Tn := if x.up = up ∨ s.session = false then [] else [memberTn i up]
/-- Take of a member's state, and of an answer, at a link that there is, in a session. -/
def Shk.takeMember (s : Shk) (i : Nat) (x : Lnk) (state : Int) : Shk := { s with l := s.l.set i { x with down := decide (state = 0) } }
def memberTold (i : Nat) (state : Int) : List Tn := if state = 0 then [] else [⟨4, (i : Int) + 1, 1⟩]
def Shk.takeBlocked (s : Shk) (i : Nat) (x : Lnk) : Shk := { s with l := s.l.set i { x with owed := max (x.owed - 1) 0 } }
def linkAt (s : Shk) (port : Int) : Option (Nat × Lnk) := if 1 ≤ port then (s.l[(port - 1).toNat]?).map fun x => ((port - 1).toNat, x) else none
/-- Take of any note. -/
def Shk.take (s : Shk) (n : Note) : Shk × List Tn × Int :=
  if (rightB n && (decide (n.kind = 3) || decide (n.kind = 4))) = false then (s, [], 2)
  else match linkAt s n.port with
    | none => (s, [], 1)
    | some (i, x) => if s.session = false then (s, [], 6) else if n.kind = 4 then (s.takeBlocked i x, [], 0) else (s.takeMember i x n.state, memberTold i n.state, 0)
theorem linkAt_none {s : Shk} {port : Int} (h : linkAt s port = none) : port < 1 ∨ (s.l.length : Int) < port := by
  unfold linkAt at h
  by_cases h1 : 1 ≤ port
  · rw [if_pos h1] at h
    have : s.l[(port - 1).toNat]? = none := by simpa using h
    have := List.getElem?_eq_none_iff.1 this
    omega
  · omega
theorem linkAt_some {s : Shk} {port : Int} {i : Nat} {x : Lnk} (h : linkAt s port = some (i, x)) : port = (i : Int) + 1 ∧ s.l[i]? = some x := by
  unfold linkAt at h
  by_cases h1 : 1 ≤ port
  · rw [if_pos h1] at h
    obtain ⟨y, hy, e⟩ := Option.map_eq_some_iff.1 h
    injection e with e1 e2
    subst e1 e2
    exact ⟨by omega, hy⟩
  · rw [if_neg h1] at h; cases h
def Shk.serves (s : Shk) (x : Lnk) : Bool := x.up && (if s.session then decide (x.owed = 0) else s.alone)
def Shk.blocked (s : Shk) (x : Lnk) : Bool := !s.session || !x.down
end Go.Proofs.YtpglhnbekpafeaaDoor
