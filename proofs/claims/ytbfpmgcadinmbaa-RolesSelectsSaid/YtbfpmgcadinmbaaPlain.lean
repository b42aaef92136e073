/-
  Plain Lean values and functions of the layers bpdu, vector and roles: no program in sight.
-/
import Derived.WalkKit
import Derived.WalkLawsBesides
import Derived.WalkSpells
import Derived.Lib.Hide
namespace Go.Proofs.Ytbfpmgcadinmbaa
set_option linter.unusedVariables false
set_option linter.unusedSimpArgs false
open Go

structure Mac where
  a : UInt8
  b : UInt8
  c : UInt8
  d : UInt8
  e : UInt8
  f : UInt8
  deriving DecidableEq

structure Id where
  prio : Int
  mac : Mac
  deriving DecidableEq

structure Vec where
  root : Id
  cost : Int
  bridge : Id
  port : Int
  own : Int
  deriving DecidableEq

structure Heard where
  port : Int
  cost : Int
  up : Bool
  has : Bool
  v : Vec
  deriving DecidableEq

/-- a byte as a value. -/
abbrev bV (x : UInt8) : Value := .int .u8 (x.toNat : Int)
abbrev iV (x : Int) : Value := .int .i64 x
abbrev Mac.val (m : Mac) : Value := .agg #[bV m.a, bV m.b, bV m.c, bV m.d, bV m.e, bV m.f]
abbrev Id.val (i : Id) : Value := .agg #[iV i.prio, bV i.mac.a, bV i.mac.b, bV i.mac.c, bV i.mac.d, bV i.mac.e, bV i.mac.f]
abbrev Vec.val (v : Vec) : Value :=
  .agg #[iV v.root.prio, bV v.root.mac.a, bV v.root.mac.b, bV v.root.mac.c, bV v.root.mac.d, bV v.root.mac.e, bV v.root.mac.f, iV v.cost,
    iV v.bridge.prio, bV v.bridge.mac.a, bV v.bridge.mac.b, bV v.bridge.mac.c, bV v.bridge.mac.d, bV v.bridge.mac.e, bV v.bridge.mac.f, iV v.port, iV v.own]
abbrev Heard.val (h : Heard) : Value :=
  .agg #[iV h.port, iV h.cost, .bool h.up, .bool h.has, iV h.v.root.prio, bV h.v.root.mac.a, bV h.v.root.mac.b, bV h.v.root.mac.c, bV h.v.root.mac.d, bV h.v.root.mac.e, bV h.v.root.mac.f, iV h.v.cost,
    iV h.v.bridge.prio, bV h.v.bridge.mac.a, bV h.v.bridge.mac.b, bV h.v.bridge.mac.c, bV h.v.bridge.mac.d, bV h.v.bridge.mac.e, bV h.v.bridge.mac.f, iV h.v.port, iV h.v.own]

abbrev vecList (v : Vec) : List Value := [iV v.root.prio, bV v.root.mac.a, bV v.root.mac.b, bV v.root.mac.c, bV v.root.mac.d, bV v.root.mac.e, bV v.root.mac.f, iV v.cost,
    iV v.bridge.prio, bV v.bridge.mac.a, bV v.bridge.mac.b, bV v.bridge.mac.c, bV v.bridge.mac.d, bV v.bridge.mac.e, bV v.bridge.mac.f, iV v.port, iV v.own]

abbrev heardList (h : Heard) : List Value := [iV h.port, iV h.cost, .bool h.up, .bool h.has, iV h.v.root.prio, bV h.v.root.mac.a, bV h.v.root.mac.b, bV h.v.root.mac.c, bV h.v.root.mac.d, bV h.v.root.mac.e, bV h.v.root.mac.f, iV h.v.cost,
    iV h.v.bridge.prio, bV h.v.bridge.mac.a, bV h.v.bridge.mac.b, bV h.v.bridge.mac.c, bV h.v.bridge.mac.d, bV h.v.bridge.mac.e, bV h.v.bridge.mac.f, iV h.v.port, iV h.v.own]

/-- a row of these in memory. -/
def HeardsAt (w : World) (b off : Nat) (l : List Heard) : Prop := ∀ i h, l[i]? = some h → ∀ j v, (heardList h)[j]? = some v → w.cell? ⟨b, off + i * 21 + j, none⟩ = some v

theorem heardList_length (h : Heard) : (heardList h).length = 21 := rfl
theorem flat_get : ∀ (l : List Heard) (i : Nat) (h : Heard), l[i]? = some h → ∀ j v, (heardList h)[j]? = some v → (l.flatMap heardList)[i * 21 + j]? = some v := by
  intro l
  induction l with
  | nil => intro i h hi; simp at hi
  | cons x r ih =>
    intro i h hi j v hv
    rw [List.flatMap_cons]
    have hj : j < 21 := by
      have := (List.getElem?_eq_some_iff.1 hv).1; rwa [heardList_length] at this
    cases i with
    | zero =>
      simp at hi; subst hi
      rw [List.getElem?_append_left (by rw [heardList_length]; omega)]; simpa using hv
    | succ i =>
      rw [List.getElem?_append_right (by rw [heardList_length]; omega), heardList_length]
      have := ih i h (by simpa using hi) j v hv
      rw [show (i + 1) * 21 + j - 21 = i * 21 + j by omega]; exact this
theorem HeardsAt.block {w : World} {b : Nat} {T : TypeId} {fr : Nat × Nat} {l : List Heard} (h : w.heap[b]? = some (.cells (l.flatMap heardList).toArray T fr)) : HeardsAt w b 0 l := by
  intro i x hx j v hv
  unfold World.cell?
  rw [h]
  have := flat_get l i x hx j v hv
  simpa using this

theorem HeardsAt.mono {w w' : World} {b off : Nat} {l : List Heard} (h : HeardsAt w b off l) (hw : ∀ o, w'.cell? ⟨b, o, none⟩ = w.cell? ⟨b, o, none⟩) : HeardsAt w' b off l :=
  fun i x hx j v hv => by rw [hw]; exact h i x hx j v hv

theorem HeardsAt.below {w w' : World} {b off : Nat} {l : List Heard} (h : HeardsAt w b off l) (hb : b < w.heap.size) (hB : RowKit.Below w.heap.size w w') : HeardsAt w' b off l :=
  h.mono fun o => hB.cell (p := ⟨b, o, none⟩) hb

/-- the cells of one, in the walk's own spelling. -/
theorem HeardsAt.cells {w : World} {b off : Nat} {l : List Heard} (H : HeardsAt w b off l) {i : Nat} {h : Heard} (hi : l[i]? = some h) :
    w.cell? ⟨b, off + i * 21, none⟩ = some (iV h.port) ∧ w.cell? ⟨b, off + i * 21 + 1, none⟩ = some (iV h.cost) ∧
    w.cell? ⟨b, off + i * 21 + 2, none⟩ = some (.bool h.up) ∧ w.cell? ⟨b, off + i * 21 + 3, none⟩ = some (.bool h.has) ∧
    w.cell? ⟨b, off + i * 21 + 4, none⟩ = some (iV h.v.root.prio) ∧
    w.cell? ⟨b, off + i * 21 + 5, none⟩ = some (bV h.v.root.mac.a) ∧ w.cell? ⟨b, off + i * 21 + 6, none⟩ = some (bV h.v.root.mac.b) ∧ w.cell? ⟨b, off + i * 21 + 7, none⟩ = some (bV h.v.root.mac.c) ∧
    w.cell? ⟨b, off + i * 21 + 8, none⟩ = some (bV h.v.root.mac.d) ∧ w.cell? ⟨b, off + i * 21 + 9, none⟩ = some (bV h.v.root.mac.e) ∧ w.cell? ⟨b, off + i * 21 + 10, none⟩ = some (bV h.v.root.mac.f) ∧
    w.cell? ⟨b, off + i * 21 + 11, none⟩ = some (iV h.v.cost) ∧ w.cell? ⟨b, off + i * 21 + 12, none⟩ = some (iV h.v.bridge.prio) ∧
    w.cell? ⟨b, off + i * 21 + 13, none⟩ = some (bV h.v.bridge.mac.a) ∧ w.cell? ⟨b, off + i * 21 + 14, none⟩ = some (bV h.v.bridge.mac.b) ∧ w.cell? ⟨b, off + i * 21 + 15, none⟩ = some (bV h.v.bridge.mac.c) ∧
    w.cell? ⟨b, off + i * 21 + 16, none⟩ = some (bV h.v.bridge.mac.d) ∧ w.cell? ⟨b, off + i * 21 + 17, none⟩ = some (bV h.v.bridge.mac.e) ∧ w.cell? ⟨b, off + i * 21 + 18, none⟩ = some (bV h.v.bridge.mac.f) ∧
    w.cell? ⟨b, off + i * 21 + 19, none⟩ = some (iV h.v.port) ∧ w.cell? ⟨b, off + i * 21 + 20, none⟩ = some (iV h.v.own) :=
  ⟨H i h hi 0 _ rfl, H i h hi 1 _ rfl, H i h hi 2 _ rfl, H i h hi 3 _ rfl, H i h hi 4 _ rfl, H i h hi 5 _ rfl, H i h hi 6 _ rfl, H i h hi 7 _ rfl, H i h hi 8 _ rfl, H i h hi 9 _ rfl, H i h hi 10 _ rfl,
   H i h hi 11 _ rfl, H i h hi 12 _ rfl, H i h hi 13 _ rfl, H i h hi 14 _ rfl, H i h hi 15 _ rfl, H i h hi 16 _ rfl, H i h hi 17 _ rfl, H i h hi 18 _ rfl, H i h hi 19 _ rfl, H i h hi 20 _ rfl⟩

/-- may a port not be? -/
def badPort (h : Heard) : Bool := decide (h.port < 1 ∨ 65535 < h.port ∨ h.cost < 1 ∨ 200000000 < h.cost)
/-- what is wrong with ports. -/
def fairN (l : List Heard) : Int := if 64 < l.length then 1 else if l.any badPort then 1 else if (l.map Heard.port).Nodup then 0 else 5

def zeroVec : Vec := { root := ⟨0, ⟨0, 0, 0, 0, 0, 0⟩⟩, cost := 0, bridge := ⟨0, ⟨0, 0, 0, 0, 0, 0⟩⟩, port := 0, own := 0 }
abbrev zeroVecList : List Value := [.int .i64 0, .int .u8 0, .int .u8 0, .int .u8 0, .int .u8 0, .int .u8 0, .int .u8 0, .int .i64 0, .int .i64 0, .int .u8 0, .int .u8 0, .int .u8 0, .int .u8 0, .int .u8 0, .int .u8 0, .int .i64 0, .int .i64 0]
theorem zeroVec_val : Value.agg zeroVecList.toArray = zeroVec.val := rfl

abbrev idList (i : Id) : List Value := [iV i.prio, bV i.mac.a, bV i.mac.b, bV i.mac.c, bV i.mac.d, bV i.mac.e, bV i.mac.f]

/-- -1, 0 or 1. -/
def cmpI (a b : Int) : Int := if a < b then -1 else if b < a then 1 else 0

/-- the first that is not 0. -/
def orI : List Int → Int
  | [] => 0
  | x :: r => if x = 0 then orI r else x

def cmpMac (m n : Mac) : Int := orI [cmpI m.a.toNat n.a.toNat, cmpI m.b.toNat n.b.toNat, cmpI m.c.toNat n.c.toNat, cmpI m.d.toNat n.d.toNat, cmpI m.e.toNat n.e.toNat, cmpI m.f.toNat n.f.toNat]
def cmpId (a b : Id) : Int := orI [cmpI a.prio b.prio, cmpMac a.mac b.mac]
def cmpVec (a b : Vec) : Int := orI [cmpId a.root b.root, cmpI a.cost b.cost, cmpId a.bridge b.bridge, cmpI a.port b.port, cmpI a.own b.own]

def costsB (n : Int) : Bool := decide (0 ≤ n ∧ n ≤ 4294967295)
theorem costsB_iff (n : Int) : costsB n = true ↔ 0 ≤ n ∧ n ≤ 4294967295 := by unfold costsB; simp
def addVec (v : Vec) (cost : Int) : Vec := if costsB v.cost && costsB cost then { v with cost := min (v.cost + cost) 4294967295 } else v
def offer (me : Id) (best : Vec) (port : Int) : Vec := { root := best.root, cost := best.cost, bridge := me, port := port, own := 0 }

/-- a round of the search for the best way. -/
def selStep (me : Id) (i : Nat) (h : Heard) (acc : Vec × Int) : Vec × Int :=
  if (h.up && h.has && !decide ((addVec h.v h.cost).bridge = me) && decide (cmpVec { addVec h.v h.cost with own := h.port } acc.1 < 0)) = true then ({ addVec h.v h.cost with own := h.port }, (i : Int)) else acc
def ownWay (me : Id) : Vec := { root := me, cost := 0, bridge := me, port := 0, own := 0 }
def selLoop (me : Id) (l : List Heard) : Nat → Vec × Int
  | 0 => (ownWay me, -1)
  | k + 1 => match l[k]? with
    | some h => selStep me k h (selLoop me l k)
    | none => selLoop me l k
theorem selLoop_succ (me : Id) (l : List Heard) (k : Nat) (h : Heard) (hk : l[k]? = some h) : selLoop me l (k + 1) = selStep me k h (selLoop me l k) := by
  simp only [selLoop, hk]
/-- the role of a port. -/
def roleOf (me : Id) (best : Vec) (root : Int) (i : Nat) (h : Heard) : Int :=
  if h.up = false then 0
  else if (i : Int) = root then 1
  else if h.has = false then 2
  else if 0 ≤ cmpVec { h.v with own := 0 } (offer me best h.port) then 2
  else if h.v.bridge = me then 4 else 3
def rolesLoop (me : Id) (best : Vec) (root : Int) (l : List Heard) : Nat → List Int
  | 0 => []
  | k + 1 => match l[k]? with
    | some h => rolesLoop me best root l k ++ [roleOf me best root k h]
    | none => rolesLoop me best root l k
theorem rolesLoop_succ (me : Id) (best : Vec) (root : Int) (l : List Heard) (k : Nat) (h : Heard) (hk : l[k]? = some h) : rolesLoop me best root l (k + 1) = rolesLoop me best root l k ++ [roleOf me best root k h] := by
  simp only [rolesLoop, hk]
theorem rolesLoop_length (me : Id) (best : Vec) (root : Int) (l : List Heard) : ∀ k, k ≤ l.length → (rolesLoop me best root l k).length = k
  | 0, _ => rfl
  | k + 1, h => by
    rw [rolesLoop_succ me best root l k l[k] (List.getElem?_eq_getElem h), List.length_append, rolesLoop_length me best root l k (by omega)]; rfl
/-- the answer of roles.Select where the ports are fair. -/
def selBest (me : Id) (l : List Heard) : Vec := (selLoop me l l.length).1
def selRoot (me : Id) (l : List Heard) : Int := (selLoop me l l.length).2
def selRoles (me : Id) (l : List Heard) : List Int := rolesLoop me (selBest me l) (selRoot me l) l l.length

theorem belowDrewN {B : Nat} {a w : World} (h : RowKit.Below B a w) (n : Nat) : RowKit.Below B a (w.drewN n) := ⟨h.os, h.tape, h.output, h.size, h.block⟩

/-- Of a region: what lay below k when it began lies so still. -/
abbrev Kept (k : Nat) (W w : World) : Prop := (∀ b o, b < k → w.cell? ⟨b, o, none⟩ = W.cell? ⟨b, o, none⟩) ∧ RowKit.Below k W w ∧ k ≤ W.heap.size

theorem Kept.mk' {k : Nat} {W w : World} (h : RowKit.Below k W w) (hk : k ≤ W.heap.size) : Kept k W w :=
  ⟨fun b o hb => h.cell (p := ⟨b, o, none⟩) hb, h, hk⟩
theorem Kept.size {k : Nat} {W w : World} (h : Kept k W w) : k ≤ w.heap.size := Nat.le_trans h.2.2 h.2.1.size
theorem Kept.refl {k : Nat} {W : World} (hk : k ≤ W.heap.size) : Kept k W W := Kept.mk' (RowKit.Below.refl _ _) hk
theorem Kept.drew {k : Nat} {W w : World} (h : Kept k W w) : Kept k W w.drew := Kept.mk' h.2.1.drew h.2.2
theorem Kept.drewN {k : Nat} {W w : World} (h : Kept k W w) (n : Nat) : Kept k W (w.drewN n) := Kept.mk' (belowDrewN h.2.1 n) h.2.2
theorem Kept.step {k : Nat} {W w w' : World} (h : Kept k W w) (hb : RowKit.Below w.heap.size w w') : Kept k W w' :=
  Kept.mk' (h.2.1.trans (hb.mono h.size)) h.2.2
theorem Kept.alloc {k : Nat} {W w : World} (h : Kept k W w) (o : Obj) : Kept k W (w.alloc o) := Kept.mk' (h.2.1.alloc h.size o) h.2.2
theorem Kept.setCell {k : Nat} {W w : World} (h : Kept k W w) {p : Addr} (hp : k ≤ p.block) (u : Value) : Kept k W (w.setCell p u) := Kept.mk' (h.2.1.setCell hp u) h.2.2
theorem Kept.fin {k B : Nat} {w W w' : World} (h : Kept k W w') (hb : RowKit.Below B w W) (hk : B ≤ k) : RowKit.Below B w w' := hb.trans (h.2.1.mono hk)
theorem belowCells {B : Nat} {w w' : World} (h : RowKit.Below B w w') : (∀ b o, b < B → w'.cell? ⟨b, o, none⟩ = w.cell? ⟨b, o, none⟩) := fun b o hb => h.cell (p := ⟨b, o, none⟩) hb
theorem belowFrozens {B : Nat} {w w' : World} (h : RowKit.Below B w w') : (∀ b o, b < B → w'.frozen? ⟨b, o, none⟩ = w.frozen? ⟨b, o, none⟩) := fun b o hb => h.frozen (p := ⟨b, o, none⟩) hb
end Go.Proofs.Ytbfpmgcadinmbaa
