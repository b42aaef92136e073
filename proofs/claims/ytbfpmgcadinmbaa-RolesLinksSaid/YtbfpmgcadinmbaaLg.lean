/-
  What the law RolesLinks leans on: rows of ports that the law itself made and writes into; a row of numbers that came in.
-/
import Derived.Test.YtbfpmgcadinmbaaLc
import Derived.Test.YtbfpmgcadinmbaaPd
import Derived.Test.YtbfpmgcadinmbaaLe
import Derived.Deep.AppendLies
namespace Go.Proofs.Ytbfpmgcadinmbaa
set_option linter.unusedVariables false
set_option linter.unusedSimpArgs false
open Go Go.RowKit Go.Maps Go.ChangeShapes

/-- What the walk is told of a row of numbers that came in. -/
def IsInts (w : World) (a : Option Addr) (n : Nat) (l : List Int) : Prop :=
  n = l.length ∧ n ≤ 9223372036854775807 ∧ (n ≠ 0 → ∃ b off, a = some ⟨b, off, none⟩ ∧ b < w.heap.size ∧ ∀ (i : Nat) (x : Int), l[i]? = some x → w.cell? ⟨b, off + i, none⟩ = some (iV x))
theorem IsInts.below {w w' : World} {a : Option Addr} {n : Nat} {l : List Int} (h : IsInts w a n l) (hB : Below w.heap.size w w') : IsInts w' a n l := by
  refine ⟨h.1, h.2.1, fun hn => ?_⟩
  obtain ⟨b, off, ha, hb, hc⟩ := h.2.2 hn
  exact ⟨b, off, ha, Nat.lt_of_lt_of_le hb hB.size, fun i x hx => by rw [hB.cell (p := ⟨b, off + i, none⟩) hb]; exact hc i x hx⟩

theorem open_ints' {H : Type} {enc : TypeId × Value → H} {w : World} {held : Bool} {a : Option Addr} {n cap : Nat} {d : DataW H} {p : List MemPlace}
    (h : DataW.Trod enc Try.prog w 0 (fun _ => true) held 30 (.slice a n cap) d p) : ∃ l, IsInts w a n l := by
  obtain ⟨fuel, hf⟩ := h
  rcases open_ints Try.underlying30 Try.underlying3 (by kernel_rfl) hf with ⟨hcs, _⟩ | ⟨x, len, c, zs, hcs, _, hl, hm, hz, _, hcell, _⟩
  · simp [Value.cells] at hcs
    obtain ⟨rfl, rfl, rfl⟩ := hcs
    exact ⟨[], rfl, by omega, fun h => absurd rfl h⟩
  · simp [Value.cells] at hcs
    obtain ⟨rfl, rfl, rfl⟩ := hcs
    simp at hz
    refine ⟨zs.take n, by rw [List.length_take]; omega, by unfold maxLen at hm; omega, fun hn => ?_⟩
    obtain ⟨b, off, spot⟩ := x
    have h0 := hcell 0 (by omega)
    simp [Addr.add] at h0
    have hspot : spot = none := by simpa using World.cell?_spot h0
    subst hspot
    refine ⟨b, off, rfl, World.block_lt_of_cell? w _ h0, fun i x hx => ?_⟩
    have hi : i < n := by have := (List.getElem?_eq_some_iff.1 hx).1; rw [List.length_take] at this; omega
    rw [List.getElem?_take_of_lt hi] at hx
    have := hcell i (by omega)
    have ea : (Addr.add ⟨b, off, none⟩ i) = ⟨b, off + i, none⟩ := by unfold Addr.add; by_cases h1 : i = 0 <;> simp [h1]
    rw [ea] at this
    rw [this, List.getD_eq_getElem?_getD, hx]; rfl

/-- a row of ports in a block of its own. -/
def HRow (w : World) (g : Nat) (L : List Heard) : Prop :=
  ∃ cur : Array Value, w.heap[g]? = some (.cells cur 38 (0, 0)) ∧ ∀ (i : Nat) (h : Heard), L[i]? = some h → ∀ (j : Nat) (v : Value), (heardList h)[j]? = some v → cur[i * 21 + j]? = some v
theorem HRow.lt {w : World} {g : Nat} {L : List Heard} (h : HRow w g L) : g < w.heap.size := by obtain ⟨cur, hg, _⟩ := h; exact block_lt hg
theorem HRow.frozen {w : World} {g : Nat} {L : List Heard} (h : HRow w g L) (o : Nat) : w.frozen? ⟨g, o, none⟩ = false := by obtain ⟨cur, hg, _⟩ := h; exact frozen_of_block hg o
theorem HRow.at_ {w : World} {g : Nat} {L : List Heard} (h : HRow w g L) : HeardsAt w g 0 L := by
  obtain ⟨cur, hg, hc⟩ := h
  intro i x hx j v hv
  rw [cell_of_block hg, Nat.zero_add]; exact hc i x hx j v hv
theorem HRow.of_block {w w' : World} {g : Nat} {L : List Heard} (h : HRow w g L) (e : w'.heap[g]? = w.heap[g]?) : HRow w' g L := by
  obtain ⟨cur, hg, hc⟩ := h
  exact ⟨cur, by rw [e]; exact hg, hc⟩
theorem HRow.step {w w' : World} {g : Nat} {L : List Heard} (h : HRow w g L) (hB : Below w.heap.size w w') : HRow w' g L := h.of_block (hB.block _ h.lt)
theorem HRow.turn {w w' : World} {g : Nat} {L : List Heard} (cur cur' : Array Value) (hg : w.heap[g]? = some (.cells cur 38 (0, 0))) (h : HRow w g L) (i : Nat) (x : Heard)
    (hg' : w'.heap[g]? = some (.cells cur' 38 (0, 0))) (hout : ∀ o, o < i * 21 ∨ i * 21 + 21 ≤ o → cur'[o]? = cur[o]?)
    (hin : ∀ (j : Nat) (v : Value), (heardList x)[j]? = some v → cur'[i * 21 + j]? = some v) : HRow w' g (L.set i x) := by
  obtain ⟨cur0, hg0, hc⟩ := h
  rw [hg] at hg0; injection hg0 with hg0; injection hg0 with hg0; subst hg0
  refine ⟨cur', hg', fun i' y hy j v hv => ?_⟩
  rw [List.getElem?_set] at hy
  have hj : j < 21 := (List.getElem?_eq_some_iff.1 hv).1
  split at hy
  · rename_i e; subst e
    split at hy
    · injection hy with hy; subst hy; exact hin j v hv
    · cases hy
  · rw [hout _ (by omega)]; exact hc i' y hy j v hv
theorem HRow.setHas {w : World} {g : Nat} {L : List Heard} (h : HRow w g L) (i : Nat) (x : Heard) (hx : L[i]? = some x) : HRow (w.setCell ⟨g, i * 21 + 3, none⟩ (.bool true)) g (L.set i { x with has := true }) := by
  have h0 := h
  obtain ⟨cur, hg, hc⟩ := h
  refine HRow.turn cur (cur.setIfInBounds (i * 21 + 3) (.bool true)) hg h0 i _ (heap_setCell_same _ _ _ _ _ _ hg) (fun o ho => ?_) (fun j v hv => ?_)
  · rw [Array.getElem?_setIfInBounds_ne (by omega)]
  · have e : heardList { x with has := true } = (heardList x).set 3 (.bool true) := rfl
    rw [e, List.getElem?_set] at hv
    have h3 := hc i x hx 3 _ rfl
    have hs := (Array.getElem?_eq_some_iff.1 h3).1
    split at hv
    · rename_i e3; subst e3
      split at hv
      · rw [Array.getElem?_setIfInBounds_self_of_lt hs]; exact hv
      · cases hv
    · rw [Array.getElem?_setIfInBounds_ne (by omega)]; exact hc i x hx j v hv
theorem over_get : ∀ (l : List Value) (c : Array Value) (k o : Nat), (over c k l)[o]? = if k ≤ o ∧ o < k + l.length ∧ o < c.size then l[o - k]? else c[o]? := by
  intro l
  induction l with
  | nil => intro c k o; simp only [over, List.length_nil]; rw [if_neg (by omega)]
  | cons v r ih =>
    intro c k o
    simp only [over]
    rw [ih, Array.size_setIfInBounds, List.length_cons]
    by_cases h1 : k + 1 ≤ o ∧ o < k + 1 + r.length ∧ o < c.size
    · rw [if_pos h1, if_pos (by omega), show o - k = (o - (k + 1)) + 1 by omega, List.getElem?_cons_succ]
    · rw [if_neg h1]
      by_cases h2 : k = o
      · subst h2
        by_cases h3 : k < c.size
        · rw [if_pos (by omega), Array.getElem?_setIfInBounds_self_of_lt h3]; simp
        · rw [if_neg (by omega), Array.getElem?_eq_none (by simp; omega), Array.getElem?_eq_none (by omega)]
      · rw [if_neg (by omega), Array.getElem?_setIfInBounds_ne h2]
theorem HRow.setV {w : World} {g : Nat} {L : List Heard} (h : HRow w g L) (i : Nat) (x : Heard) (hx : L[i]? = some x) (u : Vec) : HRow (putCells w ⟨g, i * 21 + 4, none⟩ 0 (vecList u)) g (L.set i { x with v := u }) := by
  have h0 := h
  obtain ⟨cur, hg, hc⟩ := h
  have hg' := heap_putCells_at g (i * 21 + 4) 38 (0, 0) (vecList u) 0 w cur hg
  refine HRow.turn cur _ hg h0 i _ hg' (fun o ho => ?_) (fun j v hv => ?_)
  · rw [over_get, if_neg]
    show ¬ (_ ∧ o < i * 21 + 4 + 0 + 17 ∧ _)
    omega
  · have h20 := hc i x hx 20 _ rfl
    have hs := (Array.getElem?_eq_some_iff.1 h20).1
    have hj : j < 21 := (List.getElem?_eq_some_iff.1 hv).1
    rw [over_get]
    by_cases h4 : 4 ≤ j
    · rw [if_pos (by show _ ∧ i * 21 + j < i * 21 + 4 + 0 + 17 ∧ _; omega)]
      have e : heardList { x with v := u } = (heardList x).take 4 ++ vecList u := rfl
      rw [e, List.getElem?_append_right (by exact h4)] at hv
      rw [show i * 21 + j - (i * 21 + 4 + 0) = j - 4 by omega]; exact hv
    · rw [if_neg (by omega)]
      have e : heardList { x with v := u } = (heardList x).take 4 ++ vecList u := rfl
      rw [e, List.getElem?_append_left (by show j < 4; omega), List.getElem?_take_of_lt (by omega)] at hv
      exact hc i x hx j v hv

theorem HRow.is {w : World} {g n : Nat} {L : List Heard} (h : HRow w g L) (hn : n = L.length) (hm : n ≤ 9223372036854775807) : IsHeards w (some ⟨g, 0, none⟩) n L :=
  ⟨hn, hm, fun _ => ⟨g, 0, rfl, h.lt, h.at_⟩⟩

theorem HRow.of_own {w : World} {base g n cap : Nat} {L : List Heard} (h : w.ownsRow base 38 21 (.slice (some ⟨g, 0, none⟩) n cap) n (L.flatMap heardList)) (hn : n = L.length) : HRow w g L ∧ base ≤ g := by
  obtain ⟨_, ⟨h1, _⟩ | ⟨g', cap', cur, h1, hb, hg, hcap, hm, hsz, htk⟩⟩ := h
  · cases h1
  · injection h1 with h1 _ _
    injection h1 with h1
    injection h1 with h1 _ _
    subst h1
    refine ⟨⟨cur, hg, fun i x hx j v hv => ?_⟩, hb⟩
    have := flat_get L i x hx j v hv
    have hi : i < L.length := (List.getElem?_eq_some_iff.1 hx).1
    have hj : j < 21 := (List.getElem?_eq_some_iff.1 hv).1
    rw [← htk, List.getElem?_take_of_lt (by omega)] at this
    simpa using this

theorem kept_other {w w' : World} {base : Nat} {e : TypeId} {size : Nat} {v u : Value} {n : Nat} {xs : List Value} (h : w.ownsRow base e size v n xs) (hg : w.grownBy w' u.ownBlock) (hne : ∀ g, u.ownBlock = some g → v.ownBlock ≠ some g) : w'.ownsRow base e size v n xs := by
  refine h.kept hg ?_
  cases hv : v.ownBlock with
  | none => exact Or.inl rfl
  | some g => exact Or.inr (fun e' => hne g e'.symm hv)
/-- two rows that have grown lie apart. -/
theorem rows_apart {v1 v2 : Value} {g1 g2 s1 s2 n1 n2 c1 c2 : Nat} (hne : ∀ g, v1.ownBlock = some g → v2.ownBlock ≠ some g) (h1 : v1.ownBlock = some g1 ∨ g1 = s1) (h2 : v2.ownBlock = some g2 ∨ g2 = s2)
    (hl1 : g1 < s2) (hl2 : ∀ g, v2.ownBlock = some g → g < s1) : ∀ g, (Value.slice (some ⟨g1, 0, none⟩) n1 c1).ownBlock = some g → (Value.slice (some ⟨g2, 0, none⟩) n2 c2).ownBlock ≠ some g := by
  intro g hg hg'
  injection hg with hg
  injection hg' with hg'
  have e1 : g1 = g := hg
  have e2 : g2 = g := hg'
  subst e1
  subst e2
  rcases h2 with h2 | h2
  · rcases h1 with h1 | h1
    · exact hne _ h1 h2
    · have := hl2 _ h2; omega
  · omega

abbrev linkCells (k : Nat) (c : Int) : List Value := [iV ((k : Int) + 1), iV c, .bool true, .bool false, .int .i64 0, .int .u8 0, .int .u8 0, .int .u8 0, .int .u8 0, .int .u8 0, .int .u8 0, .int .i64 0, .int .i64 0, .int .u8 0, .int .u8 0, .int .u8 0, .int .u8 0, .int .u8 0, .int .u8 0, .int .i64 0, .int .i64 0]
theorem linkCells_eq (k : Nat) (c : Int) : heardList (linkPort k c) = linkCells k c := rfl
theorem one_link (k : Nat) (c : Int) : ∀ u ∈ linkCells k c, u.oneCell' = true := by rw [← linkCells_eq]; exact one_heard _
theorem link_snoc (costs : List Int) (k : Nat) (c : Int) (hk : costs[k]? = some c) : (linkList (costs.take (k + 1))).flatMap heardList = (linkList (costs.take k)).flatMap heardList ++ linkCells k c := by
  have hk' := (List.getElem?_eq_some_iff.1 hk).1
  have e : costs.take (k + 1) = costs.take k ++ [c] := by
    rw [List.take_add_one, hk]; rfl
  unfold linkList
  rw [e, List.mapIdx_append, List.flatMap_append]
  simp only [List.mapIdx_cons, List.mapIdx_nil, List.flatMap_cons, List.flatMap_nil, List.append_nil, List.length_take]
  rw [show 0 + min k costs.length = k by omega, linkCells_eq]

/-- what stands in memory through the turns. -/
structure LinkMem (w1 : World) (g1 g2 : Nat) (L1 L2 : List Heard) (wr : World) : Prop where
  below : Below w1.heap.size w1 wr
  h1 : HRow wr g1 L1
  h2 : HRow wr g2 L2
  l1 : w1.heap.size ≤ g1
  l2 : w1.heap.size ≤ g2
  ne : g1 ≠ g2
theorem LinkMem.step {w1 : World} {g1 g2 : Nat} {L1 L2 : List Heard} {wr wz : World} (h : LinkMem w1 g1 g2 L1 L2 wr) (hB : Below wr.heap.size wr wz) : LinkMem w1 g1 g2 L1 L2 wz :=
  ⟨h.below.trans (hB.mono h.below.size), h.h1.step hB, h.h2.step hB, h.l1, h.l2, h.ne⟩
theorem LinkMem.has1 {w1 : World} {g1 g2 : Nat} {L1 L2 : List Heard} {wr : World} (h : LinkMem w1 g1 g2 L1 L2 wr) (i : Nat) (x : Heard) (hx : L1[i]? = some x) : LinkMem w1 g1 g2 (L1.set i { x with has := true }) L2 (wr.setCell ⟨g1, i * 21 + 3, none⟩ (.bool true)) :=
  ⟨h.below.setCell h.l1 _, h.h1.setHas i x hx, h.h2.of_block (heap_setCell_other _ _ _ _ (fun e => h.ne e.symm)), h.l1, h.l2, h.ne⟩
theorem LinkMem.has2 {w1 : World} {g1 g2 : Nat} {L1 L2 : List Heard} {wr : World} (h : LinkMem w1 g1 g2 L1 L2 wr) (i : Nat) (x : Heard) (hx : L2[i]? = some x) : LinkMem w1 g1 g2 L1 (L2.set i { x with has := true }) (wr.setCell ⟨g2, i * 21 + 3, none⟩ (.bool true)) :=
  ⟨h.below.setCell h.l2 _, h.h1.of_block (heap_setCell_other _ _ _ _ h.ne), h.h2.setHas i x hx, h.l1, h.l2, h.ne⟩
theorem LinkMem.v1 {w1 : World} {g1 g2 : Nat} {L1 L2 : List Heard} {wr : World} (h : LinkMem w1 g1 g2 L1 L2 wr) (i : Nat) (x : Heard) (hx : L1[i]? = some x) (u : Vec) : LinkMem w1 g1 g2 (L1.set i { x with v := u }) L2 (putCells wr ⟨g1, i * 21 + 4, none⟩ 0 (vecList u)) :=
  ⟨below_putCells _ _ h.l1 _ _ _ h.below, h.h1.setV i x hx u, h.h2.of_block (heap_putCells_other _ _ _ (fun e => h.ne e.symm) _ _ _), h.l1, h.l2, h.ne⟩
theorem LinkMem.v2 {w1 : World} {g1 g2 : Nat} {L1 L2 : List Heard} {wr : World} (h : LinkMem w1 g1 g2 L1 L2 wr) (i : Nat) (x : Heard) (hx : L2[i]? = some x) (u : Vec) : LinkMem w1 g1 g2 L1 (L2.set i { x with v := u }) (putCells wr ⟨g2, i * 21 + 4, none⟩ 0 (vecList u)) :=
  ⟨below_putCells _ _ h.l2 _ _ _ h.below, h.h1.of_block (heap_putCells_other _ _ _ h.ne _ _ _), h.h2.setV i x hx u, h.l1, h.l2, h.ne⟩

/-- what Select has told: its way in a block, its roles in another one. -/
structure SelOut (g1 g2 : Nat) (best : Vec) (roles : List Int) (B e : Nat) (wr : World) : Prop where
  mr : wr.heap[B]? = some (.cells (roles.map iV).toArray 3 (0, 0))
  mv : wr.heap[e]? = some (.cells (vecList best).toArray 29 (0, 0))
  r1 : B ≠ g1
  r2 : B ≠ g2
  e1 : e ≠ g1
  e2 : e ≠ g2
theorem SelOut.step {g1 g2 : Nat} {best : Vec} {roles : List Int} {B e : Nat} {wr wz : World} (h : SelOut g1 g2 best roles B e wr) (hB : Below wr.heap.size wr wz) : SelOut g1 g2 best roles B e wz :=
  ⟨by rw [hB.block _ (block_lt h.mr)]; exact h.mr, by rw [hB.block _ (block_lt h.mv)]; exact h.mv, h.r1, h.r2, h.e1, h.e2⟩
theorem SelOut.cell {g1 g2 : Nat} {best : Vec} {roles : List Int} {B e : Nat} {wr : World} (h : SelOut g1 g2 best roles B e wr) (g o : Nat) (hg : g = g1 ∨ g = g2) (v : Value) : SelOut g1 g2 best roles B e (wr.setCell ⟨g, o, none⟩ v) := by
  have hB : B ≠ g := by rcases hg with rfl | rfl; exact h.r1; exact h.r2
  have he : e ≠ g := by rcases hg with rfl | rfl; exact h.e1; exact h.e2
  exact ⟨by rw [heap_setCell_other _ _ _ _ hB]; exact h.mr, by rw [heap_setCell_other _ _ _ _ he]; exact h.mv, h.r1, h.r2, h.e1, h.e2⟩
theorem SelOut.put {g1 g2 : Nat} {best : Vec} {roles : List Int} {B e : Nat} {wr : World} (h : SelOut g1 g2 best roles B e wr) (g o : Nat) (hg : g = g1 ∨ g = g2) (l : List Value) : SelOut g1 g2 best roles B e (putCells wr ⟨g, o, none⟩ 0 l) := by
  have hB : B ≠ g := by rcases hg with rfl | rfl; exact h.r1; exact h.r2
  have he : e ≠ g := by rcases hg with rfl | rfl; exact h.e1; exact h.e2
  exact ⟨by rw [heap_putCells_other _ _ _ hB]; exact h.mr, by rw [heap_putCells_other _ _ _ he]; exact h.mv, h.r1, h.r2, h.e1, h.e2⟩
end Go.Proofs.Ytbfpmgcadinmbaa
