/-
  Loads and stores of a struct or an array of many cells, cell by cell in a straight line (over any program). For the walk's simp: each is given at the level of the whole operation.
-/
import Derived.WalkKit
import Derived.Below
namespace Go.Proofs.YtpglhnbekpafeaaDoor
set_option linter.unusedVariables false
set_option linter.unusedSimpArgs false
open Go

/-- the cells from number i on, n of them. -/
def cellsAt (w : World) (a : Addr) : Nat → Nat → List (Option Value)
  | _, 0 => []
  | i, n + 1 => w.cell? (a.add i) :: cellsAt w a (i + 1) n

def allSome : List (Option Value) → Option (List Value)
  | [] => some []
  | some v :: r => (allSome r).map (v :: ·)
  | none :: _ => none

theorem cellsAt_succ (w : World) (a : Addr) (i n : Nat) : cellsAt w a i (n + 1) = w.cell? (a.add i) :: cellsAt w a (i + 1) n := rfl
theorem cellsAt_zero (w : World) (a : Addr) (i : Nat) : cellsAt w a i 0 = [] := rfl
theorem allSome_cons (v : Value) (r : List (Option Value)) : allSome (some v :: r) = (allSome r).map (v :: ·) := rfl
theorem allSome_nil : allSome [] = some [] := rfl

theorem allSome_cells {w : World} {a : Addr} : ∀ {n i : Nat} {l : List Value}, allSome (cellsAt w a i n) = some l → l.length = n ∧ ∀ j v, l[j]? = some v → w.cell? (a.add (i + j)) = some v := by
  intro n
  induction n with
  | zero => intro i l h; simp [cellsAt, allSome] at h; subst h; exact ⟨rfl, fun j v hv => by simp at hv⟩
  | succ n ih =>
    intro i l h
    simp only [cellsAt] at h
    cases hc : w.cell? (a.add i) with
    | none => rw [hc] at h; simp [allSome] at h
    | some u =>
      rw [hc] at h
      simp only [allSome, Option.map_eq_some_iff] at h
      obtain ⟨r, hr, rfl⟩ := h
      obtain ⟨h1, h2⟩ := ih hr
      refine ⟨by simp [h1], fun j v hv => ?_⟩
      cases j with
      | zero => simp at hv; subst hv; simpa using hc
      | succ j => have := h2 j v (by simpa using hv); rw [show i + 1 + j = i + (j + 1) by omega] at this; exact this

def slowLoad (P : Program) (T : TypeId) (v : Value) (w : World) : Result Next := (execOp (fun _ => v) ⟨none, .load T (.tmp 0), T, "", #[], none⟩).run P w
def ldFin (P : Program) (T : TypeId) (v : Value) (w : World) : Option (List Value) → Result Next
  | some l => .ok (.value (.agg l.toArray)) w
  | none => slowLoad P T v w
def ldRow (P : Program) (T : TypeId) (n : Nat) (v : Value) (w : World) : Result Next :=
  match v with
  | .pointer (some a) => ldFin P T v w (allSome (cellsAt w a 0 n))
  | v => slowLoad P T v w
theorem ldRow_ptr (P : Program) (T : TypeId) (n : Nat) (a : Addr) (w : World) : ldRow P T n (.pointer (some a)) w = ldFin P T (.pointer (some a)) w (allSome (cellsAt w a 0 n)) := rfl
theorem ldFin_some (P : Program) (T : TypeId) (v : Value) (w : World) (l : List Value) : ldFin P T v w (some l) = .ok (.value (.agg l.toArray)) w := rfl

theorem run_loadVar_all {P : Program} {T : TypeId} {n : Nat} {w : World} {a : Addr} {l : List Value} (ha : (isAgg T).run P w = .ok true w) (hs : (sizeOf T).run P w = .ok n w)
    (h : allSome (cellsAt w a 0 n) = some l) : (loadVar T a).run P w = .ok (.agg l.toArray) w := by
  obtain ⟨h1, h2⟩ := allSome_cells h
  have := run_loadCells_list (P := P) w a l (fun j v hv => by have := h2 j v hv; simpa using this)
  rw [h1] at this
  simp [loadVar, Sem.run_bind, ha, hs, this]

theorem exec_load_row {P : Program} {T : TypeId} {n : Nat} (ha : ∀ w, (isAgg T).run P w = .ok true w) (hs : ∀ w, (sizeOf T).run P w = .ok n w) (ρ : Operand → Value)
    (d : Option Tmp) (x : Operand) (ty : TypeId) (pos : String) (af : Array Edge) (g : Option (Nat × Bool)) (w : World) :
    (execOp ρ ⟨d, .load T x, ty, pos, af, g⟩).run P w = ldRow P T n (ρ x) w := by
  have hslow : (execOp ρ ⟨d, .load T x, ty, pos, af, g⟩).run P w = slowLoad P T (ρ x) w := rfl
  rw [hslow]
  unfold ldRow
  split
  · rename_i a he
    rw [he]
    cases hh : allSome (cellsAt w a 0 n) with
    | none => rfl
    | some l =>
      simp only [ldFin, slowLoad]
      unfold execOp
      simp [Instr.loadAt, Instr.sureAddr, Sem.run_bind, run_loadVar_all (ha w) (hs w) hh]
  · rfl

/-! a store of a whole struct -/
def putCells (w : World) (a : Addr) : Nat → List Value → World
  | _, [] => w
  | i, v :: r => putCells (w.setCell (a.add i) v) a (i + 1) r

def frozens (w : World) (a : Addr) : Nat → Nat → Bool
  | _, 0 => false
  | i, n + 1 => w.frozen? (a.add i) || frozens w a (i + 1) n
theorem frozens_succ (w : World) (a : Addr) (i n : Nat) : frozens w a i (n + 1) = (w.frozen? (a.add i) || frozens w a (i + 1) n) := rfl
theorem frozens_zero (w : World) (a : Addr) (i : Nat) : frozens w a i 0 = false := rfl

def allOne : List Value → Bool
  | [] => true
  | v :: r => v.oneCell' && allOne r
theorem allOne_cons (v : Value) (r : List Value) : allOne (v :: r) = (v.oneCell' && allOne r) := rfl
theorem allOne_nil : allOne [] = true := rfl

def there (w : World) (a : Addr) : Nat → Nat → Bool
  | _, 0 => true
  | i, n + 1 => (w.cell? (a.add i)).isSome && there w a (i + 1) n
theorem there_succ (w : World) (a : Addr) (i n : Nat) : there w a i (n + 1) = ((w.cell? (a.add i)).isSome && there w a (i + 1) n) := rfl
theorem there_zero (w : World) (a : Addr) (i : Nat) : there w a i 0 = true := rfl

theorem cell?_setCell_isSome (w : World) (p q : Addr) (v : Value) (h : (w.cell? q).isSome = true) : ((w.setCell p v).cell? q).isSome = true := by
  unfold World.cell? World.setCell at *
  simp only [Array.getElem?_modify]
  by_cases hb : p.block = q.block
  · rw [if_pos hb]
    cases ho : w.heap[q.block]? with
    | none => rw [ho] at h; simp at h
    | some o =>
      rw [ho] at h
      cases o <;> simp only [Option.map_some] at h ⊢ <;> first | exact h | skip
      by_cases hq : q.spot.isSome = true
      · rw [if_pos hq] at h; simp at h
      · rw [if_neg hq] at h ⊢
        by_cases hp : p.spot.isSome = true
        · rw [if_pos hp]; exact h
        · rw [if_neg hp]; simpa using h
  · rw [if_neg hb]; exact h

theorem frozen?_setCell' (w : World) (p q : Addr) (v : Value) : (w.setCell p v).frozen? q = w.frozen? q := by
  unfold World.frozen? World.setCell
  simp only [Array.getElem?_modify]
  by_cases hb : p.block = q.block
  · rw [if_pos hb, ← hb]
    cases ho : w.heap[p.block]? with
    | none => rfl
    | some o => cases o <;> rfl
  · rw [if_neg hb]

theorem there_setCell (w : World) (p a : Addr) (v : Value) : ∀ n i, there w a i n = true → there (w.setCell p v) a i n = true := by
  intro n
  induction n with
  | zero => intro i h; rfl
  | succ n ih => intro i h; simp only [there, Bool.and_eq_true] at h ⊢; exact ⟨cell?_setCell_isSome _ _ _ _ h.1, ih _ h.2⟩
theorem frozens_setCell (w : World) (p a : Addr) (v : Value) : ∀ n i, frozens (w.setCell p v) a i n = frozens w a i n := by
  intro n
  induction n with
  | zero => intro i; rfl
  | succ n ih => intro i; simp only [frozens, frozen?_setCell', ih]

theorem run_storeCells_all {P : Program} (a : Addr) : ∀ (l : List Value) (i : Nat) (w : World), allOne l = true → there w a i l.length = true → frozens w a i l.length = false →
    (storeCells a l i).run P w = .ok () (putCells w a i l) := by
  intro l
  induction l with
  | nil => intro i w _ _ _; rfl
  | cons v r ih =>
    intro i w h1 h2 h3
    simp only [allOne, Bool.and_eq_true] at h1
    simp only [List.length_cons, there, Bool.and_eq_true] at h2
    simp only [List.length_cons, frozens, Bool.or_eq_false_iff] at h3
    obtain ⟨u, hu⟩ := Option.isSome_iff_exists.1 h2.1
    simp only [storeCells, Sem.run_bind]
    rw [run_store P w _ v _ h1.1, hu]
    simp only [h3.1, Bool.false_eq_true, if_false, Result.andThen]
    exact ih (i + 1) _ h1.2 (there_setCell _ _ _ _ _ _ h2.2) (by rw [frozens_setCell]; exact h3.2)

def slowStore (P : Program) (T : TypeId) (v u : Value) (w : World) : Result Next := (execOp (fun o => match o with | .tmp 0 => v | _ => u) ⟨none, .store T (.tmp 0) (.tmp 1), T, "", #[], none⟩).run P w
def stFin (P : Program) (T : TypeId) (v u : Value) (w : World) : Bool → World → Result Next
  | true, w' => .ok .skip w'
  | false, _ => slowStore P T v u w
theorem stFin_true (P : Program) (T : TypeId) (v u : Value) (w w' : World) : stFin P T v u w true w' = .ok .skip w' := rfl
def stRow (P : Program) (T : TypeId) (n : Nat) (v u : Value) (w : World) : Result Next :=
  match v, u with
  | .pointer (some a), .agg cs => stFin P T v u w (cs.size == n && allOne cs.toList && there w a 0 n && !frozens w a 0 n) (putCells w a 0 cs.toList)
  | v, u => slowStore P T v u w
theorem stRow_ptr (P : Program) (T : TypeId) (n : Nat) (a : Addr) (cs : Array Value) (w : World) :
    stRow P T n (.pointer (some a)) (.agg cs) w = stFin P T (.pointer (some a)) (.agg cs) w (cs.size == n && allOne cs.toList && there w a 0 n && !frozens w a 0 n) (putCells w a 0 cs.toList) := rfl

theorem exec_store_row {P : Program} {T : TypeId} {n : Nat} (hs : ∀ w, (sizeOf T).run P w = .ok n w) (ρ : Operand → Value)
    (d : Option Tmp) (x y : Operand) (ty : TypeId) (pos : String) (af : Array Edge) (g : Option (Nat × Bool)) (w : World) :
    (execOp ρ ⟨d, .store T x y, ty, pos, af, g⟩).run P w = stRow P T n (ρ x) (ρ y) w := by
  have hslow : (execOp ρ ⟨d, .store T x y, ty, pos, af, g⟩).run P w = slowStore P T (ρ x) (ρ y) w := rfl
  rw [hslow]
  unfold stRow
  split
  · rename_i a cs he hu
    rw [he, hu]
    cases hh : (cs.size == n && allOne cs.toList && there w a 0 n && !frozens w a 0 n) with
    | false => rfl
    | true =>
      simp only [Bool.and_eq_true, beq_iff_eq, Bool.not_eq_true'] at hh
      obtain ⟨⟨⟨h1, h2⟩, h3⟩, h4⟩ := hh
      have := run_storeCells_all (P := P) a cs.toList 0 w h2 (by simpa [h1] using h3) (by simpa [h1] using h4)
      simp only [stFin, slowStore]
      unfold execOp
      simp [Instr.storeAt, Instr.sureAddr, Sem.run_bind, storeVar, Value.cells, hs, h1, this]
  · rfl

/-! where the struct lies in a block that is written out -/
def over (c : Array Value) : Nat → List Value → Array Value
  | _, [] => c
  | k, v :: r => over (c.setIfInBounds k v) (k + 1) r

theorem putCells_alloc_new (w : World) (o : Nat) (T : TypeId) (fr : Nat × Nat) : ∀ (l : List Value) (i : Nat) (c : Array Value),
    putCells (w.alloc (.cells c T fr)) ⟨w.heap.size, o, none⟩ i l = w.alloc (.cells (over c (o + i) l) T fr) := by
  intro l
  induction l with
  | nil => intro i c; rfl
  | cons v r ih =>
    intro i c
    simp only [putCells, over]
    have e : (w.alloc (.cells c T fr)).setCell (Addr.add ⟨w.heap.size, o, none⟩ i) v = w.alloc (.cells (c.setIfInBounds (o + i) v) T fr) := by
      have ea : (Addr.add ⟨w.heap.size, o, none⟩ i) = ⟨w.heap.size, o + i, none⟩ := by unfold Addr.add; by_cases h : i = 0 <;> simp [h]
      rw [ea]
      simp only [World.setCell, World.alloc]
      congr 1
      apply Array.ext
      · simp
      · intro j h1 h2
        simp only [Array.size_modify, Array.size_push] at h1
        rw [Array.getElem_modify]
        by_cases hj : j = w.heap.size
        · subst hj; simp
        · rw [if_neg (by omega)]
          rw [Array.getElem_push_lt (by omega), Array.getElem_push_lt (by omega)]
    rw [e, ih, Nat.add_assoc]

theorem putCells_alloc_at (w : World) (b o : Nat) (T : TypeId) (fr : Nat × Nat) (l : List Value) (i : Nat) (c : Array Value) (h : b = w.heap.size) :
    putCells (w.alloc (.cells c T fr)) ⟨b, o, none⟩ i l = w.alloc (.cells (over c (o + i) l) T fr) := by
  subst h; exact putCells_alloc_new w o T fr l i c

theorem over_all_aux : ∀ (l : List Value) (pre : List Value) (c : List Value), c.length = pre.length + l.length → c.take pre.length = pre →
    over c.toArray pre.length l = (pre ++ l).toArray := by
  intro l
  induction l with
  | nil => intro pre c h1 h2; simp only [over]; rw [List.append_nil, ← h2, List.take_of_length_le (by simp at h1; omega)]
  | cons v r ih =>
    intro pre c h1 h2
    simp only [List.length_cons] at h1
    simp only [over, List.setIfInBounds_toArray]
    have := ih (pre ++ [v]) (c.set pre.length v) (by simp; omega) (by
      rw [List.length_append, List.length_singleton, List.take_succ_eq_append_getElem (by simp; omega), List.take_set_of_le (Nat.le_refl _), h2]
      simp)
    simpa using this

/-- the whole block is written anew. -/
theorem over_all (c : Array Value) (l : List Value) (h : c.size = l.length) : over c 0 l = l.toArray := by
  have := over_all_aux l [] c.toList (by simpa using h) rfl
  simpa using this

theorem putCells_alloc_old (w : World) (x : Obj) (a : Addr) (h : a.block < w.heap.size) : ∀ (l : List Value) (i : Nat),
    putCells (w.alloc x) a i l = (putCells w a i l).alloc x := by
  intro l
  induction l generalizing w with
  | nil => intro i; rfl
  | cons v r ih =>
    intro i
    simp only [putCells]
    have hb : (a.add i).block = a.block := by unfold Addr.add; split <;> rfl
    have e : (w.alloc x).setCell (a.add i) v = (w.setCell (a.add i) v).alloc x := by
      simp only [World.setCell, World.alloc, hb]
      congr 1
      apply Array.ext
      · simp
      · intro j h1 h2
        simp only [Array.size_modify, Array.size_push] at h1
        rw [Array.getElem_modify]
        by_cases hj : j = w.heap.size
        · subst hj; rw [if_neg (by omega)]; simp only [Array.getElem_push_eq]; simp [Array.getElem_push]
        · rw [Array.getElem_push_lt (by omega), Array.getElem_push_lt (by simp; omega), Array.getElem_modify]
    rw [e, ih _ (by simpa [World.setCell] using h)]

theorem one_int (k : IntKind) (n : Int) : (Value.int k n).oneCell' = true := rfl
theorem one_bool (b : Bool) : (Value.bool b).oneCell' = true := rfl
theorem one_string (b : ByteArray) : (Value.string b).oneCell' = true := rfl
theorem one_slice (a : Option Addr) (n c : Nat) : (Value.slice a n c).oneCell' = true := rfl
theorem one_pointer (a : Option Addr) : (Value.pointer a).oneCell' = true := rfl

/-! results that lie in a struct of many cells -/
theorem results_row1 {P : Program} {fn : Func} {p : Tmp} {ty : TypeId} {n : Nat} (h : fn.results = #[.cell p ty]) {tmps : Array Value} {w : World} {a : Addr} {l : List Value}
    (hp : tmps.getD p undef = .pointer (some a)) (ha : (isAgg ty).run P w = .ok true w) (hs : (sizeOf ty).run P w = .ok n w) (hl : allSome (cellsAt w a 0 n) = some l) :
    (results fn tmps).run P w = .ok (.agg l.toArray) w := by
  have hp' : tmps[p]?.getD undef = .pointer (some a) := by simpa using hp
  simp [results, h, hp', asAddr, run_loadVar_all ha hs hl]

theorem results_row2 {P : Program} {fn : Func} {p u : Tmp} {ty : TypeId} {n : Nat} (h : fn.results = #[.cell p ty, .tmp u]) {tmps : Array Value} {w : World} {a : Addr} {l : List Value}
    (hp : tmps.getD p undef = .pointer (some a)) (ha : (isAgg ty).run P w = .ok true w) (hs : (sizeOf ty).run P w = .ok n w) (hl : allSome (cellsAt w a 0 n) = some l) :
    (results fn tmps).run P w = .ok (.tuple #[.agg l.toArray, tmps.getD u undef]) w := by
  have hp' : tmps[p]?.getD undef = .pointer (some a) := by simpa using hp
  simp [results, h, hp', asAddr, run_loadVar_all ha hs hl]

theorem results_row3 {P : Program} {fn : Func} {p u v : Tmp} {ty : TypeId} {n : Nat} (h : fn.results = #[.cell p ty, .tmp u, .tmp v]) {tmps : Array Value} {w : World} {a : Addr} {l : List Value}
    (hp : tmps.getD p undef = .pointer (some a)) (ha : (isAgg ty).run P w = .ok true w) (hs : (sizeOf ty).run P w = .ok n w) (hl : allSome (cellsAt w a 0 n) = some l) :
    (results fn tmps).run P w = .ok (.tuple #[.agg l.toArray, tmps.getD u undef, tmps.getD v undef]) w := by
  have hp' : tmps[p]?.getD undef = .pointer (some a) := by simpa using hp
  simp [results, h, hp', asAddr, run_loadVar_all ha hs hl]

/-! whole blocks -/
theorem heap_putCells_other (b o k : Nat) (hk : k ≠ b) : ∀ (l : List Value) (i : Nat) (w : World), (putCells w ⟨b, o, none⟩ i l).heap[k]? = w.heap[k]? := by
  intro l
  induction l with
  | nil => intro i w; rfl
  | cons v r ih =>
    intro i w
    simp only [putCells]
    rw [ih, RowKit.Below.heap_setCell _ _ _ _ (by unfold Addr.add; split <;> exact hk)]

theorem heap_putCells_at (b o : Nat) (T : TypeId) (fr : Nat × Nat) : ∀ (l : List Value) (i : Nat) (w : World) (c : Array Value), w.heap[b]? = some (.cells c T fr) →
    (putCells w ⟨b, o, none⟩ i l).heap[b]? = some (.cells (over c (o + i) l) T fr) := by
  intro l
  induction l with
  | nil => intro i w c h; exact h
  | cons v r ih =>
    intro i w c h
    simp only [putCells, over]
    have ea : (Addr.add ⟨b, o, none⟩ i) = ⟨b, o + i, none⟩ := by unfold Addr.add; by_cases h : i = 0 <;> simp [h]
    rw [ea, ih (i + 1) _ (c.setIfInBounds (o + i) v), Nat.add_assoc]
    simp [World.setCell, Array.getElem?_modify, h]

theorem heap_putCells_all {w : World} {b : Nat} {T : TypeId} {fr : Nat × Nat} {c : Array Value} {l : List Value} (h : w.heap[b]? = some (.cells c T fr)) (hl : c.size = l.length) :
    (putCells w ⟨b, 0, none⟩ 0 l).heap[b]? = some (.cells l.toArray T fr) := by
  rw [heap_putCells_at b 0 T fr l 0 w c h, Nat.zero_add, over_all c l hl]

theorem size_putCells (a : Addr) : ∀ (l : List Value) (i : Nat) (w : World), (putCells w a i l).heap.size = w.heap.size := by
  intro l
  induction l with
  | nil => intro i w; rfl
  | cons v r ih => intro i w; simp only [putCells]; rw [ih]; simp [World.setCell]

theorem below_putCells {B : Nat} {a0 : World} (b o : Nat) (hb : B ≤ b) : ∀ (l : List Value) (i : Nat) (w : World), RowKit.Below B a0 w → RowKit.Below B a0 (putCells w ⟨b, o, none⟩ i l) := by
  intro l
  induction l with
  | nil => intro i w h; exact h
  | cons v r ih =>
    intro i w h
    simp only [putCells]
    exact ih (i + 1) _ (h.setCell (by unfold Addr.add; split <;> exact hb) v)

theorem cell_of_block {w : World} {b : Nat} {T : TypeId} {fr : Nat × Nat} {c : Array Value} (h : w.heap[b]? = some (.cells c T fr)) (o : Nat) : w.cell? ⟨b, o, none⟩ = c[o]? := by
  unfold World.cell?; rw [h]; rfl
theorem frozen_of_block {w : World} {b : Nat} {T : TypeId} {c : Array Value} (h : w.heap[b]? = some (.cells c T (0, 0))) (o : Nat) : w.frozen? ⟨b, o, none⟩ = false := by
  unfold World.frozen?; rw [h]; simp

theorem allSome_map (l : List Value) : allSome (l.map some) = some l := by
  induction l with
  | nil => rfl
  | cons v r ih => simp [allSome, ih]

theorem cellsAt_block {w : World} {b : Nat} {T : TypeId} {fr : Nat × Nat} {l : List Value} (h : w.heap[b]? = some (.cells l.toArray T fr)) : ∀ (n i : Nat), i + n = l.length →
    cellsAt w ⟨b, 0, none⟩ i n = (l.drop i).map some := by
  intro n
  induction n with
  | zero => intro i hi; rw [List.drop_of_length_le (by omega)]; rfl
  | succ n ih =>
    intro i hi
    have ea : (Addr.add ⟨b, 0, none⟩ i) = ⟨b, i, none⟩ := by unfold Addr.add; by_cases h : i = 0 <;> simp [h]
    have hlt : i < l.length := by omega
    rw [cellsAt_succ, ih (i + 1) (by omega), ea, cell_of_block h, List.drop_eq_getElem_cons hlt, List.map_cons]
    congr 1
    simp [hlt]

theorem allSome_block {w : World} {b n : Nat} {T : TypeId} {fr : Nat × Nat} {l : List Value} (h : w.heap[b]? = some (.cells l.toArray T fr)) (hn : n = l.length) : allSome (cellsAt w ⟨b, 0, none⟩ 0 n) = some l := by
  rw [cellsAt_block h n 0 (by omega), List.drop_zero, allSome_map]
theorem heap_new1 (w : World) (A B : Obj) : ((w.alloc A).alloc B).heap[w.heap.size + 1]? = some B := by
  have h := heap_alloc_new (w.alloc A) B; simpa using h
theorem heap_new2 (w : World) (A B C : Obj) : (((w.alloc A).alloc B).alloc C).heap[w.heap.size + 1 + 1]? = some C := by
  have h := heap_alloc_new ((w.alloc A).alloc B) C; simpa using h
theorem heap_new3 (w : World) (A B C D : Obj) : ((((w.alloc A).alloc B).alloc C).alloc D).heap[w.heap.size + 1 + 1 + 1]? = some D := by
  have h := heap_alloc_new (((w.alloc A).alloc B).alloc C) D; simpa using h
theorem block_lt {w : World} {b : Nat} {o : Obj} (h : w.heap[b]? = some o) : b < w.heap.size := (Array.getElem?_eq_some_iff.1 h).1
theorem heap_old1 (w : World) (A B C : Obj) : (((w.alloc A).alloc B).alloc C).heap[w.heap.size + 1]? = some B := by
  rw [heap_alloc_old _ _ (by simp)]; exact heap_new1 w A B
theorem heap_old2 (w : World) (A B C : Obj) : (((w.alloc A).alloc B).alloc C).heap[w.heap.size]? = some A := by
  rw [heap_alloc_old _ _ (by simp; omega), heap_alloc_old _ _ (by simp)]; exact heap_alloc_new w A
theorem heap_if (w : World) (o : Obj) (i : Nat) : (w.alloc o).heap[i]? = if i = w.heap.size then some o else w.heap[i]? := by
  by_cases h : i = w.heap.size
  · rw [if_pos h, h, heap_alloc_new]
  · rw [if_neg h]
    rcases Nat.lt_or_ge i w.heap.size with h' | h'
    · exact heap_alloc_old _ _ h'
    · rw [Array.getElem?_eq_none h', Array.getElem?_eq_none (by simp; omega)]
theorem heap_drew' (w : World) (i : Nat) : (w.drew).heap[i]? = w.heap[i]? := rfl
theorem heap_at0 {w : World} {o : Obj} {i : Nat} (h : i = w.heap.size) : (w.alloc o).heap[i]? = some o := by rw [h]; exact heap_alloc_new _ _
theorem heap_at1 {w : World} {o p : Obj} {i : Nat} (h : i = w.heap.size) : ((w.alloc o).alloc p).heap[i]? = some o := by
  rw [heap_alloc_old _ _ (by simp; omega)]; exact heap_at0 h
theorem heap_at2 {w : World} {o p q : Obj} {i : Nat} (h : i = w.heap.size) : (((w.alloc o).alloc p).alloc q).heap[i]? = some o := by
  rw [heap_alloc_old _ _ (by simp; omega)]; exact heap_at1 h
theorem heap_at3 {w : World} {o p q r : Obj} {i : Nat} (h : i = w.heap.size) : ((((w.alloc o).alloc p).alloc q).alloc r).heap[i]? = some o := by
  rw [heap_alloc_old _ _ (by simp; omega)]; exact heap_at2 h
end Go.Proofs.YtpglhnbekpafeaaDoor
