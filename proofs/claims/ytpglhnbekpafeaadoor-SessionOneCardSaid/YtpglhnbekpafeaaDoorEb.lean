/-
  The closures of control.Encode: what a note has, put behind the bytes.
-/
import Derived.Test.YtpglhnbekpafeaaDoorEa
import Derived.Maps.AppendAt
import Derived.RegionTactic
import Derived.Deep.RegionHeld3
namespace Go.Proofs.YtpglhnbekpafeaaDoor
set_option linter.unusedVariables false
set_option linter.unusedSimpArgs false
open Go Go.RowKit

/-- bytes that came in: nil, empty, or somewhere. -/
def Src (w : World) (a : Option Addr) (n : Nat) (l : List Int) : Prop := l.length = n ∧ (n ≠ 0 → ∃ b off, a = some ⟨b, off, none⟩ ∧ b < w.heap.size ∧ ∀ j x, l[j]? = some x → w.cell? ⟨b, off + j, none⟩ = some (bI x))
theorem Src.step {w w' : World} {a : Option Addr} {n : Nat} {l : List Int} (h : Src w a n l) (hB : Below w.heap.size w w') : Src w' a n l :=
  ⟨h.1, fun hn => by
    obtain ⟨b, off, e, hb, hc⟩ := h.2 hn
    exact ⟨b, off, e, Nat.lt_of_lt_of_le hb hB.size, fun j x hx => by rw [hB.cell (p := ⟨b, off + j, none⟩) hb]; exact hc j x hx⟩⟩
theorem Src.zero {w : World} {a : Option Addr} : Src w a 0 [] := ⟨rfl, fun h => absurd rfl h⟩
theorem one_bytes (l : List Int) : ∀ u ∈ l.map bI, u.oneCell' = true := by
  intro u hu
  obtain ⟨x, _, rfl⟩ := List.mem_map.1 hu; rfl
/-- a source without an address adds nothing. -/
theorem run_append_off {P : Program} (w : World) (base : Nat) (t ty e : TypeId) (i : TypeInfo) (size : Nat) (ht : P.underlying t = some (.slice e)) (hi : P.info? e = some i) (v : Value) (n : Nat) (xs : List Value) (h : w.ownsRow base e size v n xs) (c : Nat) :
    (Builtin.append_ #[t, t] ty #[v, .slice none 0 c]).run P w = .ok v w := by
  rcases h.2 with ⟨rfl, rfl⟩ | ⟨g, cap, cur, rfl, _, _, hc, _⟩
  · simp [Builtin.append_, run_underlying ht, sizeOf, typeInfo, hi, Builtin.lenOf, Builtin.firstCells]
  · simp [Builtin.append_, run_underlying ht, sizeOf, typeInfo, hi, Builtin.lenOf, Builtin.firstCells, hc, storeCells]
theorem run_append_src {P : Program} (w : World) (base : Nat) (t ty e : TypeId) (i : TypeInfo) (z : Value) (ht : P.underlying t = some (.slice e)) (hi : P.info? e = some i) (hz : i.zero = some z) (hs : i.size = 1) (hb : i.bytes = 1) (hzs : z.cells.size = 1)
    (v : Value) (n : Nat) (xs : List Value) (h : w.ownsRow base e 1 v n xs) (a : Option Addr) (m c : Nat) (l : List Int) (hl : Src w a m l) (h63 : n + m ≤ maxLen) (hby : n + m ≤ 140737488355328) (hbase : base ≤ w.heap.size) :
    ∃ v' w', (Builtin.append_ #[t, t] ty #[v, .slice a m c]).run P w = .ok v' w' ∧ w'.ownsRow base e 1 v' (n + m) (xs ++ l.map bI) ∧ w.grownBy w' v.ownBlock ∧ (v'.ownBlock = v.ownBlock ∨ v'.ownBlock = some w.heap.size) := by
  have hcase : (a = none ∧ m = 0 ∧ l = []) ∨ ∃ ad : Addr, a = some ad ∧ ∀ j u, (l.map bI)[j]? = some u → w.cell? (ad.add j) = some u := by
    by_cases hm : m = 0
    · have hl0 : l = [] := List.eq_nil_of_length_eq_zero (hl.1.trans hm)
      cases a with
      | none => exact .inl ⟨rfl, hm, hl0⟩
      | some ad => exact .inr ⟨ad, rfl, fun j u hu => by rw [hl0] at hu; simp at hu⟩
    · obtain ⟨b, off, e, _, hc⟩ := hl.2 hm
      refine .inr ⟨_, e, fun j u hu => ?_⟩
      rw [List.getElem?_map] at hu
      obtain ⟨x, hx, rfl⟩ := Option.map_eq_some_iff.1 hu
      have ea : (Addr.add ⟨b, off, none⟩ j) = ⟨b, off + j, none⟩ := by unfold Addr.add; by_cases h : j = 0 <;> simp [h]
      rw [ea]; exact hc j x hx
  rcases hcase with ⟨rfl, rfl, rfl⟩ | ⟨ad, rfl, hc⟩
  · exact ⟨v, w, run_append_off w base t ty e i 1 ht hi v n xs h c, by simpa using h, ⟨rfl, rfl, rfl, Nat.le_refl _, fun _ _ _ => rfl⟩, .inl rfl⟩
  · obtain ⟨v', w', h1, h2, h3, _, h5⟩ := run_append_own_at (P := P) w base t ty e i z 1 1 ht hi hz hs hb hzs (by omega) v n xs h ad m c (l.map bI) (by simpa using hl.1) hc (one_bytes l) h63 (by omega) hbase
    exact ⟨v', w', h1, h2, h3, h5⟩
theorem step_append_src {P : Program} {w : World} {ops : Array Oper} {o : Oper} {ac : Act} {K : Act → World → Prop} {Q : Exit → Act → World → Prop} {E : Prop} (hgd : o.guard = none) (s x : Operand) (t : TypeId)
    (ho : o.op = .call { callee := .builtin .append, args := #[s, x], argTypes := #[t, t] }) (base : Nat) (e : TypeId) (i : TypeInfo) (z : Value) (ht : P.underlying t = some (.slice e)) (hi : P.info? e = some i) (hz : i.zero = some z) (hs1 : i.size = 1) (hb : i.bytes = 1) (hzs : z.cells.size = 1)
    (v : Value) (n : Nat) (xs : List Value) (hs : ac.eval s = v) (h : w.ownsRow base e 1 v n xs) (a : Option Addr) (m c : Nat) (l : List Int) (hx : ac.eval x = .slice a m c) (hl : Src w a m l) (h63 : n + m ≤ maxLen) (hby : n + m ≤ 140737488355328) (hbase : base ≤ w.heap.size)
    (hK : ∀ v' w', w'.ownsRow base e 1 v' (n + m) (xs ++ l.map bI) → w.grownBy w' v.ownBlock → (v'.ownBlock = v.ownBlock ∨ v'.ownBlock = some w.heap.size) → K (ac.put o.dst v') w') :
    if Region.wanted o (yielded ops ac.tmps) = true then Oper.wp P o ac w K Q else E := by
  have hw : Region.wanted o (yielded ops ac.tmps) = true := by simp [Region.wanted, hgd]
  rw [if_pos hw]
  obtain ⟨v', w', hr, h2, h3, h4⟩ := run_append_src (P := P) w base t o.type e i z ht hi hz hs1 hb hzs v n xs h a m c l hl h63 hby hbase
  unfold Oper.wp execOp
  simp only [ho, resolve, invoke, builtin, Sem.run_bind, Sem.run_pure, Result.andThen_ok, List.map_toArray, List.map_cons, List.map_nil, hs, hx, hr]
  exact hK v' w' h2 h3 h4

/-- the buffer that the closures write: it lies in cell c. -/
structure Buf (w : World) (base c : Nat) (v : Value) (l : List Int) : Prop where
  hc : w.heap[c]? = some (.cells #[v] 32 (0, 0))
  row : Bytes w base v l
  ne : v.ownBlock ≠ some c
  lo : base ≤ c
def PutPost (w : World) (base c : Nat) (l : List Int) (e : Ending) (w' : World) : Prop := ∃ v', e = .returned (.tuple #[]) ∧ Buf w' base c v' l ∧ Below base w w'

section
variable {w w' : World} {base c : Nat} {v : Value} {l l' : List Int}
theorem Buf.cell (h : Buf w base c v l) : w.cell? ⟨c, 0, none⟩ = some v ∧ w.frozen? ⟨c, 0, none⟩ = false := ⟨by rw [cell_of_block h.hc]; rfl, frozen_of_block h.hc 0⟩
theorem Buf.grew {g N cap : Nat} (h : Buf w base c v l) (k : Grew w w' base v l' g N cap) : (w'.cell? ⟨c, 0, none⟩ = some v ∧ w'.frozen? ⟨c, 0, none⟩ = false) ∧
    Buf (w'.setCell ⟨c, 0, none⟩ (.slice (some ⟨g, 0, none⟩) N cap)) base c (.slice (some ⟨g, 0, none⟩) N cap) l' ∧ Below base w (w'.setCell ⟨c, 0, none⟩ (.slice (some ⟨g, 0, none⟩) N cap)) := by
  have hlt := block_lt h.hc
  have hc' : w'.heap[c]? = some (.cells #[v] 32 (0, 0)) := by rw [k.grow.block c hlt (fun e => h.ne e.symm)]; exact h.hc
  have hgc : g ≠ c := by
    rcases k.loc with h1 | h1
    · intro e; subst e; exact h.ne h1
    · omega
  have hB : Below base w w' := ⟨k.grow.os, k.grow.tape, k.grow.output, k.grow.size, fun m hm => k.grow.block m (by have := h.lo; omega) (fun e => by have := (h.row.lt m e.symm).1; omega)⟩
  refine ⟨⟨by rw [cell_of_block hc']; rfl, frozen_of_block hc' 0⟩, ⟨?_, ?_, ?_, h.lo⟩, hB.setCell h.lo _⟩
  · have := shk_heap_same (o := 0) (c := [v]) hc' (.slice (some ⟨g, 0, none⟩) N cap)
    exact this
  · exact own_off (ks := [c]) k.row ((Off.refl _ _).setCell (by simp) _) (fun m hm e => by
      simp at hm; subst hm
      injection e with e; exact hgc e)
  · intro e; injection e with e; exact hgc e
end

/-- Encode's put: where the kind has the field, more is put behind. -/
theorem put_any (K b c base : Nat) (k f : Int) (v : Value) (l l2 : List Int) (w : World) (hk : 0 ≤ k ∧ k ≤ 8) (hf : f = 1 ∨ f = 2 ∨ f = 4 ∨ f = 8 ∨ f = 16) (hl : HasLaid w) (hb : w.cell? ⟨b, 0, none⟩ = some (iV k))
    (hbuf : Buf w base c v l) (hcf : ∀ (x : Array Value) (W : World), (callFunc K x).run Tryd.prog W = .ok (.enter K x) W) (hmore : hasB k f.toNat = true → Calls Tryd.prog K #[v, .pointer (some ⟨b, 0, none⟩)] w (GrewPost w base v l2)) :
    Calls Tryd.prog 39 #[iV f, .func (.func K) #[] #[.pointer (some ⟨b, 0, none⟩)], .pointer (some ⟨b, 0, none⟩), .pointer (some ⟨c, 0, none⟩)] w (PutPost w base c (if hasB k f.toNat then l2 else l)) := by
  have hcell := hl.2 k hk.1 hk.2
  have hbit := has_bits k f hk hf
  have hk9 : k < 9 := by omega
  have hk0 := hk.1
  obtain ⟨hc1, hc2⟩ := hbuf.cell
  have Hbuf := Lib.hid hbuf
  have hbn : (bits BinOp.and IntKind.i64 (wrap64 (hasN k : Int)) f != 0) = hasB k f.toNat := by
    show (!(bits BinOp.and IntKind.i64 (wrap64 (hasN k : Int)) f == 0)) = _
    rw [hbit]; simp
  clear hl hf hbuf hbit
  cases hh : hasB k f.toNat
  · rw [hh] at hbn
    clear hmore hh
    go_enter Tryd.func39, Tryd.ntmps39
    go_wp2
    go_end0
    exact ⟨v, rfl, Hbuf.out, Below.refl _ _⟩
  · rw [hh] at hbn
    have Hm := Lib.hid (hmore hh)
    clear hmore hh
    go_enter Tryd.func39, Tryd.ntmps39
    go_wp2_with fail
    refine Hm.out.mono ?_
    rintro e w1 ⟨g, N, cap, rfl, h1⟩
    obtain ⟨⟨d1, d2⟩, hB1, hB2⟩ := Hbuf.out.grew h1
    have HB1 := Lib.hid hB1; have HB2 := Lib.hid hB2
    clear hB1 hB2 h1
    go_wp2_with fail
    go_end0
    exact ⟨_, rfl, HB1.out, HB2.out⟩
theorem calls_put : (∀ (x : Array Value) (W : World), (callFunc 40 x).run Tryd.prog W = .ok (.enter 40 x) W) ∧ (∀ (x : Array Value) (W : World), (callFunc 42 x).run Tryd.prog W = .ok (.enter 42 x) W) ∧ (∀ (x : Array Value) (W : World), (callFunc 43 x).run Tryd.prog W = .ok (.enter 43 x) W) ∧
    (∀ (x : Array Value) (W : World), (callFunc 44 x).run Tryd.prog W = .ok (.enter 44 x) W) ∧ (∀ (x : Array Value) (W : World), (callFunc 45 x).run Tryd.prog W = .ok (.enter 45 x) W) := by
  refine ⟨?_, ?_, ?_, ?_, ?_⟩ <;> (intro x W; simp [go_sem])

theorem putVlan_any (b base : Nat) (n : Int) (v : Value) (l : List Int) (w : World) (hb : w.cell? ⟨b, 1, none⟩ = some (iV n)) (h : Bytes w base v l) (hn : 0 ≤ n) (hn2 : n ≤ 65535) (hl : l.length ≤ 10000) (hbs : base ≤ w.heap.size) :
    Calls Tryd.prog 40 #[v, .pointer (some ⟨b, 0, none⟩)] w (GrewPost w base v (l ++ be2 n)) := by
  have H := Lib.hid (short_any n base v l w h hn (by omega) hl hbs)
  clear h
  go_enter Tryd.func40, Tryd.ntmps40
  go_wp2_with fail
  refine H.out.mono ?_
  rintro e w1 ⟨g, N, cap, rfl, h1⟩
  have H1 := Lib.hid h1
  clear h1
  go_wp2_with fail
  go_ret
  exact ⟨g, N, cap, rfl, H1.out⟩
theorem putPort_any (b base : Nat) (n : Int) (v : Value) (l : List Int) (w : World) (hb : w.cell? ⟨b, 8, none⟩ = some (iV n)) (h : Bytes w base v l) (hn : 0 ≤ n) (hn2 : n ≤ 65535) (hl : l.length ≤ 10000) (hbs : base ≤ w.heap.size) :
    Calls Tryd.prog 43 #[v, .pointer (some ⟨b, 0, none⟩)] w (GrewPost w base v (l ++ be2 n)) := by
  have H := Lib.hid (short_any n base v l w h hn (by omega) hl hbs)
  clear h
  go_enter Tryd.func43, Tryd.ntmps43
  go_wp2_with fail
  refine H.out.mono ?_
  rintro e w1 ⟨g, N, cap, rfl, h1⟩
  have H1 := Lib.hid h1
  clear h1
  go_wp2_with fail
  go_ret
  exact ⟨g, N, cap, rfl, H1.out⟩
theorem grew_lies {w w1 : World} {base g cap n m : Nat} {v : Value} {l l2 : List Int} {o : Obj} {H : Nat} (hn : n = l.length) (hm : m = l2.length) (h1 : w1.ownsRow base 5 1 (.slice (some ⟨g, 0, none⟩) (n + m) cap) (n + m) (l.map bI ++ l2.map bI)) (h2 : (w.alloc o).grownBy w1 v.ownBlock) (h3 : v.ownBlock = some g ∨ g = H) (hH : w.heap.size ≤ H) (h4 : g < w1.heap.size) :
    Grew w w1 base v (l ++ l2) g (n + m) cap := by
  have e : (l ++ l2).length = n + m := by simp [hn, hm]
  refine ⟨e.symm, ?_, grown_alloc h2, by rcases h3 with h | h; exact .inl h; exact .inr (by omega), h4⟩
  show w1.ownsRow _ _ _ _ (l ++ l2).length _
  rw [e, List.map_append]; exact h1
theorem putState_any (b base : Nat) (n : Int) (v : Value) (l : List Int) (w : World) (hb : w.cell? ⟨b, 9, none⟩ = some (iV n)) (h : Bytes w base v l) (hn : 0 ≤ n) (hn2 : n ≤ 255) (hl : l.length ≤ 10000) (hbs : base ≤ w.heap.size) :
    Calls Tryd.prog 44 #[v, .pointer (some ⟨b, 0, none⟩)] w (GrewPost w base v (l ++ [n])) := by
  obtain ⟨i0, hi, hz0, hz1, hz2⟩ := u8Info
  have H := Lib.hid h
  have e1 : IntKind.u8.wrap n = n := by rw [IntKind.wrap_u8]; omega
  have H63 := Lib.hid (show l.length + 1 ≤ maxLen by simp only [maxLen]; omega)
  clear h
  go_enter Tryd.func44, Tryd.ntmps44
  go_wp2_with (at_builtin; refine wpList_append_lies _ rfl _ _ _ rfl base 5 i0 (.int .u8 0) 1 1 Tryd.underlying32 hi hz0 hz1 hz2 rfl (by omega) v l.length (l.map bI) rfl (H.out.alloc _) ⟨w.heap.size, 0, none⟩ 1 1 ([n].map bI) rfl rfl (World.news_of_block (cs := ([n].map bI).toArray) (heap_alloc_new w _)) (one_bytes _) (by omega) H63.out (by omega) (by simp; omega) (w.heap.size + 1) (by simp) ?_; intro g cap w1 h1 h2 h3 h4)
  go_ret
  exact ⟨g, _, cap, rfl, grew_lies rfl rfl h1 h2 h3 (by omega) h4⟩
abbrev macInts (m : Mac) : List Int := [(m.a.toNat : Int), (m.b.toNat : Int), (m.c.toNat : Int), (m.d.toNat : Int), (m.e.toNat : Int), (m.f.toNat : Int)]
theorem putMac_any (b base : Nat) (m : Mac) (v : Value) (l : List Int) (w : World) (hb : ∀ j x, (macInts m)[j]? = some x → w.cell? ⟨b, 2 + j, none⟩ = some (bI x)) (h : Bytes w base v l) (hl : l.length ≤ 10000) (hbs : base ≤ w.heap.size) :
    Calls Tryd.prog 42 #[v, .pointer (some ⟨b, 0, none⟩)] w (GrewPost w base v (l ++ macInts m)) := by
  obtain ⟨i0, hi, hz0, hz1, hz2⟩ := u8Info
  have H := Lib.hid h
  have Hb := Lib.hid (show ∀ j u, ((macInts m).map bI)[j]? = some u → w.cell? (Addr.add ⟨b, 2, none⟩ j) = some u by
    intro j u hu
    rw [List.getElem?_map] at hu
    obtain ⟨x, hx, rfl⟩ := Option.map_eq_some_iff.1 hu
    have ea : (Addr.add ⟨b, 2, none⟩ j) = ⟨b, 2 + j, none⟩ := by unfold Addr.add; by_cases h : j = 0 <;> simp [h]
    rw [ea]; exact hb j x hx)
  have H63 := Lib.hid (show l.length + 6 ≤ maxLen by simp only [maxLen]; omega)
  clear h hb
  go_enter Tryd.func42, Tryd.ntmps42
  go_wp2_with (at_builtin; refine wpList_append_lies _ rfl _ _ _ rfl base 5 i0 (.int .u8 0) 1 1 Tryd.underlying32 hi hz0 hz1 hz2 rfl (by omega) v l.length (l.map bI) rfl H.out ⟨b, 2, none⟩ 6 6 ((macInts m).map bI) rfl rfl Hb.out (one_bytes _) (by omega) H63.out (by omega) hbs w.heap.size rfl ?_; intro g cap w1 h1 h2 h3 h4)
  go_ret
  refine ⟨g, _, cap, rfl, ?_⟩
  have e : (l ++ macInts m).length = l.length + 6 := by simp
  refine ⟨e.symm, ?_, h2, by rcases h3 with h | h; exact .inl h; exact .inr (by omega), h4⟩
  show w1.ownsRow _ _ _ _ (l ++ macInts m).length _
  rw [e, List.map_append]; exact h1
theorem Grew.below {w w' : World} {base : Nat} {v : Value} {l l2 : List Int} {g N cap : Nat} (h : Bytes w base v l) (hb : base ≤ w.heap.size) (k : Grew w w' base v l2 g N cap) : Below base w w' :=
  ⟨k.grow.os, k.grow.tape, k.grow.output, k.grow.size, fun m hm => k.grow.block m (by omega) (fun e => by have := (h.lt m e.symm).1; omega)⟩
theorem Src.keep {w w' : World} {base : Nat} {a : Option Addr} {n : Nat} {l : List Int} (h : Src w a n l) (hB : Below base w w') (ha : ∀ x, a = some x → x.block < base) : Src w' a n l :=
  ⟨h.1, fun hn => by
    obtain ⟨b, off, e, hb, hc⟩ := h.2 hn
    have hlt := ha _ e
    exact ⟨b, off, e, Nat.lt_of_lt_of_le hb hB.size, fun j x hx => by rw [hB.cell (p := ⟨b, off + j, none⟩) hlt]; exact hc j x hx⟩⟩
theorem grew_src {w w1 w2 : World} {base g N cap m : Nat} {v v2 : Value} {l l2 bs : List Int} (h : Bytes w base v l) (h1 : Grew w w1 base v l2 g N cap) (hpos : 0 < l2.length) (hm : bs.length = m) (h2 : w2.ownsRow base 5 1 v2 (l2.length + m) (l2.map bI ++ bs.map bI))
    (h3 : w1.grownBy w2 (Value.ownBlock (.slice (some ⟨g, 0, none⟩) N cap))) (h4 : v2.ownBlock = Value.ownBlock (.slice (some ⟨g, 0, none⟩) N cap) ∨ v2.ownBlock = some w1.heap.size) :
    ∃ g2 N2 cap2, v2 = .slice (some ⟨g2, 0, none⟩) N2 cap2 ∧ Grew w w2 base v (l2 ++ bs) g2 N2 cap2 := by
  obtain ⟨g2, cap2, rfl, _, hlt⟩ := h2.form (by omega)
  refine ⟨g2, _, cap2, rfl, h1.trans ⟨by simp [hm], ?_, h3, ?_, hlt⟩⟩
  · show w2.ownsRow _ _ _ _ (l2 ++ bs).length _
    rw [List.length_append, hm, List.map_append]; exact h2
  · rcases h4 with h4 | h4
    · exact .inl h4.symm
    · right
      have : g2 = w1.heap.size := by injection h4
      omega
theorem putBody_any (b base : Nat) (a : Option Addr) (m c : Nat) (bs : List Int) (v : Value) (l : List Int) (w : World) (hb : w.cell? ⟨b, 10, none⟩ = some (.slice a m c)) (hbb : b < base) (hsrc : Src w a m bs) (hsb : ∀ x, a = some x → x.block < base) (h : Bytes w base v l) (hl : l.length ≤ 10000) (hm : m ≤ 65535) (hbs : base ≤ w.heap.size) :
    Calls Tryd.prog 45 #[v, .pointer (some ⟨b, 0, none⟩)] w (GrewPost w base v (l ++ be2 m ++ bs)) := by
  obtain ⟨i0, hi, hz0, hz1, hz2⟩ := u8Info
  have H := Lib.hid (fun W (h : Bytes W base v l) (hW : base ≤ W.heap.size) => short_any m base v l W h (by omega) (by omega) hl hW)
  have hd : Bytes w.drew base v l := h
  have Hk := Lib.hid (fun (W : World) (l2 : List Int) (g N cap : Nat) (k : Grew w.drew W base v l2 g N cap) => show W.cell? ⟨b, 10, none⟩ = some (.slice a m c) ∧ Src W a m bs ∧ base ≤ W.heap.size by
    have hB := Grew.below hd hbs k
    exact ⟨by rw [hB.cell (p := ⟨b, 10, none⟩) hbb]; exact hb, (hsrc.step (Below.refl _ _).drew).keep hB hsb, Nat.le_trans hbs hB.size⟩)
  have H63 := Lib.hid (show (l ++ be2 m).length + m ≤ maxLen by simp only [maxLen]; simp [be2]; omega)
  have Hby := Lib.hid (show (l ++ be2 m).length + m ≤ 140737488355328 by simp [be2]; omega)
  have Hl := Lib.hid hsrc.1
  clear hsrc h
  go_enter Tryd.func45, Tryd.ntmps45
  go_wp2_with fail
  go_region_held3 (fun w' => w'.cell? ⟨b, 10, none⟩ = some (.slice a m c)) (first | (exact hb) | (exact hb1) | (exact hb2)) (first | (go_at_call 41; refine (H.out _ hd hbs).mono ?_; rintro e w1 ⟨g, N, cap, rfl, h1⟩; obtain ⟨hb1, hs1, hz1'⟩ := Hk.out _ _ _ _ _ h1) | (refine step_append_src (by rfl) _ _ _ (by rfl) base 5 i0 (.int .u8 0) Tryd.underlying32 hi hz0 hz1 hz2 rfl _ _ _ (by rfl) h1.row a m c bs (by rfl) hs1 H63.out Hby.out hz1' ?_; intro v2 w2 h2 h3 h4; obtain ⟨g2, N2, cap2, rfl, hgr⟩ := grew_src hd h1 (by simp [be2]) Hl.out h2 h3 h4; have hb2 := (Hk.out _ _ _ _ _ hgr).1))
  go_wp2_with fail
  go_ret
  refine ⟨g2, N2, cap2, rfl, ⟨hgr.len, hgr.row, ⟨hgr.grow.os, hgr.grow.tape, hgr.grow.output, hgr.grow.size, hgr.grow.block⟩, hgr.loc, hgr.lt⟩⟩
end Go.Proofs.YtpglhnbekpafeaaDoor
