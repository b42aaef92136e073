/-
  A queue that a call owns: a row that may begin within its block. Appended to at its end, cut at its head.
-/
import Derived.Deep.AppendLies
import Derived.ArgAppend
import Derived.Test.YtpglhnbekpafeaaDoorSm
namespace Go.Proofs.YtpglhnbekpafeaaDoor
set_option linter.unusedVariables false
set_option linter.unusedSimpArgs false
open Go Go.RowKit

def qRow (w : World) (base : Nat) (e : TypeId) (size : Nat) (v : Value) (n : Nat) (xs : List Value) : Prop :=
  xs.length = n * size ∧
  ((v = .slice none 0 0 ∧ n = 0) ∨
   ∃ g off cap cur, v = .slice (some ⟨g, off, none⟩) n cap ∧ base ≤ g ∧ w.heap[g]? = some (.cells cur e (0, 0)) ∧ n ≤ cap ∧ cap ≤ maxLen ∧ off + cap * size ≤ cur.size ∧ (cur.toList.drop off).take (n * size) = xs)

section
variable {w : World} {base : Nat} {e : TypeId} {size : Nat} {v : Value} {n : Nat} {xs : List Value}
theorem qRow_nil (w : World) (base : Nat) (e : TypeId) (size : Nat) : qRow w base e size (.slice none 0 0) 0 [] := ⟨by simp, .inl ⟨rfl, rfl⟩⟩
theorem qRow.step {w' : World} (h : qRow w base e size v n xs) (hB : Below w.heap.size w w') : qRow w' base e size v n xs := by
  obtain ⟨hl, hn | ⟨g, off, cap, cur, hv, hb, hg, rest⟩⟩ := h
  · exact ⟨hl, Or.inl hn⟩
  · exact ⟨hl, Or.inr ⟨g, off, cap, cur, hv, hb, by rw [hB.block _ (block_lt hg)]; exact hg, rest⟩⟩
theorem qRow.off {w' : World} {ks : List Nat} (h : qRow w base e size v n xs) (hB : Off ks w w') (hk : ∀ k, k ∈ ks → v.ownBlock ≠ some k) : qRow w' base e size v n xs := by
  obtain ⟨hl, hn | ⟨g, off, cap, cur, hv, hb, hg, rest⟩⟩ := h
  · exact ⟨hl, Or.inl hn⟩
  · refine ⟨hl, Or.inr ⟨g, off, cap, cur, hv, hb, ?_, rest⟩⟩
    rw [hB.block _ (block_lt hg) (fun hm => hk g hm (by rw [hv]; rfl))]; exact hg
theorem qRow.kept {w' : World} {row : Option Nat} (h : qRow w base e size v n xs) (hg : w.grownBy w' row) (hne : ∀ k, v.ownBlock = some k → row ≠ some k) : qRow w' base e size v n xs := by
  obtain ⟨hl, hn | ⟨g, off, cap, cur, hv, hb, hgg, rest⟩⟩ := h
  · exact ⟨hl, Or.inl hn⟩
  · refine ⟨hl, Or.inr ⟨g, off, cap, cur, hv, hb, ?_, rest⟩⟩
    rw [hg.block g (block_lt hgg) (fun e => hne g (by rw [hv]; rfl) e.symm)]; exact hgg
theorem qRow.lt (h : qRow w base e size v n xs) : ∀ k, v.ownBlock = some k → base ≤ k ∧ k < w.heap.size := by
  intro k hk
  obtain ⟨_, ⟨rfl, _⟩ | ⟨g, off, cap, cur, rfl, hb, hg, _⟩⟩ := h
  · cases hk
  · injection hk with hk; subst hk; exact ⟨hb, block_lt hg⟩
theorem qRow.form (h : qRow w base e size v n xs) : (v = .slice none 0 0 ∧ n = 0) ∨ ∃ g off cap, v = .slice (some ⟨g, off, none⟩) n cap ∧ n ≤ cap ∧ g < w.heap.size := by
  obtain ⟨_, h | ⟨g, off, cap, cur, rfl, hb, hg, hn, _⟩⟩ := h
  · exact .inl h
  · exact .inr ⟨g, off, cap, rfl, hn, block_lt hg⟩
theorem qRow.cells {g off cap : Nat} (h : qRow w base e size (.slice (some ⟨g, off, none⟩) n cap) n xs) : ∀ j u, xs[j]? = some u → w.cell? ⟨g, off + j, none⟩ = some u := by
  intro j u hu
  obtain ⟨_, ⟨hv, _⟩ | ⟨g', off', cap', cur, hv, _, hgg, _, _, _, htake⟩⟩ := h
  · cases hv
  · injection hv with e1 e2 e3
    injection e1 with e1; injection e1 with e1 e4
    subst e1 e4
    rw [cell_of_block hgg]
    rw [← htake, List.getElem?_take] at hu
    split at hu
    · simpa using hu
    · cases hu
theorem qRow.add {g off cap : Nat} (h : qRow w base e size (.slice (some ⟨g, off, none⟩) n cap) n xs) : ∀ j u, xs[j]? = some u → w.cell? ((⟨g, off, none⟩ : Addr).add j) = some u := by
  intro j u hu
  have hadd : (⟨g, off, none⟩ : Addr).add j = ⟨g, off + j, none⟩ := by unfold Addr.add; split <;> simp_all
  rw [hadd]; exact h.cells j u hu
/-- the head is cut off. -/
theorem qRow.tail {g off cap m : Nat} {x rest : List Value} (h : qRow w base e size (.slice (some ⟨g, off, none⟩) (m + 1) cap) (m + 1) (x ++ rest)) (hx : x.length = size) :
    qRow w base e size (.slice (some ⟨g, off + size, none⟩) m (cap - 1)) m rest ∧ (cap = 1 → m = 0 ∧ qRow w base e size (.slice (some ⟨g, off, none⟩) 0 0) 0 rest) := by
  obtain ⟨hl, ⟨hv, _⟩ | ⟨g', off', cap', cur, hv, hb, hgg, hn, hm, hc, htake⟩⟩ := h
  · cases hv
  · injection hv with e1 e2 e3
    injection e1 with e1; injection e1 with e1 e4
    subst e1 e4 e3
    have hlr : rest.length = m * size := by rw [List.length_append, hx, Nat.add_mul] at hl; omega
    have e5 : cap * size = (cap - 1) * size + size := by
      obtain ⟨c, rfl⟩ : ∃ c, cap = c + 1 := ⟨cap - 1, by omega⟩
      rw [Nat.add_mul]; simp
    constructor
    · refine ⟨hlr, .inr ⟨g, off + size, cap - 1, cur, rfl, hb, hgg, by omega, by omega, by omega, ?_⟩⟩
      have h1 : ((cur.toList.drop off).take ((m + 1) * size)).drop size = rest := by
        rw [htake, ← hx]; exact List.drop_left
      rw [List.drop_take] at h1
      rw [← List.drop_drop, ← h1, Nat.add_mul]
      simp
    · intro h1
      subst h1
      obtain rfl : m = 0 := by omega
      refine ⟨rfl, hlr, .inr ⟨g, off, 0, cur, rfl, hb, hgg, Nat.le_refl _, by omega, by omega, ?_⟩⟩
      have : rest = [] := List.eq_nil_of_length_eq_zero (by simpa using hlr)
      rw [this]; simp
end

section
variable {P : Program} (w : World)
/-- THE LAW of the append. -/
theorem run_append_q (t ty : TypeId) (base : Nat) (e : TypeId) (i : TypeInfo) (z : Value) (size bytes : Nat) (ht : P.underlying t = some (.slice e)) (hi : P.info? e = some i) (hz : i.zero = some z)
    (hsize : i.size = size) (hby : i.bytes = bytes) (hzs : z.cells.size = size) (hsz : 0 < size)
    (v : Value) (n : Nat) (xs : List Value) (hown : qRow w base e size v n xs)
    (a : Addr) (m c : Nat) (news : List Value) (hl : news.length = m * size) (hnews : ∀ j u, news[j]? = some u → w.cell? (a.add j) = some u) (h1 : ∀ u ∈ news, u.oneCell' = true)
    (hm : 0 < m) (h63 : n + m ≤ maxLen) (hbytes : (n + m) * bytes ≤ 140737488355328) (hbase : base ≤ w.heap.size) :
    ∃ g off cap w', (Builtin.append_ #[t, t] ty #[v, .slice (some a) m c]).run P w = .ok (.slice (some ⟨g, off, none⟩) (n + m) cap) w' ∧
      qRow w' base e size (.slice (some ⟨g, off, none⟩) (n + m) cap) (n + m) (xs ++ news) ∧ w.grownBy w' v.ownBlock ∧ (v.ownBlock = some g ∨ g = w.heap.size) ∧ g < w'.heap.size := by
  subst hsize
  subst hby
  have hsmall : n + m ≤ 9223372036854775807 := by simp only [maxLen] at h63; omega
  have hlen : (xs ++ news).length = (n + m) * i.size := by rw [List.length_append, hown.1, hl, Nat.add_mul]
  have grown : ∀ (old : Nat), old < n + m → ∀ (row : Option Nat),
      qRow (w.drew.alloc (.cells (xs.toArray ++ news.toArray ++ Builtin.zeroCells z.cells (grownCap w (n + m) old e - (n + m))) e)) base e i.size
        (.slice (some ⟨w.heap.size, 0, none⟩) (n + m) (grownCap w (n + m) old e)) (n + m) (xs ++ news) ∧
      w.grownBy (w.drew.alloc (.cells (xs.toArray ++ news.toArray ++ Builtin.zeroCells z.cells (grownCap w (n + m) old e - (n + m))) e)) row ∧
      w.heap.size < (w.drew.alloc (.cells (xs.toArray ++ news.toArray ++ Builtin.zeroCells z.cells (grownCap w (n + m) old e - (n + m))) e)).heap.size := by
    intro old ho row
    have hge := grownCap_ge w (n + m) old e
    have hcm : grownCap w (n + m) old e ≤ maxLen := grownCap_le_maxLen w (n + m) old e h63
    refine ⟨⟨hlen, .inr ⟨w.heap.size, 0, _, _, rfl, hbase, heap_alloc_new w.drew _, hge, hcm, ?_, ?_⟩⟩, ⟨rfl, rfl, rfl, by simp, fun k hk _ => heap_alloc_old w.drew _ hk⟩, by simp⟩
    · simp only [Array.size_append, List.size_toArray, size_zeroCells, hzs, hown.1, hl, ← Nat.add_mul]
      rw [Nat.zero_add]
      apply Nat.le_of_eq
      congr 1
      omega
    · simp only [Array.toList_append, List.append_assoc, List.drop_zero]
      rw [← List.append_assoc, ← hlen]
      exact List.take_left
  rcases hown.2 with ⟨rfl, rfl⟩ | ⟨g, off, cap, cur, rfl, hbg, hg, hnc, hcm, hcs, htake⟩
  · have hx : xs = [] := List.eq_nil_of_length_eq_zero (by simpa using hown.1)
    subst hx
    have hr := run_append_nil (P := P) w t ty e i z ht hi hz a m c news hl hnews (by omega) (by omega) (by have hb := hbytes; simp only [Nat.zero_add] at hb; omega)
    have hgr := grown 0 (by omega) (Value.ownBlock (.slice none 0 0))
    simp only [Nat.zero_add, List.nil_append, Array.empty_append] at hgr ⊢
    exact ⟨_, 0, _, _, hr, hgr.1, hgr.2.1, Or.inr rfl, hgr.2.2⟩
  · by_cases hroom : n + m ≤ cap
    · have hmul : (n + m) * i.size ≤ cap * i.size := Nat.mul_le_mul_right _ hroom
      rw [Nat.add_mul, ← hl] at hmul
      have hfit : off + n * i.size + news.length ≤ cur.size := by omega
      have hf := run_firstCells_some (P := P) w i.size m a m c news hl hnews
      have hst := run_storeCells_at P g (off + n * i.size) e news 0 cur w hg (by simpa using hfit) h1
      simp only [Nat.add_zero] at hst
      have hr : (Builtin.append_ #[t, t] ty #[.slice (some ⟨g, off, none⟩) n cap, .slice (some a) m c]).run P w =
          .ok (.slice (some ⟨g, off, none⟩) (n + m) cap) (w.setRow g (cur.toList.take (off + n * i.size) ++ news ++ cur.toList.drop (off + n * i.size + news.length)).toArray) := by
        simp [Builtin.append_, run_underlying ht, sizeOf, typeInfo, hi, Builtin.lenOf, hroom, hf, Addr.add_lit, hst]
      have hgl := block_lt hg
      have hsz : (w.setRow g (cur.toList.take (off + n * i.size) ++ news ++ cur.toList.drop (off + n * i.size + news.length)).toArray).heap.size = w.heap.size := by simp
      refine ⟨g, off, cap, _, hr, ⟨hlen, .inr ⟨g, off, cap, _, rfl, hbg, setRow_heap w g cur _ e _ hg, hroom, hcm, ?_, ?_⟩⟩, ⟨rfl, rfl, rfl, by simp, fun k _ hk => setRow_other w g k _ (fun e => hk (by simp [Value.ownBlock, e]))⟩, Or.inl rfl, by rw [hsz]; exact hgl⟩
      · simp only [List.size_toArray, List.length_append, List.length_take, List.length_drop, Array.length_toList]
        omega
      · have e1 : (cur.toList.take (off + n * i.size)).drop off = xs := by
          rw [List.drop_take, ← htake]; congr 1; omega
        have hle : off ≤ (cur.toList.take (off + n * i.size)).length := by
          rw [List.length_take, Array.length_toList]; omega
        show List.take _ (List.drop off (cur.toList.take (off + n * i.size) ++ news ++ cur.toList.drop (off + n * i.size + news.length))) = _
        rw [List.append_assoc, List.drop_append_of_le_length hle, e1, ← List.append_assoc, ← hlen]
        exact List.take_left
    · have holds : ∀ j u, xs[j]? = some u → w.cell? ((⟨g, off, none⟩ : Addr).add j) = some u := hown.add
      have hr := run_append_grow (P := P) w t ty e i z ht hi hz ⟨g, off, none⟩ n cap xs hown.1 holds a m c news hl hnews (by omega) (by omega) (growslice_fits (by omega) hbytes)
      have hgr := grown cap (by omega) (Value.ownBlock (.slice (some ⟨g, off, none⟩) n cap))
      exact ⟨_, 0, _, _, hr, hgr.1, hgr.2.1, Or.inr rfl, hgr.2.2⟩

/-- at a step of a region that draws its order. -/
theorem step_append_q {ops : Array Oper} {o : Oper} {a : Act} {K : Act → World → Prop} {Q : Exit → Act → World → Prop} {E : Prop} (hgd : o.guard = none) (s x : Operand) (t : TypeId)
    (ho : o.op = .call { callee := .builtin .append, args := #[s, x], argTypes := #[t, t] })
    (base : Nat) (e : TypeId) (i : TypeInfo) (z : Value) (size bytes : Nat) (ht : P.underlying t = some (.slice e)) (hi : P.info? e = some i) (hz : i.zero = some z)
    (hsize : i.size = size) (hby : i.bytes = bytes) (hzs : z.cells.size = size) (hsz : 0 < size)
    (v : Value) (n : Nat) (xs : List Value) (hs : a.eval s = v) (hown : qRow w base e size v n xs)
    (ad : Addr) (m c : Nat) (news : List Value) (hx : a.eval x = .slice (some ad) m c) (hl : news.length = m * size) (hnews : ∀ j u, news[j]? = some u → w.cell? (ad.add j) = some u) (h1 : ∀ u ∈ news, u.oneCell' = true)
    (hm : 0 < m) (h63 : n + m ≤ maxLen) (hbytes : (n + m) * bytes ≤ 140737488355328) (hbase : base ≤ w.heap.size) (H : Nat) (hH : w.heap.size = H)
    (h : ∀ g off cap w', qRow w' base e size (.slice (some ⟨g, off, none⟩) (n + m) cap) (n + m) (xs ++ news) → w.grownBy w' v.ownBlock → (v.ownBlock = some g ∨ g = H) → g < w'.heap.size → K (a.put o.dst (.slice (some ⟨g, off, none⟩) (n + m) cap)) w') :
    if Region.wanted o (yielded ops a.tmps) = true then Oper.wp P o a w K Q else E := by
  have hw : Region.wanted o (yielded ops a.tmps) = true := by simp [Region.wanted, hgd]
  rw [if_pos hw]
  obtain ⟨g, off, cap, w', hr, h2, h3, h4, h5⟩ := run_append_q (P := P) w t o.type base e i z size bytes ht hi hz hsize hby hzs hsz v n xs hown ad m c news hl hnews h1 hm h63 hbytes hbase
  unfold Oper.wp execOp
  simp only [ho, resolve, invoke, builtin, Sem.run_bind, Sem.run_pure, Result.andThen_ok, List.map_toArray, List.map_cons, List.map_nil, hs, hx, hr]
  exact h g off cap w' h2 h3 (by rw [← hH]; exact h4) h5
end
theorem qRow.drew {w : World} {base : Nat} {e : TypeId} {size : Nat} {v : Value} {n : Nat} {xs : List Value} (h : qRow w base e size v n xs) : qRow w.drew base e size v n xs := h.step (Below.refl _ _).drew
theorem qRow.alloc {w : World} {base : Nat} {e : TypeId} {size : Nat} {v : Value} {n : Nat} {xs : List Value} (h : qRow w base e size v n xs) (o : Obj) : qRow (w.alloc o) base e size v n xs := h.step ((Below.refl _ _).alloc (Nat.le_refl _) _)
end Go.Proofs.YtpglhnbekpafeaaDoor
