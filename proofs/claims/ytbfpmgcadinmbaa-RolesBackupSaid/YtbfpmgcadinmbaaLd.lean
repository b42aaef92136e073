/-
  The walk of the law RolesBackup.
-/
import Derived.Test.YtbfpmgcadinmbaaLc
import Derived.Deep.AppendLies
namespace Go.Proofs.Ytbfpmgcadinmbaa
set_option linter.unusedVariables false
set_option linter.unusedSimpArgs false
open Go Go.RowKit Go.Maps
attribute [local go_sem ↓] exec_loadVec exec_storeVec exec_loadHeard exec_storeHeard
attribute [local go_sem] ldRow_ptr ldFin_some cellsAt_succ cellsAt_zero allSome_cons allSome_nil stRow_ptr stFin_true allOne_cons allOne_nil there_succ there_zero frozens_succ frozens_zero one_int one_bool putCells_alloc_at putCells_alloc_old over_all

theorem step_append_own {P : Program} {ops : Array Oper} {o : Oper} {a : Act} {w : World} {K : Act → World → Prop} {Q : Exit → Act → World → Prop} {E : Prop} (hgd : o.guard = none) (s x : Operand) (t : TypeId)
    (ho : o.op = .call { callee := .builtin .append, args := #[s, x], argTypes := #[t, t] })
    (base : Nat) (e : TypeId) (i : TypeInfo) (z : Value) (size bytes : Nat) (ht : P.underlying t = some (.slice e)) (hi : P.info? e = some i) (hz : i.zero = some z)
    (hsize : i.size = size) (hby : i.bytes = bytes) (hzs : z.cells.size = size) (hsz : 0 < size)
    (v : Value) (n : Nat) (xs : List Value) (hs : a.eval s = v) (hown : w.ownsRow base e size v n xs)
    (ad : Addr) (m c : Nat) (news : List Value) (hx : a.eval x = .slice (some ad) m c) (hl : news.length = m * size) (hnews : ∀ j u, news[j]? = some u → w.cell? (ad.add j) = some u) (h1 : ∀ u ∈ news, u.oneCell' = true)
    (h63 : n + m ≤ maxLen) (hbytes : (n + m) * bytes ≤ 140737488355328) (hbase : base ≤ w.heap.size)
    (h : ∀ v' w', w'.ownsRow base e size v' (n + m) (xs ++ news) → w.grownBy w' v.ownBlock → (v' = .slice none 0 0 ↔ v = .slice none 0 0 ∧ m = 0) → K (a.put o.dst v') w') :
    if Region.wanted o (yielded ops a.tmps) = true then Oper.wp P o a w K Q else E := by
  have hw : Region.wanted o (yielded ops a.tmps) = true := by simp [Region.wanted, hgd]
  rw [if_pos hw]
  exact wp_append_own w s x t ho base e i z size bytes ht hi hz hsize hby hzs hsz v n xs hs hown ad m c news hx hl hnews h1 h63 hbytes hbase h

theorem own_below {w w' : World} {base : Nat} {e : TypeId} {size : Nat} {v : Value} {n : Nat} {xs : List Value} (h : w.ownsRow base e size v n xs) (hB : Below w.heap.size w w') : w'.ownsRow base e size v n xs := by
  obtain ⟨h0, h1 | ⟨g, cap, cur, h1, h2, h3, h4⟩⟩ := h
  · exact ⟨h0, .inl h1⟩
  · exact ⟨h0, .inr ⟨g, cap, cur, h1, h2, by rw [hB.block _ (block_lt h3)]; exact h3, h4⟩⟩

theorem Kept.grown {k : Nat} {W w w' : World} {row : Option Nat} (h : Kept k W w) (hg : w.grownBy w' row) (hr : ∀ b, row = some b → k ≤ b) : Kept k W w' :=
  Kept.mk' (h.2.1.grown hg h.size hr) h.2.2

/-- the two ports. -/
def bk0 (me : Id) (c0 p0 p1 : Int) : Heard := { port := p0, cost := c0, up := true, has := true, v := offer me (ownWay me) p1 }
def bkL (me : Id) (c0 c1 p0 p1 : Int) : List Heard := [bk0 me c0 p0 p1, bk0 me c1 p1 p0]

theorem bk_loop (me : Id) (c0 c1 p0 p1 : Int) : ∀ k, k ≤ 2 → selLoop me (bkL me c0 c1 p0 p1) k = (ownWay me, -1) := by
  have nc : ∀ c p q : Int, cand me (bk0 me c p q) = false := by
    intro c p q
    unfold cand
    rw [addVec_bridge]
    simp [bk0, offer]
  intro k hk
  rcases k with _ | _ | _ | k
  · rfl
  · rw [selLoop_succ me _ 0 (bk0 me c0 p0 p1) rfl, selStep_eq, if_neg (by rw [nc]; simp)]; rfl
  · rw [selLoop_succ me _ 1 (bk0 me c1 p1 p0) rfl, selStep_eq, if_neg (by rw [nc]; simp), selLoop_succ me _ 0 (bk0 me c0 p0 p1) rfl, selStep_eq, if_neg (by rw [nc]; simp)]; rfl
  · omega
theorem bk_best (me : Id) (c0 c1 p0 p1 : Int) : selBest me (bkL me c0 c1 p0 p1) = ownWay me := by
  show (selLoop me (bkL me c0 c1 p0 p1) 2).1 = _; rw [bk_loop _ _ _ _ _ _ (Nat.le_refl 2)]
theorem bk_root (me : Id) (c0 c1 p0 p1 : Int) : selRoot me (bkL me c0 c1 p0 p1) = -1 := by
  show (selLoop me (bkL me c0 c1 p0 p1) 2).2 = _; rw [bk_loop _ _ _ _ _ _ (Nat.le_refl 2)]
theorem cmpI_refl (a : Int) : cmpI a a = 0 := (cmpI_zero a a).2 rfl
theorem bk_cmp (me : Id) (p q : Int) : cmpVec (offer me (ownWay me) p) (offer me (ownWay me) q) = cmpI p q := by
  have h := (cmpId_zero me me).2 rfl
  unfold cmpVec offer ownWay
  simp only [orI_cons, h, cmpI_refl, if_true, orI]
  split <;> simp_all
theorem bk_role (me : Id) (i : Nat) (c p q : Int) (hpq : p ≠ q) : roleOf me (ownWay me) (-1) i (bk0 me c p q) = if q < p then 4 else 2 := by
  unfold roleOf
  have e : ({ (bk0 me c p q).v with own := 0 } : Vec) = offer me (ownWay me) q := rfl
  have e2 : (bk0 me c p q).port = p := rfl
  rw [if_neg (by simp [bk0]), if_neg (by omega), if_neg (by simp [bk0]), e, e2, bk_cmp]
  have hn := cmpI_neg q p
  by_cases h : q < p
  · rw [if_neg (by have := hn.2 h; omega), if_pos h, if_pos (show (bk0 me c p q).v.bridge = me from rfl)]
  · have : ¬ cmpI q p < 0 := fun h' => h (hn.1 h')
    rw [if_pos (by omega), if_neg h]
theorem bk_roles (me : Id) (c0 c1 p0 p1 : Int) (h : p0 ≠ p1) : selRoles me (bkL me c0 c1 p0 p1) = [if p1 < p0 then 4 else 2, if p0 < p1 then 4 else 2] := by
  have h0 := selRoles_get me (bkL me c0 c1 p0 p1) 0 _ rfl
  have h1 := selRoles_get me (bkL me c0 c1 p0 p1) 1 _ rfl
  have hl := selRoles_length me (bkL me c0 c1 p0 p1)
  rw [bk_best, bk_root] at h0 h1
  have e0 := bk_role me 0 c0 p0 p1 h
  have e1 := bk_role me 1 c1 p1 p0 (fun e => h e.symm)
  rw [← e0, ← e1]
  generalize selRoles me (bkL me c0 c1 p0 p1) = r at *
  match r, hl with
  | [x, y], _ =>
    simp at h0 h1
    rw [h0, h1]
theorem bk_ne (me : Id) (c0 c1 p0 p1 : Int) (h : fairN (bkL me c0 c1 p0 p1) = 0) : p0 ≠ p1 := by
  have := fairN_nodup _ h
  simp [bkL, bk0] at this
  exact this

/-- what stands in memory. -/
structure BkMem (w : World) (me : Id) (c0 c1 p0 p1 : Int) (g : Nat) (wr : World) : Prop where
  below : Below w.heap.size w wr
  m0 : wr.heap[w.heap.size]? = some (.cells (idList me).toArray 25 (0, 0))
  m1 : wr.heap[w.heap.size + 1]? = some (.cells #[iV c0, iV c1] 43 (0, 0))
  m2 : wr.heap[w.heap.size + 1 + 1]? = some (.cells #[iV p0, iV p1] 43 (0, 0))
  mg : wr.heap[g]? = some (.cells (ownList me).toArray 29 (0, 0))
  lo : w.heap.size + 1 + 1 < g
theorem BkMem.step {w : World} {me : Id} {c0 c1 p0 p1 : Int} {g : Nat} {wr wz : World} (h : BkMem w me c0 c1 p0 p1 g wr) (hB : Below wr.heap.size wr wz) : BkMem w me c0 c1 p0 p1 g wz :=
  ⟨h.below.trans (hB.mono h.below.size), by rw [hB.block _ (block_lt h.m0)]; exact h.m0, by rw [hB.block _ (block_lt h.m1)]; exact h.m1, by rw [hB.block _ (block_lt h.m2)]; exact h.m2, by rw [hB.block _ (block_lt h.mg)]; exact h.mg, h.lo⟩

def BkRel (me : Id) (c0 c1 p0 p1 : Int) (W1 : World) (v idx : Value) (wr : World) : Prop :=
  Below W1.heap.size W1 wr ∧ ((idx = iV 0 ∧ wr.ownsRow W1.heap.size 38 21 v 0 []) ∨ (idx = iV 1 ∧ wr.ownsRow W1.heap.size 38 21 v 1 (heardList (bk0 me c0 p0 p1))) ∨
    (idx = iV 2 ∧ wr.ownsRow W1.heap.size 38 21 v 2 ((bkL me c0 c1 p0 p1).flatMap heardList)))

set_option maxRecDepth 100000 in
set_option maxHeartbeats 4000000 in
theorem backup_any (me : Id) (c0 c1 p0 p1 : Int) (w : World) :
    Calls Try.prog 9 #[me.val, .agg #[iV c0, iV c1], .agg #[iV p0, iV p1]] w fun e w' => e = .returned (.bool true) ∧ Below w.heap.size w w' := by
  obtain ⟨ti, hti, hz1, hz2, hz3⟩ := heardInfo
  go_enter Try.func9, Try.ntmps9
  go_wp2_with (go_at_call 10; refine (awake_any _).mono ?_; rintro e w' ⟨rfl, haw⟩; have hcw := belowCells haw; have hlw : w.heap.size < w'.heap.size := (by have := haw.size; simp at this; omega))
  have hmem : BkMem w me c0 c1 p0 p1 w'.heap.size (w'.alloc (.cells (ownList me).toArray 29)) := by
    have hb0 : Below w.heap.size w w' := ((((Below.refl _ _).alloc (Nat.le_refl _) _).alloc (by simp) _).alloc (by simp; omega) _).trans (haw.mono (by simp; omega))
    have hs := haw.size
    simp at hs
    refine ⟨hb0.alloc hb0.size _, ?_, ?_, ?_, heap_alloc_new _ _, by omega⟩
    · rw [heap_alloc_old _ _ (by omega), haw.block _ (by simp; omega)]; exact heap_old2 w _ _ _
    · rw [heap_alloc_old _ _ (by omega), haw.block _ (by simp)]; exact heap_old1 w _ _ _
    · rw [heap_alloc_old _ _ (by omega), haw.block _ (by simp)]; exact heap_new2 w _ _ _
  generalize w'.heap.size = g at *
  have hgW : g < (w'.alloc (.cells (ownList me).toArray 29)).heap.size := block_lt hmem.mg
  generalize w'.alloc (.cells (ownList me).toArray 29) = W1 at *
  have Hmem := Lib.hid hmem
  clear hcw hlw haw hmem
  go_loopw [9, 10] (fun v idx wr => BkRel me c0 c1 p0 p1 W1 v idx wr) (fun _ idx _ => (2 - intOf idx).toNat)
  case atStart => exact ⟨Below.refl _ _, Or.inl ⟨rfl, World.ownsRow_nil _ _ _ _⟩⟩
  case round =>
    obtain ⟨hbel, hcase⟩ := hrel
    have Hbel := Lib.hid hbel
    have hbs := hbel.size
    have hm := Hmem.out.step hbel
    have r0 := cell_of_block hm.m0
    have r1 := cell_of_block hm.m1
    have r2 := cell_of_block hm.m2
    have rg := cell_of_block hm.mg
    have hlo := hm.lo
    have k0 : w.heap.size < W1.heap.size := by omega
    have k1 : w.heap.size + 1 < W1.heap.size := by omega
    have k2 : w.heap.size + 1 + 1 < W1.heap.size := by omega
    have Hm := Lib.hid hm
    clear hbel hm
    rcases hcase with ⟨rfl, hown⟩ | ⟨rfl, hown⟩ | ⟨rfl, hown⟩
    · have Hown := Lib.hid hown; clear hown
      have hs0 : 0 < W1.heap.size := by omega
      have hw0 : IntKind.i64.wrap 0 = 0 := by decide
      have hw1 : IntKind.i64.wrap 1 = 1 := by decide
      go_wp2_with fail
      go_region_held3 (fun w' => Kept W1.heap.size wr w') (with_reducible first | assumption | exact Kept.drew (Kept.refl hbs) | exact Kept.grown (by assumption) hgrow (own_block_ge Hown.out) | exact Kept.step (by assumption) (ho.mono (by simp)) | exact Kept.step (by assumption) (by assumption) | exact Kept.alloc (by assumption) _) (first | (go_at_call 14; refine (offer_any me (ownWay me) p1 _).mono ?_; rintro e w2 ⟨rfl, ho⟩) | (refine step_append_own rfl (.tmp 24) (.tmp 39) 26 rfl W1.heap.size 38 ti _ 21 80 Try.underlying26 hti hz1 hz2 hz3 rfl (by decide) _ 0 _ rfl ((own_below Hown.out ((Below.refl _ _).drew.trans ho)).alloc _) ⟨w2.heap.size, 0, none⟩ 1 1 (heardList (bk0 me c0 p0 p1)) rfl rfl (news_of_block (heap_at0 rfl)) (one_heard _) (by unfold maxLen; omega) (by omega) (by have := ho.size; simp at this ⊢; omega) ?_; intro v' w1 hown' hgrow _))
      all_goals (have hK := (‹Kept W1.heap.size wr _›).2.1; go_wp2; go_roundw)
      case rel => exact ⟨Hbel.out.trans hK, Or.inr (Or.inl ⟨rfl, hown'⟩)⟩
      case measure => simp [intOf]
    · have Hown := Lib.hid hown; clear hown
      have hs0 : 0 < W1.heap.size := by omega
      have hw0 : IntKind.i64.wrap 0 = 0 := by decide
      have hw1 : IntKind.i64.wrap 1 = 1 := by decide
      go_wp2_with fail
      go_region_held3 (fun w' => Kept W1.heap.size wr w') (with_reducible first | assumption | exact Kept.drew (Kept.refl hbs) | exact Kept.grown (by assumption) hgrow (own_block_ge Hown.out) | exact Kept.step (by assumption) (ho.mono (by simp)) | exact Kept.step (by assumption) (by assumption) | exact Kept.alloc (by assumption) _) (first | (go_at_call 14; refine (offer_any me (ownWay me) p0 _).mono ?_; rintro e w2 ⟨rfl, ho⟩) | (refine step_append_own rfl (.tmp 24) (.tmp 39) 26 rfl W1.heap.size 38 ti _ 21 80 Try.underlying26 hti hz1 hz2 hz3 rfl (by decide) _ 1 _ rfl ((own_below Hown.out ((Below.refl _ _).drew.trans ho)).alloc _) ⟨w2.heap.size, 0, none⟩ 1 1 (heardList (bk0 me c1 p1 p0)) rfl rfl (news_of_block (heap_at0 rfl)) (one_heard _) (by unfold maxLen; omega) (by omega) (by have := ho.size; simp at this ⊢; omega) ?_; intro v' w1 hown' hgrow _))
      all_goals (have hK := (‹Kept W1.heap.size wr _›).2.1; go_wp2; go_roundw)
      case rel => exact ⟨Hbel.out.trans hK, Or.inr (Or.inr ⟨rfl, hown'⟩)⟩
      case measure => simp [intOf]
    · obtain ⟨a2, cap2, rfl, his⟩ := own_heards hown (show 2 = (bkL me c0 c1 p0 p1).length from rfl)
      have His := Lib.hid his; clear his hown
      have hpos : 0 < wr.heap.size := by omega
      have kk0 : w.heap.size < wr.heap.size := by omega
      rcases fairN_cases (bkL me c0 c1 p0 p1) with hf | hf | hf
      · have hne := bk_ne me c0 c1 p0 p1 hf
        have hsel := fun W (hB : Below wr.heap.size wr W) => select_good' me a2 2 cap2 (bkL me c0 c1 p0 p1) W (His.out.below hB) (Nat.lt_of_lt_of_le hpos hB.size) hf
        rw [bk_best, bk_roles me c0 c1 p0 p1 hne] at hsel
        have hsel2 := fun W (hB : Below wr.heap.size wr W) => (hsel W hB).mono (R' := fun e w' => ∃ B, e = .returned (.tuple #[.agg (ownList me).toArray, .slice (some ⟨B, 0, none⟩) 2 2, .int .i64 0]) ∧ W.heap.size ≤ B ∧ w'.heap[B]? = some (.cells #[iV (if p1 < p0 then 4 else 2), iV (if p0 < p1 then 4 else 2)] 3 (0, 0)) ∧ Below W.heap.size W w') (fun _ _ h => h)
        have Hsel := Lib.hid hsel2; clear hsel hsel2 hf
        have hev := eql_own me
        go_wp2_with (go_at_call 11; refine (Hsel.out _ (Below.refl _ _)).mono ?_; rintro e w2 ⟨B, rfl, hB, hrow, hb2⟩)
        have hm2 := Hm.out.step hb2
        have hBl := block_lt hrow
        have hmw := hm2.step ((Below.refl _ _).alloc (Nat.le_refl _) (.cells (ownList me).toArray 29))
        have hrw : (w2.alloc (.cells (ownList me).toArray 29)).heap[B]? = some (.cells #[iV (if p1 < p0 then 4 else 2), iV (if p0 < p1 then 4 else 2)] 3 (0, 0)) := by rw [heap_alloc_old _ _ hBl]; exact hrow
        have hnb : (w2.alloc (.cells (ownList me).toArray 29)).heap[w2.heap.size]? = some (.cells (ownList me).toArray 29 (0, 0)) := heap_alloc_new _ _
        generalize w2.heap.size = gb at *
        generalize w2.alloc (.cells (ownList me).toArray 29) = W2 at *
        have Hmw := Lib.hid hmw; have Hrw := Lib.hid hrw; have Hnb := Lib.hid hnb
        clear hm2 hmw hrow hrw hnb hb2 r0 r1 r2 rg k0 k1 k2 kk0 hbs hB hBl hpos
        go_loopw [14] (fun idx wx => Below W2.heap.size W2 wx ∧ (idx = iV 0 ∨ idx = iV 1 ∨ idx = iV 2)) (fun idx _ => (2 - intOf idx).toNat)
        case atStart => exact ⟨Below.refl _ _, Or.inl rfl⟩
        case round =>
          obtain ⟨hbx, hcase⟩ := hrel
          have hmx := Hmw.out.step hbx
          have q0 := cell_of_block hmx.m0
          have q2 := cell_of_block hmx.m2
          have qg := cell_of_block hmx.mg
          have hbB : wr.heap[B]? = some (.cells #[iV (if p1 < p0 then 4 else 2), iV (if p0 < p1 then 4 else 2)] 3 (0, 0)) := by rw [hbx.block _ (block_lt Hrw.out)]; exact Hrw.out
          have hbN : wr.heap[gb]? = some (.cells (ownList me).toArray 29 (0, 0)) := by rw [hbx.block _ (block_lt Hnb.out)]; exact Hnb.out
          have qN := cell_of_block hbN
          have hlt : p1 < p0 ∨ p0 < p1 := by omega
          have Hbx := Lib.hid hbx; have Hmx := Lib.hid hmx; have Hne := Lib.hid hne
          clear hbx hmx hbN hne
          rcases hlt with hlt | hlt
          · rw [if_pos hlt, if_neg (by omega)] at hbB
            have qB := cell_of_block hbB
            have d1 : decide (p1 < p0) = true := decide_eq_true hlt
            have d2 : decide (p0 < p1) = false := decide_eq_false (by omega)
            clear hbB hlt
            rcases hcase with rfl | rfl | rfl
            · go_wp2
              go_quiet (fail)
              go_wp2
              go_roundw
              case rel => exact ⟨belowDrewN Hbx.out _, Or.inr (Or.inl rfl)⟩
              case measure => simp [intOf]
            · go_wp2
              go_quiet (fail)
              go_wp2
              go_roundw
              case rel => exact ⟨belowDrewN Hbx.out _, Or.inr (Or.inr rfl)⟩
              case measure => simp [intOf]
            · go_wp2
              go_ret
              exact ⟨rfl, Hmx.out.below⟩
          · rw [if_neg (by omega), if_pos hlt] at hbB
            have qB := cell_of_block hbB
            have d1 : decide (p1 < p0) = false := decide_eq_false (by omega)
            have d2 : decide (p0 < p1) = true := decide_eq_true hlt
            clear hbB hlt
            rcases hcase with rfl | rfl | rfl
            · go_wp2
              go_quiet (fail)
              go_wp2
              go_roundw
              case rel => exact ⟨belowDrewN Hbx.out _, Or.inr (Or.inl rfl)⟩
              case measure => simp [intOf]
            · go_wp2
              go_quiet (fail)
              go_wp2
              go_roundw
              case rel => exact ⟨belowDrewN Hbx.out _, Or.inr (Or.inr rfl)⟩
              case measure => simp [intOf]
            · go_wp2
              go_ret
              exact ⟨rfl, Hmx.out.below⟩
      · have hsel := fun W (hB : Below wr.heap.size wr W) => select_bad' me a2 2 cap2 (bkL me c0 c1 p0 p1) W (His.out.below hB) (Nat.lt_of_lt_of_le hpos hB.size) 1 hf (by decide)
        have Hsel := Lib.hid hsel; clear hsel hf
        go_wp2_with (go_at_call 11; refine (Hsel.out _ (Below.refl _ _)).mono ?_; rintro e w2 ⟨rfl, hb2⟩)
        go_ret
        exact ⟨rfl, (Hm.out.below.trans (hb2.mono Hm.out.below.size)).alloc (Nat.le_trans Hm.out.below.size hb2.size) _⟩
      · have hsel := fun W (hB : Below wr.heap.size wr W) => select_bad' me a2 2 cap2 (bkL me c0 c1 p0 p1) W (His.out.below hB) (Nat.lt_of_lt_of_le hpos hB.size) 5 hf (by decide)
        have Hsel := Lib.hid hsel; clear hsel hf
        go_wp2_with (go_at_call 11; refine (Hsel.out _ (Below.refl _ _)).mono ?_; rintro e w2 ⟨rfl, hb2⟩)
        go_ret
        exact ⟨rfl, (Hm.out.below.trans (hb2.mono Hm.out.below.size)).alloc (Nat.le_trans Hm.out.below.size hb2.size) _⟩
end Go.Proofs.Ytbfpmgcadinmbaa
