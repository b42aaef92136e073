/-
  The walk of the law RolesOffers.
-/
import Derived.Test.YtbfpmgcadinmbaaLe
namespace Go.Proofs.Ytbfpmgcadinmbaa
set_option linter.unusedVariables false
set_option linter.unusedSimpArgs false
open Go Go.RowKit Go.Maps
attribute [local go_sem ↓] exec_loadVec exec_storeVec exec_loadHeard exec_storeHeard
attribute [local go_sem] ldRow_ptr ldFin_some cellsAt_succ cellsAt_zero allSome_cons allSome_nil stRow_ptr stFin_true allOne_cons allOne_nil there_succ there_zero frozens_succ frozens_zero one_int one_bool putCells_alloc_at putCells_alloc_old over_all

/-- what a role tells of what a port has heard. -/
theorem role_tells (me : Id) (l : List Heard) (i : Nat) (h : Heard) (r : Int) (hh : l[i]? = some h) (hr : (selRoles me l)[i]? = some r) :
    (r = 2 ∧ h.has = false) ∨ (r = 2 ∧ h.has = true ∧ 0 ≤ cmpVec { h.v with own := 0 } (offer me (selBest me l) h.port)) ∨ (r = 3 ∧ cmpVec { h.v with own := 0 } (offer me (selBest me l) h.port) < 0) ∨
    (r = 4 ∧ cmpVec { h.v with own := 0 } (offer me (selBest me l) h.port) < 0) ∨ (r ≠ 2 ∧ r ≠ 3 ∧ r ≠ 4) := by
  rw [selRoles_get me l i h hh] at hr
  injection hr with hr
  subst hr
  unfold roleOf
  split
  · exact Or.inr (Or.inr (Or.inr (Or.inr ⟨by decide, by decide, by decide⟩)))
  · split
    · exact Or.inr (Or.inr (Or.inr (Or.inr ⟨by decide, by decide, by decide⟩)))
    · split
      · rename_i h3; exact Or.inl ⟨rfl, h3⟩
      · split
        · rename_i h3 h4; exact Or.inr (Or.inl ⟨rfl, by simpa using h3, h4⟩)
        · rename_i h4
          split
          · exact Or.inr (Or.inr (Or.inr (Or.inl ⟨rfl, by omega⟩)))
          · exact Or.inr (Or.inr (Or.inl ⟨rfl, by omega⟩))

def OffRel (w : World) (b0 : Nat) (me : Id) (best : Vec) (roles : List Int) (B g n : Nat) (idx : Value) (wr : World) : Prop :=
  ∃ i : Nat, i ≤ n ∧ idx = iV i ∧ RootMem w b0 me best roles B g wr

set_option maxRecDepth 100000 in
set_option maxHeartbeats 8000000 in
theorem offers_any (me : Id) (a : Option Addr) (n cap : Nat) (l : List Heard) (p : Int) (w : World) (h : IsHeards w a n l) :
    Calls Try.prog 4 #[me.val, .slice a n cap, iV p] w fun e w' => e = .returned (.bool true) ∧ Below w.heap.size w w' := by
  have Hl := Lib.hid h; clear h
  go_enter Try.func4, Try.ntmps4
  go_upto_region 2 with (go_at_call 10; refine (awake_any _).mono ?_; rintro e w1 ⟨rfl, haw⟩)
  have hb0 : Below w.heap.size w w1 := ((Below.refl _ _).alloc (Nat.le_refl _) _).trans (haw.mono (by simp))
  have hm0 : w1.heap[w.heap.size]? = some (.cells (idList me).toArray 25 (0, 0)) := by rw [haw.block _ (by simp)]; exact heap_alloc_new _ _
  have Hb0 := Lib.hid hb0; have Hm0 := Lib.hid hm0
  have H1 := Lib.hid (Hl.out.below hb0)
  have hpos : 0 < w1.heap.size := Nat.lt_of_le_of_lt (Nat.zero_le _) (block_lt hm0)
  have Hpos := Lib.hid hpos
  have r0 := cell_of_block hm0
  clear haw hb0 hm0 hpos
  rcases fairN_cases l with hf | hf | hf
  · have hs1 := select_good' me a n cap l w1 H1.out Hpos.out hf
    have hfacts := role_tells me l
    have hsl : (selRoles me l).length = n := by rw [selRoles_length]; exact Hl.out.1.symm
    have Hs1 := Lib.hid hs1; have HF := Lib.hid hfacts; have Hsl := Lib.hid hsl; clear hs1 hf hfacts hsl
    generalize selBest me l = best at *
    generalize selRoles me l = roles at *
    go_wp2_with fail
    refine Hs1.out.mono ?_
    rintro e w2 ⟨B, rfl, hB, hrow, hb2⟩
    have hl2 : w.heap.size < w2.heap.size := Nat.lt_of_lt_of_le (block_lt Hm0.out) hb2.size
    have hmem : RootMem w1 w.heap.size me best roles B w2.heap.size (w2.alloc (.cells (vecList best).toArray 29)) := by
      refine ⟨hb2.alloc hb2.size _, ?_, ?_, heap_alloc_new _ _⟩
      · rw [heap_alloc_old _ _ hl2, hb2.block _ (block_lt Hm0.out)]; exact Hm0.out
      · rw [heap_alloc_old _ _ (block_lt hrow)]; exact hrow
    have Hmem := Lib.hid hmem
    have s0 := cell_of_block hmem.m0
    have sg := cell_of_block hmem.mg
    have k0 := block_lt hmem.m0
    have kg := block_lt hmem.mg
    clear hrow
    go_upto_region 3 with fail
    clear r0 hmem
    generalize w2.alloc (.cells (vecList best).toArray 29) = W at *
    generalize w2.heap.size = g at *
    have hns := fun w => neq_same (offer me best p) w
    go_region_held3 (fun w' => Kept W.heap.size W w') (with_reducible first | assumption | exact Kept.drew (Kept.refl (Nat.le_refl _)) | exact Kept.step (by assumption) (by assumption)) (first | (go_at_call 14; refine (offer_any me best p _).mono ?_; rintro e w5 ⟨rfl, ho⟩) | (go_at_call 15; refine (offer17_any me best p _).mono ?_; rintro e w5 ⟨rfl, ho⟩))
    have hK := (‹Kept W.heap.size W _›).2.1
    have hmz := Hmem.out.step hK
    have Hmz := Lib.hid hmz
    clear hK s0 sg k0 kg hmz ho
    go_wp2_with fail
    clear hns
    rename_i wz _
    go_loopw [11] (fun idx wr => OffRel w1 w.heap.size me best roles B g n idx wr) (fun idx _ => n - (intOf idx).toNat)
    case atStart => exact ⟨0, Nat.zero_le _, rfl, Hmz.out⟩
    case round =>
      obtain ⟨i, hi, rfl, hm⟩ := hrel
      have Hm := Lib.hid hm
      have k0 := block_lt hm.m0
      have kr := block_lt hm.mr
      have kg := block_lt hm.mg
      have s0 := cell_of_block hm.m0
      have sg := cell_of_block hm.mg
      have sr := cell_of_block hm.mr
      clear hm
      by_cases hlt : i < n
      · have hlr : i < roles.length := by rw [Hsl.out]; exact hlt
        obtain ⟨h, b, off, hh, rfl, hb, hc⟩ := H1.out.get hlt
        have htell := HF.out i h roles[i] hh (List.getElem?_eq_getElem hlr)
        have cx : wr.cell? ⟨B, i, none⟩ = some (iV roles[i]) := by rw [sr]; simp [hlr]
        have hi0 : (0 : Int) ≤ (i : Int) := by omega
        have hin : (i : Int) < (n : Int) := by omega
        have hnm := Hl.out.2.1
        have Htell := Lib.hid htell
        have hb2' := Hm.out.below
        have hbr : b < wr.heap.size := Nat.lt_of_lt_of_le hb hb2'.size
        obtain ⟨c0, c1, c2, c3, c4, c5, c6, c7, c8, c9, c10, c11, c12, c13, c14, c15, c16, c17, c18, c19, c20⟩ := HeardsAt.cells (hc.below hb hb2') hh
        clear hc hb hh hb2' sr htell
        generalize roles[i] = r at *
        go_upto_region 10 with fail
        go_cut [13] (fun s13 wy => s13 = iV (cmpVec { h.v with own := 0 } (offer me best h.port)) ∧ Below wr.heap.size wr wy)
        case first =>
          go_region_held3 (fun w' => Kept (wr.heap.size + 1) (wr.alloc (.cells (vecList { h.v with own := 0 }).toArray 29)) w') (with_reducible first | assumption | exact Kept.drew (Kept.refl (by simp)) | exact Kept.step (by assumption) (by assumption)) (first | (go_at_call 14; refine (offer_any me best h.port _).mono ?_; rintro e w5 ⟨rfl, ho⟩) | (go_at_call 16; refine (cmp16_any { h.v with own := 0 } (offer me best h.port) _).mono ?_; rintro e w5 ⟨rfl, hcmp⟩))
          all_goals (go_wp2_with fail; go_meet)
          exact ⟨rfl, ((Below.refl _ _).alloc (Nat.le_refl _) _).trans ((‹Kept (wr.heap.size + 1) _ _›).2.1.mono (by omega))⟩
        case rest =>
          obtain ⟨rfl, hz⟩ := hcut
          have hcz := belowCells hz
          have dx : wc.cell? ⟨B, i, none⟩ = some (iV r) := by rw [hcz _ _ kr]; exact cx
          have d3 : wc.cell? ⟨b, off + i * 21 + 3, none⟩ = some (.bool h.has) := by rw [hcz _ _ hbr]; exact c3
          have Hm2 := Lib.hid (Hm.out.step hz)
          clear hcz hz cx c0 c1 c2 c3 c4 c5 c6 c7 c8 c9 c10 c11 c12 c13 c14 c15 c16 c17 c18 c19 c20 s0 sg
          generalize cmpVec { h.v with own := 0 } (offer me best h.port) = x at *
          rcases Htell.out with ⟨hr, hh⟩ | ⟨hr, hh, hx⟩ | ⟨hr, hx⟩ | ⟨hr, hx⟩ | ⟨h2, h3, h4⟩
          · rw [hh] at d3
            subst hr
            go_wp2
            go_roundw
            case rel => exact ⟨i + 1, by omega, by go_num, Hm2.out⟩
            case measure => simp [intOf]; omega
          · rw [hh] at d3
            subst hr
            have hxd : decide (x < 0) = false := decide_eq_false (by omega)
            clear hx
            go_wp2
            go_roundw
            case rel => exact ⟨i + 1, by omega, by go_num, Hm2.out⟩
            case measure => simp [intOf]; omega
          · subst hr
            have hxd : decide (0 ≤ x) = false := decide_eq_false (by omega)
            clear hx
            go_wp2
            go_roundw
            case rel => exact ⟨i + 1, by omega, by go_num, Hm2.out⟩
            case measure => simp [intOf]; omega
          · subst hr
            have hxd : decide (0 ≤ x) = false := decide_eq_false (by omega)
            clear hx
            go_wp2
            go_roundw
            case rel => exact ⟨i + 1, by omega, by go_num, Hm2.out⟩
            case measure => simp [intOf]; omega
          · have e2 : (r == 2) = false := by simpa using h2
            have e3 : (r == 3) = false := by simpa using h3
            have e4 : (r == 4) = false := by simpa using h4
            clear h2 h3 h4
            go_wp2
            go_roundw
            case rel => exact ⟨i + 1, by omega, by go_num, Hm2.out⟩
            case measure => simp [intOf]; omega
      · go_wp2
        go_ret
        exact ⟨rfl, Hb0.out.trans (Hm.out.below.mono Hb0.out.size)⟩
  · have hs1 := select_bad' me a n cap l w1 H1.out Hpos.out 1 hf (by decide)
    have Hs1 := Lib.hid hs1; clear hs1 hf
    go_upto_region 3 with (go_at_call 11; refine Hs1.out.mono ?_; rintro e w2 ⟨rfl, hb2⟩)
    have hm2 : w2.heap[w.heap.size]? = some (.cells (idList me).toArray 25 (0, 0)) := by rw [hb2.block _ (block_lt Hm0.out)]; exact Hm0.out
    have hl2 : w.heap.size < w2.heap.size := block_lt hm2
    have hbb := Hb0.out.trans ((hb2.alloc hb2.size (.cells (vecList zeroVec).toArray 29)).mono Hb0.out.size)
    have hm3 : (w2.alloc (.cells (vecList zeroVec).toArray 29)).heap[w.heap.size]? = some (.cells (idList me).toArray 25 (0, 0)) := by rw [heap_alloc_old _ _ hl2]; exact hm2
    have hg3 : (w2.alloc (.cells (vecList zeroVec).toArray 29)).heap[w2.heap.size]? = some (.cells (vecList zeroVec).toArray 29 (0, 0)) := heap_alloc_new _ _
    clear r0 hm2 hb2
    change Below w.heap.size w (w2.alloc (.cells zeroVecList.toArray 29)) at hbb
    change (w2.alloc (.cells zeroVecList.toArray 29)).heap[w.heap.size]? = _ at hm3
    change (w2.alloc (.cells zeroVecList.toArray 29)).heap[w2.heap.size]? = some (.cells zeroVecList.toArray 29 (0, 0)) at hg3
    generalize w2.alloc (.cells zeroVecList.toArray 29) = W at *
    generalize w2.heap.size = g at *
    have s0 := cell_of_block hm3
    have sg := cell_of_block hg3
    have k0 := block_lt hm3
    have kg := block_lt hg3
    have Hbb := Lib.hid hbb
    clear hbb hm3 hg3
    have hns := fun w => neq_same (offer me zeroVec p) w
    go_region_held3 (fun w' => Kept W.heap.size W w') (with_reducible first | assumption | exact Kept.drew (Kept.refl (Nat.le_refl _)) | exact Kept.step (by assumption) (by assumption)) (first | (go_at_call 14; refine (offer_any me zeroVec p _).mono ?_; rintro e w5 ⟨rfl, ho⟩) | (go_at_call 15; refine (offer17_any me zeroVec p _).mono ?_; rintro e w5 ⟨rfl, ho⟩))
    have hK := (‹Kept W.heap.size W _›).2.1
    have HK := Lib.hid (Hbb.out.trans (hK.mono Hbb.out.size))
    clear hK s0 sg k0 kg ho
    go_wp2_with fail
    clear hns
    go_loop [11] (fun idx => idx = iV 0) (fun _ => 0)
    case atStart => rfl
    case round =>
      subst hrel
      go_wp2
      go_ret
      exact ⟨rfl, HK.out⟩
  · have hs1 := select_bad' me a n cap l w1 H1.out Hpos.out 5 hf (by decide)
    have Hs1 := Lib.hid hs1; clear hs1 hf
    go_upto_region 3 with (go_at_call 11; refine Hs1.out.mono ?_; rintro e w2 ⟨rfl, hb2⟩)
    have hm2 : w2.heap[w.heap.size]? = some (.cells (idList me).toArray 25 (0, 0)) := by rw [hb2.block _ (block_lt Hm0.out)]; exact Hm0.out
    have hl2 : w.heap.size < w2.heap.size := block_lt hm2
    have hbb := Hb0.out.trans ((hb2.alloc hb2.size (.cells (vecList zeroVec).toArray 29)).mono Hb0.out.size)
    have hm3 : (w2.alloc (.cells (vecList zeroVec).toArray 29)).heap[w.heap.size]? = some (.cells (idList me).toArray 25 (0, 0)) := by rw [heap_alloc_old _ _ hl2]; exact hm2
    have hg3 : (w2.alloc (.cells (vecList zeroVec).toArray 29)).heap[w2.heap.size]? = some (.cells (vecList zeroVec).toArray 29 (0, 0)) := heap_alloc_new _ _
    clear r0 hm2 hb2
    change Below w.heap.size w (w2.alloc (.cells zeroVecList.toArray 29)) at hbb
    change (w2.alloc (.cells zeroVecList.toArray 29)).heap[w.heap.size]? = _ at hm3
    change (w2.alloc (.cells zeroVecList.toArray 29)).heap[w2.heap.size]? = some (.cells zeroVecList.toArray 29 (0, 0)) at hg3
    generalize w2.alloc (.cells zeroVecList.toArray 29) = W at *
    generalize w2.heap.size = g at *
    have s0 := cell_of_block hm3
    have sg := cell_of_block hg3
    have k0 := block_lt hm3
    have kg := block_lt hg3
    have Hbb := Lib.hid hbb
    clear hbb hm3 hg3
    have hns := fun w => neq_same (offer me zeroVec p) w
    go_region_held3 (fun w' => Kept W.heap.size W w') (with_reducible first | assumption | exact Kept.drew (Kept.refl (Nat.le_refl _)) | exact Kept.step (by assumption) (by assumption)) (first | (go_at_call 14; refine (offer_any me zeroVec p _).mono ?_; rintro e w5 ⟨rfl, ho⟩) | (go_at_call 15; refine (offer17_any me zeroVec p _).mono ?_; rintro e w5 ⟨rfl, ho⟩))
    have hK := (‹Kept W.heap.size W _›).2.1
    have HK := Lib.hid (Hbb.out.trans (hK.mono Hbb.out.size))
    clear hK s0 sg k0 kg ho
    go_wp2_with fail
    clear hns
    go_loop [11] (fun idx => idx = iV 0) (fun _ => 0)
    case atStart => rfl
    case round =>
      subst hrel
      go_wp2
      go_ret
      exact ⟨rfl, HK.out⟩
end Go.Proofs.Ytbfpmgcadinmbaa
