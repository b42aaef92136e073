/-
  The walk of the law RolesTurned.
-/
import Derived.Test.YtbfpmgcadinmbaaLb
import Derived.Test.YtbfpmgcadinmbaaPb
import Derived.IntWalk
namespace Go.Proofs.Ytbfpmgcadinmbaa
set_option linter.unusedVariables false
set_option linter.unusedSimpArgs false
open Go Go.RowKit Go.Maps
attribute [local go_sem ↓] exec_loadVec exec_storeVec exec_loadHeard exec_storeHeard
attribute [local go_sem] ldRow_ptr ldFin_some cellsAt_succ cellsAt_zero allSome_cons allSome_nil stRow_ptr stFin_true allOne_cons allOne_nil there_succ there_zero frozens_succ frozens_zero one_int one_bool putCells_alloc_at putCells_alloc_old over_all

theorem turned_many (me : Id) (a : Option Addr) (n cap : Nat) (w : World) (hn : 64 < n) :
    Calls Try.prog 8 #[me.val, .slice a n cap] w fun e w' => e = .returned (.bool true) ∧ Below w.heap.size w w' := by
  go_enter Try.func8, Try.ntmps8
  go_wp2_with (go_at_call 10; refine (awake_any _).mono ?_; rintro e w' ⟨rfl, haw⟩)
  go_ret
  exact ⟨rfl, ((Below.refl _ _).alloc (Nat.le_refl _) _).trans (haw.mono (by simp))⟩

theorem rev_snoc (l : List Heard) (n m : Nat) (h : Heard) (hn : n = l.length) (hm : m < n) (hh : l[m]? = some h) : (l.reverse.take (n - m)).flatMap heardList = (l.reverse.take (n - (m + 1))).flatMap heardList ++ heardList h := by
  have e : n - m = (n - (m + 1)) + 1 := by omega
  have hr : l.reverse[n - (m + 1)]? = some h := by
    rw [List.getElem?_reverse (by omega)]; rw [show l.length - 1 - (n - (m + 1)) = m by omega]; exact hh
  rw [e, take_snoc' l.reverse (n - (m + 1)) h hr, List.flatMap_append]; simp

def TurnedRel (l : List Heard) (n : Nat) (w1 : World) (v idx : Value) (wr : World) : Prop :=
  ∃ j : Nat, j ≤ n ∧ idx = iV ((j : Int) - 1) ∧ wr.ownsRow w1.heap.size 38 21 v (n - j) ((l.reverse.take (n - j)).flatMap heardList) ∧ Below w1.heap.size w1 wr

theorem neq_same (v : Vec) (w : World) : (binOp .neq 29 v.val v.val).run Try.prog w = .ok (.bool false) w := by
  rw [neq_vec, decide_eq_true rfl]; rfl
theorem neq_zero (w : World) : (binOp .neq 29 (.agg zeroVecList.toArray) (.agg zeroVecList.toArray)).run Try.prog w = .ok (.bool false) w := neq_same zeroVec w

set_option maxRecDepth 100000 in
set_option maxHeartbeats 4000000 in
theorem turned_few (me : Id) (a : Option Addr) (n cap : Nat) (l : List Heard) (w : World) (h : IsHeards w a n l) (hn : n ≤ 64) :
    Calls Try.prog 8 #[me.val, .slice a n cap] w fun e w' => e = .returned (.bool true) ∧ Below w.heap.size w w' := by
  obtain ⟨ti, hti, hz1, hz2, hz3⟩ := heardInfo
  have hd : decide ((64 : Int) < (n : Int)) = false := by rw [decide_eq_false_iff_not]; omega
  have Hl := Lib.hid h; clear h
  go_enter Try.func8, Try.ntmps8
  go_wp2_with (go_at_call 10; refine (awake_any _).mono ?_; rintro e w' ⟨rfl, haw⟩)
  have hb0 : Below w.heap.size w w' := ((Below.refl _ _).alloc (Nat.le_refl _) _).trans (haw.mono (by simp))
  have hm0 : w'.heap[w.heap.size]? = some (.cells (idList me).toArray 25 (0, 0)) := by rw [haw.block _ (by simp)]; exact heap_alloc_new _ _
  have Hb0 := Lib.hid hb0; have Hm0 := Lib.hid hm0
  have H1 := Lib.hid (Hl.out.below hb0)
  clear haw hb0 hm0
  go_loopw [6, 7] (fun v idx wr => TurnedRel l n w' v idx wr) (fun _ idx _ => (intOf idx + 1).toNat)
  case atStart => exact ⟨n, Nat.le_refl _, rfl, by rw [Nat.sub_self]; exact World.ownsRow_nil _ _ _ _, Below.refl _ _⟩
  case round =>
    obtain ⟨j, hj, rfl, hown, hbel⟩ := hrel
    have Hown := Lib.hid hown; have Hbel := Lib.hid hbel
    clear hown hbel
    rcases j with _ | m
    · have e0 : (((0 : Nat) : Int) - 1) = -1 := rfl
      rw [e0]
      clear e0
      have hown2 := Hown.out
      rw [Nat.sub_zero] at hown2
      have e2 : l.reverse.take n = l.reverse := List.take_of_length_le (by have := Hl.out.1; simp; omega)
      rw [e2] at hown2
      clear e2
      obtain ⟨a2, cap2, rfl, his⟩ := own_heards hown2 (by rw [List.length_reverse]; exact Hl.out.1)
      have His := Lib.hid his; clear his hown2
      have hm0 : wr.heap[w.heap.size]? = some (.cells (idList me).toArray 25 (0, 0)) := by rw [Hbel.out.block _ (block_lt Hm0.out)]; exact Hm0.out
      have r0 := cell_of_block hm0
      have hl0 := block_lt hm0
      have hpos : 0 < wr.heap.size := Nat.lt_of_le_of_lt (Nat.zero_le _) (block_lt hm0)
      have Hm0r := Lib.hid hm0; have Hpos := Lib.hid hpos
      have hbw := Hb0.out.trans (Hbel.out.mono Hb0.out.size)
      have Hbw := Lib.hid hbw
      have H2 := Lib.hid (Hl.out.below hbw)
      clear hm0 hpos hbw
      rcases fairN_cases l with hf | hf | hf
      · have hs1 := fun W (hB : Below wr.heap.size wr W) => select_good' me a n cap l W (H2.out.below hB) (Nat.lt_of_lt_of_le Hpos.out hB.size) hf
        have hs2 := fun W (hB : Below wr.heap.size wr W) => select_good' me a2 n cap2 l.reverse W (His.out.below hB) (Nat.lt_of_lt_of_le Hpos.out hB.size) (by rw [fairN_reverse]; exact hf)
        rw [selBest_reverse, selRoles_reverse me l hf] at hs2
        have hsl : (selRoles me l).length = n := by rw [selRoles_length]; exact Hl.out.1.symm
        have Hs1 := Lib.hid hs1; have Hs2 := Lib.hid hs2; have Hsl := Lib.hid hsl; clear hs1 hs2 hf hsl
        generalize selBest me l = best at *
        generalize selRoles me l = roles at *
        have hnz := fun w => neq_same best w
        go_wp2_with fail
        refine (Hs1.out _ (Below.refl _ _)).mono ?_
        rintro e w2 ⟨B1, rfl, hB1, hrow1, hb2⟩
        have hcs2 := belowCells hb2
        have hsz2 := hb2.size
        have hl2 : w.heap.size < w2.heap.size := by omega
        have Hrow1 := Lib.hid hrow1; have hB1l := block_lt hrow1; clear hrow1
        go_wp2_with fail
        refine (Hs2.out _ (hb2.alloc hsz2 _)).mono ?_
        rintro e w3 ⟨B2, rfl, hB2, hrow2, hb3⟩
        have hcs3 := belowCells hb3
        have hfin := (Hbw.out.trans ((hb2.alloc hsz2 _).mono Hbw.out.size)).trans (hb3.mono (by have := Hbw.out.size; simp; omega))
        have hsz3 := hb3.size
        have Hfin := Lib.hid hfin; clear hfin
        have hl3 : w2.heap.size < w3.heap.size := by simp at hsz3; omega
        have hrow1' : w3.heap[B1]? = some (.cells (roles.map iV).toArray 3 (0, 0)) := by
          rw [hb3.block _ (by simp; omega), heap_alloc_old _ _ hB1l]; exact Hrow1.out
        have Hrow1' := Lib.hid hrow1'; have Hrow2 := Lib.hid hrow2
        have hb1l := block_lt hrow1'
        have hb2l := block_lt hrow2
        clear hrow1' hrow2
        go_wp2
        clear hcs2 hcs3
        have hfw := Hfin.out.alloc (Nat.le_trans Hfin.out.size (Nat.le_refl _)) (.cells (vecList best).toArray 29)
        have hr1w : (w3.alloc (.cells (vecList best).toArray 29)).heap[B1]? = some (.cells (roles.map iV).toArray 3 (0, 0)) := by rw [heap_alloc_old _ _ hb1l]; exact Hrow1'.out
        have hr2w : (w3.alloc (.cells (vecList best).toArray 29)).heap[B2]? = some (.cells (roles.map iV).reverse.toArray 3 (0, 0)) := by rw [heap_alloc_old _ _ hb2l, ← List.map_reverse]; exact Hrow2.out
        generalize w3.alloc (.cells (vecList best).toArray 29) = W at *
        have Hfw := Lib.hid hfw; have Hr1w := Lib.hid hr1w; have Hr2w := Lib.hid hr2w
        clear hfw hr1w hr2w
        go_loopw [14] (fun idx wx => ∃ i : Nat, i ≤ n ∧ idx = iV i ∧ Below W.heap.size W wx) (fun idx _ => n - (intOf idx).toNat)
        case atStart => exact ⟨0, Nat.zero_le _, rfl, Below.refl _ _⟩
        case round =>
          obtain ⟨i, hi, rfl, hbx⟩ := hrel
          have Hbx := Lib.hid hbx; clear hbx
          by_cases hlt : i < n
          · have hlr : i < roles.length := by rw [Hsl.out]; exact hlt
            have cx : wr.cell? ⟨B1, i, none⟩ = some (iV roles[i]) := by rw [Hbx.out.cell (p := ⟨B1, i, none⟩) (block_lt Hr1w.out), cell_of_block Hr1w.out]; simp [hlr]
            obtain ⟨m, hm⟩ : ∃ m : Nat, m = n - 1 - i := ⟨_, rfl⟩
            have hmn : m < n := by omega
            have cy : wr.cell? ⟨B2, m, none⟩ = some (iV roles[i]) := by
              rw [Hbx.out.cell (p := ⟨B2, m, none⟩) (block_lt Hr2w.out), cell_of_block Hr2w.out, show m = roles.length - 1 - i by have := Hsl.out; omega, ← List.map_reverse]
              simp only [List.getElem?_toArray, List.getElem?_map]
              rw [List.getElem?_reverse (by omega), show roles.length - 1 - (roles.length - 1 - i) = i by omega, List.getElem?_eq_getElem hlr]; rfl
            have hw1 : IntKind.i64.wrap ((n : Int) - 1) = (n : Int) - 1 := IntWalk.i64_in _ (by omega)
            have hw2 : IntKind.i64.wrap ((n : Int) - 1 - (i : Int)) = (m : Int) := by rw [IntWalk.i64_in _ (by omega)]; omega
            clear hm
            generalize roles[i] = r at *
            have hi0 : (0 : Int) ≤ (i : Int) := by omega
            have hin : (i : Int) < (n : Int) := by omega
            have hm0' : (0 : Int) ≤ (m : Int) := by omega
            have hmn' : (m : Int) < (n : Int) := by omega
            go_wp2
            go_quiet (fail)
            clear hw1 hw2
            go_wp2
            go_roundw
            case rel => exact ⟨i + 1, by omega, by go_num, belowDrewN Hbx.out _⟩
            case measure => simp [intOf]; omega
          · go_wp2
            go_ret
            exact ⟨rfl, Hfw.out.trans (Hbx.out.mono Hfw.out.size)⟩
      · have hs1 := fun W (hB : Below wr.heap.size wr W) => select_bad' me a n cap l W (H2.out.below hB) (Nat.lt_of_lt_of_le Hpos.out hB.size) 1 hf (by decide)
        have hs2 := fun W (hB : Below wr.heap.size wr W) => select_bad' me a2 n cap2 l.reverse W (His.out.below hB) (Nat.lt_of_lt_of_le Hpos.out hB.size) 1 (by rw [fairN_reverse]; exact hf) (by decide)
        have Hs1 := Lib.hid hs1; have Hs2 := Lib.hid hs2; clear hs1 hs2 hf
        have hnz := fun w => neq_zero w
        go_wp2_with fail
        refine (Hs1.out _ (Below.refl _ _)).mono ?_
        rintro e w2 ⟨rfl, hb2⟩
        have hcs2 := belowCells hb2
        have hsz2 := hb2.size
        have hl2 : w.heap.size < w2.heap.size := by omega
        go_wp2_with fail
        refine (Hs2.out _ (hb2.alloc hsz2 _)).mono ?_
        rintro e w3 ⟨rfl, hb3⟩
        have hcs3 := belowCells hb3
        have hfin := (Hbw.out.trans ((hb2.alloc hsz2 _).mono Hbw.out.size)).trans (hb3.mono (by have := Hbw.out.size; simp; omega))
        have hsz3 := hb3.size
        have Hfin := Lib.hid hfin; clear hfin
        have hl3 : w2.heap.size < w3.heap.size := by simp at hsz3; omega
        go_wp2
        go_loop [14] (fun idx => idx = iV 0) (fun _ => 0)
        case atStart => rfl
        case round =>
          subst hrel
          go_wp2
          go_ret
          exact ⟨rfl, Hfin.out.alloc (Nat.le_trans Hfin.out.size (Nat.le_refl _)) _⟩
      · have hs1 := fun W (hB : Below wr.heap.size wr W) => select_bad' me a n cap l W (H2.out.below hB) (Nat.lt_of_lt_of_le Hpos.out hB.size) 5 hf (by decide)
        have hs2 := fun W (hB : Below wr.heap.size wr W) => select_bad' me a2 n cap2 l.reverse W (His.out.below hB) (Nat.lt_of_lt_of_le Hpos.out hB.size) 5 (by rw [fairN_reverse]; exact hf) (by decide)
        have Hs1 := Lib.hid hs1; have Hs2 := Lib.hid hs2; clear hs1 hs2 hf
        have hnz := fun w => neq_zero w
        go_wp2_with fail
        refine (Hs1.out _ (Below.refl _ _)).mono ?_
        rintro e w2 ⟨rfl, hb2⟩
        have hcs2 := belowCells hb2
        have hsz2 := hb2.size
        have hl2 : w.heap.size < w2.heap.size := by omega
        go_wp2_with fail
        refine (Hs2.out _ (hb2.alloc hsz2 _)).mono ?_
        rintro e w3 ⟨rfl, hb3⟩
        have hcs3 := belowCells hb3
        have hfin := (Hbw.out.trans ((hb2.alloc hsz2 _).mono Hbw.out.size)).trans (hb3.mono (by have := Hbw.out.size; simp; omega))
        have hsz3 := hb3.size
        have Hfin := Lib.hid hfin; clear hfin
        have hl3 : w2.heap.size < w3.heap.size := by simp at hsz3; omega
        go_wp2
        go_loop [14] (fun idx => idx = iV 0) (fun _ => 0)
        case atStart => rfl
        case round =>
          subst hrel
          go_wp2
          go_ret
          exact ⟨rfl, Hfin.out.alloc (Nat.le_trans Hfin.out.size (Nat.le_refl _)) _⟩
    · have e0 : (((m + 1 : Nat) : Int) - 1) = (m : Int) := by omega
      rw [e0]
      clear e0
      obtain ⟨h, b, off, hh, rfl, hb, hc⟩ := H1.out.get (show m < n by omega)
      obtain ⟨c0, c1, c2, c3, c4, c5, c6, c7, c8, c9, c10, c11, c12, c13, c14, c15, c16, c17, c18, c19, c20⟩ := HeardsAt.cells (hc.below hb Hbel.out) hh
      have Hh := Lib.hid hh
      clear hc hb hh
      have hk0 : (0 : Int) ≤ (m : Int) := by omega
      have hkn : (m : Int) < (n : Int) := by omega
      have hbs := Hbel.out.size
      go_wp2_with (at_builtin; refine wpList_append_own _ rfl (.tmp 31) (.tmp 36) 26 rfl w'.heap.size 38 ti _ 21 80 Try.underlying26 hti hz1 hz2 hz3 rfl (by decide) _ (n - (m + 1)) _ rfl (Hown.out.alloc _) ⟨wr.heap.size, 0, none⟩ 1 1 (heardList h) rfl rfl (news_of_block (heap_at0 (by simp))) (one_heard _) (by unfold maxLen; omega) (by omega) (by simp; omega) ?_; intro v' w1 hown' hgrow _)
      go_roundw
      case rel =>
        refine ⟨m, by omega, rfl, ?_, ((Hbel.out.alloc hbs _).grown hgrow (by simp; omega) (own_block_ge Hown.out))⟩
        rw [rev_snoc l n m h Hl.out.1 (by omega) Hh.out, show n - m = n - (m + 1) + 1 by omega]; exact hown'
      case measure => simp [intOf]

theorem turned_any (me : Id) (a : Option Addr) (n cap : Nat) (l : List Heard) (w : World) (h : IsHeards w a n l) :
    Calls Try.prog 8 #[me.val, .slice a n cap] w fun e w' => e = .returned (.bool true) ∧ Below w.heap.size w w' := by
  rcases Nat.lt_or_ge 64 n with hn | hn
  · exact turned_many me a n cap w hn
  · exact turned_few me a n cap l w h hn
end Go.Proofs.Ytbfpmgcadinmbaa
