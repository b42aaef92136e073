/-
  The walk of the law RolesSelects.
-/
import Derived.Test.YtbfpmgcadinmbaaRc
namespace Go.Proofs.Ytbfpmgcadinmbaa
set_option linter.unusedVariables false
set_option linter.unusedSimpArgs false
open Go Go.RowKit Go.Maps
attribute [local go_sem ↓] exec_loadVec exec_storeVec exec_loadHeard exec_storeHeard
attribute [local go_sem] ldRow_ptr ldFin_some cellsAt_succ cellsAt_zero allSome_cons allSome_nil stRow_ptr stFin_true allOne_cons allOne_nil there_succ there_zero frozens_succ frozens_zero one_int one_bool putCells_alloc_at putCells_alloc_old over_all

/-- numbers that lie in a row from a block's head on. -/
def Row0 (w : World) (a : Option Addr) (l : List Int) : Prop :=
  l ≠ [] → ∃ b, a = some ⟨b, 0, none⟩ ∧ b < w.heap.size ∧ ∀ (i : Nat) (x : Int), l[i]? = some x → w.cell? ⟨b, i, none⟩ = some (iV x)
theorem Row0.below {w w' : World} {a : Option Addr} {l : List Int} (h : Row0 w a l) (hB : Below w.heap.size w w') : Row0 w' a l := by
  intro hl
  obtain ⟨b, ha, hb, hc⟩ := h hl
  exact ⟨b, ha, Nat.lt_of_lt_of_le hb hB.size, fun i x hx => by rw [hB.cell (p := ⟨b, i, none⟩) hb]; exact hc i x hx⟩
theorem row0_block {w : World} {B : Nat} {T : TypeId} {fr : Nat × Nat} {l : List Int} (h : w.heap[B]? = some (.cells (l.map iV).toArray T fr)) : Row0 w (some ⟨B, 0, none⟩) l :=
  fun _ => ⟨B, rfl, block_lt h, fun i x hx => by rw [cell_of_block h]; simp [hx]⟩
theorem row0_own {w : World} {base : Nat} {e : TypeId} {v : Value} {n : Nat} {l : List Int} (h : w.ownsRow base e 1 v n (l.map iV)) (hn : n = l.length) : ∃ a cap, v = .slice a n cap ∧ Row0 w a l := by
  obtain ⟨_, ⟨rfl, rfl⟩ | ⟨g, cap, cur, rfl, _, hg, hcap, hm, hsz, htk⟩⟩ := h
  · exact ⟨none, 0, rfl, fun hl => absurd (List.length_eq_zero_iff.1 hn.symm) hl⟩
  · refine ⟨_, cap, rfl, fun _ => ⟨g, rfl, block_lt hg, fun i x hx => ?_⟩⟩
    have hi : i < l.length := (List.getElem?_eq_some_iff.1 hx).1
    rw [cell_of_block hg]
    have h1 : (l.map iV)[i]? = some (iV x) := by rw [List.getElem?_map, hx]; rfl
    rw [← htk, List.getElem?_take_of_lt (by omega)] at h1
    simpa using h1

set_option maxHeartbeats 1000000 in
theorem same_any (a a' : Option Addr) (n c c' : Nat) (l : List Int) (w : World) (hn : n = l.length) (hm : n ≤ 64) (h : Row0 w a l) (h' : Row0 w a' l) :
    Calls Try.prog 13 #[.slice a n c, .slice a' n c'] w fun e w' => e = .returned (.bool true) ∧ Below w.heap.size w w' := by
  have H := Lib.hid h; have H' := Lib.hid h'; have Hn := Lib.hid hn; clear h h' hn
  go_enter Try.func13, Try.ntmps13
  go_wp2
  go_loopw [5] (fun idx wr => ∃ i : Nat, i ≤ n ∧ idx = iV i ∧ Below w.heap.size w wr) (fun idx _ => n - (intOf idx).toNat)
  case atStart => exact ⟨0, Nat.zero_le _, rfl, Below.refl _ _⟩
  case round =>
    obtain ⟨i, hi, rfl, hb⟩ := hrel
    have Hb := Lib.hid hb
    clear hb
    by_cases hlt : i < n
    · have hil : i < l.length := by rw [← Hn.out]; exact hlt
      have hx : l[i]? = some l[i] := List.getElem?_eq_getElem hil
      have hne : l ≠ [] := by rintro rfl; simp at hil
      obtain ⟨b, rfl, hb, hc⟩ := (H.out.below Hb.out) hne
      obtain ⟨b', rfl, hb', hc'⟩ := (H'.out.below Hb.out) hne
      have e0 := hc i _ hx
      have e1 := hc' i _ hx
      have hi0 : (0 : Int) ≤ (i : Int) := by omega
      have hin : (i : Int) < (n : Int) := by omega
      clear hc hc' hx hne
      generalize l[i] = x at *
      go_wp2_with fail
      go_quiet (fail)
      go_wp2
      go_roundw
      case rel => exact ⟨i + 1, by omega, by go_num, Hb.out.trans (belowDrewN (Below.refl _ _) _)⟩
      case measure => simp [intOf]; omega
    · go_wp2
      go_ret
      exact ⟨rfl, Hb.out⟩

theorem sel17_any (me : Id) (a : Option Addr) (n cap : Nat) (l : List Heard) (w : World) (h : IsHeards w a n l) : Calls Try.prog 12 #[me.val, .slice a n cap] w (Sel17Post w me l) := by
  rcases Nat.lt_or_ge 64 n with hn | hn
  · exact sel17_many me a n cap l w h.1 hn
  · exact sel17_few me a n cap l w h hn

def Sel17Good (w : World) (best : Vec) (roles : List Int) (n : Nat) (e : Ending) (w' : World) : Prop :=
  ∃ ad c, e = .returned (.tuple #[best.val, .slice ad n c, .int .i64 0]) ∧ Row0 w' ad roles ∧ Below w.heap.size w w'
theorem sel17_good' (me : Id) (a : Option Addr) (n cap : Nat) (l : List Heard) (w : World) (h : IsHeards w a n l) (hf : fairN l = 0) :
    Calls Try.prog 12 #[me.val, .slice a n cap] w (Sel17Good w (selBest me l) (selRoles me l) n) := by
  refine (sel17_any me a n cap l w h).mono ?_
  rintro e w' (⟨hf', _⟩ | ⟨_, v, he, ho, hb⟩)
  · exact absurd hf hf'
  · rw [← h.1] at ho
    obtain ⟨ad, c, rfl, hr⟩ := row0_own ho (by rw [selRoles_length]; exact h.1)
    exact ⟨ad, c, he, hr, hb⟩
theorem sel17_bad' (me : Id) (a : Option Addr) (n cap : Nat) (l : List Heard) (w : World) (h : IsHeards w a n l) (fl : Int) (hf : fairN l = fl) (hne : fl ≠ 0) :
    Calls Try.prog 12 #[me.val, .slice a n cap] w fun e w' => e = .returned (.tuple #[.agg zeroVecList.toArray, .slice none 0 0, iV fl]) ∧ Below w.heap.size w w' := by
  subst hf
  refine (sel17_any me a n cap l w h).mono ?_
  rintro e w' (⟨_, he, hb⟩ | ⟨hf, _⟩)
  · exact ⟨he, hb⟩
  · exact absurd hf hne
theorem eql_self (v : Vec) (w : World) : (binOp .eql 29 v.val v.val).run Try.prog w = .ok (.bool true) w := by
  have h := eql_vec v v w
  rw [decide_eq_true rfl] at h
  exact h
theorem eql_zero (w : World) : (binOp .eql 29 (.agg zeroVecList.toArray) (.agg zeroVecList.toArray)).run Try.prog w = .ok (.bool true) w := by
  rw [zeroVec_val]; exact eql_self zeroVec w

set_option maxRecDepth 100000 in
set_option maxHeartbeats 4000000 in
theorem selects_good (me : Id) (a : Option Addr) (n cap : Nat) (l : List Heard) (w : World) (h : IsHeards w a n l) (hf : fairN l = 0) :
    Calls Try.prog 3 #[me.val, .slice a n cap] w fun e w' => e = .returned (.bool true) ∧ Below w.heap.size w w' := by
  have hn : n ≤ 64 := by
    have := h.1
    unfold fairN at hf
    by_cases h' : 64 < l.length
    · rw [if_pos h'] at hf; cases hf
    · omega
  have Hl := Lib.hid h; have Hf := Lib.hid hf; clear h hf
  go_enter Try.func3, Try.ntmps3
  go_upto_region 2 with (go_at_call 10; refine (awake_any _).mono ?_; rintro e w' ⟨rfl, haw⟩)
  have hb0 : Below w.heap.size w w' := ((Below.refl _ _).alloc (Nat.le_refl _) _).trans (haw.mono (by simp))
  have hm0 : w'.heap[w.heap.size]? = some (.cells (idList me).toArray 25 (0, 0)) := by rw [haw.block _ (by simp)]; exact heap_alloc_new _ _
  have Hb0 := Lib.hid hb0; have Hm0 := Lib.hid hm0
  have H1 := Lib.hid (Hl.out.below hb0)
  have hpos : 0 < w'.heap.size := Nat.lt_of_le_of_lt (Nat.zero_le _) (block_lt hm0)
  have Hs1 := Lib.hid (select_good' me a n cap l w' H1.out hpos Hf.out)
  have Hs2 := Lib.hid (fun W (hB : Below w'.heap.size w' W) => sel17_good' me a n cap l W (H1.out.below hB) Hf.out)
  have Hsl := Lib.hid (show (selRoles me l).length = n by rw [selRoles_length]; exact Hl.out.1.symm)
  have r0 := cell_of_block hm0
  clear haw hb0 hm0 hpos
  generalize selBest me l = best at *
  generalize selRoles me l = roles at *
  go_wp2_with fail
  refine Hs1.out.mono ?_
  rintro e w2 ⟨B1, rfl, hB1, hrow1, hbel1⟩
  have hbz : Below w'.heap.size w' (w2.alloc (.cells (vecList best).toArray 29)) := hbel1.alloc hbel1.size _
  have m0 : w2.heap[w.heap.size]? = some (.cells (idList me).toArray 25 (0, 0)) := by rw [hbel1.block _ (block_lt Hm0.out)]; exact Hm0.out
  have hr1 : Row0 (w2.alloc (.cells (vecList best).toArray 29)) (some ⟨B1, 0, none⟩) roles := (row0_block hrow1).below ((Below.refl _ _).alloc (Nat.le_refl _) _)
  have k0 := block_lt m0
  have r2 := cell_of_block m0
  have Hbz := Lib.hid hbz; have Hr1 := Lib.hid hr1
  clear hB1 hrow1 hbel1 hbz m0 r0 hr1
  go_wp2_with fail
  refine (Hs2.out _ Hbz.out).mono ?_
  rintro e w3 ⟨ad, c2, rfl, hrow2, hbel2⟩
  have hr1 := (Hr1.out.below hbel2).below ((Below.refl _ _).alloc (Nat.le_refl _) (.cells (vecList best).toArray 29))
  have hr2 := hrow2.below ((Below.refl _ _).alloc (Nat.le_refl _) (.cells (vecList best).toArray 29))
  have hv : w3.heap[w2.heap.size]? = some (.cells (vecList best).toArray 29 (0, 0)) := by rw [hbel2.block _ (by simp)]; exact heap_alloc_new _ _
  have hbw : Below w'.heap.size w' (w3.alloc (.cells (vecList best).toArray 29)) := (Hbz.out.trans (hbel2.mono Hbz.out.size)).alloc (Nat.le_trans Hbz.out.size hbel2.size) _
  have hv1 : (w3.alloc (.cells (vecList best).toArray 29)).heap[w2.heap.size]? = some (.cells (vecList best).toArray 29 (0, 0)) := by rw [heap_alloc_old _ _ (block_lt hv)]; exact hv
  have hv2 : (w3.alloc (.cells (vecList best).toArray 29)).heap[w3.heap.size]? = some (.cells (vecList best).toArray 29 (0, 0)) := heap_alloc_new _ _
  have Hsame := Lib.hid (same_any (some ⟨B1, 0, none⟩) ad n n c2 roles _ Hsl.out.symm hn hr1 hr2)
  have Hbw := Lib.hid hbw; have Hv1 := Lib.hid hv1; have Hv2 := Lib.hid hv2
  clear k0 r2 hrow2 hbel2 hr1 hr2 hv hbw hv1 hv2
  go_wp2_with fail
  refine Hsame.out.mono ?_
  rintro e w4 ⟨rfl, hb4⟩
  have rv1 := cell_of_block ((hb4.block _ (block_lt Hv1.out)).trans Hv1.out)
  have rv2 := cell_of_block ((hb4.block _ (block_lt Hv2.out)).trans Hv2.out)
  have hes := fun w => eql_self best w
  have Hb4 := Lib.hid hb4
  clear hb4
  go_wp2
  go_ret
  exact ⟨rfl, Hb0.out.trans ((Hbw.out.trans (Hb4.out.mono Hbw.out.size)).mono Hb0.out.size)⟩

set_option maxRecDepth 100000 in
set_option maxHeartbeats 4000000 in
theorem selects_bad (me : Id) (a : Option Addr) (n cap : Nat) (l : List Heard) (w : World) (h : IsHeards w a n l) (fl : Int) (hf : fairN l = fl) (hne : fl ≠ 0) :
    Calls Try.prog 3 #[me.val, .slice a n cap] w fun e w' => e = .returned (.bool true) ∧ Below w.heap.size w w' := by
  have Hl := Lib.hid h; have Hf := Lib.hid hf; have Hne := Lib.hid hne; clear h hf hne
  go_enter Try.func3, Try.ntmps3
  go_upto_region 2 with (go_at_call 10; refine (awake_any _).mono ?_; rintro e w' ⟨rfl, haw⟩)
  have hb0 : Below w.heap.size w w' := ((Below.refl _ _).alloc (Nat.le_refl _) _).trans (haw.mono (by simp))
  have hm0 : w'.heap[w.heap.size]? = some (.cells (idList me).toArray 25 (0, 0)) := by rw [haw.block _ (by simp)]; exact heap_alloc_new _ _
  have Hb0 := Lib.hid hb0; have Hm0 := Lib.hid hm0
  have H1 := Lib.hid (Hl.out.below hb0)
  have hpos : 0 < w'.heap.size := Nat.lt_of_le_of_lt (Nat.zero_le _) (block_lt hm0)
  have Hs1 := Lib.hid (select_bad' me a n cap l w' H1.out hpos fl Hf.out Hne.out)
  have Hs2 := Lib.hid (fun W (hB : Below w'.heap.size w' W) => sel17_bad' me a n cap l W (H1.out.below hB) fl Hf.out Hne.out)
  have r0 := cell_of_block hm0
  clear haw hb0 hm0 hpos
  go_wp2_with fail
  refine Hs1.out.mono ?_
  rintro e w2 ⟨rfl, hbel1⟩
  have hbz : Below w'.heap.size w' (w2.alloc (.cells zeroVecList.toArray 29)) := hbel1.alloc hbel1.size _
  have m0 : w2.heap[w.heap.size]? = some (.cells (idList me).toArray 25 (0, 0)) := by rw [hbel1.block _ (block_lt Hm0.out)]; exact Hm0.out
  have k0 := block_lt m0
  have r2 := cell_of_block m0
  have Hbz := Lib.hid hbz
  clear hbel1 hbz m0 r0
  go_wp2_with fail
  refine (Hs2.out _ Hbz.out).mono ?_
  rintro e w3 ⟨rfl, hbel2⟩
  have hv : w3.heap[w2.heap.size]? = some (.cells zeroVecList.toArray 29 (0, 0)) := by rw [hbel2.block _ (by simp)]; exact heap_alloc_new _ _
  have hbw : Below w'.heap.size w' (w3.alloc (.cells zeroVecList.toArray 29)) := (Hbz.out.trans (hbel2.mono Hbz.out.size)).alloc (Nat.le_trans Hbz.out.size hbel2.size) _
  have hv1 : (w3.alloc (.cells zeroVecList.toArray 29)).heap[w2.heap.size]? = some (.cells zeroVecList.toArray 29 (0, 0)) := by rw [heap_alloc_old _ _ (block_lt hv)]; exact hv
  have hv2 : (w3.alloc (.cells zeroVecList.toArray 29)).heap[w3.heap.size]? = some (.cells zeroVecList.toArray 29 (0, 0)) := heap_alloc_new _ _
  have Hsame := Lib.hid (same_any none none 0 0 0 [] (w3.alloc (.cells zeroVecList.toArray 29)) rfl (by omega) (fun h => absurd rfl h) (fun h => absurd rfl h))
  have Hbw := Lib.hid hbw; have Hv1 := Lib.hid hv1; have Hv2 := Lib.hid hv2
  clear k0 r2 hbel2 hv hbw hv1 hv2
  go_wp2_with fail
  refine Hsame.out.mono ?_
  rintro e w4 ⟨rfl, hb4⟩
  have rv1 := cell_of_block ((hb4.block _ (block_lt Hv1.out)).trans Hv1.out)
  have rv2 := cell_of_block ((hb4.block _ (block_lt Hv2.out)).trans Hv2.out)
  have hes := fun w => eql_zero w
  have Hb4 := Lib.hid hb4
  clear hb4
  go_wp2
  go_ret
  exact ⟨rfl, Hb0.out.trans ((Hbw.out.trans (Hb4.out.mono Hbw.out.size)).mono Hb0.out.size)⟩

theorem selects_any (me : Id) (a : Option Addr) (n cap : Nat) (l : List Heard) (w : World) (h : IsHeards w a n l) :
    Calls Try.prog 3 #[me.val, .slice a n cap] w fun e w' => e = .returned (.bool true) ∧ Below w.heap.size w w' := by
  rcases fairN_cases l with hf | hf | hf
  · exact selects_good me a n cap l w h hf
  · exact selects_bad me a n cap l w h 1 hf (by decide)
  · exact selects_bad me a n cap l w h 5 hf (by decide)
end Go.Proofs.Ytbfpmgcadinmbaa
