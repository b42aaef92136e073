/-
  The walk of the law RolesRoot.
-/
import Derived.Test.YtbfpmgcadinmbaaLc
import Derived.Test.YtbfpmgcadinmbaaPc
import Derived.Test.YtbfpmgcadinmbaaRb
namespace Go.Proofs.Ytbfpmgcadinmbaa
set_option linter.unusedVariables false
set_option linter.unusedSimpArgs false
open Go Go.RowKit Go.Maps
attribute [local go_sem ↓] exec_loadVec exec_storeVec exec_loadHeard exec_storeHeard
attribute [local go_sem] ldRow_ptr ldFin_some cellsAt_succ cellsAt_zero allSome_cons allSome_nil stRow_ptr stFin_true allOne_cons allOne_nil there_succ there_zero frozens_succ frozens_zero one_int one_bool putCells_alloc_at putCells_alloc_old over_all

theorem neq_idself (a : Id) (w : World) : (binOp .neq 25 a.val a.val).run Try.prog w = .ok (.bool false) w := by
  rw [neq_id, decide_eq_true rfl]; rfl
theorem eql_ownd (me : Id) (best : Vec) (w : World) : (binOp .eql 29 best.val (.agg (ownList me).toArray)).run Try.prog w = .ok (.bool (decide (best = ownWay me))) w := eql_vec best (ownWay me) w

/-- how many root ports are among the first. -/
def rootCount (root : Int) (i : Nat) : Int := if 0 ≤ root ∧ root < i then 1 else 0

/-- what stands in memory. -/
structure RootMem (w : World) (b0 : Nat) (me : Id) (best : Vec) (roles : List Int) (B g : Nat) (wr : World) : Prop where
  below : Below w.heap.size w wr
  m0 : wr.heap[b0]? = some (.cells (idList me).toArray 25 (0, 0))
  mr : wr.heap[B]? = some (.cells (roles.map iV).toArray 3 (0, 0))
  mg : wr.heap[g]? = some (.cells (vecList best).toArray 29 (0, 0))
theorem RootMem.step {w : World} {b0 : Nat} {me : Id} {best : Vec} {roles : List Int} {B g : Nat} {wr wz : World} (h : RootMem w b0 me best roles B g wr) (hB : Below wr.heap.size wr wz) : RootMem w b0 me best roles B g wz :=
  ⟨h.below.trans (hB.mono h.below.size), by rw [hB.block _ (block_lt h.m0)]; exact h.m0, by rw [hB.block _ (block_lt h.mr)]; exact h.mr, by rw [hB.block _ (block_lt h.mg)]; exact h.mg⟩

def RootRel (w : World) (b0 : Nat) (me : Id) (best : Vec) (roles : List Int) (B g n : Nat) (root : Int) (cnt idx : Value) (wr : World) : Prop :=
  ∃ i : Nat, i ≤ n ∧ idx = iV i ∧ cnt = iV (rootCount root i) ∧ RootMem w b0 me best roles B g wr

set_option maxRecDepth 100000 in
set_option maxHeartbeats 4000000 in
theorem root_any (me : Id) (a : Option Addr) (n cap : Nat) (l : List Heard) (w : World) (h : IsHeards w a n l) :
    Calls Try.prog 5 #[me.val, .slice a n cap] w fun e w' => e = .returned (.bool true) ∧ Below w.heap.size w w' := by
  have Hl := Lib.hid h; clear h
  go_enter Try.func5, Try.ntmps5
  go_upto_region 2 with (go_at_call 10; refine (awake_any _).mono ?_; rintro e w' ⟨rfl, haw⟩)
  have hb0 : Below w.heap.size w w' := ((Below.refl _ _).alloc (Nat.le_refl _) _).trans (haw.mono (by simp))
  have hm0 : w'.heap[w.heap.size]? = some (.cells (idList me).toArray 25 (0, 0)) := by rw [haw.block _ (by simp)]; exact heap_alloc_new _ _
  have hcw := belowCells haw
  have Hb0 := Lib.hid hb0; have Hm0 := Lib.hid hm0
  have H1 := Lib.hid (Hl.out.below hb0)
  have hpos : 0 < w'.heap.size := Nat.lt_of_le_of_lt (Nat.zero_le _) (block_lt hm0)
  have Hpos := Lib.hid hpos
  have r0 := cell_of_block hm0
  clear haw hb0 hm0 hcw hpos
  rcases fairN_cases l with hf | hf | hf
  · have hs1 := select_good' me a n cap l w' H1.out Hpos.out hf
    have hfacts := root_facts me l
    have Hs1 := Lib.hid hs1; have HF := Lib.hid hfacts; clear hs1 hf hfacts
    generalize selBest me l = best at *
    generalize selRoles me l = roles at *
    generalize selRoot me l = root at *
    have hsl : roles.length = n := by rw [HF.out.len]; exact Hl.out.1.symm
    have Hsl := Lib.hid hsl; clear hsl
    go_wp2_with fail
    refine Hs1.out.mono ?_
    rintro e w2 ⟨B, rfl, hB, hrow, hb2⟩
    have hl2 : w.heap.size < w2.heap.size := Nat.lt_of_lt_of_le (block_lt Hm0.out) hb2.size
    have hmem : RootMem w' w.heap.size me best roles B w2.heap.size (w2.alloc (.cells (vecList best).toArray 29)) := by
      refine ⟨hb2.alloc hb2.size _, ?_, ?_, heap_alloc_new _ _⟩
      · rw [heap_alloc_old _ _ hl2, hb2.block _ (block_lt Hm0.out)]; exact Hm0.out
      · rw [heap_alloc_old _ _ (block_lt hrow)]; exact hrow
    have Hmem := Lib.hid hmem; clear hmem hrow
    go_wp2_with fail
    go_loopw [9, 10] (fun cnt idx wr => RootRel w' w.heap.size me best roles B w2.heap.size n root cnt idx wr) (fun _ idx _ => n - (intOf idx).toNat)
    case atStart => exact ⟨0, Nat.zero_le _, rfl, by unfold rootCount; rw [if_neg (by omega)], Hmem.out⟩
    case round =>
      obtain ⟨i, hi, rfl, rfl, hm⟩ := hrel
      have Hm := Lib.hid hm
      have k0 := block_lt hm.m0
      have kr := block_lt hm.mr
      have kg := block_lt hm.mg
      have s0 := cell_of_block hm.m0
      have sg := cell_of_block hm.mg
      clear hm r0 hl2
      by_cases hlt : i < n
      · have hlr : i < roles.length := by rw [Hsl.out]; exact hlt
        have hone := HF.out.one i roles[i] (List.getElem?_eq_getElem hlr)
        have cx : wr.cell? ⟨B, i, none⟩ = some (iV roles[i]) := by rw [cell_of_block Hm.out.mr]; simp [hlr]
        have hi0 : (0 : Int) ≤ (i : Int) := by omega
        have hin : (i : Int) < (n : Int) := by omega
        have hnm := Hl.out.2.1
        by_cases hroot : (i : Int) = root
        · rw [hone.2 hroot] at cx
          have hc0 : rootCount root i = 0 := by unfold rootCount; rw [if_neg (by omega)]
          have hc1 : rootCount root (i + 1) = 1 := by unfold rootCount; rw [if_pos (by omega)]
          rw [hc0]
          have Hc1 := Lib.hid hc1
          obtain ⟨h, b, off, hh, rfl, hb, hc⟩ := H1.out.get hlt
          obtain ⟨e1, e2, e3, e4, e5⟩ := HF.out.at_ i h hh hroot
          have hb2' := Hm.out.below
          obtain ⟨c0, c1, c2, c3, c4, c5, c6, c7, c8, c9, c10, c11, c12, c13, c14, c15, c16, c17, c18, c19, c20⟩ := HeardsAt.cells (hc.below hb hb2') hh
          rw [e1] at c2
          rw [e2] at c3
          rw [e3] at c0
          rw [e4] at c4 c5 c6 c7 c8 c9 c10
          rw [e5] at c12 c13 c14 c15 c16 c17 c18
          have hn1 := neq_idself best.root
          have hn2 := neq_idself best.bridge
          clear hc hb hh e1 e2 e3 e4 e5 hone hc0 hc1 hlr hb2'
          have Hroot := Lib.hid hroot; clear hroot
          go_wp2_with fail
          go_quiet (fail)
          go_wp2
          go_roundw
          case rel => exact ⟨i + 1, by omega, by go_num, by rw [Hc1.out], Hm.out.step (belowDrewN (Below.refl _ _) _)⟩
          case measure => simp [intOf]; omega
        · have hr : (roles[i] != 1) = true := by simpa using fun e => hroot (hone.1 e)
          have hc1 : rootCount root (i + 1) = rootCount root i := by unfold rootCount; congr 1; rw [eq_iff_iff]; omega
          have Hc1 := Lib.hid hc1
          clear hone hc1 hroot
          generalize roles[i] = r at *
          go_wp2
          go_roundw
          case rel => exact ⟨i + 1, by omega, by go_num, by rw [Hc1.out], Hm.out⟩
          case measure => simp [intOf]; omega
      · have hin : i = n := by omega
        subst hin
        have hrng : rootCount root i = if root = -1 then 0 else 1 := by
          have h1 := HF.out.rng
          have h2 := HF.out.len
          have h3 := Hsl.out
          unfold rootCount
          by_cases e : root = -1
          · rw [if_pos e, if_neg (by omega)]
          · rw [if_neg e, if_pos (by omega)]
        have heo := eql_ownd me best
        have hcmp := fun W => cmp05_any best.root me W
        have Hcmp := Lib.hid hcmp
        have hle := HF.out.le
        have hdle : decide (cmpId best.root me ≤ 0) = true := decide_eq_true hle
        clear hcmp hle
        by_cases e : root = -1
        · rw [if_pos e] at hrng
          rw [decide_eq_true (HF.out.own.2 e)] at heo
          rw [hrng]
          go_wp2_with (go_at_call 17; refine (Hcmp.out _).mono ?_; rintro e w2 ⟨rfl, hbc⟩)
          go_ret
          exact ⟨rfl, Hb0.out.trans ((Hm.out.below.trans (hbc.mono Hm.out.below.size)).mono Hb0.out.size)⟩
        · rw [if_neg e] at hrng
          rw [decide_eq_false (fun h => e (HF.out.own.1 h))] at heo
          rw [hrng]
          go_wp2_with (go_at_call 17; refine (Hcmp.out _).mono ?_; rintro e w2 ⟨rfl, hbc⟩)
          go_ret
          exact ⟨rfl, Hb0.out.trans ((Hm.out.below.trans (hbc.mono Hm.out.below.size)).mono Hb0.out.size)⟩
  · have hs1 := select_bad' me a n cap l w' H1.out Hpos.out 1 hf (by decide)
    have Hs1 := Lib.hid hs1; clear hs1 hf
    go_wp2_with (go_at_call 11; refine Hs1.out.mono ?_; rintro e w2 ⟨rfl, hb2⟩)
    go_ret
    exact ⟨rfl, (Hb0.out.trans (hb2.mono Hb0.out.size)).alloc (Nat.le_trans Hb0.out.size hb2.size) _⟩
  · have hs1 := select_bad' me a n cap l w' H1.out Hpos.out 5 hf (by decide)
    have Hs1 := Lib.hid hs1; clear hs1 hf
    go_wp2_with (go_at_call 11; refine Hs1.out.mono ?_; rintro e w2 ⟨rfl, hb2⟩)
    go_ret
    exact ⟨rfl, (Hb0.out.trans (hb2.mono Hb0.out.size)).alloc (Nat.le_trans Hb0.out.size hb2.size) _⟩
end Go.Proofs.Ytbfpmgcadinmbaa
