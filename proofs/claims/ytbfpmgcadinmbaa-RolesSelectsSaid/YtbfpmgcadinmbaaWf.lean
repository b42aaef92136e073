/-
  roles.Select: the best way of a bridge, and the roles of its ports.
-/
import Derived.Test.YtbfpmgcadinmbaaWe
import Derived.Test.YtbfpmgcadinmbaaEq
import Derived.Deep.DeepCutAuto
namespace Go.Proofs.Ytbfpmgcadinmbaa
set_option linter.unusedVariables false
set_option linter.unusedSimpArgs false
open Go Go.RowKit Go.Maps
attribute [local go_sem ↓] exec_loadVec exec_storeVec exec_loadHeard exec_storeHeard
attribute [local go_sem] ldRow_ptr ldFin_some cellsAt_succ cellsAt_zero allSome_cons allSome_nil stRow_ptr stFin_true allOne_cons allOne_nil there_succ there_zero frozens_succ frozens_zero one_int one_bool putCells_alloc_at putCells_alloc_old over_all
set_option maxHeartbeats 1000000 in
theorem select_bad (me : Id) (a : Option Addr) (b off n cap : Nat) (l : List Heard) (w : World) (hn0 : n = l.length) (hb : b < w.heap.size) (ha : n ≠ 0 → a = some ⟨b, off, none⟩) (hc : HeardsAt w b off l) (hf : fairN l ≠ 0) :
    Calls Try.prog 11 #[me.val, .slice a n cap] w fun e w' => e = .returned (.tuple #[.agg zeroVecList.toArray, .slice none 0 0, iV (fairN l)]) ∧ Below w.heap.size w w' := by
  have hd : (fairN l != 0) = true := by simpa using hf
  have hfair := fun (W : World) (hB : Below w.heap.size w W) => fair_any a b off n cap l W hn0 (Nat.lt_of_lt_of_le hb hB.size) ha (hc.below hb hB)
  have Hf := Lib.hid hfair; clear hfair ha hf
  have Hc := Lib.hid hc; clear hc
  have Hn := Lib.hid hn0; clear hn0
  generalize fairN l = fl at *
  go_enter Try.func11, Try.ntmps11
  go_wp2_with (go_at_call 19; refine (Hf.out _ (by exact ((((Below.refl _ _).alloc (Nat.le_refl _) _).alloc (by simp) _).alloc (by simp; omega) _))).mono ?_; rintro e w' ⟨rfl, hbel⟩; have hcs := belowCells hbel; have hfs := belowFrozens hbel)
  have hblk : w'.heap[w.heap.size + 1 + 1]? = some (.cells zeroVecList.toArray 29 (0, 0)) := by
    rw [hbel.block _ (by simp)]; exact heap_new2 w _ _ _
  refine bodyPost_ret (v := .tuple #[.agg zeroVecList.toArray, .slice none 0 0, iV fl]) (results_row3 (p := 4) (u := 5) (v := 6) (l := zeroVecList) (n := 17) (a := ⟨w.heap.size + 1 + 1, 0, none⟩) rfl rfl (Try.isAgg29 _) (Try.sizeOf29 _) (allSome_block (heap_putCells_all hblk rfl) rfl)) rfl ⟨rfl, ?_⟩
  exact below_putCells _ _ (by omega) _ _ _ (((((Below.refl _ _).alloc (Nat.le_refl _) _).alloc (by simp) _).alloc (by simp; omega) _).trans (hbel.mono (by simp; omega)))

/-- what stands in memory through the first loop. -/
structure SelMem (w : World) (me : Id) (a : Option Addr) (n cap g : Nat) (best : Vec) (wr : World) : Prop where
  below : Below w.heap.size w wr
  m0 : wr.heap[w.heap.size]? = some (.cells (idList me).toArray 25 (0, 0))
  m1 : wr.heap[w.heap.size + 1]? = some (.cells #[.slice a n cap] 26 (0, 0))
  m2 : wr.heap[w.heap.size + 1 + 1]? = some (.cells zeroVecList.toArray 29 (0, 0))
  mg : wr.heap[g]? = some (.cells (vecList best).toArray 29 (0, 0))
  lo : w.heap.size + 1 + 1 < g

theorem SelMem.step {w : World} {me : Id} {a : Option Addr} {n cap g : Nat} {best : Vec} {wr wz : World} (h : SelMem w me a n cap g best wr) (hB : Below wr.heap.size wr wz) : SelMem w me a n cap g best wz :=
  ⟨h.below.trans (hB.mono h.below.size), by rw [hB.block _ (block_lt h.m0)]; exact h.m0, by rw [hB.block _ (block_lt h.m1)]; exact h.m1, by rw [hB.block _ (block_lt h.m2)]; exact h.m2, by rw [hB.block _ (block_lt h.mg)]; exact h.mg, h.lo⟩

theorem SelMem.put {w : World} {me : Id} {a : Option Addr} {n cap g : Nat} {best : Vec} {wr : World} (h : SelMem w me a n cap g best wr) (v : Vec) : SelMem w me a n cap g v (putCells wr ⟨g, 0, none⟩ 0 (vecList v)) := by
  have hlo := h.lo
  exact ⟨below_putCells _ _ (by omega) _ _ _ h.below, by rw [heap_putCells_other _ _ _ (by omega)]; exact h.m0, by rw [heap_putCells_other _ _ _ (by omega)]; exact h.m1, by rw [heap_putCells_other _ _ _ (by omega)]; exact h.m2, heap_putCells_all h.mg rfl, h.lo⟩

def SelRel1 (w : World) (me : Id) (l : List Heard) (a : Option Addr) (n cap g : Nat) (root idx : Value) (wr : World) : Prop :=
  ∃ k : Nat, k ≤ n ∧ idx = iV k ∧ root = iV (selLoop me l k).2 ∧ SelMem w me a n cap g (selLoop me l k).1 wr

theorem SelMem.setCell {w : World} {me : Id} {a : Option Addr} {n cap g : Nat} {best : Vec} {wr : World} (h : SelMem w me a n cap g best wr) (B o : Nat) (hB : g < B) (v : Value) : SelMem w me a n cap g best (wr.setCell ⟨B, o, none⟩ v) := by
  have hlo := h.lo
  exact ⟨h.below.setCell (by show _ ≤ B; omega) v, by rw [heap_setCell_other _ _ _ _ (by show _ ≠ B; omega)]; exact h.m0, by rw [heap_setCell_other _ _ _ _ (by show _ ≠ B; omega)]; exact h.m1,
    by rw [heap_setCell_other _ _ _ _ (by show _ ≠ B; omega)]; exact h.m2, by rw [heap_setCell_other _ _ _ _ (by show _ ≠ B; omega)]; exact h.mg, hlo⟩

def SelRel2 (w : World) (me : Id) (l : List Heard) (a : Option Addr) (n cap g B : Nat) (best : Vec) (root : Int) (idx : Value) (wr : World) : Prop :=
  ∃ k : Nat, k ≤ n ∧ idx = iV k ∧ SelMem w me a n cap g best wr ∧ g < B ∧ wr.heap[B]? = some (.cells (rowC n (rolesLoop me best root l k)) 3 (0, 0))

theorem SelRel2.step {w : World} {me : Id} {l : List Heard} {a : Option Addr} {n cap g B : Nat} {best : Vec} {root : Int} {idx : Value} {wr wz : World} (h : SelRel2 w me l a n cap g B best root idx wr) (hB : Below wr.heap.size wr wz) :
    SelRel2 w me l a n cap g B best root idx wz := by
  obtain ⟨k, hk, hi, hm, hg, hr⟩ := h
  exact ⟨k, hk, hi, hm.step hB, hg, by rw [hB.block _ (block_lt hr)]; exact hr⟩

theorem SelRel2.put {w : World} {me : Id} {l : List Heard} {a : Option Addr} {n cap g B : Nat} {best : Vec} {root : Int} {idx : Value} {wr : World} {k : Nat} (hm : SelMem w me a n cap g best wr) (hgB : g < B)
    (hrow : wr.heap[B]? = some (.cells (rowC n (rolesLoop me best root l k)) 3 (0, 0))) (hk : k < n) (hn : n = l.length) (h : Heard) (hh : l[k]? = some h) (x : Int) (hx : roleOf me best root k h = x) (hi : idx = iV ((k + 1 : Nat) : Int)) :
    SelRel2 w me l a n cap g B best root idx (wr.setCell ⟨B, k, none⟩ (.int .i64 x)) := by
  have hl := rolesLoop_length me best root l k (by omega)
  refine ⟨k + 1, by omega, hi, hm.setCell B k hgB _, hgB, ?_⟩
  rw [heap_setCell_same _ _ _ _ _ _ hrow, rolesLoop_succ me best root l k h hh, hx]
  have := rowC_set n (rolesLoop me best root l k) (by omega) x
  rw [hl] at this
  rw [this]

def SelOk (w : World) (me : Id) (l : List Heard) (n : Nat) (e : Ending) (w' : World) : Prop :=
  ∃ B, e = .returned (.tuple #[(selBest me l).val, .slice (some ⟨B, 0, none⟩) n n, iV 0]) ∧ w.heap.size ≤ B ∧ w'.heap[B]? = some (.cells ((selRoles me l).map iV).toArray 3 (0, 0)) ∧ Below w.heap.size w w'

theorem sel_close {w : World} {me : Id} {l : List Heard} {a : Option Addr} {n cap g B k : Nat} {best : Vec} {root : Int} {wr : World} (hm : SelMem w me a n cap g best wr) (hgB : g < B)
    (hrow : wr.heap[B]? = some (.cells (rowC n (rolesLoop me best root l k)) 3 (0, 0))) (hk : k = n) (hn : n = l.length) (hs : selLoop me l l.length = (best, root)) :
    SelOk w me l n (.returned (.tuple #[best.val, .slice (some ⟨B, 0, none⟩) n n, iV 0])) (putCells wr ⟨w.heap.size + 1 + 1, 0, none⟩ 0 (vecList best)) := by
  have hlo := hm.lo
  refine ⟨B, by unfold selBest; rw [hs], by omega, ?_, below_putCells _ _ (by omega) _ _ _ hm.below⟩
  rw [heap_putCells_other _ _ _ (by omega), hrow, rowC_full _ _ (by rw [rolesLoop_length _ _ _ _ _ (by omega)]; exact hk)]
  unfold selRoles selBest selRoot
  rw [hs, hk, hn]

set_option maxRecDepth 100000 in
set_option maxHeartbeats 4000000 in
theorem select_good (me : Id) (a : Option Addr) (b off n cap : Nat) (l : List Heard) (w : World) (hn0 : n = l.length) (hn : n ≤ 64) (hb : b < w.heap.size) (ha : n ≠ 0 → a = some ⟨b, off, none⟩) (hc : HeardsAt w b off l) (hf : fairN l = 0) :
    Calls Try.prog 11 #[me.val, .slice a n cap] w (SelOk w me l n) := by
  have hfair := fun (W : World) (hB : Below w.heap.size w W) => fair_any a b off n cap l W hn0 (Nat.lt_of_lt_of_le hb hB.size) ha (hc.below hb hB)
  rw [hf] at hfair
  have Hf := Lib.hid hfair; clear hfair hf
  have Ha := Lib.hid ha; clear ha
  have Hc := Lib.hid hc; clear hc
  have Hn := Lib.hid hn0; clear hn0
  have hmf : ∀ (fn : Fn) (first cp : Array Value) (w : World), (Instr.makeFunc fn first cp).run Try.prog w = .ok (.func fn first cp) w := fun _ _ _ _ => rfl
  go_enter Try.func11, Try.ntmps11
  go_wp2_with (go_at_call 19; refine (Hf.out _ (by exact ((((Below.refl _ _).alloc (Nat.le_refl _) _).alloc (by simp) _).alloc (by simp; omega) _))).mono ?_; rintro e w' ⟨rfl, hbel⟩; have hcs := belowCells hbel; have hfs := belowFrozens hbel; have hz0 : w.heap.size < w'.heap.size := (by have := hbel.size; simp at this; omega); have hz1 : w.heap.size + 1 < w'.heap.size := (by have := hbel.size; simp at this; omega); have hz2 : w.heap.size + 1 + 1 < w'.heap.size := (by have := hbel.size; simp at this; omega))
  go_loopw [9, 28] (fun root idx wr => SelRel1 w me l a n cap w'.heap.size root idx wr) (fun _ idx _ => n - (intOf idx).toNat)
  case atStart =>
    have hlt0 : Below w.heap.size w w' := ((((Below.refl _ _).alloc (Nat.le_refl _) _).alloc (by simp) _).alloc (by simp; omega) _).trans (hbel.mono (by simp; omega))
    refine ⟨0, Nat.zero_le _, rfl, rfl, ?_, ?_, ?_, ?_, ?_, hz2⟩
    · exact hlt0.alloc (by omega) _
    · rw [heap_alloc_old _ _ hz0, hbel.block _ (by simp; omega)]; exact heap_old2 w _ _ _
    · rw [heap_alloc_old _ _ hz1, hbel.block _ (by simp)]; exact heap_old1 w _ _ _
    · rw [heap_alloc_old _ _ hz2, hbel.block _ (by simp)]; exact heap_new2 w _ _ _
    · exact heap_alloc_new _ _
  case round =>
    obtain ⟨k, hk, rfl, rfl, hm⟩ := hrel
    have r0 := cell_of_block hm.m0
    have r1 := cell_of_block hm.m1
    have rg := cell_of_block hm.mg
    have fg := frozen_of_block hm.mg
    clear hcs hfs
    generalize hacc : selLoop me l k = acc at *
    have Hacc := Lib.hid hacc; clear hacc
    obtain ⟨best, root⟩ := acc
    have Hm := Lib.hid hm; clear hm
    by_cases hlt : k < n
    · obtain rfl := Ha.out (by omega)
      have hlen : k < l.length := by rw [← Hn.out]; exact hlt
      obtain ⟨h, hh⟩ : ∃ h, l[k]? = some h := ⟨l[k], List.getElem?_eq_getElem hlen⟩
      have Hh := Lib.hid hh; clear hh hlen
      obtain ⟨c0, c1, c2, c3, c4, c5, c6, c7, c8, c9, c10, c11, c12, c13, c14, c15, c16, c17, c18, c19, c20⟩ := HeardsAt.cells (Hc.out.below hb Hm.out.below) Hh.out
      go_upto_region 9 with fail
      have hsz := Hm.out.below.size
      have hgl : w'.heap.size < wr.heap.size := block_lt Hm.out.mg
      have Hgl := Lib.hid hgl; have Hsz := Lib.hid hsz
      have hbl : b < wr.heap.size := by omega
      have hl0 : w.heap.size < wr.heap.size := by have := Hm.out.lo; omega
      have hl1 : w.heap.size + 1 < wr.heap.size := by have := Hm.out.lo; omega
      have hk0 : (0 : Int) ≤ (k : Int) := by omega
      have hkn : (k : Int) < (n : Int) := by omega
      go_cut [12] (fun s12 wx => ∃ vb, s12 = .pointer (some ⟨vb, 0, none⟩) ∧ wr.heap.size ≤ vb ∧ Below wr.heap.size wr wx ∧ wx.heap[vb]? = some (.cells (vecList (addVec h.v h.cost)).toArray 29 (0, 0)))
      case first =>
        go_region_held3 (fun w' => Kept wr.heap.size wr w') (with_reducible first | assumption | exact Kept.drew (Kept.refl (Nat.le_refl _)) | exact Kept.drew (Kept.alloc (Kept.refl (Nat.le_refl _)) _) | exact Kept.put (by assumption) (by simp) _ _ _ | exact Kept.alloc (by assumption) _ | exact Kept.realloc (by assumption) (by have := hcall.size; simpa using this) | exact Kept.step (by assumption) (by assumption)) (first | (go_at_call 21; refine (vecAdd_any h.v h.cost _).mono ?_; rintro e w2 ⟨rfl, hcall⟩; have hcs2 := belowCells hcall; have hfs2 := belowFrozens hcall))
        · go_wp2_with fail
          go_meet
          exact ⟨w2.heap.size, rfl, by have := hcall.size; simpa using this, (‹Kept wr.heap.size wr _›).2.1, heap_alloc_new _ _⟩
        · go_wp2_with fail
          go_meet
          exact ⟨wr.heap.size, rfl, Nat.le_refl _, (‹Kept wr.heap.size wr _›).2.1, heap_putCells_all (c := zeroVecList.toArray) (by rw [hcall.block _ (by simp)]; exact heap_alloc_new wr _) rfl⟩
      case rest =>
        obtain ⟨vb, rfl, hvb, hbx, hvx⟩ := hcut
        have rv := cell_of_block hvx
        have fv := frozen_of_block hvx
        have hcx := belowCells hbx
        have hfx := belowFrozens hbx
        clear c1 c4 c5 c6 c7 c8 c9 c10 c11 c12 c13 c14 c15 c16 c17 c18 c19 c20 hfx
        go_upto_region 11 with fail
        have hy : Below wr.heap.size wr (wc.setCell ⟨vb, 16, none⟩ (iV h.port)) := hbx.setCell hvb _
        have hvy : (wc.setCell ⟨vb, 16, none⟩ (iV h.port)).heap[vb]? = some (.cells (vecList { addVec h.v h.cost with own := h.port }).toArray 29 (0, 0)) := by
          rw [heap_setCell_same _ _ _ _ _ _ hvx]; rfl
        clear rv fv hcx hbx hvx
        generalize wc.setCell ⟨vb, 16, none⟩ (iV h.port) = wy at *
        have Hy := Lib.hid hy; have Hvy := Lib.hid hvy
        have rv := cell_of_block hvy
        have hcy := belowCells hy
        clear hy hvy
        go_cut [62] (fun s62 wz => s62 = .bool (h.up && h.has && !decide ((addVec h.v h.cost).bridge = me) && decide (cmpVec { addVec h.v h.cost with own := h.port } best < 0)) ∧ Below wy.heap.size wy wz)
        case first =>
          have hcnt := fun W (h1 : W.cell? ⟨w.heap.size + 1, 0, none⟩ = some (.slice (some ⟨b, off, none⟩) n cap)) h2 h3 => counts_any (w.heap.size + 1) b off n cap k h.up h.has W hlt hn h1 h2 h3
          have Hcnt := Lib.hid hcnt; clear hcnt
          cases hu : (h.up && h.has)
          · go_wp2_with (go_at_call 20; refine (Hcnt.out _ (by simp [hcy, hl1, r1]) (by simp [hcy, hbl, c2]) (by simp [hcy, hbl, c3])).mono ?_; rw [hu]; rintro e w' ⟨rfl, rfl⟩)
            go_meet
            exact ⟨by rw [hu]; rfl, Below.refl _ _⟩
          · have hne := fun w => neq_id (addVec h.v h.cost).bridge me w
            cases hbm : decide ((addVec h.v h.cost).bridge = me)
            · simp only [hbm] at hne
              have hltd : decide (cmpVec { addVec h.v h.cost with own := h.port } best < 0) = decide (cmpVec { addVec h.v h.cost with own := h.port } best < 0) := rfl
              clear hltd
              go_wp2_with (first | (go_at_call 20; refine (Hcnt.out _ (by simp [hcy, hl1, r1]) (by simp [hcy, hbl, c2]) (by simp [hcy, hbl, c3])).mono ?_; rw [hu]; rintro e w' ⟨rfl, rfl⟩) | (go_at_call 22; refine (vecCmp_any { addVec h.v h.cost with own := h.port } best _).mono ?_; rintro e w' ⟨rfl, hcmp⟩))
              go_meet
              exact ⟨by rw [hu, hbm]; rfl, hcmp⟩
            · simp only [hbm] at hne
              go_wp2_with (go_at_call 20; refine (Hcnt.out _ (by simp [hcy, hl1, r1]) (by simp [hcy, hbl, c2]) (by simp [hcy, hbl, c3])).mono ?_; rw [hu]; rintro e w' ⟨rfl, rfl⟩)
              go_meet
              exact ⟨by rw [hu, hbm]; rfl, Below.refl _ _⟩
        case rest =>
          obtain ⟨rfl, hz⟩ := hcut
          have hvz : wc.heap[vb]? = some (.cells (vecList { addVec h.v h.cost with own := h.port }).toArray 29 (0, 0)) := by rw [hz.block _ (block_lt Hvy.out)]; exact Hvy.out
          have hmz := Hm.out.step (Hy.out.trans (hz.mono Hy.out.size))
          have Hmz := Lib.hid hmz
          have hstep := selLoop_succ me l k h Hh.out
          rw [Hacc.out] at hstep
          unfold selStep at hstep
          dsimp only at hstep
          have Hstep := Lib.hid hstep
          clear hstep r0 r1 rg fg rv hcy hz hmz c0 c2 c3
          have rv := cell_of_block hvz
          have rg := cell_of_block Hmz.out.mg
          have fg := frozen_of_block Hmz.out.mg
          clear hvz
          cases hbet : (h.up && h.has && !decide ((addVec h.v h.cost).bridge = me) && decide (cmpVec { addVec h.v h.cost with own := h.port } best < 0))
          · have hs := Hstep.out
            rw [hbet, if_neg (by simp)] at hs
            have Hs := Lib.hid hs; clear hs Hstep
            go_wp2
            go_roundw
            case rel => exact ⟨k + 1, by omega, by go_num, by rw [Hs.out], by rw [Hs.out]; exact Hmz.out⟩
            case measure => simp [intOf]; omega
          · have hs := Hstep.out
            rw [hbet, if_pos rfl] at hs
            have Hs := Lib.hid hs; clear hs Hstep
            go_wp2
            go_roundw
            case rel => exact ⟨k + 1, by omega, by go_num, by rw [Hs.out], by rw [Hs.out]; exact Hmz.out.put _⟩
            case measure => simp [intOf]; omega
    · have hkn : k = n := by omega
      have Hkn := Lib.hid hkn; clear hkn
      have hmk := make_ints n (by omega)
      have hsz := Hm.out.below.size
      have hgl : w'.heap.size < wr.heap.size := block_lt Hm.out.mg
      have hl0 : w.heap.size < wr.heap.size := by have := Hm.out.lo; omega
      have hl1 : w.heap.size + 1 < wr.heap.size := by have := Hm.out.lo; omega
      have hsel : selLoop me l l.length = (best, root) := by rw [← Hn.out, ← Hkn.out]; exact Hacc.out
      have Hsel := Lib.hid hsel; clear hsel Hacc
      go_wp2
      obtain ⟨wo, rfl⟩ : ∃ wo : World, wo = wr := ⟨_, rfl⟩
      go_loopw [71] (fun idx wr => SelRel2 w me l a n cap w'.heap.size wo.heap.size best root idx wr) (fun idx _ => n - (intOf idx).toNat)
      case atStart => exact ⟨0, Nat.zero_le _, rfl, Hm.out.step ((Below.refl _ _).alloc (Nat.le_refl _) _), hgl, by show _ = some (Obj.cells (rowC n []) _ _); rw [← zeroInts_row]; exact heap_alloc_new _ _⟩
      case round =>
        clear r0 r1 rg fg hl0 hl1
        obtain ⟨k2, hk2, rfl, hm2, hgB, hrow⟩ := hrel
        have r0 := cell_of_block hm2.m0
        have r1 := cell_of_block hm2.m1
        have rg := cell_of_block hm2.mg
        have Hm2 := Lib.hid hm2
        have Hrow := Lib.hid hrow
        have hl0 : w.heap.size < wr.heap.size := block_lt hm2.m0
        have hl1 : w.heap.size + 1 < wr.heap.size := block_lt hm2.m1
        have hlB : wo.heap.size < wr.heap.size := block_lt hrow
        have hgl2 : w'.heap.size < wr.heap.size := block_lt hm2.mg
        have hbl : b < wr.heap.size := Nat.lt_of_lt_of_le hb hm2.below.size
        clear hm2 hrow hmk
        by_cases hlt2 : k2 < n
        · obtain rfl := Ha.out (by omega)
          have hlen : k2 < l.length := by rw [← Hn.out]; exact hlt2
          obtain ⟨h, hh⟩ : ∃ h, l[k2]? = some h := ⟨l[k2], List.getElem?_eq_getElem hlen⟩
          have hrl := rolesLoop_length me best root l k2 (by omega)
          have Hrl := Lib.hid hrl
          have cB : wr.cell? ⟨wo.heap.size, k2, none⟩ = some (.int .i64 0) := by
            rw [cell_of_block Hrow.out]; have := rowC_get n (rolesLoop me best root l k2) (by rw [hrl]; exact hlt2); rw [hrl] at this; exact this
          have fB : wr.frozen? ⟨wo.heap.size, k2, none⟩ = false := frozen_of_block Hrow.out k2
          have Hh := Lib.hid hh; clear hh hlen hrl
          obtain ⟨c0, c1, c2, c3, c4, c5, c6, c7, c8, c9, c10, c11, c12, c13, c14, c15, c16, c17, c18, c19, c20⟩ := HeardsAt.cells (Hc.out.below hb Hm2.out.below) Hh.out
          have hk0 : (0 : Int) ≤ (k2 : Int) := by omega
          have hkn0 : (k2 : Int) < (n : Int) := by omega
          cases hup : h.up
          · rw [hup] at c2
            have hx : roleOf me best root k2 h = 0 := by unfold roleOf; rw [if_pos hup]
            have Hx := Lib.hid hx; clear hx
            go_wp2
            go_roundw
            case rel => exact (SelRel2.put Hm2.out hgB Hrow.out hlt2 Hn.out h Hh.out 0 Hx.out (by go_num)).step ((Below.refl _ _).alloc (Nat.le_refl _) _)
            case measure => simp [intOf]; omega
          · rw [hup] at c2
            by_cases hroot : (k2 : Int) = root
            · have hx : roleOf me best root k2 h = 1 := by unfold roleOf; rw [if_neg (by simp [hup]), if_pos hroot]
              have Hx := Lib.hid hx; clear hx
              have hbr : ((k2 : Int) == root) = true := by simpa using hroot
              have Hroot := Lib.hid hroot; clear hroot
              go_wp2
              go_roundw
              case rel => exact (SelRel2.put Hm2.out hgB Hrow.out hlt2 Hn.out h Hh.out 1 Hx.out (by go_num)).step ((Below.refl _ _).alloc (Nat.le_refl _) _)
              case measure => simp [intOf]; omega
            · have hbr : ((k2 : Int) == root) = false := by simpa using hroot
              have hx : roleOf me best root k2 h = if h.has = false then 2 else if 0 ≤ cmpVec { h.v with own := 0 } (offer me best h.port) then 2 else if h.v.bridge = me then 4 else 3 := by
                unfold roleOf; rw [if_neg (by simp [hup]), if_neg hroot]
              have Hx := Lib.hid hx; have Hroot := Lib.hid hroot; clear hx hroot
              go_upto_region 25 with fail
              go_cut [100] (fun s100 wz => s100 = .bool (!h.has || decide (0 ≤ cmpVec { h.v with own := 0 } (offer me best h.port))) ∧ Below (wr.heap.size + 1) (wr.alloc (.cells (vecList { h.v with own := 0 }).toArray 29)) wz)
              case first =>
                have hcnt := fun W (h1 : W.cell? ⟨w.heap.size + 1, 0, none⟩ = some (.slice (some ⟨b, off, none⟩) n cap)) h2 h3 => counts_any (w.heap.size + 1) b off n cap k2 true h.has W hlt2 hn h1 h2 h3
                have Hcnt := Lib.hid hcnt; clear hcnt
                cases hhas : h.has
                · rw [hhas] at c3
                  have hq := fun W (h1 : W.cell? ⟨w.heap.size + 1, 0, none⟩ = some (.slice (some ⟨b, off, none⟩) n cap)) h2 h3 => (counts_any (w.heap.size + 1) b off n cap k2 true false W hlt2 hn h1 h2 h3).mono (R' := fun e W' => e = .returned (.bool false) ∧ W' = W) (fun _ _ h => ⟨h.1, h.2.symm⟩)
                  have Hq := Lib.hid hq; clear hq
                  go_quiet ((go_at_call 20; exact Calls.quiet_of_same (Hq.out _ (by simp [World.cell?_alloc_lt, hl1, r1]) (by simp [World.cell?_alloc_lt, hbl, c2]) (by simp [World.cell?_alloc_lt, hbl, c3]))))
                  go_wp2_with fail
                  go_meet
                  exact ⟨by rw [hhas]; rfl, belowDrewN (Below.refl _ _) _⟩
                · rw [hhas] at c3
                  go_region_held3 (fun w' => Kept (wr.heap.size + 1) (wr.alloc (.cells (vecList { h.v with own := 0 }).toArray 29)) w') (with_reducible first | assumption | exact Kept.drew (Kept.refl (by simp)) | exact Kept.step (by assumption) (by assumption)) (first | (go_at_call 20; refine (Hcnt.out _ (by simp [World.cell?_alloc_lt, hl1, r1]) (by simp [World.cell?_alloc_lt, hbl, c2]) (by simp [World.cell?_alloc_lt, hbl, c3, hhas])).mono ?_; rw [hhas]; rintro e w' ⟨rfl, rfl⟩) | (go_at_call 14; refine (offer_any me best h.port _).mono ?_; rintro e w' ⟨rfl, ho⟩) | (go_at_call 22; refine (vecCmp_any { h.v with own := 0 } (offer me best h.port) _).mono ?_; rintro e w' ⟨rfl, hcmp⟩))
                  go_wp2_with fail
                  go_meet
                  exact ⟨by rw [hhas]; rfl, (‹Kept _ _ _›).2.1⟩
              case rest =>
                obtain ⟨rfl, hz⟩ := hcut
                have hcz := belowCells hz
                have hfz := belowFrozens hz
                have hv2 : wc.heap[wr.heap.size]? = some (.cells (vecList { h.v with own := 0 }).toArray 29 (0, 0)) := by rw [hz.block _ (by omega)]; exact heap_alloc_new _ _
                have rv := cell_of_block hv2
                have hzr : Below wr.heap.size wr wc := ((Below.refl _ _).alloc (Nat.le_refl _) _).trans (hz.mono (by omega))
                have hm3 := Hm2.out.step hzr
                have hr3 : wc.heap[wo.heap.size]? = some (.cells (rowC n (rolesLoop me best root l k2)) 3 (0, 0)) := by rw [hzr.block _ hlB]; exact Hrow.out
                have Hm3 := Lib.hid hm3; have Hr3 := Lib.hid hr3
                have cB3 : wc.cell? ⟨wo.heap.size, k2, none⟩ = some (.int .i64 0) := by rw [hzr.cell (p := ⟨wo.heap.size, k2, none⟩) hlB]; exact cB
                have fB3 : wc.frozen? ⟨wo.heap.size, k2, none⟩ = false := frozen_of_block hr3 k2
                have m0 := cell_of_block hm3.m0
                clear hcz hfz hv2 hz hzr hm3 hr3 cB fB r0 r1 rg c0 c1 c2 c3 c4 c5 c6 c7 c8 c9 c10 c11 c12 c13 c14 c15 c16 c17 c18 c19 c20
                cases hd : (!h.has || decide (0 ≤ cmpVec { h.v with own := 0 } (offer me best h.port)))
                · rw [Bool.or_eq_false_iff] at hd
                  obtain ⟨hd1, hd2⟩ := hd
                  have hd2' := of_decide_eq_false hd2
                  have hx : roleOf me best root k2 h = if h.v.bridge = me then 4 else 3 := by
                    rw [Hx.out, if_neg (by intro e; rw [e] at hd1; cases hd1), if_neg hd2']
                  have he := fun w => eql_id h.v.bridge me w
                  clear hd1 hd2 hd2'
                  cases hbm : decide (h.v.bridge = me)
                  · simp only [hbm] at he
                    rw [if_neg (of_decide_eq_false hbm)] at hx
                    have Hx2 := Lib.hid hx; clear hx hbm
                    go_wp2
                    go_roundw
                    case rel => exact SelRel2.put Hm3.out hgB Hr3.out hlt2 Hn.out h Hh.out 3 Hx2.out (by go_num)
                    case measure => simp [intOf]; omega
                  · simp only [hbm] at he
                    rw [if_pos (of_decide_eq_true hbm)] at hx
                    have Hx2 := Lib.hid hx; clear hx hbm
                    go_wp2
                    go_roundw
                    case rel => exact SelRel2.put Hm3.out hgB Hr3.out hlt2 Hn.out h Hh.out 4 Hx2.out (by go_num)
                    case measure => simp [intOf]; omega
                · have hx : roleOf me best root k2 h = 2 := by
                    rw [Hx.out]
                    rw [Bool.or_eq_true] at hd
                    rcases hd with hd | hd
                    · rw [if_pos (by simpa using hd)]
                    · split
                      · rfl
                      · rw [if_pos (of_decide_eq_true hd)]
                  have Hx2 := Lib.hid hx; clear hx
                  go_wp2
                  go_roundw
                  case rel => exact SelRel2.put Hm3.out hgB Hr3.out hlt2 Hn.out h Hh.out 2 Hx2.out (by go_num)
                  case measure => simp [intOf]; omega
        · have hkn2 : k2 = n := by omega
          have Hkn2 := Lib.hid hkn2; clear hkn2
          have g2 := cell_of_block Hm2.out.m2
          have f2 := frozen_of_block Hm2.out.m2
          clear r0 r1
          go_wp2
          refine bodyPost_ret (v := .tuple #[best.val, .slice (some ⟨wo.heap.size, 0, none⟩) n n, iV 0]) (results_row3 (p := 4) (u := 5) (v := 6) (l := vecList best) (n := 17) (a := ⟨w.heap.size + 1 + 1, 0, none⟩) rfl rfl (Try.isAgg29 _) (Try.sizeOf29 _) (allSome_block (heap_putCells_all Hm2.out.m2 rfl) rfl)) rfl ?_
          exact sel_close Hm2.out hgB Hrow.out Hkn2.out Hn.out Hsel.out

def SelPost (w : World) (me : Id) (l : List Heard) (e : Ending) (w' : World) : Prop :=
  (fairN l ≠ 0 ∧ e = .returned (.tuple #[zeroVec.val, .slice none 0 0, iV (fairN l)]) ∧ Below w.heap.size w w') ∨ (fairN l = 0 ∧ SelOk w me l l.length e w')

theorem select_any (me : Id) (a : Option Addr) (b off n cap : Nat) (l : List Heard) (w : World) (hn0 : n = l.length) (hb : b < w.heap.size) (ha : n ≠ 0 → a = some ⟨b, off, none⟩) (hc : HeardsAt w b off l) :
    Calls Try.prog 11 #[me.val, .slice a n cap] w (SelPost w me l) := by
  by_cases hf : fairN l = 0
  · have hn : n ≤ 64 := by
      rcases Nat.lt_or_ge 64 l.length with h | h
      · unfold fairN at hf; rw [if_pos h] at hf; cases hf
      · omega
    refine (select_good me a b off n cap l w hn0 hn hb ha hc hf).mono fun e w' h => Or.inr ⟨hf, ?_⟩
    rw [← hn0]; exact h
  · exact (select_bad me a b off n cap l w hn0 hb ha hc hf).mono fun e w' h => Or.inl ⟨hf, by rw [← zeroVec_val]; exact h.1, h.2⟩
end Go.Proofs.Ytbfpmgcadinmbaa
