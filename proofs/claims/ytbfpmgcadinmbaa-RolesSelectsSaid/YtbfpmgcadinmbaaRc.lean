/-
  gemelref17.Select: the document's own answer, the same as the program's.
-/
import Derived.Test.YtbfpmgcadinmbaaRb
import Derived.Test.YtbfpmgcadinmbaaLb
import Derived.Test.YtbfpmgcadinmbaaPb
import Derived.Deep.AppendLies
import Derived.Deep.RegionHeld3
import Derived.StillTailTactics
import Derived.Deep.DeepCutAuto
namespace Go.Proofs.Ytbfpmgcadinmbaa
set_option linter.unusedVariables false
set_option linter.unusedSimpArgs false
open Go Go.RowKit Go.Maps
attribute [local go_sem ↓] exec_loadVec exec_storeVec exec_loadHeard exec_storeHeard
attribute [local go_sem] ldRow_ptr ldFin_some cellsAt_succ cellsAt_zero allSome_cons allSome_nil stRow_ptr stFin_true allOne_cons allOne_nil there_succ there_zero frozens_succ frozens_zero one_int one_bool putCells_alloc_at putCells_alloc_old over_all

theorem intInfo : ∃ i : TypeInfo, Try.prog.info? 3 = some i ∧ i.zero = some (.int .i64 0) ∧ i.size = 1 ∧ i.bytes = 8 :=
  info_parts (by kernel_rfl)

theorem addVec_own (v : Vec) (p c : Int) : addVec { v with own := p } c = { addVec v c with own := p } := by
  unfold addVec; split <;> rfl

/-- what stands in memory. -/
structure Sel17 (w : World) (me : Id) (wr : World) : Prop where
  below : Below w.heap.size w wr
  m0 : wr.heap[w.heap.size]? = some (.cells (idList me).toArray 25 (0, 0))
  mz : wr.heap[w.heap.size + 1]? = some (.cells zeroVecList.toArray 29 (0, 0))
theorem Sel17.step {w : World} {me : Id} {wr wz : World} (h : Sel17 w me wr) (hB : Below wr.heap.size wr wz) : Sel17 w me wz :=
  ⟨h.below.trans (hB.mono h.below.size), by rw [hB.block _ (block_lt h.m0)]; exact h.m0, by rw [hB.block _ (block_lt h.mz)]; exact h.mz⟩

structure Sel17b (w : World) (me : Id) (g : Nat) (best : Vec) (wr : World) : Prop where
  mem : Sel17 w me wr
  mg : wr.heap[g]? = some (.cells (vecList best).toArray 29 (0, 0))
  lo : w.heap.size + 1 < g
theorem Sel17b.step {w : World} {me : Id} {g : Nat} {best : Vec} {wr wz : World} (h : Sel17b w me g best wr) (hB : Below wr.heap.size wr wz) : Sel17b w me g best wz :=
  ⟨h.mem.step hB, by rw [hB.block _ (block_lt h.mg)]; exact h.mg, h.lo⟩
theorem Sel17b.far {w : World} {me : Id} {g B : Nat} {best : Vec} {wr wz : World} (h : Sel17b w me g best wr) (hB : Below B wr wz) (hg : g < B) : Sel17b w me g best wz := by
  have hlo := h.lo
  exact ⟨⟨h.mem.below.trans (hB.mono (by omega)), by rw [hB.block _ (by omega)]; exact h.mem.m0, by rw [hB.block _ (by omega)]; exact h.mem.mz⟩, by rw [hB.block _ hg]; exact h.mg, hlo⟩
theorem own_below {w w' : World} {base : Nat} {e : TypeId} {size : Nat} {v : Value} {n : Nat} {xs : List Value} (h : w.ownsRow base e size v n xs) (hB : Below w.heap.size w w') : w'.ownsRow base e size v n xs := by
  obtain ⟨hl, hn | ⟨g, cap, cur, hv, hb, hg, rest⟩⟩ := h
  · exact ⟨hl, Or.inl hn⟩
  · exact ⟨hl, Or.inr ⟨g, cap, cur, hv, hb, by rw [hB.block _ (block_lt hg)]; exact hg, rest⟩⟩
def Sel17R5 (w : World) (me : Id) (l : List Heard) (n g : Nat) (best : Vec) (root : Int) (base : Nat) (v idx : Value) (wr : World) : Prop :=
  ∃ k : Nat, k ≤ n ∧ idx = iV k ∧ Sel17b w me g best wr ∧ g < base ∧ base ≤ wr.heap.size ∧ wr.ownsRow base 3 1 v k ((rolesLoop me best root l k).map iV)
theorem one_num (x : Int) : ∀ u ∈ [Value.int .i64 x], u.oneCell' = true := by
  intro u hu; simp at hu; subst hu; rfl
/-- a role is appended: what stands behind the round. -/
theorem r5_snoc {w : World} {me : Id} {l : List Heard} {n g : Nat} {best : Vec} {root : Int} {base k : Nat} {v v' : Value} {wc w6 : World} {r x : Int} {o : Obj} (hk : k + 1 ≤ n) (hm : Sel17b w me g best wc) (hg : g < base) (hb : base ≤ wc.heap.size)
    (hown : wc.ownsRow base 3 1 v k ((rolesLoop me best root l k).map iV)) (hrs : rolesLoop me best root l (k + 1) = rolesLoop me best root l k ++ [r]) (hr : r = x)
    (hown' : w6.ownsRow base 3 1 v' (k + 1) ((rolesLoop me best root l k).map iV ++ [.int .i64 x])) (hgr : (wc.alloc o).grownBy w6 v.ownBlock) (idx : Value) (hi : idx = iV ((k + 1 : Nat) : Int)) :
    Sel17R5 w me l n g best root base v' idx w6 := by
  have hB : Below base wc w6 := ((Below.refl _ _).alloc hb _).grown hgr (by simp; omega) (own_block_ge hown)
  refine ⟨k + 1, hk, hi, hm.far hB hg, hg, Nat.le_trans hb hB.size, ?_⟩
  rw [hrs, hr, List.map_append]; exact hown'

theorem Sel17b.put {w : World} {me : Id} {g : Nat} {best : Vec} {wr : World} (h : Sel17b w me g best wr) (v : Vec) : Sel17b w me g v (putCells wr ⟨g, 0, none⟩ 0 (vecList v)) := by
  have hlo := h.lo
  exact ⟨⟨below_putCells _ _ (by omega) _ _ _ h.mem.below, by rw [heap_putCells_other _ _ _ (by omega)]; exact h.mem.m0, by rw [heap_putCells_other _ _ _ (by omega)]; exact h.mem.mz⟩, heap_putCells_all h.mg rfl, hlo⟩

/-- what is asked of the numbers of the ports. -/
theorem nodup_snoc (l : List Heard) (k : Nat) (h : Heard) (hk : l[k]? = some h) (hn : ((l.take k).map Heard.port).Nodup) (hne : ∀ i x, i < k → l[i]? = some x → x.port ≠ h.port) : ((l.take (k + 1)).map Heard.port).Nodup := by
  rw [take_snoc' l k h hk, List.map_append, List.nodup_append]
  refine ⟨hn, by simp, ?_⟩
  intro a ha b hb
  simp at hb; subst hb
  obtain ⟨x, hx, rfl⟩ := List.mem_map.1 ha
  obtain ⟨i, hi, he⟩ := List.getElem_of_mem hx
  rw [List.length_take] at hi
  rw [List.getElem_take] at he
  exact hne i x (by omega) (by rw [List.getElem?_eq_getElem (by omega), he])
theorem nodup_not (l : List Heard) (i k : Nat) (x h : Heard) (hi : i < k) (hx : l[i]? = some x) (hk : l[k]? = some h) (he : x.port = h.port) : ¬ (l.map Heard.port).Nodup := by
  intro hd
  have := ports_ne l hd i k x h hx hk he
  omega
theorem nodup_off {l : List Heard} {k : Nat} (h : ((l.take k).map Heard.port).Nodup) (hk : k = l.length) : (l.map Heard.port).Nodup := by
  rw [List.take_of_length_le (by omega)] at h; exact h

def Sel17Bad (w : World) (l : List Heard) (e : Ending) (w' : World) : Prop :=
  fairN l ≠ 0 ∧ e = .returned (.tuple #[.agg zeroVecList.toArray, .slice none 0 0, iV (fairN l)]) ∧ Below w.heap.size w w'
def Sel17Ok (w : World) (me : Id) (l : List Heard) (e : Ending) (w' : World) : Prop :=
  fairN l = 0 ∧ ∃ v, e = .returned (.tuple #[(selBest me l).val, v, .int .i64 0]) ∧ w'.ownsRow w.heap.size 3 1 v l.length ((selRoles me l).map iV) ∧ Below w.heap.size w w'
def Sel17Post (w : World) (me : Id) (l : List Heard) (e : Ending) (w' : World) : Prop := Sel17Bad w l e w' ∨ Sel17Ok w me l e w'

theorem sel17_start (w : World) (me : Id) : Sel17 w me ((w.alloc (.cells (idList me).toArray 25)).alloc (.cells zeroVecList.toArray 29)) :=
  ⟨((Below.refl _ _).alloc (Nat.le_refl _) _).alloc (by simp) _, by rw [heap_alloc_old _ _ (by simp)]; exact heap_alloc_new _ _, heap_new1 w _ _⟩
theorem sel17_bad {w : World} {me : Id} {wr : World} {l : List Heard} (h : Sel17 w me wr) {f : Int} (hf : fairN l = f) (hne : f ≠ 0) :
    Sel17Post w me l (.returned (.tuple #[.agg zeroVecList.toArray, .slice none 0 0, iV f])) (putCells wr ⟨w.heap.size + 1, 0, none⟩ 0 zeroVecList) := by
  subst hf
  exact Or.inl ⟨hne, rfl, below_putCells _ _ (by omega) _ _ _ h.below⟩

set_option maxRecDepth 100000 in
set_option maxHeartbeats 1000000 in
theorem sel17_many (me : Id) (a : Option Addr) (n cap : Nat) (l : List Heard) (w : World) (hn0 : n = l.length) (hn : 64 < n) :
    Calls Try.prog 12 #[me.val, .slice a n cap] w (Sel17Post w me l) := by
  have hf : fairN l = 1 := by unfold fairN; rw [if_pos (by omega)]
  have Hf := Lib.hid hf; have Hn := Lib.hid hn0; clear hf hn0
  go_enter Try.func12, Try.ntmps12
  go_upto_region 1 with fail
  have Hm := Lib.hid (sel17_start w me)
  have sz := cell_of_block Hm.out.mz
  have fz := frozen_of_block Hm.out.mz
  generalize (w.alloc _).alloc _ = W at *
  go_wp2
  refine bodyPost_ret (v := .tuple #[.agg zeroVecList.toArray, .slice none 0 0, iV 1]) (results_row3 (p := 4) (u := 5) (v := 6) (l := zeroVecList) (n := 17) (a := ⟨w.heap.size + 1, 0, none⟩) rfl rfl (Try.isAgg29 _) (Try.sizeOf29 _) (allSome_block (heap_putCells_all Hm.out.mz rfl) rfl)) rfl ?_
  exact sel17_bad Hm.out Hf.out (by decide)

def Sel17R4 (w : World) (me : Id) (l : List Heard) (n g : Nat) (root idx : Value) (wr : World) : Prop :=
  ∃ k : Nat, k ≤ n ∧ idx = iV k ∧ root = iV (selLoop me l k).2 ∧ Sel17b w me g (selLoop me l k).1 wr
theorem own_eq (me : Id) : ownWay me = { root := me, cost := 0, bridge := me, port := 0, own := 0 } := rfl

theorem sel17_end {w : World} {me : Id} {l : List Heard} {n g : Nat} {best : Vec} {root : Int} {base : Nat} {v : Value} {wr : World} (hm : Sel17b w me g best wr) (hg : g < base) (hown : wr.ownsRow base 3 1 v n ((rolesLoop me best root l n).map iV))
    (hf : fairN l = 0) (hn : n = l.length) (hs : selLoop me l l.length = (best, root)) : Sel17Post w me l (.returned (.tuple #[best.val, v, .int .i64 0])) (putCells wr ⟨w.heap.size + 1, 0, none⟩ 0 (vecList best)) := by
  have hlo := hm.lo
  have hb : selBest me l = best := by unfold selBest; rw [hs]
  have hr : selRoles me l = rolesLoop me best root l n := by unfold selRoles selBest selRoot; rw [hs, ← hn]
  refine Or.inr ⟨hf, v, by rw [hb], ?_, below_putCells _ _ (by omega) _ _ _ hm.mem.below⟩
  rw [hr, ← hn]
  obtain ⟨hl, h0 | ⟨g', cap, cur, hv, hb', hg', rest⟩⟩ := hown
  · exact ⟨hl, Or.inl h0⟩
  · exact ⟨hl, Or.inr ⟨g', cap, cur, hv, by omega, by rw [heap_putCells_other _ _ _ (by omega)]; exact hg', rest⟩⟩

def Sel17R1 (w : World) (me : Id) (l : List Heard) (n : Nat) (idx : Value) (wr : World) : Prop :=
  ∃ k : Nat, k ≤ n ∧ idx = iV k ∧ ((l.take k).map Heard.port).Nodup ∧ Sel17 w me wr
def Sel17R2 (w : World) (me : Id) (l : List Heard) (k : Nat) (h : Heard) (idx : Value) (wr : World) : Prop :=
  ∃ j : Nat, j ≤ k ∧ idx = iV j ∧ (∀ i x, i < j → l[i]? = some x → x.port ≠ h.port) ∧ Sel17 w me wr

set_option maxRecDepth 100000 in
set_option maxHeartbeats 8000000 in
theorem sel17_few (me : Id) (a : Option Addr) (n cap : Nat) (l : List Heard) (w : World) (h : IsHeards w a n l) (hn : n ≤ 64) :
    Calls Try.prog 12 #[me.val, .slice a n cap] w (Sel17Post w me l) := by
  have hd : decide ((64 : Int) < (n : Int)) = false := by rw [decide_eq_false_iff_not]; omega
  have Hl := Lib.hid h; clear h
  go_enter Try.func12, Try.ntmps12
  go_upto_region 1 with fail
  have Hm := Lib.hid (sel17_start w me)
  have sz := cell_of_block Hm.out.mz
  have fz := frozen_of_block Hm.out.mz
  have kz := block_lt Hm.out.mz
  generalize (w.alloc _).alloc _ = W at *
  go_wp2_with fail
  go_loop [7] (fun i => ∃ k : Nat, k ≤ n ∧ i = iV k ∧ ∀ x ∈ l.take k, badPort x = false) (fun i => n - (intOf i).toNat)
  case atStart => exact ⟨0, Nat.zero_le _, rfl, by simp⟩
  case round =>
    obtain ⟨k, hk, rfl, hg⟩ := hrel
    have Hg := Lib.hid hg; clear hg
    by_cases hlt : k < n
    · obtain ⟨h, b, off, hh, rfl, hb, hc⟩ := Hl.out.get hlt
      obtain ⟨c0, c1, _⟩ := HeardsAt.cells (hc.below hb Hm.out.below) hh
      have Hh := Lib.hid hh
      have hk0 : (0 : Int) ≤ (k : Int) := by omega
      have hkn : (k : Int) < (n : Int) := by omega
      clear hc hb hh
      by_cases hbad : badPort h = true
      · have hf := fairN_bad l k h Hh.out hbad
        have Hf := Lib.hid hf
        unfold badPort at hbad
        have hbad := of_decide_eq_true hbad
        by_cases p1 : h.port < 1
        · have d1 : decide (h.port < 1) = true := decide_eq_true p1
          clear hbad p1 hf
          go_wp2
          refine bodyPost_ret (v := .tuple #[.agg zeroVecList.toArray, .slice none 0 0, iV 1]) (results_row3 (p := 4) (u := 5) (v := 6) (l := zeroVecList) (n := 17) (a := ⟨w.heap.size + 1, 0, none⟩) rfl rfl (Try.isAgg29 _) (Try.sizeOf29 _) (allSome_block (heap_putCells_all Hm.out.mz rfl) rfl)) rfl ?_
          exact sel17_bad Hm.out Hf.out (by decide)
        · have d1 : decide (h.port < 1) = false := decide_eq_false p1
          by_cases p2 : 65535 < h.port
          · have d2 : decide (65535 < h.port) = true := decide_eq_true p2
            clear hbad p1 p2 hf
            go_wp2
            refine bodyPost_ret (v := .tuple #[.agg zeroVecList.toArray, .slice none 0 0, iV 1]) (results_row3 (p := 4) (u := 5) (v := 6) (l := zeroVecList) (n := 17) (a := ⟨w.heap.size + 1, 0, none⟩) rfl rfl (Try.isAgg29 _) (Try.sizeOf29 _) (allSome_block (heap_putCells_all Hm.out.mz rfl) rfl)) rfl ?_
            exact sel17_bad Hm.out Hf.out (by decide)
          · have d2 : decide (65535 < h.port) = false := decide_eq_false p2
            by_cases p3 : h.cost < 1
            · have d3 : decide (h.cost < 1) = true := decide_eq_true p3
              clear hbad p1 p2 p3 hf
              go_wp2
              refine bodyPost_ret (v := .tuple #[.agg zeroVecList.toArray, .slice none 0 0, iV 1]) (results_row3 (p := 4) (u := 5) (v := 6) (l := zeroVecList) (n := 17) (a := ⟨w.heap.size + 1, 0, none⟩) rfl rfl (Try.isAgg29 _) (Try.sizeOf29 _) (allSome_block (heap_putCells_all Hm.out.mz rfl) rfl)) rfl ?_
              exact sel17_bad Hm.out Hf.out (by decide)
            · have d3 : decide (h.cost < 1) = false := decide_eq_false p3
              have d4 : decide (200000000 < h.cost) = true := decide_eq_true (by omega)
              clear hbad p1 p2 p3 hf
              go_wp2
              refine bodyPost_ret (v := .tuple #[.agg zeroVecList.toArray, .slice none 0 0, iV 1]) (results_row3 (p := 4) (u := 5) (v := 6) (l := zeroVecList) (n := 17) (a := ⟨w.heap.size + 1, 0, none⟩) rfl rfl (Try.isAgg29 _) (Try.sizeOf29 _) (allSome_block (heap_putCells_all Hm.out.mz rfl) rfl)) rfl ?_
              exact sel17_bad Hm.out Hf.out (by decide)
      · have hgb : badPort h = false := by simpa using hbad
        have Hgb := Lib.hid hgb
        obtain ⟨p1, p2, p3, p4⟩ := badPort_false h hgb
        have d1 : decide (h.port < 1) = false := decide_eq_false (by omega)
        have d2 : decide (65535 < h.port) = false := decide_eq_false (by omega)
        have d3 : decide (h.cost < 1) = false := decide_eq_false (by omega)
        have d4 : decide (200000000 < h.cost) = false := decide_eq_false (by omega)
        clear p1 p2 p3 p4 hbad hgb
        go_wp2
        go_round
        case rel => exact ⟨k + 1, by omega, by go_num, good_snoc l k h Hh.out Hg.out Hgb.out⟩
        case measure => simp [intOf]; omega
    · have hkn : k = n := by omega
      have hgood := Hg.out
      rw [List.take_of_length_le (by have := Hl.out.1; omega)] at hgood
      have hfe := fairN_end l (by have := Hl.out.1; omega) hgood
      have Hfe := Lib.hid hfe
      clear hfe hgood hkn
      go_wp2_with fail
      clear sz fz kz
      go_loopw [8] (fun i wr => Sel17R1 w me l n i wr) (fun i _ => n - (intOf i).toNat)
      case atStart => exact ⟨0, Nat.zero_le _, rfl, by simp, Hm.out⟩
      case round =>
        obtain ⟨k2, hk2, rfl, hnd, hm⟩ := hrel
        have Hnd := Lib.hid hnd; have Hm2 := Lib.hid hm
        clear hnd hm
        by_cases hlt2 : k2 < n
        · obtain ⟨h, b, off, hh, rfl, hb, hc⟩ := Hl.out.get hlt2
          have Hh := Lib.hid hh; have Hc := Lib.hid hc
          have hk0 : (0 : Int) ≤ (k2 : Int) := by omega
          have hkn : (k2 : Int) < (n : Int) := by omega
          clear hh hc
          go_wp2_with fail
          go_loopw [9] (fun i wr => Sel17R2 w me l k2 h i wr) (fun i _ => n - (intOf i).toNat)
          case atStart => exact ⟨0, Nat.zero_le _, rfl, fun i x hi => by omega, Hm2.out⟩
          case round =>
            obtain ⟨j, hj, rfl, hne, hm⟩ := hrel
            have Hne := Lib.hid hne; have Hm3 := Lib.hid hm
            clear hne hm
            by_cases hlt3 : j < k2
            · obtain ⟨x, hx⟩ : ∃ x, l[j]? = some x := ⟨l[j]'(by have := Hl.out.1; omega), List.getElem?_eq_getElem _⟩
              have sz := cell_of_block Hm3.out.mz
              have fz := frozen_of_block Hm3.out.mz
              have kz := block_lt Hm3.out.mz
              obtain ⟨c0, _⟩ := HeardsAt.cells (Hc.out.below hb Hm3.out.below) Hh.out
              obtain ⟨e0, _⟩ := HeardsAt.cells (Hc.out.below hb Hm3.out.below) hx
              have Hx := Lib.hid hx
              have hj0 : (0 : Int) ≤ (j : Int) := by omega
              have hjn : (j : Int) < (n : Int) := by omega
              have hjk : (j : Int) < (k2 : Int) := by omega
              clear hx
              by_cases hpe : x.port = h.port
              · have hpb : (x.port == h.port) = true := by simpa using hpe
                have hnn := nodup_not l j k2 x h hlt3 Hx.out Hh.out hpe
                have hf := Hfe.out
                rw [if_neg hnn] at hf
                have Hf := Lib.hid hf
                clear hf hnn hpe
                go_wp2_with fail
                go_quiet (fail)
                have Hm4 := Lib.hid (Hm3.out.step (belowDrewN (Below.refl _ _) nq))
                go_wp2
                refine bodyPost_ret (v := .tuple #[.agg zeroVecList.toArray, .slice none 0 0, iV 5]) (results_row3 (p := 4) (u := 5) (v := 6) (l := zeroVecList) (n := 17) (a := ⟨w.heap.size + 1, 0, none⟩) rfl rfl (Try.isAgg29 _) (Try.sizeOf29 _) (allSome_block (heap_putCells_all Hm4.out.mz rfl) rfl)) rfl ?_
                exact sel17_bad Hm4.out Hf.out (by decide)
              · have hpb : (x.port == h.port) = false := by simpa using hpe
                have Hpe := Lib.hid hpe
                clear hpe
                go_wp2_with fail
                go_quiet (fail)
                go_wp2
                go_roundw
                case rel =>
                  refine ⟨j + 1, by omega, by go_num, fun i y hi hy => ?_, Hm3.out.step (belowDrewN (Below.refl _ _) _)⟩
                  by_cases hij : i < j
                  · exact Hne.out i y hij hy
                  · have : i = j := by omega
                    subst this
                    rw [Hx.out] at hy; injection hy with hy; subst hy; exact Hpe.out
                case measure => simp [intOf]; omega
            · have hjk : j = k2 := by omega
              subst hjk
              go_wp2
              go_roundw
              case rel => exact ⟨j + 1, by omega, by go_num, nodup_snoc l j h Hh.out Hnd.out (fun i x hi hx => Hne.out i x hi hx), Hm3.out⟩
              case measure => simp [intOf]; omega
        · have hkn : k2 = n := by omega
          have hnd := nodup_off Hnd.out (hkn.trans Hl.out.1)
          have hf := Hfe.out
          rw [if_pos hnd] at hf
          have Hf := Lib.hid hf
          clear hf hnd hkn
          have s0 := cell_of_block Hm2.out.m0
          have k0 := block_lt Hm2.out.m0
          have kz := block_lt Hm2.out.mz
          have hlo : w.heap.size + 1 < wr.heap.size := block_lt Hm2.out.mz
          have hstart : Sel17b w me wr.heap.size (ownWay me) (wr.alloc (.cells (vecList (ownWay me)).toArray 29)) :=
            ⟨Hm2.out.step ((Below.refl _ _).alloc (Nat.le_refl _) _), heap_alloc_new _ _, hlo⟩
          have Hs := Lib.hid hstart
          clear hstart
          go_upto_region 18 with fail
          clear s0 k0 kz
          generalize wr.heap.size = g at *
          go_wp2_with fail
          go_loopw [11, 12] (fun root i wr => Sel17R4 w me l n g root i wr) (fun _ i _ => n - (intOf i).toNat)
          case atStart => exact ⟨0, Nat.zero_le _, rfl, rfl, Hs.out⟩
          case round =>
            obtain ⟨k4, hk4, rfl, rfl, hm⟩ := hrel
            have r0 := cell_of_block hm.mem.m0
            have rg := cell_of_block hm.mg
            have fg := frozen_of_block hm.mg
            have l0 := block_lt hm.mem.m0
            have lg := block_lt hm.mg
            generalize hacc : selLoop me l k4 = acc at *
            have Hacc := Lib.hid hacc; clear hacc
            obtain ⟨best, root⟩ := acc
            have Hm4 := Lib.hid hm; clear hm
            by_cases hlt4 : k4 < n
            · obtain ⟨h, b, off, hh, rfl, hb, hc⟩ := Hl.out.get hlt4
              have Hh := Lib.hid hh
              obtain ⟨c0, c1, c2, c3, c4, c5, c6, c7, c8, c9, c10, c11, c12, c13, c14, c15, c16, c17, c18, c19, c20⟩ := HeardsAt.cells (hc.below hb Hm4.out.mem.below) hh
              have hbr : b < wr.heap.size := Nat.lt_of_lt_of_le hb Hm4.out.mem.below.size
              have hcc := Lib.hid hc
              have hk0 : (0 : Int) ≤ (k4 : Int) := by omega
              have hkn : (k4 : Int) < (n : Int) := by omega
              clear hh hc
              go_upto_region 21 with fail
              go_cut [106] (fun s106 wz => s106 = .bool (!(h.up && h.has) || decide (h.v.bridge = me)) ∧ Below wr.heap.size wr wz)
              case first =>
                have he := fun w => eql_id h.v.bridge me w
                cases hu : (h.up && h.has)
                · refine wp_region_held_drew (S := fun w' => Kept wr.heap.size wr w') (by kernel_rfl) (Kept.drew (Kept.refl (Nat.le_refl _))) (fun hHeld => ?_)
                  refine wpAnyH_take (i := 0) (oi := ⟨_, _, _, _, _, _⟩) (v := ?_) rfl (by kernel_rfl) (by kernel_rfl) (by kernel_rfl) (fun _ _ _ h => h) (Or.inl ⟨by rfl, ?_⟩) hHeld ?_
                  rotate_left
                  · (intro w hSw; (try dsimp only at hSw); go_simp <;> with_reducible rfl)
                  try simp only [Act.put, List.setIfInBounds_toArray, List.set_cons_zero, List.set_cons_succ]
                  refine wpAnyH_take (i := 1) (oi := ⟨_, _, _, _, _, _⟩) (v := ?_) rfl (by kernel_rfl) (by kernel_rfl) (by kernel_rfl) (fun _ _ _ h => h) (Or.inl ⟨by rfl, ?_⟩) hHeld ?_
                  rotate_left
                  · (intro w hSw; (try dsimp only at hSw); go_simp <;> with_reducible rfl)
                  try simp only [Act.put, List.setIfInBounds_toArray, List.set_cons_zero, List.set_cons_succ]
                  refine wpAnyH_take (i := 2) (oi := ⟨_, _, _, _, _, _⟩) (v := ?_) rfl (by kernel_rfl) (by kernel_rfl) (by kernel_rfl) (fun _ _ _ h => h) (Or.inl ⟨by rfl, ?_⟩) hHeld ?_
                  rotate_left
                  · (intro w hSw; (try dsimp only at hSw); go_simp <;> with_reducible rfl)
                  try simp only [Act.put, List.setIfInBounds_toArray, List.set_cons_zero, List.set_cons_succ]
                  refine wpAnyH_take (i := 3) (oi := ⟨_, _, _, _, _, _⟩) (v := ?_) rfl (by kernel_rfl) (by kernel_rfl) (by kernel_rfl) (fun _ _ _ h => h) (Or.inl ⟨by rfl, ?_⟩) hHeld ?_
                  rotate_left
                  · (intro w hSw; (try dsimp only at hSw); go_simp <;> with_reducible rfl)
                  try simp only [Act.put, List.setIfInBounds_toArray, List.set_cons_zero, List.set_cons_succ]
                  refine wpAnyH_ready (rs := [4]) (by kernel_rfl) (by simp) ?_
                  refine AllReadyH.cons (o := ⟨_, _, _, _, _, _⟩) rfl (fun K hK => ?_) AllReadyH.nil
                  (go_simp; go_at_call 23; refine (counts17_any h _).mono ?_; rw [hu]; rintro e w5 ⟨rfl, ho⟩; go_wp2_with fail)
                  refine hK.out _ _ ?_ (fun hHeld => ?_)
                  · exact Kept.step (by assumption) (by assumption)
                  clear hK K
                  try simp only [Act.put, List.setIfInBounds_toArray, List.set_cons_zero, List.set_cons_succ]
                  refine wpAnyH_take (i := 5) (oi := ⟨_, _, _, _, _, _⟩) (v := ?_) rfl (by kernel_rfl) (by kernel_rfl) (by kernel_rfl) (fun _ _ _ h => h) (Or.inl ⟨by rfl, ?_⟩) hHeld ?_
                  rotate_left
                  · (intro w hSw; (try dsimp only at hSw); go_simp <;> with_reducible rfl)
                  try simp only [Act.put, List.setIfInBounds_toArray, List.set_cons_zero, List.set_cons_succ]
                  refine wpAnyH_take (i := 6) (oi := ⟨_, _, _, _, _, _⟩) (v := ?_) rfl (by kernel_rfl) (by kernel_rfl) (by kernel_rfl) (fun _ _ _ h => h) (Or.inl ⟨by rfl, ?_⟩) hHeld ?_
                  rotate_left
                  · (intro w hSw; (try dsimp only at hSw); go_simp <;> with_reducible rfl)
                  try simp only [Act.put, List.setIfInBounds_toArray, List.set_cons_zero, List.set_cons_succ]
                  refine wpAnyH_take (i := 7) (oi := ⟨_, _, _, _, _, _⟩) (v := undef) rfl (by kernel_rfl) (by kernel_rfl) (by kernel_rfl) (fun _ _ _ h => h) (Or.inr ⟨by rfl, rfl⟩) hHeld ?_
                  try simp only [Act.put, List.setIfInBounds_toArray, List.set_cons_zero, List.set_cons_succ]
                  refine wpAnyH_take (i := 8) (oi := ⟨_, _, _, _, _, _⟩) (v := undef) rfl (by kernel_rfl) (by kernel_rfl) (by kernel_rfl) (fun _ _ _ h => h) (Or.inr ⟨by rfl, rfl⟩) hHeld ?_
                  try simp only [Act.put, List.setIfInBounds_toArray, List.set_cons_zero, List.set_cons_succ]
                  refine wpAnyH_take (i := 9) (oi := ⟨_, _, _, _, _, _⟩) (v := undef) rfl (by kernel_rfl) (by kernel_rfl) (by kernel_rfl) (fun _ _ _ h => h) (Or.inr ⟨by rfl, rfl⟩) hHeld ?_
                  try simp only [Act.put, List.setIfInBounds_toArray, List.set_cons_zero, List.set_cons_succ]
                  refine wpAnyH_take (i := 10) (oi := ⟨_, _, _, _, _, _⟩) (v := undef) rfl (by kernel_rfl) (by kernel_rfl) (by kernel_rfl) (fun _ _ _ h => h) (Or.inr ⟨by rfl, rfl⟩) hHeld ?_
                  try simp only [Act.put, List.setIfInBounds_toArray, List.set_cons_zero, List.set_cons_succ]
                  refine wpAnyH_take (i := 11) (oi := ⟨_, _, _, _, _, _⟩) (v := undef) rfl (by kernel_rfl) (by kernel_rfl) (by kernel_rfl) (fun _ _ _ h => h) (Or.inr ⟨by rfl, rfl⟩) hHeld ?_
                  try simp only [Act.put, List.setIfInBounds_toArray, List.set_cons_zero, List.set_cons_succ]
                  refine wpAnyH_take (i := 12) (oi := ⟨_, _, _, _, _, _⟩) (v := undef) rfl (by kernel_rfl) (by kernel_rfl) (by kernel_rfl) (fun _ _ _ h => h) (Or.inr ⟨by rfl, rfl⟩) hHeld ?_
                  try simp only [Act.put, List.setIfInBounds_toArray, List.set_cons_zero, List.set_cons_succ]
                  refine wpAnyH_take (i := 13) (oi := ⟨_, _, _, _, _, _⟩) (v := undef) rfl (by kernel_rfl) (by kernel_rfl) (by kernel_rfl) (fun _ _ _ h => h) (Or.inr ⟨by rfl, rfl⟩) hHeld ?_
                  try simp only [Act.put, List.setIfInBounds_toArray, List.set_cons_zero, List.set_cons_succ]
                  refine wpAnyH_take (i := 14) (oi := ⟨_, _, _, _, _, _⟩) (v := undef) rfl (by kernel_rfl) (by kernel_rfl) (by kernel_rfl) (fun _ _ _ h => h) (Or.inr ⟨by rfl, rfl⟩) hHeld ?_
                  try simp only [Act.put, List.setIfInBounds_toArray, List.set_cons_zero, List.set_cons_succ]
                  refine wpAnyH_take (i := 15) (oi := ⟨_, _, _, _, _, _⟩) (v := ?_) rfl (by kernel_rfl) (by kernel_rfl) (by kernel_rfl) (fun _ _ _ h => h) (Or.inl ⟨by rfl, ?_⟩) hHeld ?_
                  rotate_left
                  · (intro w hSw; (try dsimp only at hSw); go_simp <;> with_reducible rfl)
                  try simp only [Act.put, List.setIfInBounds_toArray, List.set_cons_zero, List.set_cons_succ]
                  refine wpAnyH_done (by kernel_rfl) ?_ _
                  all_goals (go_wp2_with fail; go_meet)
                  exact ⟨by rw [hu]; rfl, (‹Kept wr.heap.size wr _›).2.1⟩
                · go_region_held3 (fun w' => Kept wr.heap.size wr w') (with_reducible first | assumption | exact Kept.drew (Kept.refl (Nat.le_refl _)) | exact Kept.step (by assumption) (by assumption)) (first | (go_at_call 23; refine (counts17_any h _).mono ?_; rw [hu]; rintro e w5 ⟨rfl, ho⟩))
                  all_goals (go_wp2_with fail; go_meet)
                  exact ⟨by rw [hu]; rfl, (‹Kept wr.heap.size wr _›).2.1⟩
              case rest =>
                obtain ⟨rfl, hz⟩ := hcut
                generalize wc = wq at *
                have hmz := Hm4.out.step hz
                have Hmz := Lib.hid hmz
                have hcz := belowCells hz
                have hstep := selLoop_succ me l k4 h Hh.out
                rw [Hacc.out, selStep_eq] at hstep
                have hcd : cand me h = !(!(h.up && h.has) || decide (h.v.bridge = me)) := by unfold cand; rw [addVec_bridge]; cases h.up <;> cases h.has <;> simp
                have Hstep := Lib.hid hstep; have Hcd := Lib.hid hcd
                have lz : b < wq.heap.size := Nat.lt_of_lt_of_le hbr hz.size
                clear hstep hcd r0 rg fg l0 lg hmz
                cases hb1 : (!(h.up && h.has) || decide (h.v.bridge = me))
                · have hcd := Hcd.out
                  rw [hb1] at hcd
                  have Hcd2 := Lib.hid hcd
                  clear hcd hb1
                  obtain ⟨d0, d1, d2, d3, d4, d5, d6, d7, d8, d9, d10, d11, d12, d13, d14, d15, d16, d17, d18, d19, d20⟩ := HeardsAt.cells (hcc.out.below hb Hmz.out.mem.below) Hh.out
                  clear hcz hz c0 c1 c2 c3 c4 c5 c6 c7 c8 c9 c10 c11 c12 c13 c14 c15 c16 c17 c18 c19 c20
                  have rg := cell_of_block Hmz.out.mg
                  have fg := frozen_of_block Hmz.out.mg
                  have lg := block_lt Hmz.out.mg
                  go_upto_region 24 with fail
                  go_cut [13] (fun s13 wy => s13 = .pointer (some ⟨wq.heap.size, 0, none⟩) ∧ Below wq.heap.size wq wy ∧ wy.heap[wq.heap.size]? = some (.cells (vecList (way h)).toArray 29 (0, 0)))
                  case first =>
                    have hB0 : Below wq.heap.size wq (wq.alloc (.cells (vecList { h.v with own := h.port }).toArray 29)) := (Below.refl _ _).alloc (Nat.le_refl _) _
                    have HB0 := Lib.hid hB0; clear hB0
                    refine wp_region_held_drew (S := fun w' => Kept wq.heap.size (wq.alloc (.cells (vecList { h.v with own := h.port }).toArray 29)) w') (by kernel_rfl) (Kept.drew (Kept.refl (by simp))) (fun hHeld => ?_)
                    refine wpAnyH_take (i := 1) (oi := ⟨_, _, _, _, _, _⟩) (v := ?_) rfl (by kernel_rfl) (by kernel_rfl) (by kernel_rfl) (fun _ _ _ h => h) (Or.inl ⟨by rfl, ?_⟩) hHeld ?_
                    rotate_left
                    · (intro w hSw; (try dsimp only at hSw); go_simp <;> with_reducible rfl)
                    try simp only [Act.put, List.setIfInBounds_toArray, List.set_cons_zero, List.set_cons_succ]
                    refine wpAnyH_take (i := 2) (oi := ⟨_, _, _, _, _, _⟩) (v := ?_) rfl (by kernel_rfl) (by kernel_rfl) (by kernel_rfl) (fun _ _ _ h => h) (Or.inl ⟨by rfl, ?_⟩) hHeld ?_
                    rotate_left
                    · (intro w hSw; (try dsimp only at hSw); go_simp <;> with_reducible rfl)
                    try simp only [Act.put, List.setIfInBounds_toArray, List.set_cons_zero, List.set_cons_succ]
                    refine wpAnyH_take (i := 3) (oi := ⟨_, _, _, _, _, _⟩) (v := ?_) rfl (by kernel_rfl) (by kernel_rfl) (by kernel_rfl) (fun _ _ _ h => h) (Or.inl ⟨by rfl, ?_⟩) hHeld ?_
                    rotate_left
                    · (intro w hSw; (try dsimp only at hSw); go_simp <;> with_reducible rfl)
                    try simp only [Act.put, List.setIfInBounds_toArray, List.set_cons_zero, List.set_cons_succ]
                    refine wpAnyH_take (i := 4) (oi := ⟨_, _, _, _, _, _⟩) (v := ?_) rfl (by kernel_rfl) (by kernel_rfl) (by kernel_rfl) (fun _ _ _ h => h) (Or.inl ⟨by rfl, ?_⟩) hHeld ?_
                    rotate_left
                    · (intro w hSw; (try dsimp only at hSw); go_simp <;> with_reducible rfl)
                    try simp only [Act.put, List.setIfInBounds_toArray, List.set_cons_zero, List.set_cons_succ]
                    refine wpAnyH_take (i := 5) (oi := ⟨_, _, _, _, _, _⟩) (v := ?_) rfl (by kernel_rfl) (by kernel_rfl) (by kernel_rfl) (fun _ _ _ h => h) (Or.inl ⟨by rfl, ?_⟩) hHeld ?_
                    rotate_left
                    · (intro w hSw; (try dsimp only at hSw); go_simp <;> with_reducible rfl)
                    try simp only [Act.put, List.setIfInBounds_toArray, List.set_cons_zero, List.set_cons_succ]
                    refine wpAnyH_ready (rs := [0]) (by kernel_rfl) (by simp) ?_
                    refine AllReadyH.cons (o := ⟨_, _, _, _, _, _⟩) rfl (fun K hK => ?_) AllReadyH.nil
                    go_simp
                    refine hK.out _ _ ?_ (fun hHeld => ?_)
                    · exact hHeld
                    clear hK K
                    try simp only [Act.put, List.setIfInBounds_toArray, List.set_cons_zero, List.set_cons_succ]
                    refine wpAnyH_ready (rs := [6]) (by kernel_rfl) (by simp) ?_
                    refine AllReadyH.cons (o := ⟨_, _, _, _, _, _⟩) rfl (fun K hK => ?_) AllReadyH.nil
                    (go_simp; go_at_call 24; refine (add16_any { h.v with own := h.port } h.cost _).mono ?_; rw [addVec_own]; rintro e w5 ⟨rfl, hcall⟩; have hcs2 := belowCells hcall; have hfs2 := belowFrozens hcall; go_wp2_with fail)
                    refine hK.out _ _ ?_ (fun hHeld => ?_)
                    · exact Kept.step (by assumption) (by assumption)
                    clear hK K
                    try simp only [Act.put, List.setIfInBounds_toArray, List.set_cons_zero, List.set_cons_succ]
                    refine wpAnyH_ready (rs := [7]) (by kernel_rfl) (by simp) ?_
                    refine AllReadyH.cons (o := ⟨_, _, _, _, _, _⟩) rfl (fun K hK => ?_) AllReadyH.nil
                    go_simp
                    refine hK.out _ _ ?_ (fun hHeld => ?_)
                    · exact Kept.put (by assumption) (Nat.le_refl _) _ _ _
                    clear hK K
                    try simp only [Act.put, List.setIfInBounds_toArray, List.set_cons_zero, List.set_cons_succ]
                    refine wpAnyH_done (by kernel_rfl) ?_ _
                    go_wp2_with fail
                    go_meet
                    exact ⟨rfl, (‹Kept wq.heap.size _ _›).fin HB0.out (Nat.le_refl _), heap_putCells_all (c := (vecList { h.v with own := h.port }).toArray) (by rw [hcall.block _ (by simp)]; exact heap_alloc_new wq _) rfl⟩
                  case rest =>
                    obtain ⟨rfl, hby, hvy⟩ := hcut
                    have hmy := Hmz.out.step hby
                    have Hmy := Lib.hid hmy
                    have lv := block_lt hvy
                    have Hvy := Lib.hid hvy
                    clear rg fg lg hby hvy hmy d0 d1 d2 d3 d4 d5 d6 d7 d8 d9 d10 d11 d12 d13 d14 d15 d16 d17 d18 d19 d20
                    have rv := cell_of_block Hvy.out
                    have rg := cell_of_block Hmy.out.mg
                    have fg := frozen_of_block Hmy.out.mg
                    generalize wq.heap.size = vb at *
                    have Hcmp := Lib.hid (fun W => cmp16_any (way h) best W)
                    cases hc2 : decide (cmpVec (way h) best < 0)
                    · have hs : selLoop me l (k4 + 1) = (best, root) := by rw [Hstep.out, if_neg (fun h' => of_decide_eq_false hc2 h'.2)]
                      have Hs4 := Lib.hid hs
                      clear hs
                      go_wp2_with (go_at_call 16; refine (Hcmp.out _).mono ?_; rintro e w5 ⟨rfl, hcall⟩; have hmx := Lib.hid (Hmy.out.step hcall))
                      go_roundw
                      case rel => exact ⟨k4 + 1, by omega, by go_num, by rw [Hs4.out], by rw [Hs4.out]; exact hmx.out⟩
                      case measure => simp [intOf]; omega
                    · have hs : selLoop me l (k4 + 1) = (way h, (k4 : Int)) := by rw [Hstep.out, if_pos ⟨by rw [Hcd2.out]; rfl, of_decide_eq_true hc2⟩]
                      have Hs4 := Lib.hid hs
                      clear hs
                      go_wp2_with (go_at_call 16; refine (Hcmp.out _).mono ?_; rintro e w5 ⟨rfl, hcall⟩; have hcs := belowCells hcall; have hfs := belowFrozens hcall; have hmx := Lib.hid (Hmy.out.step hcall); have lgy := block_lt Hmy.out.mg)
                      go_roundw
                      case rel => exact ⟨k4 + 1, by omega, by go_num, by rw [Hs4.out], by rw [Hs4.out]; exact hmx.out.put _⟩
                      case measure => simp [intOf]; omega
                · have hs : selLoop me l (k4 + 1) = (best, root) := by rw [Hstep.out, if_neg (by rw [Hcd.out, hb1]; simp)]
                  have Hs4 := Lib.hid hs
                  clear hs hb1 hcz hz c0 c1 c2 c3 c4 c5 c6 c7 c8 c9 c10 c11 c12 c13 c14 c15 c16 c17 c18 c19 c20
                  go_wp2
                  go_roundw
                  case rel => exact ⟨k4 + 1, by omega, by go_num, by rw [Hs4.out], by rw [Hs4.out]; exact Hmz.out⟩
                  case measure => simp [intOf]; omega
            · -- the roles
              have hkn4 : k4 = n := by omega
              have hsl : selLoop me l l.length = (best, root) := by rw [← Hl.out.1, ← hkn4]; exact Hacc.out
              have Hsl := Lib.hid hsl
              clear hsl hkn4 r0 rg fg l0 lg
              go_wp2_with fail
              obtain ⟨wo, rfl⟩ : ∃ wo : World, wo = wr := ⟨_, rfl⟩
              go_loopw [14, 15] (fun v i wr => Sel17R5 w me l n g best root wo.heap.size v i wr) (fun _ i _ => n - (intOf i).toNat)
              case atStart => exact ⟨0, Nat.zero_le _, rfl, Hm4.out, block_lt Hm4.out.mg, Nat.le_refl _, World.ownsRow_nil _ _ _ _⟩
              case round =>
                obtain ⟨k5, hk5, rfl, hm, hgb, hbs, hown⟩ := hrel
                have Hm5 := Lib.hid hm; have Hown := Lib.hid hown; have Hgb := Lib.hid hgb
                have r0 := cell_of_block hm.mem.m0
                have rg := cell_of_block hm.mg
                have l0 := block_lt hm.mem.m0
                have lg := block_lt hm.mg
                clear hm hown hgb
                by_cases hlt5 : k5 < n
                · obtain ⟨h, b, off, hh, rfl, hb, hc⟩ := Hl.out.get hlt5
                  obtain ⟨c0, c1, c2, c3, c4, c5, c6, c7, c8, c9, c10, c11, c12, c13, c14, c15, c16, c17, c18, c19, c20⟩ := HeardsAt.cells (hc.below hb Hm5.out.mem.below) hh
                  have hbr : b < wr.heap.size := Nat.lt_of_lt_of_le hb Hm5.out.mem.below.size
                  have hk0 : (0 : Int) ≤ (k5 : Int) := by omega
                  have hkn : (k5 : Int) < (n : Int) := by omega
                  have hrs := rolesLoop_succ me best root l k5 h hh
                  have Hrs := Lib.hid hrs; have Hc := Lib.hid hc; have Hh := Lib.hid hh
                  clear hh hc hrs
                  go_upto_region 34 with fail
                  go_cut [17] (fun s17 wz => s17 = .bool (h.up && h.has && decide (cmpVec { h.v with own := 0 } (offer me best h.port) < 0)) ∧ Below (wr.heap.size + 1) (wr.alloc (.cells (vecList { h.v with own := 0 }).toArray 29)) wz)
                  case first =>
                    cases hu : (h.up && h.has)
                    · refine wp_region_held_drew (S := fun w' => Kept (wr.heap.size + 1) (wr.alloc (.cells (vecList { h.v with own := 0 }).toArray 29)) w') (by kernel_rfl) (Kept.drew (Kept.refl (by simp))) (fun hHeld => ?_)
                      refine wpAnyH_take (i := 0) (oi := ⟨_, _, _, _, _, _⟩) (v := ?_) rfl (by kernel_rfl) (by kernel_rfl) (by kernel_rfl) (fun _ _ _ h => h) (Or.inl ⟨by rfl, ?_⟩) hHeld ?_
                      rotate_left
                      · (intro w hSw; (try dsimp only at hSw); go_simp <;> with_reducible rfl)
                      try simp only [Act.put, List.setIfInBounds_toArray, List.set_cons_zero, List.set_cons_succ]
                      refine wpAnyH_take (i := 1) (oi := ⟨_, _, _, _, _, _⟩) (v := ?_) rfl (by kernel_rfl) (by kernel_rfl) (by kernel_rfl) (fun _ _ _ h => h) (Or.inl ⟨by rfl, ?_⟩) hHeld ?_
                      rotate_left
                      · (intro w hSw; (try dsimp only at hSw); go_simp <;> with_reducible rfl)
                      try simp only [Act.put, List.setIfInBounds_toArray, List.set_cons_zero, List.set_cons_succ]
                      refine wpAnyH_take (i := 2) (oi := ⟨_, _, _, _, _, _⟩) (v := ?_) rfl (by kernel_rfl) (by kernel_rfl) (by kernel_rfl) (fun _ _ _ h => h) (Or.inl ⟨by rfl, ?_⟩) hHeld ?_
                      rotate_left
                      · (intro w hSw; (try dsimp only at hSw); go_simp <;> with_reducible rfl)
                      try simp only [Act.put, List.setIfInBounds_toArray, List.set_cons_zero, List.set_cons_succ]
                      refine wpAnyH_take (i := 3) (oi := ⟨_, _, _, _, _, _⟩) (v := ?_) rfl (by kernel_rfl) (by kernel_rfl) (by kernel_rfl) (fun _ _ _ h => h) (Or.inl ⟨by rfl, ?_⟩) hHeld ?_
                      rotate_left
                      · (intro w hSw; (try dsimp only at hSw); go_simp <;> with_reducible rfl)
                      try simp only [Act.put, List.setIfInBounds_toArray, List.set_cons_zero, List.set_cons_succ]
                      refine wpAnyH_ready (rs := [4]) (by kernel_rfl) (by simp) ?_
                      refine AllReadyH.cons (o := ⟨_, _, _, _, _, _⟩) rfl (fun K hK => ?_) AllReadyH.nil
                      (go_simp; go_at_call 23; refine (counts17_any h _).mono ?_; rw [hu]; rintro e w5 ⟨rfl, ho⟩; go_wp2_with fail)
                      refine hK.out _ _ ?_ (fun hHeld => ?_)
                      · exact Kept.step (by assumption) (by assumption)
                      clear hK K
                      try simp only [Act.put, List.setIfInBounds_toArray, List.set_cons_zero, List.set_cons_succ]
                      refine wpAnyH_take (i := 5) (oi := ⟨_, _, _, _, _, _⟩) (v := ?_) rfl (by kernel_rfl) (by kernel_rfl) (by kernel_rfl) (fun _ _ _ h => h) (Or.inl ⟨by rfl, ?_⟩) hHeld ?_
                      rotate_left
                      · (intro w hSw; (try dsimp only at hSw); go_simp <;> with_reducible rfl)
                      try simp only [Act.put, List.setIfInBounds_toArray, List.set_cons_zero, List.set_cons_succ]
                      refine wpAnyH_take (i := 6) (oi := ⟨_, _, _, _, _, _⟩) (v := undef) rfl (by kernel_rfl) (by kernel_rfl) (by kernel_rfl) (fun _ _ _ h => h) (Or.inr ⟨by rfl, rfl⟩) hHeld ?_
                      try simp only [Act.put, List.setIfInBounds_toArray, List.set_cons_zero, List.set_cons_succ]
                      refine wpAnyH_take (i := 7) (oi := ⟨_, _, _, _, _, _⟩) (v := undef) rfl (by kernel_rfl) (by kernel_rfl) (by kernel_rfl) (fun _ _ _ h => h) (Or.inr ⟨by rfl, rfl⟩) hHeld ?_
                      try simp only [Act.put, List.setIfInBounds_toArray, List.set_cons_zero, List.set_cons_succ]
                      refine wpAnyH_take (i := 8) (oi := ⟨_, _, _, _, _, _⟩) (v := undef) rfl (by kernel_rfl) (by kernel_rfl) (by kernel_rfl) (fun _ _ _ h => h) (Or.inr ⟨by rfl, rfl⟩) hHeld ?_
                      try simp only [Act.put, List.setIfInBounds_toArray, List.set_cons_zero, List.set_cons_succ]
                      refine wpAnyH_take (i := 9) (oi := ⟨_, _, _, _, _, _⟩) (v := undef) rfl (by kernel_rfl) (by kernel_rfl) (by kernel_rfl) (fun _ _ _ h => h) (Or.inr ⟨by rfl, rfl⟩) hHeld ?_
                      try simp only [Act.put, List.setIfInBounds_toArray, List.set_cons_zero, List.set_cons_succ]
                      refine wpAnyH_take (i := 10) (oi := ⟨_, _, _, _, _, _⟩) (v := undef) rfl (by kernel_rfl) (by kernel_rfl) (by kernel_rfl) (fun _ _ _ h => h) (Or.inr ⟨by rfl, rfl⟩) hHeld ?_
                      try simp only [Act.put, List.setIfInBounds_toArray, List.set_cons_zero, List.set_cons_succ]
                      refine wpAnyH_take (i := 11) (oi := ⟨_, _, _, _, _, _⟩) (v := undef) rfl (by kernel_rfl) (by kernel_rfl) (by kernel_rfl) (fun _ _ _ h => h) (Or.inr ⟨by rfl, rfl⟩) hHeld ?_
                      try simp only [Act.put, List.setIfInBounds_toArray, List.set_cons_zero, List.set_cons_succ]
                      refine wpAnyH_take (i := 12) (oi := ⟨_, _, _, _, _, _⟩) (v := undef) rfl (by kernel_rfl) (by kernel_rfl) (by kernel_rfl) (fun _ _ _ h => h) (Or.inr ⟨by rfl, rfl⟩) hHeld ?_
                      try simp only [Act.put, List.setIfInBounds_toArray, List.set_cons_zero, List.set_cons_succ]
                      refine wpAnyH_take (i := 13) (oi := ⟨_, _, _, _, _, _⟩) (v := undef) rfl (by kernel_rfl) (by kernel_rfl) (by kernel_rfl) (fun _ _ _ h => h) (Or.inr ⟨by rfl, rfl⟩) hHeld ?_
                      try simp only [Act.put, List.setIfInBounds_toArray, List.set_cons_zero, List.set_cons_succ]
                      refine wpAnyH_take (i := 14) (oi := ⟨_, _, _, _, _, _⟩) (v := undef) rfl (by kernel_rfl) (by kernel_rfl) (by kernel_rfl) (fun _ _ _ h => h) (Or.inr ⟨by rfl, rfl⟩) hHeld ?_
                      try simp only [Act.put, List.setIfInBounds_toArray, List.set_cons_zero, List.set_cons_succ]
                      refine wpAnyH_take (i := 15) (oi := ⟨_, _, _, _, _, _⟩) (v := undef) rfl (by kernel_rfl) (by kernel_rfl) (by kernel_rfl) (fun _ _ _ h => h) (Or.inr ⟨by rfl, rfl⟩) hHeld ?_
                      try simp only [Act.put, List.setIfInBounds_toArray, List.set_cons_zero, List.set_cons_succ]
                      refine wpAnyH_take (i := 16) (oi := ⟨_, _, _, _, _, _⟩) (v := undef) rfl (by kernel_rfl) (by kernel_rfl) (by kernel_rfl) (fun _ _ _ h => h) (Or.inr ⟨by rfl, rfl⟩) hHeld ?_
                      try simp only [Act.put, List.setIfInBounds_toArray, List.set_cons_zero, List.set_cons_succ]
                      refine wpAnyH_take (i := 17) (oi := ⟨_, _, _, _, _, _⟩) (v := ?_) rfl (by kernel_rfl) (by kernel_rfl) (by kernel_rfl) (fun _ _ _ h => h) (Or.inl ⟨by rfl, ?_⟩) hHeld ?_
                      rotate_left
                      · (intro w hSw; (try dsimp only at hSw); go_simp <;> with_reducible rfl)
                      try simp only [Act.put, List.setIfInBounds_toArray, List.set_cons_zero, List.set_cons_succ]
                      refine wpAnyH_take (i := 18) (oi := ⟨_, _, _, _, _, _⟩) (v := ?_) rfl (by kernel_rfl) (by kernel_rfl) (by kernel_rfl) (fun _ _ _ h => h) (Or.inl ⟨by rfl, ?_⟩) hHeld ?_
                      rotate_left
                      · (intro w hSw; (try dsimp only at hSw); go_simp <;> with_reducible rfl)
                      try simp only [Act.put, List.setIfInBounds_toArray, List.set_cons_zero, List.set_cons_succ]
                      refine wpAnyH_done (by kernel_rfl) ?_ _
                      all_goals (go_wp2_with fail; go_meet)
                      exact ⟨by rw [hu]; rfl, (‹Kept (wr.heap.size + 1) _ _›).2.1⟩
                    · go_region_held3 (fun w' => Kept (wr.heap.size + 1) (wr.alloc (.cells (vecList { h.v with own := 0 }).toArray 29)) w') (with_reducible first | assumption | exact Kept.drew (Kept.refl (by simp)) | exact Kept.step (by assumption) (by assumption)) (first | (go_at_call 23; refine (counts17_any h _).mono ?_; rw [hu]; rintro e w5 ⟨rfl, ho⟩) | (go_at_call 15; refine (offer17_any me best h.port _).mono ?_; rintro e w5 ⟨rfl, ho⟩) | (go_at_call 16; refine (cmp16_any { h.v with own := 0 } (offer me best h.port) _).mono ?_; rintro e w5 ⟨rfl, hcmp⟩))
                      all_goals (go_wp2_with fail; go_meet)
                      all_goals exact ⟨by rw [hu]; rfl, (‹Kept (wr.heap.size + 1) _ _›).2.1⟩
                  case rest =>
                    obtain ⟨rfl, hz⟩ := hcut
                    generalize wc = wq at *
                    have hzr : Below wr.heap.size wr wq := ((Below.refl _ _).alloc (Nat.le_refl _) _).trans (hz.mono (by omega))
                    have hv2 : wq.heap[wr.heap.size]? = some (.cells (vecList { h.v with own := 0 }).toArray 29 (0, 0)) := by rw [hz.block _ (by omega)]; exact heap_alloc_new _ _
                    have hm3 := Hm5.out.step hzr
                    have ho3 := own_below Hown.out hzr
                    have hbs3 := Nat.le_trans hbs hzr.size
                    have Hm3 := Lib.hid hm3; have Ho3 := Lib.hid ho3
                    have d2 : wq.cell? ⟨b, off + k5 * 21 + 2, none⟩ = some (.bool h.up) := by rw [hzr.cell (p := ⟨b, off + k5 * 21 + 2, none⟩) hbr]; exact c2
                    have rv := cell_of_block hv2
                    have m0 := cell_of_block hm3.mem.m0
                    have lv := block_lt hv2
                    have lm := block_lt hm3.mem.m0
                    obtain ⟨ti, hti, hz1, hz2, hz3⟩ := intInfo
                    clear hm3 ho3 hz hzr hv2 c0 c1 c2 c3 c4 c5 c6 c7 c8 c9 c10 c11 c12 c13 c14 c15 c16 c17 c18 c19 c20 r0 rg l0 lg
                    cases hup : h.up
                    · rw [hup] at d2
                      have hx : roleOf me best root k5 h = 0 := by unfold roleOf; rw [if_pos hup]
                      have Hx := Lib.hid hx
                      clear hx
                      go_wp2_with (at_builtin; refine wpList_append_own _ rfl (.tmp 171) (.tmp 172) 30 rfl wo.heap.size 3 ti _ 1 8 Try.underlying30 hti hz1 hz2 hz3 rfl (by decide) _ k5 _ rfl (Ho3.out.alloc _) ⟨wq.heap.size, 0, none⟩ 1 1 [.int .i64 0] rfl rfl (news_of_block (heap_alloc_new _ _)) (one_num _) (by unfold maxLen; omega) (by omega) (by simp; omega) ?_; intro v' w6 hown' hgrow _)
                      go_roundw
                      case rel => exact r5_snoc (by omega) Hm3.out Hgb.out hbs3 Ho3.out Hrs.out Hx.out hown' hgrow _ (by go_num)
                      case measure => simp [intOf]; omega
                    · rw [hup] at d2
                      by_cases hroot : (k5 : Int) = root
                      · have hx : roleOf me best root k5 h = 1 := by unfold roleOf; rw [if_neg (by simp [hup]), if_pos hroot]
                        have Hx := Lib.hid hx
                        have hbr2 : ((k5 : Int) == root) = true := by simpa using hroot
                        clear hx hroot
                        go_wp2_with (at_builtin; refine wpList_append_own _ rfl (.tmp 178) (.tmp 179) 30 rfl wo.heap.size 3 ti _ 1 8 Try.underlying30 hti hz1 hz2 hz3 rfl (by decide) _ k5 _ rfl (Ho3.out.alloc _) ⟨wq.heap.size, 0, none⟩ 1 1 [.int .i64 1] rfl rfl (news_of_block (heap_alloc_new _ _)) (one_num _) (by unfold maxLen; omega) (by omega) (by simp; omega) ?_; intro v' w6 hown' hgrow _)
                        go_roundw
                        case rel => exact r5_snoc (by omega) Hm3.out Hgb.out hbs3 Ho3.out Hrs.out Hx.out hown' hgrow _ (by go_num)
                        case measure => simp [intOf]; omega
                      · have hx0 : roleOf me best root k5 h = if h.has = false then 2 else if 0 ≤ cmpVec { h.v with own := 0 } (offer me best h.port) then 2 else if h.v.bridge = me then 4 else 3 := by
                          unfold roleOf; rw [if_neg (by simp [hup]), if_neg hroot]
                        have Hx0 := Lib.hid hx0
                        have hbr2 : ((k5 : Int) == root) = false := by simpa using hroot
                        clear hx0 hroot
                        cases hbet : (true && h.has && decide (cmpVec { h.v with own := 0 } (offer me best h.port) < 0))
                        · have hx : roleOf me best root k5 h = 2 := by
                            rw [Hx0.out]
                            rw [Bool.true_and, Bool.and_eq_false_iff] at hbet
                            rcases hbet with hb' | hb'
                            · rw [if_pos hb']
                            · split
                              · rfl
                              · rw [if_pos (by have := of_decide_eq_false hb'; omega)]
                          have Hx := Lib.hid hx
                          clear hx hbet
                          go_wp2_with (at_builtin; refine wpList_append_own _ rfl (.tmp 161) (.tmp 162) 30 rfl wo.heap.size 3 ti _ 1 8 Try.underlying30 hti hz1 hz2 hz3 rfl (by decide) _ k5 _ rfl (Ho3.out.alloc _) ⟨wq.heap.size, 0, none⟩ 1 1 [.int .i64 2] rfl rfl (news_of_block (heap_alloc_new _ _)) (one_num _) (by unfold maxLen; omega) (by omega) (by simp; omega) ?_; intro v' w6 hown' hgrow _)
                          go_roundw
                          case rel => exact r5_snoc (by omega) Hm3.out Hgb.out hbs3 Ho3.out Hrs.out Hx.out hown' hgrow _ (by go_num)
                          case measure => simp [intOf]; omega
                        · rw [Bool.true_and, Bool.and_eq_true] at hbet
                          have hx1 : roleOf me best root k5 h = if h.v.bridge = me then 4 else 3 := by
                            rw [Hx0.out, if_neg (by rw [hbet.1]; decide), if_neg (by have := of_decide_eq_true hbet.2; omega)]
                          have he := fun w => eql_id h.v.bridge me w
                          clear hbet
                          cases hbm : decide (h.v.bridge = me)
                          · simp only [hbm] at he
                            rw [if_neg (of_decide_eq_false hbm)] at hx1
                            have Hx := Lib.hid hx1
                            clear hx1 hbm
                            go_wp2_with (at_builtin; refine wpList_append_own _ rfl (.tmp 194) (.tmp 195) 30 rfl wo.heap.size 3 ti _ 1 8 Try.underlying30 hti hz1 hz2 hz3 rfl (by decide) _ k5 _ rfl (Ho3.out.alloc _) ⟨wq.heap.size, 0, none⟩ 1 1 [.int .i64 3] rfl rfl (news_of_block (heap_alloc_new _ _)) (one_num _) (by unfold maxLen; omega) (by omega) (by simp; omega) ?_; intro v' w6 hown' hgrow _)
                            go_roundw
                            case rel => exact r5_snoc (by omega) Hm3.out Hgb.out hbs3 Ho3.out Hrs.out Hx.out hown' hgrow _ (by go_num)
                            case measure => simp [intOf]; omega
                          · simp only [hbm] at he
                            rw [if_pos (of_decide_eq_true hbm)] at hx1
                            have Hx := Lib.hid hx1
                            clear hx1 hbm
                            go_wp2_with (at_builtin; refine wpList_append_own _ rfl (.tmp 189) (.tmp 190) 30 rfl wo.heap.size 3 ti _ 1 8 Try.underlying30 hti hz1 hz2 hz3 rfl (by decide) _ k5 _ rfl (Ho3.out.alloc _) ⟨wq.heap.size, 0, none⟩ 1 1 [.int .i64 4] rfl rfl (news_of_block (heap_alloc_new _ _)) (one_num _) (by unfold maxLen; omega) (by omega) (by simp; omega) ?_; intro v' w6 hown' hgrow _)
                            go_roundw
                            case rel => exact r5_snoc (by omega) Hm3.out Hgb.out hbs3 Ho3.out Hrs.out Hx.out hown' hgrow _ (by go_num)
                            case measure => simp [intOf]; omega
                · obtain rfl : k5 = n := by omega
                  have sz := cell_of_block Hm5.out.mem.mz
                  have fz := frozen_of_block Hm5.out.mem.mz
                  clear r0
                  go_wp2
                  refine bodyPost_ret (v := .tuple #[best.val, u14, .int .i64 0]) (results_row3 (p := 4) (u := 5) (v := 6) (l := vecList best) (n := 17) (a := ⟨w.heap.size + 1, 0, none⟩) rfl rfl (Try.isAgg29 _) (Try.sizeOf29 _) (allSome_block (heap_putCells_all Hm5.out.mem.mz rfl) rfl)) rfl ?_
                  exact sel17_end Hm5.out Hgb.out Hown.out Hf.out Hl.out.1 Hsl.out
end Go.Proofs.Ytbfpmgcadinmbaa
