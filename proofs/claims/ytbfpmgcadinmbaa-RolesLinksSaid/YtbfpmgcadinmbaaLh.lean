/-
  The walk of the law RolesLinks.
-/
import Derived.Test.YtbfpmgcadinmbaaLg
namespace Go.Proofs.Ytbfpmgcadinmbaa
set_option linter.unusedVariables false
set_option linter.unusedSimpArgs false
open Go Go.RowKit Go.Maps
attribute [local go_sem ↓] exec_loadVec exec_storeVec exec_loadHeard exec_storeHeard
attribute [local go_sem] ldRow_ptr ldFin_some cellsAt_succ cellsAt_zero allSome_cons allSome_nil stRow_ptr stFin_true allOne_cons allOne_nil there_succ there_zero frozens_succ frozens_zero one_int one_bool putCells_alloc_at putCells_alloc_old over_all

def LinkR1 (w1 : World) (costs : List Int) (n : Nat) (one two idx : Value) (wr : World) : Prop :=
  ∃ k : Nat, k ≤ n ∧ idx = iV k ∧ (∀ c ∈ costs.take k, 1 ≤ c ∧ c ≤ 200000000) ∧ wr.ownsRow w1.heap.size 38 21 one k ((linkList (costs.take k)).flatMap heardList) ∧
    wr.ownsRow w1.heap.size 38 21 two k ((linkList (costs.take k)).flatMap heardList) ∧ (∀ g, one.ownBlock = some g → two.ownBlock ≠ some g) ∧ Below w1.heap.size w1 wr

def LinkR2 (w1 : World) (a b : Id) (costs : List Int) (n g1 g2 : Nat) (x y turn : Value) (wr : World) : Prop :=
  ∃ t : Nat, t ≤ 3 ∧ turn = iV t ∧ LinkMem w1 g1 g2 (linkState a b costs t).1 (linkState a b costs t).2 wr ∧
    (t = 0 ∨ ∃ s Bx By e1 e2 v1 v2, t = s + 1 ∧ x = .slice (some ⟨Bx, 0, none⟩) n n ∧ y = .slice (some ⟨By, 0, none⟩) n n ∧
      SelOut g1 g2 v1 (selRoles a (linkState a b costs s).1) Bx e1 wr ∧ SelOut g1 g2 v2 (selRoles b (linkState a b costs s).2) By e2 wr)

def LinkR3 (w1 : World) (a b : Id) (L1 L2 : List Heard) (best also : Vec) (xl yl : List Int) (n g1 g2 Bx By e1 e2 : Nat) (idx : Value) (wr : World) : Prop :=
  ∃ i : Nat, i ≤ n ∧ idx = iV i ∧ LinkMem w1 g1 g2 (tellTo b also yl L1 i) (tellTo a best xl L2 i) wr ∧ SelOut g1 g2 best xl Bx e1 wr ∧ SelOut g1 g2 also yl By e2 wr

set_option maxRecDepth 100000 in
set_option maxHeartbeats 8000000 in
theorem links_few (a b : Id) (ad : Option Addr) (n cap : Nat) (costs : List Int) (w : World) (h : IsInts w ad n costs) (hab : a ≠ b) (hn1 : 1 ≤ n) (hn : n ≤ 20) :
    Calls Try.prog 6 #[a.val, b.val, .slice ad n cap] w fun e w' => e = .returned (.bool true) ∧ Below w.heap.size w w' := by
  obtain ⟨ti, hti, hz1, hz2, hz3⟩ := heardInfo
  have hd1 : decide ((n : Int) < 1) = false := by rw [decide_eq_false_iff_not]; omega
  have hd2 : decide ((20 : Int) < (n : Int)) = false := by rw [decide_eq_false_iff_not]; omega
  have he := fun w => eql_id a b w
  rw [decide_eq_false hab] at he
  have Hl := Lib.hid h; have Hab := Lib.hid hab; clear h hab
  go_enter Try.func6, Try.ntmps6
  go_wp2_with (go_at_call 10; refine (awake_any _).mono ?_; rintro e w1 ⟨rfl, haw⟩; have hcw := belowCells haw)
  have hb0 : Below w.heap.size w w1 := (((Below.refl _ _).alloc (Nat.le_refl _) _).alloc (by simp) _).trans (haw.mono (by simp; omega))
  have hm0 : w1.heap[w.heap.size]? = some (.cells (idList a).toArray 25 (0, 0)) := by
    rw [haw.block _ (by simp; omega), heap_alloc_old _ _ (by simp)]; exact heap_alloc_new _ _
  have hm1 : w1.heap[w.heap.size + 1]? = some (.cells (idList b).toArray 25 (0, 0)) := by
    rw [haw.block _ (by simp)]; exact heap_new1 _ _ _
  have Hb0 := Lib.hid hb0; have Hm0 := Lib.hid hm0; have Hm1 := Lib.hid hm1
  have H1 := Lib.hid (Hl.out.below hb0)
  clear haw hb0 hm0 hm1 hcw
  go_loopw [8, 9, 10] (fun one two idx wr => LinkR1 w1 costs n one two idx wr) (fun _ _ idx _ => n - (intOf idx).toNat)
  case atStart => exact ⟨0, Nat.zero_le _, rfl, by simp, World.ownsRow_nil _ _ _ _, World.ownsRow_nil _ _ _ _, (fun g hg => by cases hg), Below.refl _ _⟩
  case round =>
    obtain ⟨k, hk, rfl, hcost, hown1, hown2, hne, hbel⟩ := hrel
    have Hcost := Lib.hid hcost; have Hown1 := Lib.hid hown1; have Hown2 := Lib.hid hown2; have Hne := Lib.hid hne; have Hbel := Lib.hid hbel
    clear hcost hown1 hown2 hne hbel
    by_cases hlt : k < n
    · obtain ⟨bb, off, rfl, hbb, hc⟩ := H1.out.2.2 (by omega)
      have hkl : k < costs.length := by rw [← H1.out.1]; exact hlt
      obtain ⟨c, hcc⟩ : ∃ c, costs[k]? = some c := ⟨costs[k], List.getElem?_eq_getElem hkl⟩
      have c0 : wr.cell? ⟨bb, off + k, none⟩ = some (iV c) := by rw [Hbel.out.cell (p := ⟨bb, off + k, none⟩) hbb]; exact hc k c hcc
      have Hcc := Lib.hid hcc; have Hcw := Lib.hid (hc k c hcc); have Hbb := Lib.hid hbb
      have hk0 : (0 : Int) ≤ (k : Int) := by omega
      have hkn : (k : Int) < (n : Int) := by omega
      clear hc hkl hcc hbb
      by_cases hc1 : c < 1
      · have d1 : decide (c < 1) = true := decide_eq_true hc1
        clear hc1
        go_wp2
        go_ret
        exact ⟨rfl, Hb0.out.trans (Hbel.out.mono Hb0.out.size)⟩
      · have d1 : decide (c < 1) = false := decide_eq_false hc1
        by_cases hc2 : 200000000 < c
        · have d2 : decide (200000000 < c) = true := decide_eq_true hc2
          clear hc1 hc2
          go_wp2
          go_ret
          exact ⟨rfl, Hb0.out.trans (Hbel.out.mono Hb0.out.size)⟩
        · have d2 : decide (200000000 < c) = false := decide_eq_false hc2
          have Hc1 := Lib.hid hc1; have Hc2 := Lib.hid hc2
          have hbs := Hbel.out.size
          have Hs := Lib.hid (link_snoc costs k c Hcc.out)
          clear hc1 hc2
          go_wp2_with (first | (at_builtin; refine wpList_append_lies _ rfl (.tmp 60) (.tmp 68) 26 rfl w1.heap.size 38 ti _ 21 80 Try.underlying26 hti hz1 hz2 hz3 rfl (by decide) _ k _ rfl (Hown1.out.alloc _) ⟨wr.heap.size, 0, none⟩ 1 1 (linkCells k c) rfl rfl (news_of_block (heap_alloc_new _ _)) (one_link k c) (by decide) (by unfold maxLen; omega) (by omega) (by simp; omega) (wr.heap.size + 1) (by simp) ?_; intro p1 cp1 w2 hp1 hgr1 hat1 hlt1; have Hq := Lib.hid (kept_other (Hown2.out.alloc _) hgr1 Hne.out); have hs2 := Nat.le_trans hbs (Nat.le_trans (by simp) hgr1.size); have Hb2 := Lib.hid ((Hbel.out.alloc hbs _).grown hgr1 (by simp; omega) (own_block_ge Hown1.out)); have c0b : w2.cell? ⟨bb, off + k, none⟩ = some (iV c) := (Hb2.out.cell (p := ⟨bb, off + k, none⟩) Hbb.out).trans Hcw.out) | (at_builtin; refine wpList_append_lies _ rfl (.tmp 70) (.tmp 78) 26 rfl w1.heap.size 38 ti _ 21 80 Try.underlying26 hti hz1 hz2 hz3 rfl (by decide) _ k _ rfl (Hq.out.alloc _) ⟨w2.heap.size, 0, none⟩ 1 1 (linkCells k c) rfl rfl (news_of_block (heap_alloc_new _ _)) (one_link k c) (by decide) (by unfold maxLen; omega) (by omega) (by simp; omega) (w2.heap.size + 1) (by simp) ?_; intro p2 cp2 w3 hp2 hgr2 hat2 hlt2))
          go_roundw
          case rel =>
            have hp1' := kept_other (u := u9) (hp1.alloc _) hgr2 (fun g hg e => by
              injection e with e
              have e' : p1 = g := e
              subst e'
              rcases hat1 with h | h
              · exact Hne.out _ h hg
              · have := (Hown2.out.lt _ hg).2; omega)
            refine ⟨k + 1, by omega, by go_num, ?_, ?_, ?_, rows_apart Hne.out hat1 hat2 (by omega) (fun g hg => by have := (Hown2.out.lt _ hg).2; omega), (Hb2.out.alloc hs2 _).grown hgr2 (by simp; omega) (own_block_ge Hown2.out)⟩
            · intro x hx
              rw [List.take_add_one, Hcc.out] at hx
              rcases List.mem_append.1 hx with hx | hx
              · exact Hcost.out x hx
              · have : x = c := by simpa using hx
                subst this
                have h1 := Hc1.out
                have h2 := Hc2.out
                omega
            · rw [Hs.out]; exact hp1'
            · rw [Hs.out]; exact hp2
          case measure => simp [intOf]; omega
    · have hkn : k = n := by omega
      subst hkn
      have hlen := H1.out.1
      have Hcost2 := Lib.hid Hcost.out
      have h1 := Hown1.out
      have h2 := Hown2.out
      rw [List.take_of_length_le (by omega)] at h1 h2
      obtain ⟨g1, cap1, rfl, hg1⟩ := h1.form (by omega)
      obtain ⟨g2, cap2, rfl, hg2⟩ := h2.form (by omega)
      obtain ⟨hr1, l1⟩ := HRow.of_own h1 (by simp [linkList]; omega)
      obtain ⟨hr2, l2⟩ := HRow.of_own h2 (by simp [linkList]; omega)
      have hm : LinkMem w1 g1 g2 (linkState a b costs 0).1 (linkState a b costs 0).2 wr := ⟨Hbel.out, hr1, hr2, l1, l2, fun e => Hne.out g1 rfl (by rw [e]; rfl)⟩
      have Hm := Lib.hid hm
      clear h1 h2 hg1 hg2 hr1 hr2 l1 l2 hm hlen
      go_wp2_with fail
      go_loopw [11, 12, 13] (fun x y turn wr => LinkR2 w1 a b costs k g1 g2 x y turn wr) (fun _ _ turn _ => 3 - (intOf turn).toNat)
      case atStart => exact ⟨0, by omega, rfl, Hm.out, Or.inl rfl⟩
      case round =>
        obtain ⟨t, ht, rfl, hm, hprev⟩ := hrel
        have Hm2 := Lib.hid hm; have Hprev := Lib.hid hprev
        clear hm hprev
        by_cases htl : t < 3
        · have hst : linkState a b costs (t + 1) = (tellTo b (selBest b (linkState a b costs t).2) (selRoles b (linkState a b costs t).2) (linkState a b costs t).1 costs.length,
            tellTo a (selBest a (linkState a b costs t).1) (selRoles a (linkState a b costs t).1) (linkState a b costs t).2 costs.length) := rfl
          have hps := ports_state a b costs t
          have hcs : ∀ c ∈ costs, 1 ≤ c ∧ c ≤ 200000000 := fun c hc => Hcost2.out c (by rw [List.take_of_length_le (by have := H1.out.1; omega)]; exact hc)
          have hlen := H1.out.1
          have hf1 := ports_fair hps.1 (by omega) hcs
          have hf2 := ports_fair hps.2 (by omega) hcs
          have hl1 := hps.1.len
          have hl2 := hps.2.len
          have hr1 : (selRoles a (linkState a b costs t).1).length = k := by rw [selRoles_length]; omega
          have hr2 : (selRoles b (linkState a b costs t).2).length = k := by rw [selRoles_length]; omega
          have hpos : 0 < wr.heap.size := Nat.lt_of_le_of_lt (Nat.zero_le _) Hm2.out.h1.lt
          have hs1 := select_good' a (some ⟨g1, 0, none⟩) k cap1 (linkState a b costs t).1 wr (Hm2.out.h1.is (by omega) (by omega)) hpos hf1
          have hs2 := fun W (hB : Below wr.heap.size wr W) => select_good' b (some ⟨g2, 0, none⟩) k cap2 (linkState a b costs t).2 W ((Hm2.out.h2.step hB).is (by omega) (by omega)) (Nat.lt_of_lt_of_le hpos hB.size) hf2
          have Hs1 := Lib.hid hs1; have Hs2 := Lib.hid hs2; have Hst := Lib.hid hst
          have HR1 := Lib.hid hr1; have HR2 := Lib.hid hr2; have HL1 := Lib.hid hl1; have HL2 := Lib.hid hl2
          clear hlen hst hps hcs hf1 hf2 hl1 hl2 hpos hs1 hs2 hr1 hr2
          generalize hX1 : selBest a (linkState a b costs t).1 = best at *
          generalize hX2 : selBest b (linkState a b costs t).2 = also at *
          generalize hX3 : selRoles a (linkState a b costs t).1 = xl at *
          generalize hX4 : selRoles b (linkState a b costs t).2 = yl at *
          have HX3 := Lib.hid hX3; have HX4 := Lib.hid hX4
          clear hX1 hX2 hX3 hX4
          have hb := Hm2.out.below
          have m0 : wr.heap[w.heap.size]? = some (.cells (idList a).toArray 25 (0, 0)) := by rw [hb.block _ (block_lt Hm0.out)]; exact Hm0.out
          have m1 : wr.heap[w.heap.size + 1]? = some (.cells (idList b).toArray 25 (0, 0)) := by rw [hb.block _ (block_lt Hm1.out)]; exact Hm1.out
          have r0 := cell_of_block m0
          have HM1 := Lib.hid m1
          clear hb m0 m1
          go_wp2_with fail
          refine Hs1.out.mono ?_
          rintro e w2 ⟨B1, rfl, hB1, hrow1, hbel1⟩
          have hbz : Below wr.heap.size wr (w2.alloc (.cells (vecList best).toArray 29)) := hbel1.alloc hbel1.size _
          have m1 : w2.heap[w.heap.size + 1]? = some (.cells (idList b).toArray 25 (0, 0)) := by rw [hbel1.block _ (block_lt HM1.out)]; exact HM1.out
          have k1 := block_lt m1
          have r1 := cell_of_block m1
          have HB1 := Lib.hid hB1; have HRow1 := Lib.hid hrow1; have Hbel1 := Lib.hid hbel1; have Hbz := Lib.hid hbz
          clear hB1 hrow1 hbel1 hbz m1 r0
          go_wp2_with fail
          refine (Hs2.out _ Hbz.out).mono ?_
          rintro e w3 ⟨B2, rfl, hB2, hrow2, hbel2⟩
          have HB2 := Lib.hid hB2; have HRow2 := Lib.hid hrow2; have Hbel2 := Lib.hid hbel2
          clear hB2 hrow2 hbel2 k1 r1
          have hbw : Below wr.heap.size wr (w3.alloc (.cells (vecList also).toArray 29)) := (Hbz.out.trans (Hbel2.out.mono Hbz.out.size)).alloc (Nat.le_trans Hbz.out.size Hbel2.out.size) _
          have hz2 : w2.heap.size < w3.heap.size := by have := Hbel2.out.size; simp at this; omega
          have hB1 := HB1.out
          have hB2 := HB2.out
          simp at hB2
          have hlg1 := Hm2.out.h1.lt
          have hlg2 := Hm2.out.h2.lt
          have hsw := Hbel1.out.size
          have hrow1 : w3.heap[B1]? = some (.cells (xl.map iV).toArray 3 (0, 0)) := by
            rw [Hbel2.out.block _ (by have := block_lt HRow1.out; simp; omega), heap_alloc_old _ _ (block_lt HRow1.out)]; exact HRow1.out
          have hvec1 : w3.heap[w2.heap.size]? = some (.cells (vecList best).toArray 29 (0, 0)) := by
            rw [Hbel2.out.block _ (by simp)]; exact heap_alloc_new _ _
          have ho1 : SelOut g1 g2 best xl B1 w2.heap.size (w3.alloc (.cells (vecList also).toArray 29)) :=
            ⟨by rw [heap_alloc_old _ _ (block_lt hrow1)]; exact hrow1, by rw [heap_alloc_old _ _ (block_lt hvec1)]; exact hvec1, by omega, by omega, by omega, by omega⟩
          have ho2 : SelOut g1 g2 also yl B2 w3.heap.size (w3.alloc (.cells (vecList also).toArray 29)) :=
            ⟨by rw [heap_alloc_old _ _ (block_lt HRow2.out)]; exact HRow2.out, heap_alloc_new _ _, by omega, by omega, by omega, by omega⟩
          have Hm3 := Lib.hid (Hm2.out.step hbw); have HO1 := Lib.hid ho1; have HO2 := Lib.hid ho2
          clear hbw hz2 hB1 hB2 hlg1 hlg2 hsw hrow1 hvec1 ho1 ho2
          go_wp2_with fail
          obtain ⟨wo, rfl⟩ : ∃ wo : World, wo = wr := ⟨_, rfl⟩
          go_loopw [20] (fun idx wr => LinkR3 w1 a b (linkState a b costs t).1 (linkState a b costs t).2 best also xl yl k g1 g2 B1 B2 w2.heap.size w3.heap.size idx wr) (fun idx _ => k - (intOf idx).toNat)
          case atStart => exact ⟨0, Nat.zero_le _, rfl, by rw [tellTo_zero, tellTo_zero]; exact Hm3.out, HO1.out, HO2.out⟩
          case round =>
            obtain ⟨i, hi, rfl, hm, ho1, ho2⟩ := hrel
            have Hm4 := Lib.hid hm; have HP1 := Lib.hid ho1; have HP2 := Lib.hid ho2
            clear hm ho1 ho2
            by_cases hil : i < k
            · obtain ⟨p, hp⟩ : ∃ p, xl[i]? = some p := ⟨xl[i]'(by rw [HR1.out]; exact hil), List.getElem?_eq_getElem _⟩
              obtain ⟨q, hq⟩ : ∃ q, yl[i]? = some q := ⟨yl[i]'(by rw [HR2.out]; exact hil), List.getElem?_eq_getElem _⟩
              have cp : wr.cell? ⟨B1, i, none⟩ = some (iV p) := by rw [cell_of_block HP1.out.mr]; simp [hp]
              have Hp := Lib.hid hp; have Hq := Lib.hid hq
              have hi0 : (0 : Int) ≤ (i : Int) := by omega
              have hik : (i : Int) < (k : Int) := by omega
              clear hp hq
              go_upto_if 114 with (fail)
              go_cut [] (fun wz => LinkMem w1 g1 g2 (tellTo b also yl (linkState a b costs t).1 i) (tellTo a best xl (linkState a b costs t).2 (i + 1)) wz ∧ SelOut g1 g2 best xl B1 w2.heap.size wz ∧ SelOut g1 g2 also yl B2 w3.heap.size wz)
              case first =>
                by_cases hp2 : p = 2
                · subst hp2
                  obtain ⟨x, hx⟩ : ∃ x, (linkState a b costs t).2[i]? = some x := ⟨_, List.getElem?_eq_getElem (by have := HL2.out; have := H1.out.1; omega)⟩
                  have hx' : (tellTo a best xl (linkState a b costs t).2 i)[i]? = some x := by rw [tellTo_here]; exact hx
                  have Hset := Lib.hid (tellTo_yes a best xl (linkState a b costs t).2 i x hx Hp.out)
                  have c3 := Hm4.out.h2.at_ i x hx' 3 _ rfl
                  rw [Nat.zero_add] at c3
                  have fr := Hm4.out.h2.frozen
                  have HX := Lib.hid hx'
                  clear hx hx'
                  go_upto_region 25 with (fail)
                  have hmy := Hm4.out.has2 i x HX.out
                  have hpy1 := HP1.out.cell g2 (i * 21 + 3) (Or.inr rfl) (.bool true)
                  have hpy2 := HP2.out.cell g2 (i * 21 + 3) (Or.inr rfl) (.bool true)
                  clear c3 fr cp
                  generalize wr.setCell ⟨g2, i * 21 + 3, none⟩ (.bool true) = wy at *
                  have hx2 : ((tellTo a best xl (linkState a b costs t).2 i).set i { x with has := true })[i]? = some { x with has := true } := by
                    rw [List.getElem?_set, if_pos rfl, if_pos (List.getElem?_eq_some_iff.1 HX.out).1]
                  have Hx2 := Lib.hid hx2
                  have hat := hmy.h2.at_
                  obtain ⟨c0, c1, c2, c3, c4, c5, c6, c7, c8, c9, c10, c11, c12, c13, c14, c15, c16, c17, c18, c19, c20⟩ := HeardsAt.cells hat hx2
                  simp only [Nat.zero_add] at c4 c5 c6 c7 c8 c9 c10 c11 c12 c13 c14 c15 c16 c17 c18 c19 c20
                  have fr := hmy.h2.frozen
                  have lg := hmy.h2.lt
                  have hb := hmy.below
                  have m0 : wy.heap[w.heap.size]? = some (.cells (idList a).toArray 25 (0, 0)) := by rw [hb.block _ (block_lt Hm0.out)]; exact Hm0.out
                  have r0 := cell_of_block m0
                  have rv := cell_of_block hpy1.mv
                  have Hmy := Lib.hid hmy; have HY1 := Lib.hid hpy1; have HY2 := Lib.hid hpy2
                  clear hmy hpy1 hpy2 hx2 hat c0 c1 c2 c3 hb m0
                  go_wp2_with (go_at_call 14; refine (offer_any a best ((i : Int) + 1) _).mono ?_; rintro e w5 ⟨rfl, hof⟩; have hcs := belowCells hof; have hfs := belowFrozens hof)
                  go_meet
                  have hm5 := (Hmy.out.step hof).v2 i _ Hx2.out (offer a best ((i : Int) + 1))
                  rw [List.set_set] at hm5
                  exact ⟨by rw [Hset.out]; exact hm5, (HY1.out.step hof).put g2 _ (Or.inr rfl) _, (HY2.out.step hof).put g2 _ (Or.inr rfl) _⟩
                · have hpb : (p == 2) = false := by simpa using hp2
                  have Hp2 := Lib.hid hp2
                  clear hp2
                  go_wp2_with fail
                  go_meet
                  exact ⟨by rw [tellTo_no _ _ _ _ _ (by rw [Hp.out]; intro e; injection e with e; exact Hp2.out e)]; exact Hm4.out, HP1.out, HP2.out⟩
              case rest =>
                obtain ⟨hm, ho1, ho2⟩ := hcut
                have Hm6 := Lib.hid hm; have HQ1 := Lib.hid ho1; have HQ2 := Lib.hid ho2
                clear hm ho1 ho2 cp
                generalize wc = wq at *
                have cq : wq.cell? ⟨B2, i, none⟩ = some (iV q) := by rw [cell_of_block HQ2.out.mr]; simp [Hq.out]
                by_cases hq2 : q = 2
                · subst hq2
                  obtain ⟨x, hx⟩ : ∃ x, (linkState a b costs t).1[i]? = some x := ⟨_, List.getElem?_eq_getElem (by have := HL1.out; have := H1.out.1; omega)⟩
                  have hx' : (tellTo b also yl (linkState a b costs t).1 i)[i]? = some x := by rw [tellTo_here]; exact hx
                  have Hset := Lib.hid (tellTo_yes b also yl (linkState a b costs t).1 i x hx Hq.out)
                  have c3 := Hm6.out.h1.at_ i x hx' 3 _ rfl
                  rw [Nat.zero_add] at c3
                  have fr := Hm6.out.h1.frozen
                  have HX := Lib.hid hx'
                  clear hx hx'
                  go_upto_region 28 with (fail)
                  have hmy := Hm6.out.has1 i x HX.out
                  have hpy1 := HQ1.out.cell g1 (i * 21 + 3) (Or.inl rfl) (.bool true)
                  have hpy2 := HQ2.out.cell g1 (i * 21 + 3) (Or.inl rfl) (.bool true)
                  clear c3 fr cq
                  generalize wq.setCell ⟨g1, i * 21 + 3, none⟩ (.bool true) = wy at *
                  have hx2 : ((tellTo b also yl (linkState a b costs t).1 i).set i { x with has := true })[i]? = some { x with has := true } := by
                    rw [List.getElem?_set, if_pos rfl, if_pos (List.getElem?_eq_some_iff.1 HX.out).1]
                  have Hx2 := Lib.hid hx2
                  have hat := hmy.h1.at_
                  obtain ⟨c0, c1, c2, c3, c4, c5, c6, c7, c8, c9, c10, c11, c12, c13, c14, c15, c16, c17, c18, c19, c20⟩ := HeardsAt.cells hat hx2
                  simp only [Nat.zero_add] at c4 c5 c6 c7 c8 c9 c10 c11 c12 c13 c14 c15 c16 c17 c18 c19 c20
                  have fr := hmy.h1.frozen
                  have lg := hmy.h1.lt
                  have hb := hmy.below
                  have m1 : wy.heap[w.heap.size + 1]? = some (.cells (idList b).toArray 25 (0, 0)) := by rw [hb.block _ (block_lt Hm1.out)]; exact Hm1.out
                  have r1 := cell_of_block m1
                  have rv := cell_of_block hpy2.mv
                  have Hmy := Lib.hid hmy; have HY1 := Lib.hid hpy1; have HY2 := Lib.hid hpy2
                  clear hmy hpy1 hpy2 hx2 hat c0 c1 c2 c3 hb m1
                  go_wp2_with (go_at_call 14; refine (offer_any b also ((i : Int) + 1) _).mono ?_; rintro e w5 ⟨rfl, hof⟩; have hcs := belowCells hof; have hfs := belowFrozens hof)
                  have hm5 := (Hmy.out.step hof).v1 i _ Hx2.out (offer b also ((i : Int) + 1))
                  rw [List.set_set] at hm5
                  go_roundw
                  case rel => exact ⟨i + 1, by omega, by go_num, by rw [Hset.out]; exact hm5, (HY1.out.step hof).put g1 _ (Or.inl rfl) _, (HY2.out.step hof).put g1 _ (Or.inl rfl) _⟩
                  case measure => simp [intOf]; omega
                · have hqb : (q == 2) = false := by simpa using hq2
                  have Hq2 := Lib.hid hq2
                  clear hq2
                  go_wp2_with fail
                  go_roundw
                  case rel => exact ⟨i + 1, by omega, by go_num, by rw [tellTo_no b _ _ _ _ (by rw [Hq.out]; intro e; injection e with e; exact Hq2.out e)]; exact Hm6.out, HQ1.out, HQ2.out⟩
                  case measure => simp [intOf]; omega
            · have hik : i = k := by omega
              subst hik
              have hm7 : LinkMem w1 g1 g2 (linkState a b costs (t + 1)).1 (linkState a b costs (t + 1)).2 wr := by rw [Hst.out, ← H1.out.1]; exact Hm4.out
              have Hm7 := Lib.hid hm7
              clear hm7
              go_wp2_with fail
              go_roundw
              case rel => exact ⟨t + 1, by omega, by go_num, Hm7.out, Or.inr ⟨t, B1, B2, _, _, best, also, rfl, rfl, rfl, by rw [HX3.out]; exact HP1.out, by rw [HX4.out]; exact HP2.out⟩⟩
              case measure => simp [intOf]; omega
        · have ht3 : t = 3 := by omega
          subst ht3
          obtain ⟨s, Bx, By, e1, e2, v1, v2, hs, rfl, rfl, ho1, ho2⟩ : ∃ s Bx By e1 e2 v1 v2, 3 = s + 1 ∧ u11 = .slice (some ⟨Bx, 0, none⟩) k k ∧ u12 = .slice (some ⟨By, 0, none⟩) k k ∧
              SelOut g1 g2 v1 (selRoles a (linkState a b costs s).1) Bx e1 wr ∧ SelOut g1 g2 v2 (selRoles b (linkState a b costs s).2) By e2 wr := by
            rcases Hprev.out with h | h
            · cases h
            · exact h
          obtain rfl : s = 2 := by omega
          obtain ⟨kk, hend⟩ := link_end a b costs Hab.out (by have := H1.out.1; omega) (by have := H1.out.1; omega) (fun c hc => Hcost2.out c (by rw [List.take_of_length_le (by have := H1.out.1; omega)]; exact hc))
          rw [← H1.out.1] at hend
          have Hend := Lib.hid hend; have HO1 := Lib.hid ho1; have HO2 := Lib.hid ho2
          have Hbel3 := Lib.hid Hm2.out.below
          clear hs hend ho1 ho2
          generalize selRoles a (linkState a b costs 2).1 = xl at *
          generalize selRoles b (linkState a b costs 2).2 = yl at *
          go_wp2_with fail
          obtain ⟨wo, rfl⟩ : ∃ wo : World, wo = wr := ⟨_, rfl⟩
          go_loopw [21, 22] (fun cnt idx wr => ∃ i : Nat, i ≤ k ∧ idx = iV i ∧ cnt = iV (if kk < i then 1 else 0) ∧ SelOut g1 g2 v1 xl Bx e1 wr ∧ SelOut g1 g2 v2 yl By e2 wr ∧ Below w1.heap.size w1 wr) (fun _ idx _ => k - (intOf idx).toNat)
          case atStart => exact ⟨0, Nat.zero_le _, rfl, by rw [if_neg (by omega)], HO1.out, HO2.out, Hbel3.out⟩
          case round =>
            obtain ⟨i, hi, rfl, rfl, ho1, ho2, hb⟩ := hrel
            have HP1 := Lib.hid ho1; have HP2 := Lib.hid ho2; have Hb := Lib.hid hb
            clear ho1 ho2 hb
            by_cases hik : i < k
            · obtain ⟨p, q, hp, hq, hpq, hone⟩ := Hend.out.at_ i hik
              have cp : wr.cell? ⟨Bx, i, none⟩ = some (iV p) := by rw [cell_of_block HP1.out.mr]; simp [hp]
              have cq : wr.cell? ⟨By, i, none⟩ = some (iV q) := by rw [cell_of_block HP2.out.mr]; simp [hq]
              have hi0 : (0 : Int) ≤ (i : Int) := by omega
              have hin : (i : Int) < (k : Int) := by omega
              clear hp hq
              by_cases hkk : i = kk
              · have h1 := hone.2 hkk
                have hc0 : (if kk < i then (1 : Int) else 0) = 0 := if_neg (by omega)
                have hc1 : (if kk < i + 1 then (1 : Int) else 0) = 1 := if_pos (by omega)
                rw [hc0]
                have Hc1 := Lib.hid hc1
                clear hc0 hc1 hkk hone
                rcases hpq with ⟨hp, hq⟩ | ⟨hp, hq⟩
                · have hq1 : q = 1 := by rcases h1 with h1 | h1; · omega
                                         · exact h1
                  subst hp hq1
                  clear h1 hq
                  go_wp2_with fail
                  go_quiet (fail)
                  go_wp2
                  go_roundw
                  case rel => exact ⟨i + 1, by omega, by go_num, by rw [Hc1.out], HP1.out.step (belowDrewN (Below.refl _ _) _), HP2.out.step (belowDrewN (Below.refl _ _) _), Hb.out.trans (belowDrewN (Below.refl _ _) _)⟩
                  case measure => simp [intOf]; omega
                · have hp1 : p = 1 := by rcases h1 with h1 | h1; · exact h1
                                         · omega
                  subst hp1 hq
                  clear h1 hp
                  go_wp2_with fail
                  go_quiet (fail)
                  go_wp2
                  go_roundw
                  case rel => exact ⟨i + 1, by omega, by go_num, by rw [Hc1.out], HP1.out.step (belowDrewN (Below.refl _ _) _), HP2.out.step (belowDrewN (Below.refl _ _) _), Hb.out.trans (belowDrewN (Below.refl _ _) _)⟩
                  case measure => simp [intOf]; omega
              · have hnp : p ≠ 1 := fun h => hkk (hone.1 (Or.inl h))
                have hnq : q ≠ 1 := fun h => hkk (hone.1 (Or.inr h))
                have hc1 : (if kk < i + 1 then (1 : Int) else 0) = if kk < i then 1 else 0 := by
                  by_cases h : kk < i
                  · rw [if_pos h, if_pos (by omega)]
                  · rw [if_neg h, if_neg (by omega)]
                have Hc1 := Lib.hid hc1
                generalize (if kk < i then (1 : Int) else 0) = cnt at *
                have bp : (p == 1) = false := by simpa using hnp
                have bq : (q == 1) = false := by simpa using hnq
                clear hc1 hkk hone hnp hnq
                rcases hpq with ⟨hp, hq⟩ | ⟨hp, hq⟩
                · have bq2 : (q == 2) = false := by simpa using hq
                  subst hp
                  clear hq
                  go_wp2_with fail
                  go_quiet (fail)
                  go_wp2
                  go_roundw
                  case rel => exact ⟨i + 1, by omega, by go_num, by rw [Hc1.out], HP1.out.step (belowDrewN (Below.refl _ _) _), HP2.out.step (belowDrewN (Below.refl _ _) _), Hb.out.trans (belowDrewN (Below.refl _ _) _)⟩
                  case measure => simp [intOf]; omega
                · have bp2 : (p == 2) = false := by simpa using hp
                  subst hq
                  clear hp
                  go_wp2_with fail
                  go_quiet (fail)
                  go_wp2
                  go_roundw
                  case rel => exact ⟨i + 1, by omega, by go_num, by rw [Hc1.out], HP1.out.step (belowDrewN (Below.refl _ _) _), HP2.out.step (belowDrewN (Below.refl _ _) _), Hb.out.trans (belowDrewN (Below.refl _ _) _)⟩
                  case measure => simp [intOf]; omega
            · have hin : i = k := by omega
              have hc : (if kk < i then (1 : Int) else 0) = 1 := if_pos (by have := Hend.out.lt; omega)
              rw [hc]
              clear hc
              go_wp2
              go_ret
              exact ⟨rfl, Hb0.out.trans (Hb.out.mono Hb0.out.size)⟩

set_option maxRecDepth 100000 in
set_option maxHeartbeats 1000000 in
theorem links_same (a : Id) (ad : Option Addr) (n cap : Nat) (w : World) :
    Calls Try.prog 6 #[a.val, a.val, .slice ad n cap] w fun e w' => e = .returned (.bool true) ∧ Below w.heap.size w w' := by
  have he := fun w => eql_id a a w
  rw [decide_eq_true rfl] at he
  go_enter Try.func6, Try.ntmps6
  go_wp2_with (go_at_call 10; refine (awake_any _).mono ?_; rintro e w1 ⟨rfl, haw⟩; have hcw := belowCells haw)
  go_ret
  exact ⟨rfl, (((Below.refl _ _).alloc (Nat.le_refl _) _).alloc (by simp) _).trans (haw.mono (by simp; omega))⟩
set_option maxRecDepth 100000 in
set_option maxHeartbeats 1000000 in
theorem links_none (a b : Id) (ad : Option Addr) (n cap : Nat) (w : World) (hab : a ≠ b) (hn : n < 1) :
    Calls Try.prog 6 #[a.val, b.val, .slice ad n cap] w fun e w' => e = .returned (.bool true) ∧ Below w.heap.size w w' := by
  have hd1 : decide ((n : Int) < 1) = true := by rw [decide_eq_true_iff]; omega
  have he := fun w => eql_id a b w
  rw [decide_eq_false hab] at he
  clear hab hn
  go_enter Try.func6, Try.ntmps6
  go_wp2_with (go_at_call 10; refine (awake_any _).mono ?_; rintro e w1 ⟨rfl, haw⟩; have hcw := belowCells haw)
  go_ret
  exact ⟨rfl, (((Below.refl _ _).alloc (Nat.le_refl _) _).alloc (by simp) _).trans (haw.mono (by simp; omega))⟩
set_option maxRecDepth 100000 in
set_option maxHeartbeats 1000000 in
theorem links_many (a b : Id) (ad : Option Addr) (n cap : Nat) (w : World) (hab : a ≠ b) (hn : 20 < n) :
    Calls Try.prog 6 #[a.val, b.val, .slice ad n cap] w fun e w' => e = .returned (.bool true) ∧ Below w.heap.size w w' := by
  have hd1 : decide ((n : Int) < 1) = false := by rw [decide_eq_false_iff_not]; omega
  have hd2 : decide ((20 : Int) < (n : Int)) = true := by rw [decide_eq_true_iff]; omega
  have he := fun w => eql_id a b w
  rw [decide_eq_false hab] at he
  clear hab hn
  go_enter Try.func6, Try.ntmps6
  go_wp2_with (go_at_call 10; refine (awake_any _).mono ?_; rintro e w1 ⟨rfl, haw⟩; have hcw := belowCells haw)
  go_ret
  exact ⟨rfl, (((Below.refl _ _).alloc (Nat.le_refl _) _).alloc (by simp) _).trans (haw.mono (by simp; omega))⟩
theorem links_any (a b : Id) (ad : Option Addr) (n cap : Nat) (costs : List Int) (w : World) (h : IsInts w ad n costs) :
    Calls Try.prog 6 #[a.val, b.val, .slice ad n cap] w fun e w' => e = .returned (.bool true) ∧ Below w.heap.size w w' := by
  by_cases hab : a = b
  · subst hab; exact links_same a ad n cap w
  · rcases Nat.lt_or_ge n 1 with hn | hn
    · exact links_none a b ad n cap w hab hn
    · rcases Nat.lt_or_ge 20 n with hn2 | hn2
      · exact links_many a b ad n cap w hab hn2
      · exact links_few a b ad n cap costs w h hab hn hn2
end Go.Proofs.Ytbfpmgcadinmbaa
