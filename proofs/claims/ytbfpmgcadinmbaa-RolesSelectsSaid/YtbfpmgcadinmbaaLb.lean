/-
  The walk of the law RolesAlone.
-/
import Derived.Test.YtbfpmgcadinmbaaLa
import Derived.Test.YtbfpmgcadinmbaaPa
namespace Go.Proofs.Ytbfpmgcadinmbaa
set_option linter.unusedVariables false
set_option linter.unusedSimpArgs false
open Go Go.RowKit Go.Maps
attribute [local go_sem ↓] exec_loadVec exec_storeVec exec_loadHeard exec_storeHeard
attribute [local go_sem] ldRow_ptr ldFin_some cellsAt_succ cellsAt_zero allSome_cons allSome_nil stRow_ptr stFin_true allOne_cons allOne_nil there_succ there_zero frozens_succ frozens_zero one_int one_bool putCells_alloc_at putCells_alloc_old over_all

theorem news_of_block {w : World} {b : Nat} {T : TypeId} {fr : Nat × Nat} {l : List Value} (h : w.heap[b]? = some (.cells l.toArray T fr)) : ∀ j u, l[j]? = some u → w.cell? (Addr.add ⟨b, 0, none⟩ j) = some u := by
  intro j u hj
  have ea : (Addr.add ⟨b, 0, none⟩ j) = ⟨b, j, none⟩ := by unfold Addr.add; by_cases h : j = 0 <;> simp [h]
  rw [ea, cell_of_block h]; simpa using hj
theorem own_block_ge {w : World} {base : Nat} {e : TypeId} {size : Nat} {v : Value} {n : Nat} {xs : List Value} (h : w.ownsRow base e size v n xs) : ∀ k, v.ownBlock = some k → base ≤ k := by
  intro k hk
  obtain ⟨_, ⟨rfl, _⟩ | ⟨g, cap, cur, rfl, hg, _⟩⟩ := h
  · cases hk
  · injection hk with hk; subst hk; exact hg
theorem flat_snoc (l : List Heard) (k : Nat) (h : Heard) (hk : l[k]? = some h) (f : Heard → Heard) : ((l.take (k + 1)).map f).flatMap heardList = ((l.take k).map f).flatMap heardList ++ heardList (f h) := by
  rw [take_snoc' l k h hk, List.map_append, List.flatMap_append]; simp

abbrev ownList (me : Id) : List Value := [iV me.prio, bV me.mac.a, bV me.mac.b, bV me.mac.c, bV me.mac.d, bV me.mac.e, bV me.mac.f, .int .i64 0, iV me.prio, bV me.mac.a, bV me.mac.b, bV me.mac.c, bV me.mac.d, bV me.mac.e, bV me.mac.f, .int .i64 0, .int .i64 0]
theorem eql_own (me : Id) (w : World) : (binOp .eql 29 (.agg (ownList me).toArray) (.agg (ownList me).toArray)).run Try.prog w = .ok (.bool true) w := by
  have h := eql_vec (ownWay me) (ownWay me) w
  rw [decide_eq_true rfl] at h
  exact h

theorem select_bad' (me : Id) (a : Option Addr) (n cap : Nat) (l : List Heard) (w : World) (h : IsHeards w a n l) (hpos : 0 < w.heap.size) (fl : Int) (hf : fairN l = fl) (hne : fl ≠ 0) :
    Calls Try.prog 11 #[me.val, .slice a n cap] w fun e w' => e = .returned (.tuple #[.agg zeroVecList.toArray, .slice none 0 0, iV fl]) ∧ Below w.heap.size w w' := by
  subst hf
  refine (select_is me a n cap l w h hpos).mono ?_
  rintro e w' (⟨_, he, hb⟩ | ⟨hf, _⟩)
  · exact ⟨by rw [zeroVec_val]; exact he, hb⟩
  · exact absurd hf hne

def SelGood (w : World) (best : Vec) (roles : List Int) (n : Nat) (e : Ending) (w' : World) : Prop :=
  ∃ B, e = .returned (.tuple #[best.val, .slice (some ⟨B, 0, none⟩) n n, .int .i64 0]) ∧ w.heap.size ≤ B ∧ w'.heap[B]? = some (.cells (roles.map iV).toArray 3 (0, 0)) ∧ Below w.heap.size w w'
theorem select_good' (me : Id) (a : Option Addr) (n cap : Nat) (l : List Heard) (w : World) (h : IsHeards w a n l) (hpos : 0 < w.heap.size) (hf : fairN l = 0) :
    Calls Try.prog 11 #[me.val, .slice a n cap] w (SelGood w (selBest me l) (selRoles me l) n) := by
  refine (select_is me a n cap l w h hpos).mono ?_
  rintro e w' (⟨hf', _⟩ | ⟨_, B, he, h1, h2, h3⟩)
  · exact absurd hf hf'
  · exact ⟨B, by rw [h.1]; exact he, h1, h2, h3⟩

def AloneRel (l : List Heard) (n : Nat) (w1 : World) (v idx : Value) (wr : World) : Prop :=
  ∃ k : Nat, k ≤ n ∧ idx = iV k ∧ wr.ownsRow w1.heap.size 38 21 v k (((l.take k).map deaf).flatMap heardList) ∧ Below w1.heap.size w1 wr

set_option maxRecDepth 100000 in
set_option maxHeartbeats 4000000 in
theorem alone_few (me : Id) (a : Option Addr) (n cap : Nat) (l : List Heard) (w : World) (h : IsHeards w a n l) (hn : n ≤ 100) :
    Calls Try.prog 7 #[me.val, .slice a n cap] w fun e w' => e = .returned (.bool true) ∧ Below w.heap.size w w' := by
  obtain ⟨ti, hti, hz1, hz2, hz3⟩ := heardInfo
  have hd : decide ((100 : Int) < (n : Int)) = false := by rw [decide_eq_false_iff_not]; omega
  have Hl := Lib.hid h; clear h
  go_enter Try.func7, Try.ntmps7
  go_wp2_with (go_at_call 10; refine (awake_any _).mono ?_; rintro e w' ⟨rfl, haw⟩)
  have hb0 : Below w.heap.size w w' := ((Below.refl _ _).alloc (Nat.le_refl _) _).trans (haw.mono (by simp))
  have hm0 : w'.heap[w.heap.size]? = some (.cells (idList me).toArray 25 (0, 0)) := by rw [haw.block _ (by simp)]; exact heap_alloc_new _ _
  have Hb0 := Lib.hid hb0; have Hm0 := Lib.hid hm0
  have H1 := Lib.hid (Hl.out.below hb0)
  clear haw hb0 hm0
  go_loopw [6, 7] (fun v idx wr => AloneRel l n w' v idx wr) (fun _ idx _ => n - (intOf idx).toNat)
  case atStart => exact ⟨0, Nat.zero_le _, rfl, World.ownsRow_nil _ _ _ _, Below.refl _ _⟩
  case round =>
    obtain ⟨k, hk, rfl, hown, hbel⟩ := hrel
    have Hown := Lib.hid hown; have Hbel := Lib.hid hbel
    clear hown hbel
    by_cases hlt : k < n
    · obtain ⟨h, b, off, hh, rfl, hb, hc⟩ := H1.out.get hlt
      obtain ⟨c0, c1, c2, c3, c4, c5, c6, c7, c8, c9, c10, c11, c12, c13, c14, c15, c16, c17, c18, c19, c20⟩ := HeardsAt.cells (hc.below hb Hbel.out) hh
      have Hh := Lib.hid hh
      clear hc hb hh
      have hk0 : (0 : Int) ≤ (k : Int) := by omega
      have hkn : (k : Int) < (n : Int) := by omega
      have hbs := Hbel.out.size
      cases hhas : h.has
      · rw [hhas] at c3
        have hdf : deaf h = { h with has := false } := by unfold deaf; rw [hhas]; rfl
        have Hdf := Lib.hid hdf; clear hdf
        go_wp2_with (at_builtin; refine wpList_append_own _ rfl (.tmp 40) (.tmp 42) 26 rfl w'.heap.size 38 ti _ 21 80 Try.underlying26 hti hz1 hz2 hz3 rfl (by decide) _ k _ rfl ((Hown.out.alloc _).alloc _) ⟨wr.heap.size + 1, 0, none⟩ 1 1 (heardList { h with has := false }) rfl rfl (news_of_block (heap_at0 (by simp))) (one_heard _) (by unfold maxLen; omega) (by omega) (by simp; omega) ?_; intro v' w1 hown' hgrow _)
        go_roundw
        case rel =>
          refine ⟨k + 1, by omega, by go_num, ?_, (((Hbel.out.alloc hbs _).alloc (by simp; omega) _).grown hgrow (by simp; omega) (own_block_ge Hown.out))⟩
          rw [flat_snoc l k h Hh.out, Hdf.out]; exact hown'
        case measure => simp [intOf]; omega
      · rw [hhas] at c3
        cases hup : h.up
        · rw [hup] at c2
          have hdf : deaf h = { h with up := false, has := true } := by unfold deaf; rw [hhas, hup]; rfl
          have Hdf := Lib.hid hdf; clear hdf
          go_wp2_with (at_builtin; refine wpList_append_own _ rfl (.tmp 40) (.tmp 42) 26 rfl w'.heap.size 38 ti _ 21 80 Try.underlying26 hti hz1 hz2 hz3 rfl (by decide) _ k _ rfl ((Hown.out.alloc _).alloc _) ⟨wr.heap.size + 1, 0, none⟩ 1 1 (heardList { h with up := false, has := true }) rfl rfl (news_of_block (heap_at0 (by simp))) (one_heard _) (by unfold maxLen; omega) (by omega) (by simp; omega) ?_; intro v' w1 hown' hgrow _)
          go_roundw
          case rel =>
            refine ⟨k + 1, by omega, by go_num, ?_, (((Hbel.out.alloc hbs _).alloc (by simp; omega) _).grown hgrow (by simp; omega) (own_block_ge Hown.out))⟩
            rw [flat_snoc l k h Hh.out, Hdf.out]; exact hown'
          case measure => simp [intOf]; omega
        · rw [hup] at c2
          have hdf : deaf h = { h with up := true, has := false } := by unfold deaf; rw [hhas, hup]; rfl
          have Hdf := Lib.hid hdf; clear hdf
          go_wp2_with (at_builtin; refine wpList_append_own _ rfl (.tmp 40) (.tmp 42) 26 rfl w'.heap.size 38 ti _ 21 80 Try.underlying26 hti hz1 hz2 hz3 rfl (by decide) _ k _ rfl ((Hown.out.alloc _).alloc _) ⟨wr.heap.size + 1, 0, none⟩ 1 1 (heardList { h with up := true, has := false }) rfl rfl (news_of_block (heap_at0 (by simp))) (one_heard _) (by unfold maxLen; omega) (by omega) (by simp; omega) ?_; intro v' w1 hown' hgrow _)
          go_roundw
          case rel =>
            refine ⟨k + 1, by omega, by go_num, ?_, (((Hbel.out.alloc hbs _).alloc (by simp; omega) _).grown hgrow (by simp; omega) (own_block_ge Hown.out))⟩
            rw [flat_snoc l k h Hh.out, Hdf.out]; exact hown'
          case measure => simp [intOf]; omega
    · have hkn : k = n := by omega
      have Hkn := Lib.hid hkn; clear hkn
      have hown2 := Hown.out
      have e2 : (l.take k).map deaf = deafs l := by
        rw [List.take_of_length_le (by have := Hl.out.1; have := Hkn.out; omega)]; rfl
      rw [e2, Hkn.out] at hown2
      clear e2
      obtain ⟨a2, cap2, rfl, his⟩ := own_heards hown2 (by rw [deafs_length]; exact Hl.out.1)
      have His := Lib.hid his; clear his hown2
      have hm0 : wr.heap[w.heap.size]? = some (.cells (idList me).toArray 25 (0, 0)) := by rw [Hbel.out.block _ (block_lt Hm0.out)]; exact Hm0.out
      have r0 := cell_of_block hm0
      have hpos : 0 < wr.heap.size := Nat.lt_of_le_of_lt (Nat.zero_le _) (block_lt hm0)
      have Hm0r := Lib.hid hm0; have Hpos := Lib.hid hpos
      clear hm0 hpos
      have hbw := Hb0.out.trans (Hbel.out.mono Hb0.out.size)
      have Hbw := Lib.hid hbw; clear hbw
      rcases fairN_cases l with hf | hf | hf
      · have hsel := fun W (hB : Below wr.heap.size wr W) => select_good' me a2 n cap2 (deafs l) W (His.out.below hB) (Nat.lt_of_lt_of_le Hpos.out hB.size) (by rw [fairN_deafs]; exact hf)
        rw [selBest_deafs] at hsel
        have hsel2 := fun W (hB : Below wr.heap.size wr W) => (hsel W hB).mono (R' := fun e w' => ∃ B, e = .returned (.tuple #[.agg (ownList me).toArray, .slice (some ⟨B, 0, none⟩) n n, .int .i64 0]) ∧ W.heap.size ≤ B ∧ w'.heap[B]? = some (.cells ((selRoles me (deafs l)).map iV).toArray 3 (0, 0)) ∧ Below W.heap.size W w') (fun _ _ h => h)
        have Hsel := Lib.hid hsel2; clear hsel hsel2 hf
        have hev := eql_own me
        go_wp2_with (go_at_call 11; refine (Hsel.out _ (Below.refl _ _)).mono ?_; rintro e w2 ⟨B, rfl, hB, hrow, hb2⟩)
        have hbw2 := Hbw.out.trans (hb2.mono Hbw.out.size)
        have hBl := block_lt hrow
        have Hrow := Lib.hid hrow; have Hb2 := Lib.hid hb2; have Hbw2 := Lib.hid hbw2
        have m2 : w2.heap[w.heap.size]? = some (.cells (idList me).toArray 25 (0, 0)) := by rw [hb2.block _ (block_lt Hm0r.out)]; exact Hm0r.out
        have r2 := cell_of_block m2
        have l2 := block_lt m2
        clear hrow hb2 hbw2 r0 m2
        go_loop [12] (fun idx => ∃ i : Nat, i ≤ n ∧ idx = iV i) (fun idx => n - (intOf idx).toNat)
        case atStart => exact ⟨0, Nat.zero_le _, rfl⟩
        case round =>
          obtain ⟨i, hi, rfl⟩ := hrel
          by_cases hlt2 : i < n
          · obtain ⟨h, b, off, hh, rfl, hb, hc⟩ := H1.out.get hlt2
            obtain ⟨_, _, c2, _⟩ := HeardsAt.cells (hc.below hb (Hbel.out.trans (Hb2.out.mono Hbel.out.size))) hh
            have hbl2 : b < w2.heap.size := Nat.lt_of_lt_of_le hb (Hbel.out.trans (Hb2.out.mono Hbel.out.size)).size
            have hr := roles_deafs me l i h hh
            have cx : w2.cell? ⟨B, i, none⟩ = some (iV (if h.up then 2 else 0)) := by
              rw [cell_of_block Hrow.out]; simp [hr]
            clear hc hb hr hh
            have hi0 : (0 : Int) ≤ (i : Int) := by omega
            have hin : (i : Int) < (n : Int) := by omega
            cases hup : h.up
            · rw [hup] at c2 cx
              go_wp2
              go_round
              case rel => exact ⟨i + 1, by omega, by go_num⟩
              case measure => simp [intOf]; omega
            · rw [hup] at c2 cx
              go_wp2
              go_round
              case rel => exact ⟨i + 1, by omega, by go_num⟩
              case measure => simp [intOf]; omega
          · go_wp2
            go_ret
            exact ⟨rfl, Hbw2.out.alloc Hbw2.out.size _⟩
      · have hsel := fun W (hB : Below wr.heap.size wr W) => select_bad' me a2 n cap2 (deafs l) W (His.out.below hB) (Nat.lt_of_lt_of_le Hpos.out hB.size) 1 (by rw [fairN_deafs]; exact hf) (by decide)
        have Hsel := Lib.hid hsel; clear hsel hf
        go_wp2_with (go_at_call 11; refine (Hsel.out _ (Below.refl _ _)).mono ?_; rintro e w2 ⟨rfl, hb2⟩)
        go_ret
        exact ⟨rfl, (Hbw.out.trans (hb2.mono Hbw.out.size)).alloc (Nat.le_trans Hbw.out.size hb2.size) _⟩
      · have hsel := fun W (hB : Below wr.heap.size wr W) => select_bad' me a2 n cap2 (deafs l) W (His.out.below hB) (Nat.lt_of_lt_of_le Hpos.out hB.size) 5 (by rw [fairN_deafs]; exact hf) (by decide)
        have Hsel := Lib.hid hsel; clear hsel hf
        go_wp2_with (go_at_call 11; refine (Hsel.out _ (Below.refl _ _)).mono ?_; rintro e w2 ⟨rfl, hb2⟩)
        go_ret
        exact ⟨rfl, (Hbw.out.trans (hb2.mono Hbw.out.size)).alloc (Nat.le_trans Hbw.out.size hb2.size) _⟩

theorem alone_many (me : Id) (a : Option Addr) (n cap : Nat) (w : World) (hn : 100 < n) :
    Calls Try.prog 7 #[me.val, .slice a n cap] w fun e w' => e = .returned (.bool true) ∧ Below w.heap.size w w' := by
  go_enter Try.func7, Try.ntmps7
  go_wp2_with (go_at_call 10; refine (awake_any _).mono ?_; rintro e w' ⟨rfl, haw⟩)
  go_ret
  exact ⟨rfl, ((Below.refl _ _).alloc (Nat.le_refl _) _).trans (haw.mono (by simp))⟩

theorem alone_any (me : Id) (a : Option Addr) (n cap : Nat) (l : List Heard) (w : World) (h : IsHeards w a n l) :
    Calls Try.prog 7 #[me.val, .slice a n cap] w fun e w' => e = .returned (.bool true) ∧ Below w.heap.size w w' := by
  rcases Nat.lt_or_ge 100 n with hn | hn
  · exact alone_many me a n cap w hn
  · exact alone_few me a n cap l w h hn
end Go.Proofs.Ytbfpmgcadinmbaa
