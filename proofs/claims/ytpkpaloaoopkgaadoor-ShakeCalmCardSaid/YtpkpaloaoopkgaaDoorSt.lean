/-
  gemelref22: the document's own Shake: Start, New, Take.
-/
import Derived.Test.YtpkpaloaoopkgaaDoorSs
import Derived.RegionTactic
namespace Go.Proofs.YtpkpaloaoopkgaaDoor
set_option linter.unusedVariables false
set_option linter.unusedSimpArgs false
open Go Go.RowKit
attribute [local go_sem ↓] exec_loadNote exec_storeNote
attribute [local go_sem] ldRow_ptr ldFin_some cellsAt_succ cellsAt_zero allSome_cons allSome_nil stRow_ptr stFin_true allOne_cons allOne_nil there_succ there_zero frozens_succ frozens_zero one_int one_bool one_slice putCells_alloc_at putCells_alloc_old over_all

theorem own_offg {w w' : World} {base g : Nat} {e : TypeId} {size : Nat} {v : Value} {n : Nat} {xs : List Value} (h : w.ownsRow base e size v n xs) (hB : Off [g] w w') (hg : g < base) : w'.ownsRow base e size v n xs :=
  own_off h hB (fun q hq e => by
    have h1 := own_ge h q e
    have h2 : q = g := by simpa using hq
    omega)
theorem make_rlinks (n : Nat) (hn : n ≤ 63) (w : World) : (Instr.makeSlice 65 (.int .i64 (n : Int)) (.int .i64 (n : Int))).run Tryd.prog w = .ok (.slice (some ⟨w.heap.size, 0, none⟩) n n) (w.alloc (.cells (lnkFlat (List.replicate n ⟨false, 0, false⟩)).toArray 74)) := by
  obtain ⟨i, hi, h1, h2, h3⟩ := info_parts (P := Tryd.prog) (e := 74) (z := .agg #[.bool false, .int .i64 0, .bool false]) (size := 3) (bytes := 24) (by kernel_rfl)
  have := run_make w 65 74 i _ Tryd.underlying65 hi h1 .i64 .i64 (n : Int) (n : Int) (by omega) (by omega) (by rw [h3]; omega) (by omega)
  rw [this, h2]
  have e : madeCells (Value.agg #[.bool false, .int .i64 0, .bool false]).cells ((n : Int).toNat * 3) = (lnkFlat (List.replicate n ⟨false, 0, false⟩)).toArray := by
    rw [Int.toNat_natCast]; exact made3 n
  rw [e]; simp

def RNewPost (w : World) (n : Nat) (e : Ending) (w' : World) : Prop :=
  ∃ p g, e = .returned (.tuple #[.pointer (some ⟨p, 0, none⟩), .int .i64 0]) ∧ w.heap.size ≤ p ∧ w.heap.size ≤ g ∧ RefOk w' p g (Shk.new n) ∧ Below w.heap.size w w'
theorem rnew_good (n : Nat) (w : World) (h1 : 1 ≤ n) (h2 : n ≤ 63) : Calls Tryd.prog 10 #[iV (n : Int)] w (RNewPost w n) := by
  have hmk := make_rlinks n h2
  have d1 : decide ((n : Int) < 1) = false := decide_eq_false (by omega)
  have d2 : decide ((63 : Int) < (n : Int)) = false := decide_eq_false (by omega)
  have Hn := Lib.hid h1; clear h1 h2
  go_enter Tryd.func10, Tryd.ntmps10
  go_wp2
  go_ret2
  refine ⟨w.heap.size + 1, w.heap.size, rfl, by omega, Nat.le_refl _, ⟨?_, ?_, by omega⟩, ((Below.refl _ _).alloc (Nat.le_refl _) _).alloc (by simp) _⟩
  · rw [heap_new1]; simp [Shk.new]
  · rw [heap_alloc_old _ _ (by simp), heap_alloc_new]; rfl
theorem rnew_bad (n : Int) (w : World) (h : n < 1 ∨ 63 < n) : Calls Tryd.prog 10 #[iV n] w fun e w' => e = .returned (.tuple #[.pointer none, .int .i64 1]) ∧ w = w' := by
  by_cases d : n < 1
  · have d1 : decide (n < 1) = true := decide_eq_true d
    clear h d
    go_enter Tryd.func10, Tryd.ntmps10
    go_wp2
    go_ret2
    exact ⟨rfl, rfl⟩
  · have d1 : decide (n < 1) = false := decide_eq_false d
    have d2 : decide (63 < n) = true := decide_eq_true (by omega)
    clear h d
    go_enter Tryd.func10, Tryd.ntmps10
    go_wp2
    go_ret2
    exact ⟨rfl, rfl⟩

def RStartPost (w : World) (p g : Nat) (s : Shk) (e : Ending) (w' : World) : Prop :=
  ∃ v, e = .returned v ∧ Told 35 w' w.heap.size v (startTold s.l) ∧ RefOk w' p g s.start ∧ Off [p, g] w w'

set_option maxHeartbeats 2000000 in
theorem rstart_any (p g : Nat) (s : Shk) (w : World) (h : RefOk w p g s) (hn : s.l.length ≤ 63) :
    Calls Tryd.prog 24 #[.pointer (some ⟨p, 0, none⟩)] w (RStartPost w p g s) := by
  obtain ⟨ti, hti, hz1, hz2, hz3⟩ := noteInfo
  have Hst := Lib.hid (rstop_any p g false s w h hn)
  have lp := h.lt.1
  have lg := h.lt.2
  have Hlp := Lib.hid lp; have Hlg := Lib.hid lg
  have hne : p ≠ g := h.ne
  clear h
  go_enter Tryd.func24, Tryd.ntmps24
  go_upto_region 2 with (go_at_call 25; refine Hst.out.mono ?_; rintro e w1 ⟨rfl, hs1, ho1⟩)
  have hs2 := hs1.setSession true
  have ho2 : Off [p, g] w (w1.setCell ⟨p, 1, none⟩ (.bool true)) := ho1.setCell (by simp) _
  obtain ⟨h0, h1, h2⟩ := hs1.head
  have fp := hs1.fz.1
  have hln : (s.stop false).l.length = s.l.length := by simp [Shk.stop]
  simp only [hln] at h0
  have Hs2 := Lib.hid hs2; have Ho2 := Lib.hid ho2; have Hln := Lib.hid hln
  clear hs1 ho1 hs2 ho2 hln
  go_upto_region 3 with fail
  have hsz := Ho2.out.size
  clear h0 h1 h2 fp lp lg
  generalize w1.setCell ⟨p, 1, none⟩ (.bool true) = w2 at *
  go_wp2_with fail
  go_loopw [3, 4] (fun out idx wr => ∃ k : Nat, k ≤ s.l.length ∧ idx = iV k ∧ RefOk wr p g { l := tells (s.stop false).l (List.range k), session := true, alone := false } ∧ Off [p, g] w wr ∧ wr.ownsRow w.heap.size 35 11 out k ((tellsUp (s.stop false).l (List.range k)).flatMap tnList)) (fun _ idx _ => s.l.length - (intOf idx).toNat)
  case atStart => exact ⟨0, Nat.zero_le _, rfl, Hs2.out, Ho2.out, World.ownsRow_nil _ _ _ _⟩
  case round =>
    obtain ⟨k, hk, rfl, hs, hoff, hown⟩ := hrel
    have Hs := Lib.hid hs; have Ho := Lib.hid hoff; have Hown := Lib.hid hown
    clear hs hoff hown
    obtain ⟨h0, h1, h2⟩ := Hs.out.head
    have hln2 : (tells (s.stop false).l (List.range k)).length = s.l.length := by rw [tells_length]; exact Hln.out
    simp only [hln2] at h0
    by_cases hlt : k < s.l.length
    · obtain ⟨x, hx⟩ : ∃ x, (tells (s.stop false).l (List.range k))[k]? = some x := ⟨_, List.getElem?_eq_getElem (by rw [hln2]; exact hlt)⟩
      have how := tells_owed (List.range k) (s.stop false).l 0 (fun x hx => by
          obtain ⟨y, _, rfl⟩ := List.mem_map.1 hx
          exact ⟨Int.le_refl 0, Int.le_refl 0⟩) x (List.mem_of_getElem? hx)
      rw [List.length_range] at how
      have Hm := Lib.hid (rmember_any p g k x _ wr Hs.out (by rw [hln2]; exact hn) hx (by omega))
      have hup : ((s.stop false).l[k]?.map Lnk.up).getD false = x.up := by rw [← tells_up (List.range k) (s.stop false).l k, hx]; rfl
      have Hsn := Lib.hid (tells_snoc (List.range k) (s.stop false).l k x hx)
      have Hup := Lib.hid hup
      have hbs := Ho.out.size
      clear hx how hup hln2 h1 h2
      go_wp2_with (first | (go_at_call 30; refine Hm.out.mono ?_; rintro e w3 ⟨rfl, hs3, ho3⟩; have hown3 := Lib.hid (own_offg Hown.out ho3 Hlg.out); have hbs3 := Nat.le_trans hbs ho3.size) | (at_builtin; refine wpList_append_own _ rfl (.tmp 19) (.tmp 23) 47 rfl w.heap.size 35 ti _ 11 64 Tryd.underlying47 hti hz1 hz2 hz3 rfl (by decide) _ k _ rfl (hown3.out.alloc _) ⟨w3.heap.size, 0, none⟩ 1 1 (tnList (memberTn k x.up)) rfl rfl (news_block (heap_at0 rfl)) (one_tn _) (by unfold maxLen; omega) (by omega) (by simp; omega) ?_; intro v' w4 hown' hgrow _))
      go_roundw
      case rel =>
        have hs4 := (hs3.step ((Below.refl w3.heap.size w3).alloc (Nat.le_refl _) _)).grown hgrow (own_ge hown3.out) Hlp.out Hlg.out
        refine ⟨k + 1, by omega, by go_num, ?_, ((Ho.out.trans (ho3.mono (by simp))).alloc _).grown hgrow (fun k h => Or.inl (own_ge hown3.out k h)), ?_⟩
        · rw [List.range_succ, Hsn.out]; exact hs4
        · unfold tellsUp at hown' ⊢
          rw [List.range_succ, List.map_append, List.flatMap_append]
          simp only [List.map_cons, List.map_nil, List.flatMap_cons, List.flatMap_nil, List.append_nil]
          rw [Hup.out]; exact hown'
      case measure => simp [intOf]; omega
    · obtain rfl : k = s.l.length := by omega
      go_wp2
      go_ret
      have e1 : tellsUp (s.stop false).l (List.range s.l.length) = startTold s.l := by
        have := tellsUp_all (s.stop false).l
        rw [Hln.out] at this
        rw [this]; exact startTold_stop s.l
      have e2 : tells (s.stop false).l (List.range s.l.length) = s.l.map fun x => Lnk.tell { up := x.up, owed := 0, down := false } := by
        have := tells_all (s.stop false).l
        rw [Hln.out] at this
        rw [this]; show (s.l.map _).map _ = _
        rw [List.map_map]; rfl
      have hown := Hown.out
      have hs := Hs.out
      rw [e1] at hown
      rw [e2] at hs
      refine ⟨_, rfl, ?_, hs, Ho.out⟩
      show World.ownsRow _ _ _ _ _ (startTold s.l).length _
      have e3 : (startTold s.l).length = s.l.length := by simp [startTold]
      rw [e3]; exact hown
end Go.Proofs.YtpkpaloaoopkgaaDoor
