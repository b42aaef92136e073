/-
  The layer shake: members: what is told of the members of some links.
-/
import Derived.Test.YtpkpaloaoopkgaaDoorSb
namespace Go.Proofs.YtpkpaloaoopkgaaDoor
set_option linter.unusedVariables false
set_option linter.unusedSimpArgs false
open Go Go.RowKit
attribute [local go_sem ↓] exec_loadNote exec_storeNote
attribute [local go_sem] ldRow_ptr ldFin_some cellsAt_succ cellsAt_zero allSome_cons allSome_nil stRow_ptr stFin_true allOne_cons allOne_nil there_succ there_zero frozens_succ frozens_zero one_int one_bool one_slice putCells_alloc_at putCells_alloc_old over_all

def MemRel (w : World) (p g : Nat) (s : Shk) (is : List Nat) (out idx : Value) (wr : World) : Prop :=
  ∃ k : Nat, k ≤ is.length ∧ idx = iV k ∧ ShkOk wr p g { s with l := tells s.l (is.take k) } ∧ Off [g] w wr ∧ wr.ownsRow w.heap.size 35 11 out k ((tellsUp s.l (is.take k)).flatMap tnList)

theorem tellsUp_snoc (l : List Lnk) (is : List Nat) (k i : Nat) (hk : is[k]? = some i) (u : Bool) (hu : (l[i]?.map Lnk.up).getD false = u) :
    (tellsUp l (is.take (k + 1))).flatMap tnList = (tellsUp l (is.take k)).flatMap tnList ++ tnList (memberTn i u) := by
  unfold tellsUp
  rw [List.take_add_one, hk]
  simp [List.flatMap_append, hu]
theorem tellsUp_length (l : List Lnk) (is : List Nat) : (tellsUp l is).length = is.length := by simp [tellsUp]

set_option maxHeartbeats 4000000 in
theorem members_any (p g b cap : Nat) (s : Shk) (is : List Nat) (w : World) (h : ShkOk w p g s) (hn : s.l.length ≤ 63) (hm : is.length ≤ 63) (his : ∀ i ∈ is, i < s.l.length) (ho : ∀ x ∈ s.l, 0 ≤ x.owed ∧ x.owed ≤ 1000000)
    (hb : b < w.heap.size) (hbg : b ≠ g) (hc : ∀ (q i : Nat), is[q]? = some i → w.cell? ⟨b, q, none⟩ = some (iV ((i : Int) + 1))) :
    Calls Tryd.prog 28 #[.pointer (some ⟨p, 0, none⟩), .slice (some ⟨b, 0, none⟩) is.length cap] w fun e w' => ∃ v, e = .returned v ∧ Told 35 w' w.heap.size v (tellsUp s.l is) ∧ ShkOk w' p g { s with l := tells s.l is } ∧ Off [g] w w' := by
  obtain ⟨ti, hti, hz1, hz2, hz3⟩ := noteInfo
  have Hs := Lib.hid h; have His := Lib.hid his; have Ho := Lib.hid ho; have Hc := Lib.hid hc
  clear h his ho hc
  go_enter Tryd.func28, Tryd.ntmps28
  go_wp2
  go_loopw [5, 12] (fun out idx wr => MemRel w p g s is out idx wr) (fun _ idx _ => is.length - (intOf idx).toNat)
  case atStart => exact ⟨0, Nat.zero_le _, rfl, Hs.out, Off.refl _ _, World.ownsRow_nil _ _ _ _⟩
  case round =>
    obtain ⟨k, hk, rfl, hs, hoff, hown⟩ := hrel
    have Hsr := Lib.hid hs; have Hoff := Lib.hid hoff; have Hown := Lib.hid hown
    clear hs hoff hown
    by_cases hlt : k < is.length
    · obtain ⟨i, hi⟩ : ∃ i, is[k]? = some i := ⟨is[k], List.getElem?_eq_getElem hlt⟩
      have hil := His.out i (List.mem_of_getElem? hi)
      have hil2 : i < (tells s.l (is.take k)).length := by rw [tells_length]; exact hil
      obtain ⟨x, hx⟩ : ∃ x, (tells s.l (is.take k))[i]? = some x := ⟨_, List.getElem?_eq_getElem hil2⟩
      have cb : wr.cell? ⟨b, k, none⟩ = some (iV ((i : Int) + 1)) := by rw [Hoff.out.cell (p := ⟨b, k, none⟩) hb (by simp; exact hbg)]; exact Hc.out k i hi
      have hbs := Hoff.out.size
      have how := tells_owed (is.take k) s.l 1000000 Ho.out x (List.mem_of_getElem? hx)
      have hlen : (is.take k).length ≤ 63 := by rw [List.length_take]; omega
      have how1 := how.1
      have how2 : x.owed ≤ 1000063 := by omega
      have hup : (s.l[i]?.map Lnk.up).getD false = x.up := by rw [← tells_up (is.take k) s.l i, hx]; rfl
      have hsn := tells_snoc (is.take k) s.l i x hx
      have htk : is.take (k + 1) = is.take k ++ [i] := by rw [List.take_add_one, hi]; rfl
      have Hx := Lib.hid hx
      have Hsnoc := Lib.hid (show tells s.l (is.take (k + 1)) = (tells s.l (is.take k)).set i (Lnk.tell x) by rw [htk]; exact hsn)
      have Hts := Lib.hid (tellsUp_snoc s.l is k i hi x.up hup)
      have hk0 : (0 : Int) ≤ (k : Int) := by omega
      have hkn : (k : Int) < (is.length : Int) := by omega
      have Hat := Lib.hid (fun W (hB : Below wr.heap.size wr W) => at_yes p g i _ W (Hsr.out.step hB) (by rw [tells_length]; exact hn) hil2)
      have c0 := Hsr.out.c0 hx
      have c1 := Hsr.out.c1 hx
      have lg := Hsr.out.lt.2
      have fg := Hsr.out.fz.2
      clear hi hil hil2 how hlen hup hsn htk hx
      cases hxu : x.up
      · rw [hxu] at c0
        have Hxu := Lib.hid hxu
        clear hxu
        go_wp2_with (first | (go_at_call 26; refine (Hat.out _ ((Below.refl _ _).alloc (Nat.le_refl _) _)).mono ?_; rintro e w' ⟨rfl, rfl⟩) | (at_builtin; refine wpList_append_own _ rfl (.tmp 33) (.tmp 35) 47 rfl w.heap.size 35 ti _ 11 64 Tryd.underlying47 hti hz1 hz2 hz3 rfl (by decide) _ k _ rfl ((Hown.out.alloc _).alloc _) ⟨wr.heap.size + 1, 0, none⟩ 1 1 (tnList (memberTn i false)) rfl rfl (news_block (heap_at0 (by simp))) (one_tn _) (by unfold maxLen; omega) (by omega) (by simp; omega) ?_; intro v' w1 hown' hgrow _))
        go_roundw
        case rel =>
          have hs2 : ShkOk w1 p g { s with l := tells s.l (is.take k) } := ((Hsr.out.step ((Below.refl _ _).alloc (Nat.le_refl _) _)).step ((Below.refl _ _).alloc (Nat.le_refl _) _)).grown hgrow (own_ge Hown.out) Hs.out.lt.1 Hs.out.lt.2
          refine ⟨k + 1, by omega, by go_num, ?_, ((Hoff.out.alloc _).alloc _).grown hgrow (fun k h => Or.inl (own_ge Hown.out k h)), ?_⟩
          · have e : Lnk.tell x = x := by unfold Lnk.tell; rw [Hxu.out]; rfl
            rw [Hsnoc.out, e, set_same _ _ _ Hx.out]; exact hs2
          · rw [Hts.out, Hxu.out]; exact hown'
        case measure => simp [intOf]; omega
      · rw [hxu] at c0
        have Hxu := Lib.hid hxu
        clear hxu
        go_upto_region 10 with (go_at_call 26; refine (Hat.out _ ((Below.refl _ _).alloc (Nat.le_refl _) _)).mono ?_; rintro e w' ⟨rfl, rfl⟩)
        have hsy := Hsr.out.setOwed Hx.out (x.owed + 1)
        have hoy : Off [g] w (wr.setCell ⟨g, i * 3 + 1, none⟩ (.int .i64 (x.owed + 1))) := Hoff.out.setCell (by simp) _
        have howny := own_off Hown.out ((Off.refl [g] wr).setCell (p := ⟨g, i * 3 + 1, none⟩) (by simp) (.int .i64 (x.owed + 1))) (fun q hq e => by
          have h1 := own_ge Hown.out q e
          have h2 : q = g := by simpa using hq
          have := Hs.out.lt.2
          omega)
        have Hsy := Lib.hid hsy; have Hoy := Lib.hid hoy; have Howny := Lib.hid howny
        have hbs2 := hoy.size
        clear hsy hoy howny c0 c1 lg fg cb hbs
        have hsz : (wr.setCell ⟨g, i * 3 + 1, none⟩ (.int .i64 (x.owed + 1))).heap.size = wr.heap.size := by simp
        generalize wr.setCell ⟨g, i * 3 + 1, none⟩ (.int .i64 (x.owed + 1)) = wy at *
        rw [← hsz]
        clear hsz
        go_wp2_with (at_builtin; refine wpList_append_own _ rfl (.tmp 33) (.tmp 35) 47 rfl w.heap.size 35 ti _ 11 64 Tryd.underlying47 hti hz1 hz2 hz3 rfl (by decide) _ k _ rfl ((Howny.out.alloc _).alloc _) ⟨wy.heap.size + 1, 0, none⟩ 1 1 (tnList (memberTn i true)) rfl rfl (news_block (heap_at0 (by simp))) (one_tn _) (by unfold maxLen; omega) (by omega) (by simp; omega) ?_; intro v' w1 hown' hgrow _)
        go_roundw
        case rel =>
          have hs2 := ((Hsy.out.step ((Below.refl _ _).alloc (Nat.le_refl _) _)).step ((Below.refl _ _).alloc (Nat.le_refl _) _)).grown hgrow (own_ge Howny.out) Hs.out.lt.1 Hs.out.lt.2
          refine ⟨k + 1, by omega, by go_num, ?_, ((Hoy.out.alloc _).alloc _).grown hgrow (fun k h => Or.inl (own_ge Howny.out k h)), ?_⟩
          · have e : Lnk.tell x = { x with owed := x.owed + 1 } := by unfold Lnk.tell; rw [Hxu.out]; rfl
            rw [Hsnoc.out, e]; exact hs2
          · rw [Hts.out, Hxu.out]; exact hown'
        case measure => simp [intOf]; omega
    · have hkn : k = is.length := by omega
      have hend : ShkOk wr p g { s with l := tells s.l is } := by have := Hsr.out; rw [hkn, List.take_length] at this; exact this
      have howe := Hown.out
      rw [hkn, List.take_length] at howe
      clear hkn
      go_wp2
      go_ret
      exact ⟨_, rfl, by show World.ownsRow _ _ _ _ _ _ _; rw [tellsUp_length]; exact howe, hend, Hoff.out⟩
end Go.Proofs.YtpkpaloaoopkgaaDoor
