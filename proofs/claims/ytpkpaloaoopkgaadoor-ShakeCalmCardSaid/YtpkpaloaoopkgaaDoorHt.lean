/-
  gemellaw22.hear: a note is heard.
-/
import Derived.Test.YtpkpaloaoopkgaaDoorHs
import Derived.Deep.RegionLaw
namespace Go.Proofs.YtpkpaloaoopkgaaDoor
set_option linter.unusedVariables false
set_option linter.unusedSimpArgs false
open Go Go.RowKit
attribute [local go_sem ↓] exec_loadNote exec_storeNote exec_loadItem exec_storeItem
attribute [local go_sem] ldRow_ptr ldFin_some cellsAt_succ cellsAt_zero allSome_cons allSome_nil stRow_ptr stFin_true allOne_cons allOne_nil there_succ there_zero frozens_succ frozens_zero one_int one_bool one_slice putCells_alloc_at putCells_alloc_old over_all

set_option maxHeartbeats 4000000 in
theorem hear_note (base bx bw i j : Nat) (A B : Side) (x : Itm) (r : List Itm) (M : Int) (w : World) (h : NetAt w base bx bw i j A B) (hq : A.q = x :: r) (hfr : x.fr = false) (hone : One A.s M) (hM : M ≤ 1000000) (hf : Fine x.t) (hbase : 0 < base) (hl : HasLaid w) (hlen2 : B.q.length ≤ 1000000) :
    Calls Tryd.prog 18 #[.pointer (some ⟨A.p, 0, none⟩), .pointer (some ⟨bw, i, none⟩), .pointer (some ⟨bw, j, none⟩)] w fun e w' => ∃ v' vb', HearPost base bx bw i j w { A with s := (A.s.take x.t.note).1, v := v', q := r } { B with v := vb', q := B.q ++ (A.s.take x.t.note).2.1.map noteItm } e w' := by
  obtain ⟨ti, hti, hz1, hz2, hz3⟩ := itemInfo
  have hca := h.ca
  have hfa := h.fa
  have hqa := h.qa
  rw [hq] at hqa
  rcases hqa.form with ⟨_, hv⟩ | ⟨g, off, cap, hv, hcap, hgl⟩
  · cases hv
  rw [hv] at hca hqa
  have hcells := hqa.cells
  obtain ⟨c0, c1, c2, c3, c4, c5, c6, c7, c8, c9, c10, c11, c12, c13, c14, c15⟩ := itm_cells (x := x) (fun k u hu => hcells k u (by
    rw [itmFlat_cons, List.getElem?_append_left (List.getElem?_eq_some_iff.1 hu).1]; exact hu))
  have hlen : (x :: r).length = r.length + 1 := rfl
  rw [hlen] at hca hcap hqa
  have hpop := h.pop (cut_row hqa) (fun k hk => by rw [cut_own hk, hv]; rfl)
  have hba : Below base w (w.setCell ⟨bw, i, none⟩ (cutV g off r.length cap)) := (Below.refl _ _).setCell h.lo.2.2.2.2.2 _
  have hpop2 := hpop.step ((Below.refl _ _).alloc (Nat.le_refl _) (.cells (itmList x).toArray 53))
  have hba2 := hba.alloc (by have := h.ltx.2; have := h.lo.2.2.2.2.2; simp; omega) (.cells (itmList x).toArray 53)
  have hW : ∀ o, ((w.setCell ⟨bw, i, none⟩ (cutV g off r.length cap)).alloc (.cells (itmList x).toArray 53)).cell? ⟨w.heap.size, o, none⟩ = (itmList x).toArray[o]? := fun o => by
    have := heap_alloc_new (w.setCell ⟨bw, i, none⟩ (cutV g off r.length cap)) (.cells (itmList x).toArray 53)
    rw [show (w.setCell ⟨bw, i, none⟩ (cutV g off r.length cap)).heap.size = w.heap.size by simp] at this
    exact cell_of_block this o
  have Hpop := Lib.hid hpop2; have Hba := Lib.hid hba2; have HW := Lib.hid hW
  have hbw := h.ltx.2
  have Hone := Lib.hid hone
  have Hf := Lib.hid hf
  have Hl := Lib.hid (hl.below hba2 hbase)
  have hne0 : (((r.length : Nat) : Int) + 1 == 0) = false := by rw [beq_eq_false_iff_ne]; omega
  clear h hqa hcells hv hlen hpop hba hpop2 hba2 hW hone hf hl
  have h11 := c11
  rw [hfr] at c11
  go_enter Tryd.func18, Tryd.ntmps18
  go_upto_region 5 with fail
  have e2 := itm_arr x false hfr
  rw [e2]
  clear c0 c1 c2 c3 c4 c5 c6 c7 c8 c9 c10 c11 c12 c13 c14 c15 h11 hca hfa e2
  generalize hw2 : (w.setCell ⟨bw, i, none⟩ (cutV g off r.length cap)).alloc (.cells (itmList x).toArray 53) = w2 at *
  generalize Value.agg (itmList x).toArray = u21
  generalize (if cap = 1 then some (⟨g, off, none⟩ : Addr) else some ⟨g, off + 16, none⟩) = ov
  have cf : w2.cell? ⟨w.heap.size, 11, none⟩ = some (.bool false) := by rw [HW.out 11, ← hfr]; rfl
  have d0 := HW.out 0
  have d1 := HW.out 1
  have d2 := HW.out 2
  have d3 := HW.out 3
  have d4 := HW.out 4
  have d5 := HW.out 5
  have d6 := HW.out 6
  have d7 := HW.out 7
  have d8 := HW.out 8
  have d9 := HW.out 9
  have d10 := HW.out 10
  have Htk := Lib.hid (show Calls Tryd.prog 20 #[.pointer (some ⟨A.p, 0, none⟩), x.t.note.val] w2 (TakePost w2 A.p A.g A.s x.t.note) from
    take_any A.p A.g A.s x.t.note w2 Hpop.out.sa (by rw [Hone.out.len]; decide) (fun y hy => by have := Hone.out.owed y hy; omega) Hl.out)
  clear hw2
  go_upto_region 13 with (go_at_call 20; refine Htk.out.mono ?_; rintro e w3 ⟨v, rfl, ht, hs3, ho3⟩)
  rw [take_ok Hone.out Hf.out]
  have hnet3 := Hpop.out.shake hs3 (ho3.mono (by simp))
  have hfew := told_few2 A.s x.t.note
  have hps := PushRel.start (w0 := w) hnet3 ht ⟨Hpop.out.ltx.2, fun m hm => (Hpop.out.qb.lt m hm).2⟩ (Hba.out.trans ((ho3.toBelow Hpop.out.below (by simp; exact Hpop.out.lo.2.1))))
  clear cf d0 d1 d2 d3 d4 d5 d6 d7 d8 d9 d10 hnet3 hs3 ho3 ht Htk
  generalize hns : (A.s.take x.t.note).2.1 = ns at *
  generalize hs' : (A.s.take x.t.note).1 = s' at *
  have Hns := Lib.hid hns; have Hs' := Lib.hid hs'
  clear hns hs'
  obtain ⟨a, capn, rfl, _⟩ := hps.notes
  have Hps := Lib.hid hps
  have hnc : (ns.length : Int) ≤ 63 := by omega
  clear hps
  go_wp2_with fail
  go_loopw [11] (fun idx wr => ∃ (k : Nat) (vb : Value), k ≤ ns.length ∧ idx = iV k ∧ PushRel w base bx bw i j { A with s := s', v := cutV g off r.length cap, q := r } B (.slice a ns.length capn) ns wr k vb) (fun idx _ => ns.length - (intOf idx).toNat)
  case atStart => exact ⟨0, B.v, Nat.zero_le _, rfl, Hps.out⟩
  case round =>
    obtain ⟨k, vb, hk, rfl, hp⟩ := hrel
    by_cases hlt : k < ns.length
    · obtain ⟨t, hnt⟩ : ∃ t, ns[k]? = some t := ⟨_, List.getElem?_eq_getElem hlt⟩
      obtain ⟨_, _, e1, hc⟩ := hp.notes
      injection e1 with e1 _ e1c
      subst e1 e1c
      obtain ⟨b, rfl, hb1, hcell⟩ := hc (by omega)
      obtain ⟨c0, c1, c2, c3, c4, c5, c6, c7, c8, c9, c10⟩ := note_cells (hcell k t hnt)
      have hco := hp.net.cb
      have hfo := hp.net.fb
      have hk0 : (0 : Int) ≤ (k : Int) := by omega
      have hkn : (k : Int) < (ns.length : Int) := by omega
      have Hp := Lib.hid hp
      have hlb : (B.q ++ (ns.take k).map noteItm).length ≤ 1000063 := by simp; omega
      obtain ⟨n, hn⟩ : ∃ n, n = (B.q ++ (ns.take k).map noteItm).length := ⟨_, rfl⟩
      rw [← hn] at hlb
      have hqb : qRow wr base 53 16 vb n (itmFlat (B.q ++ (ns.take k).map noteItm)) := hn ▸ Hp.out.net.qb
      have Hqb := Lib.hid hqb; have Hn := Lib.hid hn
      have h63 : n + 1 ≤ maxLen := by simp only [maxLen]; omega
      have hby : (n + 1) * 72 ≤ 140737488355328 := by omega
      have hbs : base ≤ (wr.alloc (.cells (itmList (noteItm t)).toArray 53)).drew.heap.size := by have := Hp.out.net.below; simp; omega
      have H63 := Lib.hid h63; have Hby := Lib.hid hby; have Hbs := Lib.hid hbs; have Hnt := Lib.hid hnt
      have hlw := hp.net.ltx.2
      clear hp hc hcell h63 hby hbs hlb hnt hqb hn
      go_wp2_with fail
      go_region_law ((refine step_append_q _ (by rfl) _ _ _ (by rfl) base 53 ti _ 16 72 Tryd.underlying43 hti hz1 hz2 hz3 rfl (by decide) vb n _ (by rfl) (Hqb.out.alloc _).drew ⟨wr.heap.size, 0, none⟩ 1 1 (itmList (noteItm t)) (by rfl) (by rfl) (World.news_of_block (cs := (itmList (noteItm t)).toArray) (t := 53) (fr := (0, 0)) (heap_alloc_new wr _)) (one_itm _) (by decide) H63.out Hby.out Hbs.out (wr.heap.size + 1) (by simp) ?_; intro g1 off1 cap1 w1 hq1 hg1 hat hlt1; have hpc := Hp.out.net.push_cell hg1; obtain ⟨hpc1, hpc2⟩ := hpc))
      all_goals
        go_wp2_with fail
        go_roundw
        case rel => exact ⟨k + 1, _, by omega, by go_num, Hp.out.next Hnt.out Hn.out hq1 hg1 hat⟩
        case measure => simp [intOf]; omega
    · obtain rfl : k = ns.length := by omega
      have hnet := hp.net
      rw [List.take_length] at hnet
      have Hnet := Lib.hid hnet; have Hbel := Lib.hid hp.bel
      clear hp hnet
      go_wp2_with fail
      go_ret
      exact ⟨cutV g off r.length cap, vb, rfl, by rw [Hns.out, Hs'.out]; exact Hnet.out, Hbel.out⟩
end Go.Proofs.YtpkpaloaoopkgaaDoor
