/-
  session.Take.
-/
import Derived.Test.YtpglhnbekpafeaaDoorVb
import Derived.Deep.CutBlock
namespace Go.Proofs.YtpglhnbekpafeaaDoor
set_option linter.unusedVariables false
set_option linter.unusedSimpArgs false
open Go Go.RowKit
attribute [local go_sem ↓] exec_loadNote exec_storeNote exec_loadPkt exec_storePkt
attribute [local go_sem] ldRow_ptr ldFin_some cellsAt_succ cellsAt_zero allSome_cons allSome_nil stRow_ptr stFin_true allOne_cons allOne_nil there_succ there_zero frozens_succ frozens_zero one_int one_bool one_slice putCells_alloc_at putCells_alloc_old over_all

/-- a session, and the packet that was boxed behind the world w. -/
structure Mid (w w' : World) (b : Nat) (t : Ses) (p : Pkt) : Prop where
  ses : SesAt w' b t
  off : Off [b] w w'
  box : w'.heap[w.heap.size]? = some (.cells (pktList p).toArray 36 (0, 0))
  lt : b < w.heap.size
theorem Mid.step {w w' w'' : World} {b : Nat} {t : Ses} {p : Pkt} (h : Mid w w' b t p) (hB : Below w'.heap.size w' w'') : Mid w w'' b t p :=
  ⟨h.ses.step hB, h.off.below hB, by rw [hB.block _ (block_lt h.box)]; exact h.box, h.lt⟩
theorem Mid.drewN {w w' : World} {b : Nat} {t : Ses} {p : Pkt} (h : Mid w w' b t p) (n : Nat) : Mid w (w'.drewN n) b t p := h.step (below_drewN' (Below.refl _ _) n)
theorem Mid.set {w w' : World} {b : Nat} {t t' : Ses} {p : Pkt} {i : Nat} {v : Value} (h : Mid w w' b t p) (e : (sesList t).set i v = sesList t') : Mid w (w'.setCell ⟨b, i, none⟩ v) b t' p :=
  ⟨h.ses.set e, off_set h.off, by rw [Below.heap_setCell _ _ _ _ (by have := h.lt; show w.heap.size ≠ b; omega)]; exact h.box, h.lt⟩
theorem Mid.turn {w w' w'' : World} {b : Nat} {t t' : Ses} {p : Pkt} (h : Mid w w' b t p) (hs : SesAt w'' b t') (ho : Off [b] w' w'') : Mid w w'' b t' p :=
  ⟨hs, h.off.trans ho, by rw [ho.block _ (block_lt h.box) (by have := h.lt; simp; omega)]; exact h.box, h.lt⟩
def heardUp (s : Ses) (p : Pkt) (now : Int) : Ses := if s.known < p.epoch ∧ s.up = true then Ses.reborn { s with link := now } else { s with link := now }
theorem heard_eq (s : Ses) (p : Pkt) (now : Int) : s.heard p now = { heardUp s p now with known := p.epoch, op := p.note.port } := rfl

theorem take_fin {w W : World} {b : Nat} {s t : Ses} {p : Pkt} {now c : Int} {r : Bool} (e : s.take p now = (t, r, c)) (hs : SesAt W b t) (ho : Off [b] w W) :
    TurnPost w b (.tuple #[.bool (s.take p now).2.1, iV (s.take p now).2.2]) (s.take p now).1 (.returned (.tuple #[.bool r, iV c])) W := by rw [e]; exact ⟨rfl, hs, ho⟩
set_option maxHeartbeats 4000000 in
theorem take_any (b : Nat) (s : Ses) (p : Pkt) (now : Int) (w : World) (h : SesAt w b s) (ho : SesOk s) (hl : HasLaid w) (hp : PktIn w p) :
    Calls Tryd.prog 10 #[.pointer (some ⟨b, 0, none⟩), p.val, iV now] w (TurnPost w b (.tuple #[.bool (s.take p now).2.1, iV (s.take p now).2.2]) (s.take p now).1) := by
  have hb0 : Below w.heap.size w (w.alloc (.cells (pktList p).toArray 36)) := (Below.refl _ _).alloc (Nat.le_refl _) _
  have Hh := Lib.hid (helloIs_any p _ (hl.below hb0 hl.1) (hp.step hb0))
  have hm1 : Mid w (w.alloc (.cells (pktList p).toArray 36)) b s p := ⟨h.step hb0, Off.of_below hb0, heap_alloc_new w _, h.lt⟩
  have Hm1 := Lib.hid hm1
  clear hl hp hb0 h hm1
  have Ho := Lib.hid ho
  clear ho
  cases hm : momentB now
  · have Hmo := Lib.hid (fun W => hm ▸ moment_any now W)
    have e : s.take p now = (s, false, 1) := by unfold Ses.take; rw [hm]; rfl
    rw [e]
    clear e hm Hh
    have Hend := Lib.hid (show TurnPost w b (.tuple #[.bool false, iV 1]) s (.returned (.tuple #[.bool false, iV 1])) _ from ⟨rfl, Hm1.out.ses, Hm1.out.off⟩)
    go_enter Tryd.func10, Tryd.ntmps10
    go_wp2_with (go_at_call 22; refine (Hmo.out _).mono ?_; rintro e w' ⟨rfl, rfl⟩)
    go_ret2
    exact Hend.out
  · have Hmo := Lib.hid (fun W => hm ▸ moment_any now W)
    cases hh : helloB p
    · rw [hh] at Hh
      have e : s.take p now = (s, false, 2) := by unfold Ses.take; rw [hm, hh]; rfl
      rw [e]
      clear e hm hh
      go_enter Tryd.func10, Tryd.ntmps10
      go_wp2_with fail
      refine (Hmo.out _).mono ?_
      rintro e w' ⟨rfl, rfl⟩
      go_wp2_with fail
      refine Hh.out.mono ?_
      rintro e w2 ⟨rfl, hB⟩
      have Hend := Lib.hid (show TurnPost w b (.tuple #[.bool false, iV 2]) s (.returned (.tuple #[.bool false, iV 2])) w2 from ⟨rfl, (Hm1.out.step hB).ses, (Hm1.out.step hB).off⟩)
      clear hB
      go_wp2_with fail
      go_ret2
      exact Hend.out
    · rw [hh] at Hh
      have hin := (hello_in hh).1
      have hin2 := (hello_in hh).2.2.2.1
      go_enter Tryd.func10, Tryd.ntmps10
      go_wp2_with fail
      refine (Hmo.out _).mono ?_
      rintro e w' ⟨rfl, rfl⟩
      go_wp2_with fail
      refine Hh.out.mono ?_
      rintro e w2 ⟨rfl, hB⟩
      have hm2 := Hm1.out.step hB
      obtain ⟨p0, p1, p2, p3, p11, p12⟩ := pkt_cells hm2.box
      obtain ⟨_, _, _, _, _, c5, c6, _, _, c9, _⟩ := hm2.ses.cells
      obtain ⟨_, _, _, _, _, _, f9, _⟩ := hm2.ses.fz
      have Hm2 := Lib.hid hm2
      clear hB hm2 Hm1
      by_cases hlt : p.epoch < s.known
      · have e : s.take p now = (s, false, 6) := by unfold Ses.take; rw [hm, hh, if_neg (by simp), if_neg (by simp), if_pos hlt]
        have d1 : decide (p.epoch < s.known) = true := decide_eq_true hlt
        have E := Lib.hid e
        clear e hm hh hlt
        go_wp2_with fail
        go_quiet (fail)
        go_wp2_with fail
        go_ret2
        exact take_fin E.out (Hm2.out.drewN _).ses (Hm2.out.drewN _).off
      · have d1 : decide (p.epoch < s.known) = false := decide_eq_false hlt
        have e : s.take p now = (if p.ack ≠ (s.heard p now).life ∨ (s.heard p now).up = true ∨ (s.heard p now).life = 536870912 then (s.heard p now, false, 0) else (Ses.elect { s.heard p now with up := true } p.note.state, true, 0)) := by
          unfold Ses.take; rw [hm, hh, if_neg (by simp), if_neg (by simp), if_neg hlt]
        have E := Lib.hid e
        have Hok := Lib.hid (Ho.out.heard hh hm)
        clear e hm hh hlt
        go_wp2_with fail
        go_quiet (fail)
        go_upto_region 8 with fail
        have Hm3 := Lib.hid (show Mid w (((w2.drewN nq).setCell ⟨b, 9, none⟩ (iV now))) b { s with link := now } p from (Hm2.out.drewN nq).set (i := 9) (v := iV now) rfl)
        generalize (w2.drewN nq).setCell ⟨b, 9, none⟩ (iV now) = w3 at *
        clear p0 p1 p2 p3 p11 p12 c5 c6 c9 f9 Hm2
        obtain ⟨p0, p1, p2, p3, p11, p12⟩ := pkt_cells Hm3.out.box
        obtain ⟨_, _, _, _, _, c5, c6, _, _, _, _⟩ := Hm3.out.ses.cells
        obtain ⟨hb, hhb⟩ : ∃ x, (decide (s.known < p.epoch) && s.up) = x := ⟨_, rfl⟩
        have HB := Lib.hid hhb
        go_cut [40] (fun s40 w' => s40 = .bool hb ∧ ∃ n, w' = w3.drewN n)
        case first =>
          by_cases hgt : s.known < p.epoch
          · have d2 : decide (s.known < p.epoch) = true := decide_eq_true hgt
            have hu : s.up = hb := by rw [← hhb, d2]; rfl
            have HU := Lib.hid hu
            clear hgt hu hhb
            go_quiet (fail)
            go_wp2_with fail
            go_meet
            exact ⟨by rw [← HU.out], _, rfl⟩
          · have d2 : decide (s.known < p.epoch) = false := decide_eq_false hgt
            have hu : hb = false := by rw [← hhb, d2]; rfl
            have HU := Lib.hid hu
            clear hgt hu hhb
            go_quiet (fail)
            go_wp2_with fail
            go_meet
            exact ⟨by rw [HU.out], _, rfl⟩
        case rest =>
        obtain ⟨rfl, nq, rfl⟩ := hcut
        clear hhb p0 p1 p2 p3 p11 p12 c5 c6
        go_upto_if 40 with fail
        go_cut [] (fun w' => Mid w w' b (heardUp s p now) p)
        case first =>
          have Hre := Lib.hid (reborn_any b { s with link := now } (w3.drewN nq) (Hm3.out.drewN nq).ses Ho.out.life)
          cases hb
          · have eh : heardUp s p now = { s with link := now } := by
              unfold heardUp
              have h := HB.out
              rw [if_neg]
              rintro ⟨h1, h2⟩
              rw [h2, decide_eq_true h1] at h
              cases h
            have EH := Lib.hid eh
            clear eh
            go_wp2_with fail
            go_meet
            rw [EH.out]
            exact Hm3.out.drewN _
          · have eh : heardUp s p now = Ses.reborn { s with link := now } := by
              unfold heardUp
              have h := HB.out
              simp only [Bool.and_eq_true, decide_eq_true_eq] at h
              rw [if_pos h]
            have EH := Lib.hid eh
            clear eh
            go_wp2_with fail
            refine Hre.out.mono ?_
            rintro e w4 ⟨rfl, hs4, ho4⟩
            have H4 := Lib.hid ((Hm3.out.drewN _).turn hs4 ho4)
            clear hs4 ho4
            go_wp2_with fail
            go_meet
            rw [EH.out]
            exact H4.out
        case rest =>
          have hm4 := hcut
          clear hcut
          obtain ⟨p0, p1, p2, p3, p11, p12⟩ := pkt_cells hm4.box
          obtain ⟨_, _, c2, _, _, c5, _, _, _, _, _⟩ := hm4.ses.cells
          obtain ⟨f2, _, f5, _, _, _, _, _⟩ := hm4.ses.fz
          have Hm4 := Lib.hid hm4
          clear hm4
          go_wp2_with fail
          go_region
          go_upto_region 11 with fail
          have H5 := Lib.hid (show Mid w (((wc.setCell ⟨b, 5, none⟩ (iV p.epoch)).setCell ⟨b, 2, none⟩ (iV p.note.port)).drew) b (s.heard p now) p from
            Mid.drewN ((Hm4.out.set (i := 5) (v := iV p.epoch) (t' := { heardUp s p now with known := p.epoch }) rfl).set (i := 2) (v := iV p.note.port) (t' := s.heard p now) rfl) 1)
          generalize ((wc.setCell ⟨b, 5, none⟩ (iV p.epoch)).setCell ⟨b, 2, none⟩ (iV p.note.port)).drew = w5 at *
          clear p0 p1 p2 p3 p11 p12 c2 c5 f2 f5 Hm4
          obtain ⟨_, _, p2, _, _, p12⟩ := pkt_cells H5.out.box
          obtain ⟨_, _, _, _, c4, _, c6, _, _, _, _⟩ := H5.out.ses.cells
          obtain ⟨_, _, _, f6, _, _, _, _⟩ := H5.out.ses.fz
          generalize s.heard p now = t at *
          obtain ⟨tu, htu⟩ : ∃ x, t.up = x := ⟨_, rfl⟩
          rw [htu] at c6
          by_cases hack : p.ack = t.life
          · have d5 : (p.ack != t.life) = false := by simpa using hack
            cases tu
            · by_cases hlast : t.life = 536870912
              · have d6 : (t.life == 536870912) = true := by simpa using hlast
                have E2 := Lib.hid (show s.take p now = (t, false, 0) by rw [E.out, if_pos (.inr (.inr hlast))])
                clear hack hlast htu
                go_quiet (fail)
                go_wp2_with fail
                go_ret2
                exact take_fin E2.out (H5.out.drewN _).ses (H5.out.drewN _).off
              · have d6 : (t.life == 536870912) = false := by simpa using hlast
                have E2 := Lib.hid (show s.take p now = (Ses.elect { t with up := true } p.note.state, true, 0) by
                  rw [E.out, if_neg]
                  rintro (h | h | h)
                  · exact h hack
                  · rw [htu] at h; cases h
                  · exact hlast h)
                have He := Lib.hid (fun n => elect_any b { t with up := true } p.note.state ((w5.drewN n).setCell ⟨b, 6, none⟩ (.bool true)) ((H5.out.drewN n).ses.set (i := 6) (v := .bool true) rfl))
                clear hack hlast htu
                go_quiet (fail)
                go_wp2_with fail
                refine (He.out _).mono ?_
                rintro e w6 ⟨rfl, hs6, ho6⟩
                have H6 := Lib.hid (take_fin E2.out hs6 ((off_set (H5.out.drewN _).off).trans ho6))
                clear hs6 ho6
                go_wp2_with fail
                go_ret2
                exact H6.out
            · have E2 := Lib.hid (show s.take p now = (t, false, 0) by rw [E.out, if_pos (.inr (.inl htu))])
              clear hack htu
              go_quiet (fail)
              go_wp2_with fail
              go_ret2
              exact take_fin E2.out (H5.out.drewN _).ses (H5.out.drewN _).off
          · have d5 : (p.ack != t.life) = true := by simpa using hack
            have E2 := Lib.hid (show s.take p now = (t, false, 0) by rw [E.out, if_pos (.inl hack)])
            clear hack htu
            go_quiet (fail)
            go_wp2_with fail
            go_ret2
            exact take_fin E2.out (H5.out.drewN _).ses (H5.out.drewN _).off
end Go.Proofs.YtpglhnbekpafeaaDoor
