/-
  The walk of the law SessionMeets.
-/
import Derived.Test.YtpglhnbekpafeaaDoorVd
import Derived.Deep.LoopGhost
namespace Go.Proofs.YtpglhnbekpafeaaDoor
set_option linter.unusedVariables false
set_option linter.unusedSimpArgs false
open Go Go.RowKit

def MeetW (w0 w : World) (x y k : Nat) (now M : Int) : Prop := ∃ a b, Pair w0 w x y a b ∧ Meet k now M a b

theorem sesNew_any (id prio life : Int) (w : World) : Calls Tryd.prog 9 #[iV id, iV prio, iV life] w fun e w' => ∃ r c, e = .returned (.tuple #[r, iV c]) ∧ Below w.heap.size w w' := by
  cases h : newB id prio life
  · refine (sesNew_no id prio life w h).mono ?_
    rintro e w' ⟨rfl, rfl⟩
    exact ⟨_, _, rfl, Below.refl _ _⟩
  · refine (sesNew_ok id prio life w h).mono ?_
    rintro e w' ⟨b, rfl, _, _, hB⟩
    exact ⟨_, _, rfl, hB⟩
theorem cells_far {w w' : World} {b : Nat} {c : List Value} {T : TypeId} (h : w.heap[b]? = some (.cells c.toArray T (0, 0))) (hB : Below w.heap.size w w') : w'.heap[b]? = some (.cells c.toArray T (0, 0)) := by rw [hB.block _ (block_lt h)]; exact h
theorem meet_roles {now M : Int} {a b : Ses} (h : Meet 2 now M a b) : (a.role = 2 ∧ b.role = 1) ∨ (a.role = 1 ∧ b.role = 2) := by
  have hks := h.ks
  rw [if_neg (by decide)] at hks
  obtain ⟨h1, h2, h3, h4, h5, h6, h7⟩ := hks
  rw [if_neg (by decide)] at h7
  rw [h4, h7.2]
  obtain ⟨r1, r2, r3⟩ := roles_apart (a := a) (b := b) (by have := h.ids; omega)
  rcases r2 with r2 | r2 <;> rcases r3 with r3 | r3 <;> rw [r2, r3] at r1 ⊢ <;> simp at r1 ⊢
/-- the checks behind three hellos each. -/
structure UpsAt (w : World) (x y : Nat) (ra rb ep : Int) : Prop where
  ua : ∀ n, Calls Tryd.prog 12 #[.pointer (some ⟨x, 0, none⟩)] (w.drewN n) fun e w' => e = .returned (.bool true) ∧ (w.drewN n) = w'
  ub : ∀ n, Calls Tryd.prog 12 #[.pointer (some ⟨y, 0, none⟩)] (w.drewN n) fun e w' => e = .returned (.bool true) ∧ (w.drewN n) = w'
  ea : ∀ n, Calls Tryd.prog 13 #[.pointer (some ⟨x, 0, none⟩)] (w.drewN n) fun e w' => e = .returned (iV ep) ∧ ∃ m, w' = (w.drewN n).drewN m
  eb : ∀ n, Calls Tryd.prog 13 #[.pointer (some ⟨y, 0, none⟩)] (w.drewN n) fun e w' => e = .returned (iV ep) ∧ ∃ m, w' = (w.drewN n).drewN m
  ra : ∀ n, Calls Tryd.prog 14 #[.pointer (some ⟨x, 0, none⟩)] (w.drewN n) fun e w' => e = .returned (iV ra) ∧ (w.drewN n) = w'
  rb : ∀ n, Calls Tryd.prog 14 #[.pointer (some ⟨y, 0, none⟩)] (w.drewN n) fun e w' => e = .returned (iV rb) ∧ (w.drewN n) = w'
theorem upsAt {w0 w : World} {x y : Nat} {a b : Ses} {ra rb : Int} (h : Pair w0 w x y a b) (oa : SesOk a) (ob : SesOk b) (ua : a.up = true) (ub : b.up = true) (he : a.epoch = b.epoch) (hra : a.role = ra) (hrb : b.role = rb) : UpsAt w x y ra rb a.epoch where
  ua := fun n => ua ▸ up_any x a _ (h.drewN n).sa
  ub := fun n => ub ▸ up_any y b _ (h.drewN n).sb
  ea := fun n => epoch_any x a _ (h.drewN n).sa (by have := oa.life; omega) oa.known
  eb := fun n => he ▸ epoch_any y b _ (h.drewN n).sb (by have := ob.life; omega) ob.known
  ra := fun n => hra ▸ role_any x a _ (h.drewN n).sa
  rb := fun n => hrb ▸ role_any y b _ (h.drewN n).sb

set_option maxRecDepth 100000 in
set_option maxHeartbeats 4000000 in
theorem meets_any (x0 x1 x2 x3 now : Int) (w : World) (hl : HasLaid w) :
    Calls Tryd.prog 3 #[.agg #[iV x0, iV x1, iV x2, iV x3], iV now] w fun e w' => e = .returned (.bool true) ∧ Below w.heap.size w w' := by
  have hb0 : Below w.heap.size w (w.alloc (.cells #[iV x0, iV x1, iV x2, iV x3] 22)) := (Below.refl _ _).alloc (Nat.le_refl _) _
  have Haw := Lib.hid (awake_any _ (hl.below hb0 hl.1))
  have hx : (w.alloc (.cells #[iV x0, iV x1, iV x2, iV x3] 22)).heap[w.heap.size]? = some (.cells #[iV x0, iV x1, iV x2, iV x3] 22 (0, 0)) := heap_alloc_new w _
  have Hx := Lib.hid hx
  have Hl := Lib.hid hl
  have Hb0 := Lib.hid hb0
  clear hl hb0 hx
  go_enter Tryd.func3, Tryd.ntmps3
  go_wp2_with fail
  refine Haw.out.mono ?_
  rintro e w1 ⟨rfl, hB⟩
  have hbx : w1.heap[w.heap.size]? = some (.cells #[iV x0, iV x1, iV x2, iV x3] 22 (0, 0)) := by rw [hB.block _ (by simp)]; exact Hx.out
  have Hbx := Lib.hid hbx
  have Hb1 := Lib.hid (Hb0.out.trans (hB.mono (by simp)))
  clear hB hbx Haw Hx Hb0
  have q0 : w1.cell? ⟨w.heap.size, 0, none⟩ = some (iV x0) := by rw [cell_of_block Hbx.out]; rfl
  have q1 : w1.cell? ⟨w.heap.size, 1, none⟩ = some (iV x1) := by rw [cell_of_block Hbx.out]; rfl
  have q2 : w1.cell? ⟨w.heap.size, 2, none⟩ = some (iV x2) := by rw [cell_of_block Hbx.out]; rfl
  have q3 : w1.cell? ⟨w.heap.size, 3, none⟩ = some (iV x3) := by rw [cell_of_block Hbx.out]; rfl
  cases h0 : newB 0 x0 x1
  · have Hn := Lib.hid (sesNew_no 0 x0 x1 w1 h0)
    clear h0
    go_wp2_with fail
    refine Hn.out.mono ?_
    rintro e w' ⟨rfl, rfl⟩
    go_wp2_with fail
    refine (sesNew_any 1 x2 x3 w1).mono ?_
    rintro e w2 ⟨r, c, rfl, hB⟩
    have Hend := Lib.hid (Hb1.out.trans (hB.mono Hb1.out.size))
    clear hB
    go_wp2_with fail
    go_ret
    exact ⟨rfl, Hend.out⟩
  have Hn := Lib.hid (sesNew_ok 0 x0 x1 w1 h0)
  have H0 := Lib.hid h0
  have hin0 := of_decide_eq_true h0
  clear h0
  go_wp2_with fail
  refine Hn.out.mono ?_
  rintro e w2 ⟨x, rfl, hx, hs, hB⟩
  have Hbx2 := Lib.hid (cells_far (c := [iV x0, iV x1, iV x2, iV x3]) Hbx.out hB)
  have Hsa := Lib.hid hs; have HB2 := Lib.hid hB
  clear hs hB q0 q1 q2 q3
  have q1 : w2.cell? ⟨w.heap.size, 1, none⟩ = some (iV x1) := by rw [cell_of_block Hbx2.out]; rfl
  have q2 : w2.cell? ⟨w.heap.size, 2, none⟩ = some (iV x2) := by rw [cell_of_block Hbx2.out]; rfl
  have q3 : w2.cell? ⟨w.heap.size, 3, none⟩ = some (iV x3) := by rw [cell_of_block Hbx2.out]; rfl
  cases h1 : newB 1 x2 x3
  · have Hn1 := Lib.hid (sesNew_no 1 x2 x3 w2 h1)
    have Hend := Lib.hid (Hb1.out.trans (HB2.out.mono Hb1.out.size))
    clear h1
    go_wp2_with fail
    refine Hn1.out.mono ?_
    rintro e w' ⟨rfl, rfl⟩
    go_wp2_with fail
    go_ret
    exact ⟨rfl, Hend.out⟩
  have Hn1 := Lib.hid (sesNew_ok 1 x2 x3 w2 h1)
  have H1 := Lib.hid h1
  have hin1 := of_decide_eq_true h1
  clear h1
  go_wp2_with fail
  refine Hn1.out.mono ?_
  rintro e w3 ⟨y, rfl, hy, hs, hB⟩
  have Hbx3 := Lib.hid (cells_far (c := [iV x0, iV x1, iV x2, iV x3]) Hbx2.out hB)
  have Hp := Lib.hid (show Pair w1 w3 x y (Ses.new 0 x0 x1) (Ses.new 1 x2 x3) from ⟨Hsa.out.step hB, hs, by have := Hsa.out.lt; omega, ⟨hx, by have := HB2.out.size; omega⟩, HB2.out.trans (hB.mono HB2.out.size)⟩)
  clear hs hB q1 q2 q3 Hsa HB2 Hn Hn1 Hbx Hbx2 hx hy
  have q1 : w3.cell? ⟨w.heap.size, 1, none⟩ = some (iV x1) := by rw [cell_of_block Hbx3.out]; rfl
  have q3 : w3.cell? ⟨w.heap.size, 3, none⟩ = some (iV x3) := by rw [cell_of_block Hbx3.out]; rfl
  have Hend := Lib.hid (Hb1.out.trans (Hp.out.bel.mono Hb1.out.size))
  by_cases g1 : 268435456 < x1
  · have d1 : decide (268435456 < x1) = true := decide_eq_true g1
    clear g1 hin0 hin1
    go_wp2_with fail
    go_ret
    exact ⟨rfl, Hend.out⟩
  have d1 : decide (268435456 < x1) = false := decide_eq_false g1
  by_cases g3 : 268435456 < x3
  · have d3 : decide (268435456 < x3) = true := decide_eq_true g3
    clear g1 g3 hin0 hin1
    go_wp2_with fail
    go_ret
    exact ⟨rfl, Hend.out⟩
  have d3 : decide (268435456 < x3) = false := decide_eq_false g3
  by_cases g4 : now < 0
  · have d4 : decide (now < 0) = true := decide_eq_true g4
    clear g1 g3 g4 hin0 hin1
    go_wp2_with fail
    go_ret
    exact ⟨rfl, Hend.out⟩
  have d4 : decide (now < 0) = false := decide_eq_false g4
  by_cases g5 : 549755813888 < now
  · have d5 : decide (549755813888 < now) = true := decide_eq_true g5
    clear g1 g3 g4 g5 hin0 hin1
    go_wp2_with fail
    go_ret
    exact ⟨rfl, Hend.out⟩
  have d5 : decide (549755813888 < now) = false := decide_eq_false g5
  have Hmw := Lib.hid (show MeetW w1 w3 x y 0 now 268435456 from ⟨_, _, Hp.out, meet_start H0.out H1.out _ _ (by omega) (by omega)⟩)
  have hn0 : 0 ≤ now := by omega
  have hn1 : now ≤ 549755813888 := by omega
  have HL1 := Lib.hid (Hl.out.below Hb1.out Hl.out.1)
  go_upto_block 0 with fail
  clear q1 q3 d1 d3 d4 d5 g1 g3 g4 g5 hin0 hin1 Hp H0 H1 Hbx3 Hend
  go_wp2_with fail
  go_loopw [1, 10] (fun nw t wr => ∃ (k : Nat) (nk : Int), k ≤ 2 ∧ t = iV k ∧ nw = iV nk ∧ (now ≤ nk ∧ nk ≤ now + 12 * k) ∧ MeetW w1 wr x y 0 nk (268435456 + 2 * k)) (fun _ t _ => 2 - (intOf t).toNat)
  case atStart => exact ⟨0, now, by omega, rfl, rfl, by omega, Hmw.out⟩
  case round =>
    obtain ⟨k, nk, hk, rfl, rfl, hnk, hmw⟩ := hrel
    have Hw := Lib.hid hmw
    clear hmw
    by_cases hk2 : k < 2
    · have hd2 : decide ((k : Int) < 2) = true := decide_eq_true (by omega)
      have Hmo := Lib.hid (moment_ok (n := nk) (by omega) (by omega))
      go_wp2_with fail
      obtain ⟨wo, rfl⟩ : ∃ wo : World, wo = wr := ⟨_, rfl⟩
      go_loopw [11] (fun j wr => ∃ m : Nat, m ≤ 3 ∧ j = iV m ∧ MeetW w1 wr x y (min m 2) nk (268435456 + 2 * k)) (fun j _ => 3 - (intOf j).toNat)
      case atStart => exact ⟨0, by omega, rfl, Hw.out⟩
      case round =>
        obtain ⟨m, hm, rfl, a, b, hp, hmt⟩ := hrel
        have Hp := Lib.hid hp
        by_cases hm3 : m < 3
        · have hd3 : decide ((m : Int) < 3) = true := decide_eq_true (by omega)
          obtain ⟨e1, e2, hnew⟩ := meet_any hm3 (by omega) Hmo.out hmt
          have Hoa := Lib.hid hmt.oa; have Hob := Lib.hid hmt.ob
          have E1 := Lib.hid e1; have E2 := Lib.hid e2; have Hnew := Lib.hid hnew
          clear hp hmt e1 e2 hnew
          go_wp2_with fail
          refine (hello_pair Hp.out).mono ?_
          rintro e w4 ⟨rfl, hp4⟩
          have Hp4 := Lib.hid hp4
          clear hp4
          go_wp2_with fail
          refine (heard_pair Hp4.out.swap HL1.out Hob.out a.hello (hello_in_mem _ _) nk).mono ?_
          rw [E1.out]
          generalize hr1 : (b.take a.hello nk).2.1 = r1
          clear hr1
          generalize hb' : (b.take a.hello nk).1 = b' at *
          have Hb' := Lib.hid hb'
          clear hb'
          rintro e w5 ⟨rfl, hp5⟩
          have Hp5 := Lib.hid hp5.swap
          clear hp5
          go_wp2_with fail
          refine (hello_pair Hp5.out.swap).mono ?_
          rintro e w6 ⟨rfl, hp6⟩
          have Hp6 := Lib.hid hp6.swap
          clear hp6
          go_wp2_with fail
          refine (heard_pair Hp6.out HL1.out Hoa.out b'.hello (hello_in_mem _ _) nk).mono ?_
          rw [E2.out]
          generalize hr2 : (a.take b'.hello nk).2.1 = r2
          clear hr2
          rintro e w7 ⟨rfl, hp7⟩
          have Hend := Lib.hid (show MeetW w1 w7 x y (min (m + 1) 2) nk (268435456 + 2 * k) from ⟨_, _, hp7, Hnew.out⟩)
          clear hp7
          go_wp2_with fail
          go_roundw
          case rel => exact ⟨m + 1, by omega, by go_num, Hend.out⟩
          case measure => simp [intOf]; omega
        · obtain rfl : m = 3 := by omega
          have hmt2 : Meet 2 nk (268435456 + 2 * k) a b := hmt
          obtain ⟨u1, u2, u3, _⟩ := meet_up hmt2
          have Hmt := Lib.hid hmt2
          obtain ⟨⟨p1, p2, p3, p4⟩, ⟨p5, p6⟩, p7⟩ := meet_part (by omega) (by omega) (by omega) hmt2
          have P1 := Lib.hid p1; have P2 := Lib.hid p2; have P3 := Lib.hid p3; have P4 := Lib.hid p4; have P5 := Lib.hid p5; have P6 := Lib.hid p6; have P7 := Lib.hid p7
          have hrr := meet_roles hmt2
          have U1 := Lib.hid u1; have U2 := Lib.hid u2; have U3 := Lib.hid u3
          clear hp hmt hmt2 u1 u2 u3 p1 p2 p3 p4 p5 p6 p7
          rcases hrr with ⟨r1, r2⟩ | ⟨r1, r2⟩
          all_goals
            have Hu := Lib.hid (upsAt Hp.out Hmt.out.oa Hmt.out.ob U1.out U2.out U3.out r1 r2)
            have R1 := Lib.hid r1; have R2 := Lib.hid r2
            clear r1 r2
            go_wp2_with fail
            refine (Hu.out.ua 0).mono ?_
            rintro e w' ⟨rfl, rfl⟩
            go_wp2_with fail
            refine (Hu.out.ub 0).mono ?_
            rintro e w' ⟨rfl, rfl⟩
            go_wp2_with fail
            refine (Hu.out.ea 0).mono ?_
            rintro e w' ⟨rfl, n1, rfl⟩
            go_wp2_with fail
            refine (Hu.out.eb _).mono ?_
            rintro e w' ⟨rfl, n2, rfl⟩
            go_wp2_with fail
            refine (Hu.out.ra _).mono ?_
            rintro e w' ⟨rfl, rfl⟩
            go_wp2_with fail
            refine (Hu.out.rb _).mono ?_
            rintro e w' ⟨rfl, rfl⟩
            have Hp9 := Lib.hid (Hp.out.drewN (n1 + n2))
            clear Hu Hp
            go_wp2_with fail
            refine (tick_pair Hp9.out Hmt.out.oa (nk + 6)).mono ?_
            rw [P1.out]
            rintro e w9 ⟨rfl, hp10⟩
            have Hp10 := Lib.hid hp10.swap
            clear hp10
            go_wp2_with fail
            refine (tick_pair Hp10.out Hmt.out.ob (nk + 6)).mono ?_
            rw [P2.out]
            rintro e w10 ⟨rfl, hp11⟩
            have Hp11 := Lib.hid hp11.swap
            clear hp11
            have Hv1 := Lib.hid (P3.out ▸ up_any x _ w10 Hp11.out.sa)
            have Hv2 := Lib.hid (P4.out ▸ up_any y _ w10 Hp11.out.sb)
            go_wp2_with fail
            refine Hv1.out.mono ?_
            rintro e w' ⟨rfl, rfl⟩
            go_wp2_with fail
            refine Hv2.out.mono ?_
            rintro e w' ⟨rfl, rfl⟩
            go_wp2_with fail
            refine (tick_pair Hp11.out (Hmt.out.oa.tick _) (nk + 6 + 6)).mono ?_
            rintro e w11 ⟨rfl, hp12⟩
            have Hp12 := Lib.hid hp12.swap
            clear hp12
            go_wp2_with fail
            refine (tick_pair Hp12.out (Hmt.out.ob.tick _) (nk + 6 + 6)).mono ?_
            rintro e w12 ⟨rfl, hp13⟩
            have Hp13 := Lib.hid hp13.swap
            clear hp13
            have Hw1 := Lib.hid (P5.out ▸ role_any x _ w12 Hp13.out.sa)
            have Hw2 := Lib.hid (P6.out ▸ role_any y _ w12 Hp13.out.sb)
            have Hend := Lib.hid (show MeetW w1 w12 x y 0 (nk + 6 + 6) (268435456 + 2 * k + 2) from ⟨_, _, Hp13.out, P7.out⟩)
            go_wp2_with fail
            refine Hw1.out.mono ?_
            rintro e w' ⟨rfl, rfl⟩
            go_wp2_with fail
            refine Hw2.out.mono ?_
            rintro e w' ⟨rfl, rfl⟩
            go_wp2_with fail
            go_roundw
            case rel => exact ⟨k + 1, nk + 6 + 6, by omega, by go_num, rfl, by omega, by rw [show 268435456 + 2 * ((k + 1 : Nat) : Int) = 268435456 + 2 * k + 2 by omega]; exact Hend.out⟩
            case measure => simp [intOf]; omega
    · obtain rfl : k = 2 := by omega
      obtain ⟨a, b, hp, _⟩ := Hw.out
      have Hend := Lib.hid (Hb1.out.trans (hp.bel.mono Hb1.out.size))
      clear hp
      go_wp2_with fail
      go_ret
      exact ⟨rfl, Hend.out⟩
end Go.Proofs.YtpglhnbekpafeaaDoor
