/-
  The walk of the law SessionOne.
-/
import Derived.Test.YtpglhnbekpafeaaDoorVr
import Derived.Test.YtpglhnbekpafeaaDoorTr
import Derived.Test.YtpglhnbekpafeaaDoorSt1
import Derived.Deep.RegionLaw
import Derived.Deep.LoopGhost
import Derived.Deep.CutBlock
namespace Go.Proofs.YtpglhnbekpafeaaDoor
set_option linter.unusedVariables false
set_option linter.unusedSimpArgs false
open Go Go.RowKit
attribute [local go_sem ↓] exec_loadNote exec_storeNote exec_loadPkt exec_storePkt
attribute [local go_sem] ldRow_ptr ldFin_some cellsAt_succ cellsAt_zero allSome_cons allSome_nil stRow_ptr stFin_true allOne_cons allOne_nil there_succ there_zero frozens_succ frozens_zero one_int one_bool one_slice putCells_alloc_at putCells_alloc_old over_all

theorem and_low (x : Int) (c : Nat) (hc : c < 4611686018427387904) : ∃ n : Nat, n ≤ c ∧ bits .and .i64 x (c : Int) = (n : Int) := by
  have h1 : c % 2 ^ 64 = c := Nat.mod_eq_of_lt (by omega)
  refine ⟨(BitVec.ofInt 64 x).toNat &&& c, Nat.and_le_right, ?_⟩
  have h2 : (BitVec.ofInt 64 x).toNat &&& c ≤ c := Nat.and_le_right
  have h3 : (BitVec.ofInt 64 x &&& BitVec.ofNat 64 c).toNat = (BitVec.ofInt 64 x).toNat &&& c := by
    rw [BitVec.toNat_and, BitVec.toNat_ofNat, h1]
  show IntKind.i64.wrap ((BitVec.ofInt 64 x &&& BitVec.ofInt 64 (c : Int)).toNat : Int) = _
  rw [BitVec.ofInt_natCast, h3, IntWalk.i64_in _ (by omega)]
/-- what the checks ask, in any later world. -/
structure Asks (w : World) (x y : Nat) (ua ub : Bool) (ra rb ea eb : Int) : Prop where
  ua : ∀ W, Below w.heap.size w W → Calls Tryd.prog 12 #[.pointer (some ⟨x, 0, none⟩)] W fun e w' => e = .returned (.bool ua) ∧ W = w'
  ub : ∀ W, Below w.heap.size w W → Calls Tryd.prog 12 #[.pointer (some ⟨y, 0, none⟩)] W fun e w' => e = .returned (.bool ub) ∧ W = w'
  ra : ∀ W, Below w.heap.size w W → Calls Tryd.prog 14 #[.pointer (some ⟨x, 0, none⟩)] W fun e w' => e = .returned (iV ra) ∧ W = w'
  rb : ∀ W, Below w.heap.size w W → Calls Tryd.prog 14 #[.pointer (some ⟨y, 0, none⟩)] W fun e w' => e = .returned (iV rb) ∧ W = w'
  ea : ∀ W, Below w.heap.size w W → Calls Tryd.prog 13 #[.pointer (some ⟨x, 0, none⟩)] W fun e w' => e = .returned (iV ea) ∧ ∃ m, w' = W.drewN m
  eb : ∀ W, Below w.heap.size w W → Calls Tryd.prog 13 #[.pointer (some ⟨y, 0, none⟩)] W fun e w' => e = .returned (iV eb) ∧ ∃ m, w' = W.drewN m
theorem asks_mk {w : World} {x y : Nat} {a b : Ses} {ua ub : Bool} {ra rb ea eb : Int} (ha : SesAt w x a) (hb : SesAt w y b) (oa : SesOk a) (ob : SesOk b) (h1 : a.up = ua) (h2 : b.up = ub) (h3 : a.role = ra) (h4 : b.role = rb) (h5 : a.epoch = ea) (h6 : b.epoch = eb) : Asks w x y ua ub ra rb ea eb where
  ua := fun W hW => h1 ▸ up_any x a W (ha.step hW)
  ub := fun W hW => h2 ▸ up_any y b W (hb.step hW)
  ra := fun W hW => h3 ▸ role_any x a W (ha.step hW)
  rb := fun W hW => h4 ▸ role_any y b W (hb.step hW)
  ea := fun W hW => h5 ▸ epoch_any x a W (ha.step hW) (by have := oa.life; omega) oa.known
  eb := fun W hW => h6 ▸ epoch_any y b W (hb.step hW) (by have := ob.life; omega) ob.known
theorem OneInv.epochs {a b : Ses} {sa sb : List Pkt} {N : Int} (h : OneInv a b sa sb N) (ua : a.up = true) (ub : b.up = true) : a.epoch = b.epoch := by
  obtain ⟨_, p, hp, p1, p2, _⟩ := h.ga.up ua
  obtain ⟨_, q, hq, q1, q2, _⟩ := h.gb.up ub
  have k1 := h.ga.known
  have k2 := h.gb.known
  have a1 := (h.gb.said p hp).ack
  have a2 := (h.ga.said q hq).ack
  unfold Ses.epoch
  rw [ua, ub, if_pos rfl, if_pos rfl]
  omega
theorem up_epoch {s : Ses} (h : SesOk s) : (s.up = true → 0 < s.epoch ∧ (s.role = 1 ∨ s.role = 2)) ∧ (s.up = false → s.epoch = 0) := by
  refine ⟨fun hu => ⟨?_, ?_⟩, fun hu => ?_⟩
  · unfold Ses.epoch; rw [hu, if_pos rfl]; have := h.life; have := h.known; omega
  · have := (h.upl hu).2; have := h.role; omega
  · unfold Ses.epoch; rw [hu]; rfl
theorem qRow_val {w : World} {base : Nat} {e : TypeId} {size : Nat} {v : Value} {n : Nat} {xs : List Value} (h : qRow w base e size v n xs) : ∃ a c, v = .slice a n c := by
  rcases h.form with ⟨rfl, rfl⟩ | ⟨g, off, cap, rfl, _⟩
  · exact ⟨_, _, rfl⟩
  · exact ⟨_, _, rfl⟩
theorem calls_hello : ∀ (xs : Array Value) (W : World), (callFunc 11 xs).run Tryd.prog W = .ok (.enter 11 xs) W := by intro x W; simp [go_sem]
/-- behind a step. -/
def OneMid (w0 w : World) (base bx bw x y : Nat) (N t : Int) (s12 : Value) : Prop := ∃ t' : Int, s12 = iV t' ∧ (t ≤ t' ∧ t' ≤ t + 7) ∧ OneW w base bx bw x y N ∧ Below base w0 w

set_option maxRecDepth 100000 in
set_option maxHeartbeats 8000000 in
theorem one_any (p0 p1 : Int) (a : Option Addr) (n cap : Nat) (l : List Tri) (w : World) (h : IsTris w a n l) (hl : HasLaid w) :
    Calls Tryd.prog 5 #[.agg #[iV p0, iV p1], .slice a n cap] w fun e w' => e = .returned (.bool true) ∧ Below w.heap.size w w' := by
  obtain ⟨pi, hpi, hz1, hz2, hz3⟩ := pktInfo
  have hb0 : Below w.heap.size w (w.alloc (.cells #[iV p0, iV p1] 41)) := (Below.refl _ _).alloc (Nat.le_refl _) _
  have Haw := Lib.hid (awake_any _ (hl.below hb0 hl.1))
  have hx : (w.alloc (.cells #[iV p0, iV p1] 41)).heap[w.heap.size]? = some (.cells #[iV p0, iV p1] 41 (0, 0)) := heap_alloc_new w _
  have Hx := Lib.hid hx
  have Htr := Lib.hid h
  have hnm := h.2.1
  have Hl := Lib.hid hl
  have Hb0 := Lib.hid hb0
  clear hl hb0 hx h
  go_enter Tryd.func5, Tryd.ntmps5
  go_wp2_with fail
  refine Haw.out.mono ?_
  rintro e w1 ⟨rfl, hB⟩
  have Hbx := Lib.hid (cells_far (c := [iV p0, iV p1]) Hx.out hB)
  have Hb1 := Lib.hid (Hb0.out.trans (hB.mono (by simp)))
  clear hB Haw Hx Hb0
  have q0 : w1.cell? ⟨w.heap.size, 0, none⟩ = some (iV p0) := by rw [cell_of_block Hbx.out]; rfl
  have q1 : w1.cell? ⟨w.heap.size, 1, none⟩ = some (iV p1) := by rw [cell_of_block Hbx.out]; rfl
  cases h0 : newB 0 p0 1
  · have Hn := Lib.hid (show Calls Tryd.prog 9 #[.int .i64 0, iV p0, .int .i64 1] w1 _ from sesNew_no 0 p0 1 w1 h0)
    clear h0
    go_wp2_with fail
    refine Hn.out.mono ?_
    rintro e w' ⟨rfl, rfl⟩
    cases h1 : newB 1 p1 1
    · have Hn1 := Lib.hid (show Calls Tryd.prog 9 #[.int .i64 1, iV p1, .int .i64 1] w1 _ from sesNew_no 1 p1 1 w1 h1)
      clear h1
      go_wp2_with fail
      refine Hn1.out.mono ?_
      rintro e w' ⟨rfl, rfl⟩
      go_wp2_with fail
      go_ret
      exact ⟨rfl, Hb1.out⟩
    · have Hn1 := Lib.hid (show Calls Tryd.prog 9 #[.int .i64 1, iV p1, .int .i64 1] w1 _ from sesNew_ok 1 p1 1 w1 h1)
      clear h1
      go_wp2_with fail
      refine Hn1.out.mono ?_
      rintro e w2 ⟨y, rfl, _, _, hB⟩
      have Hend := Lib.hid (Hb1.out.trans (hB.mono Hb1.out.size))
      clear hB
      go_wp2_with fail
      go_ret
      exact ⟨rfl, Hend.out⟩
  have Hn := Lib.hid (show Calls Tryd.prog 9 #[.int .i64 0, iV p0, .int .i64 1] w1 _ from sesNew_ok 0 p0 1 w1 h0)
  have H0 := Lib.hid h0
  clear h0
  go_wp2_with fail
  refine Hn.out.mono ?_
  rintro e w2 ⟨x, rfl, hx, hs, hB⟩
  have Hbx2 := Lib.hid (cells_far (c := [iV p0, iV p1]) Hbx.out hB)
  have Hsa := Lib.hid hs; have HB2 := Lib.hid hB
  clear hs hB q0 q1
  have q1 : w2.cell? ⟨w.heap.size, 1, none⟩ = some (iV p1) := by rw [cell_of_block Hbx2.out]; rfl
  cases h1 : newB 1 p1 1
  · have Hn1 := Lib.hid (show Calls Tryd.prog 9 #[.int .i64 1, iV p1, .int .i64 1] w2 _ from sesNew_no 1 p1 1 w2 h1)
    have Hend := Lib.hid (Hb1.out.trans (HB2.out.mono Hb1.out.size))
    clear h1
    go_wp2_with fail
    refine Hn1.out.mono ?_
    rintro e w' ⟨rfl, rfl⟩
    go_wp2_with fail
    go_ret
    exact ⟨rfl, Hend.out⟩
  have Hn1 := Lib.hid (show Calls Tryd.prog 9 #[.int .i64 1, iV p1, .int .i64 1] w2 _ from sesNew_ok 1 p1 1 w2 h1)
  have H1 := Lib.hid h1
  clear h1
  go_wp2_with fail
  refine Hn1.out.mono ?_
  rintro e w3 ⟨y, rfl, hy, hs, hB⟩
  have hlo : w1.heap.size ≤ x ∧ w1.heap.size ≤ y := ⟨hx, by have := HB2.out.size; omega⟩
  have hnet := NetS.new (T := 42) (T' := 46) (Hsa.out.step hB) hs hlo (by have := Hsa.out.lt; omega)
  have hb5 : Below w1.heap.size w1 ((w3.alloc (.cells #[.pointer (some ⟨x, 0, none⟩), .pointer (some ⟨y, 0, none⟩)] 42)).alloc (.cells #[.slice none 0 0, .slice none 0 0] 46)) :=
    ((HB2.out.trans (hB.mono HB2.out.size)).alloc (Nat.le_trans HB2.out.size hB.size) _).alloc (by have := HB2.out.size; have := hB.size; simp; omega) _
  have Hex := Lib.hid (show OneW _ w1.heap.size w3.heap.size (w3.heap.size + 1) x y 1 from ⟨_, _, hnet, one_start H0.out H1.out, rfl, rfl⟩)
  have Hb5 := Lib.hid hb5
  have HL1 := Lib.hid (Hl.out.below Hb1.out Hl.out.1)
  have hz0 := HL1.out.1
  clear hnet hb5 hs hB q1 Hsa HB2 Hn Hn1 Hbx Hbx2 hx hy H0 H1 hlo
  go_upto_region 8 with fail
  generalize (w3.alloc (.cells #[.pointer (some ⟨x, 0, none⟩), .pointer (some ⟨y, 0, none⟩)] 42)).alloc (.cells #[.slice none 0 0, .slice none 0 0] 46) = w5 at *
  generalize hbw : w3.heap.size + 1 = bw at *
  generalize w3.heap.size = bx at *
  clear hbw
  go_wp2_with fail
  go_loopg [12, 13] n (fun G nw idx wr => ∃ (i : Nat) (t : Int), G = n - i ∧ i ≤ n ∧ i ≤ 300 ∧ idx = iV i ∧ nw = iV t ∧ (0 ≤ t ∧ t ≤ 7 * i) ∧ OneW wr w1.heap.size bx bw x y (1 + i) ∧ Below w1.heap.size w1 wr)
  case atStart => exact ⟨0, 0, rfl, by omega, by omega, rfl, rfl, by omega, Hex.out, Hb5.out⟩
  case round =>
    obtain ⟨i, t, hG, hin, hi3, rfl, rfl, ht, hx, hbl⟩ := hrel
    have Hx := Lib.hid hx; have Hbl := Lib.hid hbl; have HG := Lib.hid hG
    clear hx hbl hG
    by_cases hgo : i < n ∧ i < 300
    · obtain ⟨hlt, hlt2⟩ := hgo
      have hd1 : decide ((i : Int) < (n : Int)) = true := decide_eq_true (by omega)
      have hd2 : decide ((i : Int) < 300) = true := decide_eq_true (by omega)
      obtain ⟨b, off, rfl, hbl3, hc⟩ := Htr.out.2.2 (by omega)
      have hil : i < l.length := by rw [← Htr.out.1]; exact hlt
      have hbw' := Hb1.out.trans (Hbl.out.mono Hb1.out.size)
      obtain ⟨c0, c1, c2⟩ := hc.cells (List.getElem?_eq_getElem hil)
      rw [← hbw'.cell (p := ⟨b, off + i * 3, none⟩) hbl3] at c0
      rw [← hbw'.cell (p := ⟨b, off + i * 3 + 1, none⟩) hbl3] at c1
      rw [← hbw'.cell (p := ⟨b, off + i * 3 + 2, none⟩) hbl3] at c2
      have hi0 : (0 : Int) ≤ (i : Int) := by omega
      have hin2 : (i : Int) < (n : Int) := by omega
      generalize l[i].a = la at c0
      generalize l[i].b = lb at c1
      generalize l[i].c = lc at c2
      clear hc hbw' hil
      obtain ⟨k, hk2, hkb⟩ := and_one' lb
      obtain ⟨o, P, Q, hko, hnet, hone, hsits⟩ := Hx.out.view k hk2
      go_upto_block 2 with fail
      clear c1 hkb c0
      have hxa := hnet.xa
      have hkn0 : (0 : Int) ≤ (k : Int) := by omega
      have hkn2 : (k : Int) < 2 := by omega
      have Hnet := Lib.hid hnet; have Hone := Lib.hid hone; have Hsits := Lib.hid hsits
      clear hnet hone hsits
      have hlx : b < w1.heap.size := by have := Hb1.out.size; omega
      go_cut [12] (fun s12 w' => OneMid w1 w' w1.heap.size bx bw x y (1 + i + 1) t s12)
      case first =>
        by_cases hla0 : la = 0
        · have e0 : (la == 0) = true := by simpa using hla0
          clear hla0 c2
          have Hnd := Lib.hid (Hnet.out.step (Below.refl _ _).drew)
          have hxd : wr.drew.cell? ⟨bx, k, none⟩ = some (.pointer (some ⟨P.p, 0, none⟩)) := Hnd.out.xa
          have hcd : wr.drew.cell? ⟨bw, k, none⟩ = some P.v := Hnd.out.ca
          have hca := Hnet.out.ca
          have hfa := Hnet.out.fa
          obtain ⟨n1, hn1⟩ : ∃ n1, n1 = P.q.length := ⟨_, rfl⟩
          have Hn1 := Lib.hid hn1
          have hn1b : n1 ≤ 1000 := by have := Hone.out.la; omega
          clear hn1
          have H63 := Lib.hid (show n1 + 1 ≤ maxLen by simp only [maxLen]; omega)
          have Hby := Lib.hid (show (n1 + 1) * 88 ≤ 140737488355328 by omega)
          have Hhe := Lib.hid (show Calls Tryd.prog 11 #[.pointer (some ⟨P.p, 0, none⟩)] wr.drew fun e w' => ∃ r, e = .returned r ∧ (r = P.s.hello.val ∧ Below wr.drew.heap.size wr.drew w') from (hello_any P.p P.s _ Hnd.out.sa).mono fun e w' ⟨h1, h2⟩ => ⟨_, h1, rfl, h2⟩)
          go_upto_region 15 with fail
          go_region_law (first | (refine step_go_call (by rfl) 11 _ _ (by rfl) calls_hello (.pointer (some ⟨P.p, 0, none⟩)) (by rfl) _ Hhe.out ?_; rintro r w6 ⟨rfl, hB6⟩; have hn6 := Hnd.out.step hB6; have hx6 := hn6.xa; have hc6 := hn6.ca; have hf6 := hn6.fa; have hs6 := hn6.below; obtain ⟨hl61, hl62⟩ := hn6.ltx) | (refine step_append_q _ (by rfl) _ _ _ (by rfl) w1.heap.size 36 pi _ 14 88 Tryd.underlying45 hpi hz1 hz2 hz3 rfl (by decide) P.v n1 (pktFlat P.q) (by rfl) (Hn1.out ▸ hn6.qa.alloc _) ⟨w6.heap.size, 0, none⟩ 1 1 (pktList P.s.hello) (by rfl) (by rfl) (World.news_of_block (cs := (pktList P.s.hello).toArray) (heap_alloc_new w6 _)) (one_pkt _) (by decide) H63.out Hby.out (by simp; omega) (w6.heap.size + 1) (by simp) ?_; intro g1 off1 cap1 w7 hq1 hg1 hat hlt1; have hpc := hn6.push_cell hg1; obtain ⟨hpc1, hpc2⟩ := hpc))
          all_goals
            have Hsay := Lib.hid (one_say hn6 hko Hone.out Hsits.out (by omega) Hn1.out hq1 hg1 hat)
            have Hbel6 := Lib.hid (Hbl.out.drew.trans (hB6.mono Hnd.out.below))
            clear hn6 hq1 hg1 hat hB6
            go_wp2_with fail
            go_meet
            exact ⟨t, rfl, by omega, Hsay.out.1, Hbel6.out.trans Hsay.out.2⟩
        · have e0 : (la == 0) = false := by simpa using hla0
          clear hla0
          by_cases hla1 : la = 1
          · have e1 : (la == 1) = true := by simpa using hla1
            clear hla1
            have hcq := Hnet.out.cb
            have hwr : IntKind.i64.wrap (1 - (k : Int)) = (o : Int) := by rw [IntWalk.i64_in _ (by omega)]; omega
            have ho0 : (0 : Int) ≤ (o : Int) := by omega
            have ho2 : (o : Int) < 2 := by omega
            by_cases hqz : Q.q.length = 0
            · obtain ⟨aq, cq, hqv⟩ := qRow_val Hnet.out.qb
              rw [hqv, hqz] at hcq
              have Hsame := Lib.hid (show OneW wr w1.heap.size bx bw x y (1 + i + 1) from OneW.back Hnet.out hko (Hone.out.mono (by omega)) Hsits.out)
              clear hqv hqz
              go_wp2_with fail
              go_meet
              exact ⟨t, rfl, by omega, Hsame.out, Hbl.out⟩
            · obtain ⟨m, hm, hmb⟩ : ∃ m : Nat, m ≤ 1023 ∧ bits .and .i64 lc 1023 = (m : Int) := and_low lc 1023 (by decide)
              have hmq : m % Q.q.length < Q.q.length := Nat.mod_lt _ (by omega)
              obtain ⟨pk, hpk⟩ : ∃ pk, Q.q[m % Q.q.length]? = some pk := ⟨_, List.getElem?_eq_getElem hmq⟩
              obtain ⟨g, go, gc, hqv, hpa, hgn, hgx, hgw, hgl⟩ := Hnet.out.swap.at_ hpk
              have hmem : pk ∈ Q.q := List.mem_of_getElem? hpk
              have Hmem := Lib.hid hmem
              rw [hqv] at hcq
              have hsd := Hone.out.gb.said pk hmem
              have Hpin := Lib.hid (fun W => show PktIn W pk from ⟨⟨[], by rw [hsd.ba, hsd.bl]; exact Src.zero⟩, fun z hz => by rw [hsd.ba] at hz; cases hz⟩)
              have hqb : Q.q.length ≤ 1000 := by have := Hone.out.lb; omega
              have hmod : ((m : Int).tmod (Q.q.length : Int)) = ((m % Q.q.length : Nat) : Int) := by rw [Int.tmod_eq_emod_of_nonneg (by omega)]; rfl
              obtain ⟨qn, hqn⟩ : ∃ qn, qn = Q.q.length := ⟨_, rfl⟩
              rw [← hqn] at hcq hpa hmq hmod hqz hqb
              have hqp : (0 : Int) < (qn : Int) := by omega
              have hq0 : ((qn : Int) == 0) = false := by rw [beq_eq_false_iff_ne]; omega
              have hmi : ((m % qn : Nat) : Int) < (qn : Int) := by omega
              have hmi0 : (0 : Int) ≤ ((m % qn : Nat) : Int) := by omega
              generalize m % qn = mi at *
              have Hnd := Lib.hid (Hnet.out.step (Below.refl _ _).drew)
              have hxd : wr.drew.cell? ⟨bx, k, none⟩ = some (.pointer (some ⟨P.p, 0, none⟩)) := Hnd.out.xa
              have hcd : wr.drew.cell? ⟨bw, o, none⟩ = some (.slice (some ⟨g, go, none⟩) qn gc) := hcq
              have h2d : wr.drew.cell? ⟨b, off + i * 3 + 2, none⟩ = some (iV lc) := c2
              have hpd : PktAt wr.drew g (go + mi * 14) pk := pktAt_off (ks := []) hpa (off_drew (Off.refl _ _)) (by simp)
              have hlr : HasLaid wr.drew := HL1.out.below Hbl.out.drew HL1.out.1
              have Htk := Lib.hid (take_any P.p P.s pk t wr.drew Hnd.out.sa Hone.out.ga.ok hlr (Hpin.out _))
              have hbp : b ≠ P.p := by have := Hnet.out.lo.1; omega
              have Hk := Lib.hid (show ∀ W, Off [P.p] wr.drew W → (W.cell? ⟨bx, k, none⟩ = some (.pointer (some ⟨P.p, 0, none⟩)) ∧ W.cell? ⟨bw, o, none⟩ = some (.slice (some ⟨g, go, none⟩) qn gc) ∧ W.cell? ⟨b, off + i * 3 + 2, none⟩ = some (iV lc) ∧ PktAt W g (go + mi * 14) pk) from fun W hW => by
                have hlt := Hnd.out.ltx
                have hap := Hnd.out.ap
                refine ⟨by rw [hW.cell (p := ⟨bx, k, none⟩) hlt.1 (by simp; exact hap.2.1.1)]; exact hxd, by rw [hW.cell (p := ⟨bw, o, none⟩) hlt.2 (by simp; exact hap.2.2.1.1)]; exact hcd, by rw [hW.cell (p := ⟨b, off + i * 3 + 2, none⟩) (World.block_lt_of_cell? wr.drew _ h2d) (by simp; exact hbp)]; exact h2d, pktAt_off hpd hW (by simp; exact hgn.2)⟩)
              have Hpa := Lib.hid hpd
              clear hqn hpa hqv hsd hmem hpk hlr hpd
              go_upto_region 18 with fail
              clear c2 hcq
              go_region_held3 (fun w' => w'.cell? ⟨bx, k, none⟩ = some (.pointer (some ⟨P.p, 0, none⟩)) ∧ w'.cell? ⟨bw, o, none⟩ = some (.slice (some ⟨g, go, none⟩) qn gc) ∧ w'.cell? ⟨b, off + i * 3 + 2, none⟩ = some (iV lc) ∧ PktAt w' g (go + mi * 14) pk) (first | (exact ⟨hxd, hcd, h2d, Hpa.out⟩) | (exact hk9)) (first | (go_at_call 10; refine Htk.out.mono ?_; rintro e w9 ⟨rfl, hs9, ho9⟩; have hk9 := Hk.out _ ho9))
              have Hend := Lib.hid (one_turn Hnd.out hko (Hone.out.take (by omega) Hmem.out t) Hsits.out hs9 ho9)
              clear hs9 ho9 hk9 hxd hcd h2d
              go_wp2_with fail
              go_meet
              exact ⟨t, rfl, by omega, Hend.out.1, Hbl.out.drew.trans Hend.out.2⟩
          · have e1 : (la == 1) = false := by simpa using hla1
            clear hla1
            by_cases hla2 : la = 2
            · have e2 : (la == 2) = true := by simpa using hla2
              clear hla2
              obtain ⟨m, hm, hmb⟩ : ∃ m : Nat, m ≤ 7 ∧ bits .and .i64 lc 7 = (m : Int) := and_low lc 7 (by decide)
              have hwt : IntKind.i64.wrap (t + (m : Int)) = t + (m : Int) := IntWalk.i64_in _ (by omega)
              have Htk := Lib.hid (tick_any P.p P.s (t + (m : Int)) wr Hnet.out.sa Hone.out.ga.ok)
              go_wp2_with fail
              refine Htk.out.mono ?_
              rintro e w9 ⟨rfl, hs9, ho9⟩
              have Hend := Lib.hid (one_turn Hnet.out hko (Hone.out.tick (by omega) _) Hsits.out hs9 ho9)
              clear hs9 ho9
              go_wp2_with fail
              go_meet
              exact ⟨t + (m : Int), rfl, by omega, Hend.out.1, Hbl.out.trans Hend.out.2⟩
            · have e2 : (la == 2) = false := by simpa using hla2
              clear hla2 c2
              by_cases hla3 : la = 3
              · have e3 : (la == 3) = true := by simpa using hla3
                clear hla3
                have Htk := Lib.hid (seen_any P.p P.s t wr Hnet.out.sa)
                go_wp2_with fail
                refine Htk.out.mono ?_
                rintro e w9 ⟨rfl, hs9, ho9⟩
                have Hend := Lib.hid (one_turn Hnet.out hko (Hone.out.seen t) Hsits.out hs9 ho9)
                clear hs9 ho9
                go_wp2_with fail
                go_meet
                exact ⟨t, rfl, by omega, Hend.out.1, Hbl.out.trans Hend.out.2⟩
              · have e3 : (la == 3) = false := by simpa using hla3
                clear hla3
                by_cases hla4 : la = 4
                · have e4 : (la == 4) = true := by simpa using hla4
                  clear hla4
                  have Htk := Lib.hid (alive_any P.p P.s t wr Hnet.out.sa)
                  go_wp2_with fail
                  refine Htk.out.mono ?_
                  rintro e w9 ⟨rfl, hs9, ho9⟩
                  have Hend := Lib.hid (one_turn Hnet.out hko (Hone.out.alive t) Hsits.out hs9 ho9)
                  clear hs9 ho9
                  go_wp2_with fail
                  go_meet
                  exact ⟨t, rfl, by omega, Hend.out.1, Hbl.out.trans Hend.out.2⟩
                · have e4 : (la == 4) = false := by simpa using hla4
                  clear hla4
                  have Hsame := Lib.hid (show OneW wr w1.heap.size bx bw x y (1 + i + 1) from OneW.back Hnet.out hko (Hone.out.mono (by omega)) Hsits.out)
                  go_wp2_with fail
                  go_meet
                  exact ⟨t, rfl, by omega, Hsame.out, Hbl.out⟩
      case rest =>
        obtain ⟨t', rfl, ht', hx', hbl'⟩ := hcut
        obtain ⟨A, B, hn', ho', hAx, hBy⟩ := hx'
        have Hx2 := Lib.hid (show OneW wc w1.heap.size bx bw x y (1 + i + 1) from ⟨A, B, hn', ho', hAx, hBy⟩)
        have Hbl2 := Lib.hid hbl'
        have Hsa := Lib.hid (show SesAt wc x A.s from hAx ▸ hn'.sa)
        have Hsb := Lib.hid (show SesAt wc y B.s from hBy ▸ hn'.sb)
        obtain ⟨pa, qa⟩ := up_epoch ho'.ga.ok
        obtain ⟨pb, qb⟩ := up_epoch ho'.gb.ok
        have Ho := Lib.hid ho'
        clear hn' ho' hAx hBy hbl' Hnet Hone Hsits Hx hxa c2
        cases ua : A.s.up
        · have ea := qa ua
          clear pa qa
          cases ub : B.s.up
          · have eb := qb ub
            have Hq := Lib.hid (asks_mk Hsa.out Hsb.out Ho.out.ga.ok Ho.out.gb.ok ua ub rfl rfl ea eb)
            clear pb qb ua ub ea eb
            generalize A.s.role = r1 at *
            generalize B.s.role = r2 at *
            go_wp2_with (first | (go_at_call_of 12 (Value.pointer (some ⟨x, 0, none⟩)); refine (Hq.out.ua _ (by first | exact Below.refl _ _ | exact below_drewN' (Below.refl _ _) _)).mono ?_; rintro e w' ⟨rfl, rfl⟩) | (go_at_call_of 12 (Value.pointer (some ⟨y, 0, none⟩)); refine (Hq.out.ub _ (by first | exact Below.refl _ _ | exact below_drewN' (Below.refl _ _) _)).mono ?_; rintro e w' ⟨rfl, rfl⟩) | (go_at_call_of 14 (Value.pointer (some ⟨x, 0, none⟩)); refine (Hq.out.ra _ (by first | exact Below.refl _ _ | exact below_drewN' (Below.refl _ _) _)).mono ?_; rintro e w' ⟨rfl, rfl⟩) | (go_at_call_of 14 (Value.pointer (some ⟨y, 0, none⟩)); refine (Hq.out.rb _ (by first | exact Below.refl _ _ | exact below_drewN' (Below.refl _ _) _)).mono ?_; rintro e w' ⟨rfl, rfl⟩) | (go_at_call_of 13 (Value.pointer (some ⟨x, 0, none⟩)); refine (Hq.out.ea _ (by first | exact Below.refl _ _ | exact below_drewN' (Below.refl _ _) _)).mono ?_; rintro e w' ⟨rfl, nq, rfl⟩) | (go_at_call_of 13 (Value.pointer (some ⟨y, 0, none⟩)); refine (Hq.out.eb _ (by first | exact Below.refl _ _ | exact below_drewN' (Below.refl _ _) _)).mono ?_; rintro e w' ⟨rfl, nq, rfl⟩))
            go_roundg (n - (i + 1))
            case measure => have := HG.out; omega
            case rel => exact ⟨i + 1, t', rfl, by omega, by omega, by go_num, rfl, by omega, by rw [show 1 + ((i + 1 : Nat) : Int) = 1 + i + 1 by omega]; exact Hx2.out.step (by first | exact Below.refl _ _ | exact below_drewN' (Below.refl _ _) _), Hbl2.out.trans (by first | exact Below.refl _ _ | exact below_drewN' (Below.refl _ _) _)⟩
          · obtain ⟨eb, rb⟩ := pb ub
            rcases rb with rb | rb
            all_goals
              have Hq := Lib.hid (asks_mk Hsa.out Hsb.out Ho.out.ga.ok Ho.out.gb.ok ua ub rfl rb ea rfl)
              clear qb ua ub ea rb
              generalize A.s.role = r1 at *
              generalize B.s.epoch = ep at *
              go_wp2_with (first | (go_at_call_of 12 (Value.pointer (some ⟨x, 0, none⟩)); refine (Hq.out.ua _ (by first | exact Below.refl _ _ | exact below_drewN' (Below.refl _ _) _)).mono ?_; rintro e w' ⟨rfl, rfl⟩) | (go_at_call_of 12 (Value.pointer (some ⟨y, 0, none⟩)); refine (Hq.out.ub _ (by first | exact Below.refl _ _ | exact below_drewN' (Below.refl _ _) _)).mono ?_; rintro e w' ⟨rfl, rfl⟩) | (go_at_call_of 14 (Value.pointer (some ⟨x, 0, none⟩)); refine (Hq.out.ra _ (by first | exact Below.refl _ _ | exact below_drewN' (Below.refl _ _) _)).mono ?_; rintro e w' ⟨rfl, rfl⟩) | (go_at_call_of 14 (Value.pointer (some ⟨y, 0, none⟩)); refine (Hq.out.rb _ (by first | exact Below.refl _ _ | exact below_drewN' (Below.refl _ _) _)).mono ?_; rintro e w' ⟨rfl, rfl⟩) | (go_at_call_of 13 (Value.pointer (some ⟨x, 0, none⟩)); refine (Hq.out.ea _ (by first | exact Below.refl _ _ | exact below_drewN' (Below.refl _ _) _)).mono ?_; rintro e w' ⟨rfl, nq, rfl⟩) | (go_at_call_of 13 (Value.pointer (some ⟨y, 0, none⟩)); refine (Hq.out.eb _ (by first | exact Below.refl _ _ | exact below_drewN' (Below.refl _ _) _)).mono ?_; rintro e w' ⟨rfl, nq, rfl⟩))
              go_roundg (n - (i + 1))
              case measure => have := HG.out; omega
              case rel => exact ⟨i + 1, t', rfl, by omega, by omega, by go_num, rfl, by omega, by rw [show 1 + ((i + 1 : Nat) : Int) = 1 + i + 1 by omega]; exact Hx2.out.step (by first | exact Below.refl _ _ | exact below_drewN' (Below.refl _ _) _), Hbl2.out.trans (by first | exact Below.refl _ _ | exact below_drewN' (Below.refl _ _) _)⟩
        · obtain ⟨ea, ra⟩ := pa ua
          clear pa qa
          cases ub : B.s.up
          · have eb := qb ub
            clear pb qb
            rcases ra with ra | ra
            all_goals
              have Hq := Lib.hid (asks_mk Hsa.out Hsb.out Ho.out.ga.ok Ho.out.gb.ok ua ub ra rfl rfl eb)
              clear ua ub eb ra
              generalize B.s.role = r1 at *
              generalize A.s.epoch = ep at *
              go_wp2_with (first | (go_at_call_of 12 (Value.pointer (some ⟨x, 0, none⟩)); refine (Hq.out.ua _ (by first | exact Below.refl _ _ | exact below_drewN' (Below.refl _ _) _)).mono ?_; rintro e w' ⟨rfl, rfl⟩) | (go_at_call_of 12 (Value.pointer (some ⟨y, 0, none⟩)); refine (Hq.out.ub _ (by first | exact Below.refl _ _ | exact below_drewN' (Below.refl _ _) _)).mono ?_; rintro e w' ⟨rfl, rfl⟩) | (go_at_call_of 14 (Value.pointer (some ⟨x, 0, none⟩)); refine (Hq.out.ra _ (by first | exact Below.refl _ _ | exact below_drewN' (Below.refl _ _) _)).mono ?_; rintro e w' ⟨rfl, rfl⟩) | (go_at_call_of 14 (Value.pointer (some ⟨y, 0, none⟩)); refine (Hq.out.rb _ (by first | exact Below.refl _ _ | exact below_drewN' (Below.refl _ _) _)).mono ?_; rintro e w' ⟨rfl, rfl⟩) | (go_at_call_of 13 (Value.pointer (some ⟨x, 0, none⟩)); refine (Hq.out.ea _ (by first | exact Below.refl _ _ | exact below_drewN' (Below.refl _ _) _)).mono ?_; rintro e w' ⟨rfl, nq, rfl⟩) | (go_at_call_of 13 (Value.pointer (some ⟨y, 0, none⟩)); refine (Hq.out.eb _ (by first | exact Below.refl _ _ | exact below_drewN' (Below.refl _ _) _)).mono ?_; rintro e w' ⟨rfl, nq, rfl⟩))
              go_roundg (n - (i + 1))
              case measure => have := HG.out; omega
              case rel => exact ⟨i + 1, t', rfl, by omega, by omega, by go_num, rfl, by omega, by rw [show 1 + ((i + 1 : Nat) : Int) = 1 + i + 1 by omega]; exact Hx2.out.step (by first | exact Below.refl _ _ | exact below_drewN' (Below.refl _ _) _), Hbl2.out.trans (by first | exact Below.refl _ _ | exact below_drewN' (Below.refl _ _) _)⟩
          · clear pb qb
            have hep := (Ho.out.epochs ua ub).symm
            rcases Ho.out.both ua ub with ⟨r1, r2⟩ | ⟨r1, r2⟩
            all_goals
              have Hq := Lib.hid (asks_mk Hsa.out Hsb.out Ho.out.ga.ok Ho.out.gb.ok ua ub r1 r2 rfl hep)
              clear ua ub r1 r2 ra hep
              generalize A.s.epoch = ep at *
              go_wp2_with (first | (go_at_call_of 12 (Value.pointer (some ⟨x, 0, none⟩)); refine (Hq.out.ua _ (by first | exact Below.refl _ _ | exact below_drewN' (Below.refl _ _) _)).mono ?_; rintro e w' ⟨rfl, rfl⟩) | (go_at_call_of 12 (Value.pointer (some ⟨y, 0, none⟩)); refine (Hq.out.ub _ (by first | exact Below.refl _ _ | exact below_drewN' (Below.refl _ _) _)).mono ?_; rintro e w' ⟨rfl, rfl⟩) | (go_at_call_of 14 (Value.pointer (some ⟨x, 0, none⟩)); refine (Hq.out.ra _ (by first | exact Below.refl _ _ | exact below_drewN' (Below.refl _ _) _)).mono ?_; rintro e w' ⟨rfl, rfl⟩) | (go_at_call_of 14 (Value.pointer (some ⟨y, 0, none⟩)); refine (Hq.out.rb _ (by first | exact Below.refl _ _ | exact below_drewN' (Below.refl _ _) _)).mono ?_; rintro e w' ⟨rfl, rfl⟩) | (go_at_call_of 13 (Value.pointer (some ⟨x, 0, none⟩)); refine (Hq.out.ea _ (by first | exact Below.refl _ _ | exact below_drewN' (Below.refl _ _) _)).mono ?_; rintro e w' ⟨rfl, nq, rfl⟩) | (go_at_call_of 13 (Value.pointer (some ⟨y, 0, none⟩)); refine (Hq.out.eb _ (by first | exact Below.refl _ _ | exact below_drewN' (Below.refl _ _) _)).mono ?_; rintro e w' ⟨rfl, nq, rfl⟩))
              go_roundg (n - (i + 1))
              case measure => have := HG.out; omega
              case rel => exact ⟨i + 1, t', rfl, by omega, by omega, by go_num, rfl, by omega, by rw [show 1 + ((i + 1 : Nat) : Int) = 1 + i + 1 by omega]; exact Hx2.out.step (by first | exact Below.refl _ _ | exact below_drewN' (Below.refl _ _) _), Hbl2.out.trans (by first | exact Below.refl _ _ | exact below_drewN' (Below.refl _ _) _)⟩
    · obtain ⟨A, B, hn', _⟩ := Hx.out
      have Hend := Lib.hid (Hb1.out.trans (Hbl.out.mono Hb1.out.size))
      clear hn'
      go_wp2_with fail
      all_goals
        go_ret
        exact ⟨rfl, Hend.out⟩
end Go.Proofs.YtpglhnbekpafeaaDoor
