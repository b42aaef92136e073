/-
  The walk of the law ShakeCalm.
-/
import Derived.Test.YtpkpaloaoopkgaaDoorCb
import Derived.Deep.RegionLaw
import Derived.RegionTactic
import Derived.StillTailTactics
import Derived.Deep.LoopGhost
namespace Go.Proofs.YtpkpaloaoopkgaaDoor
set_option linter.unusedVariables false
set_option linter.unusedSimpArgs false
open Go Go.RowKit
attribute [local go_sem ↓] exec_loadNote exec_storeNote exec_loadItem exec_storeItem
attribute [local go_sem] ldRow_ptr ldFin_some cellsAt_succ cellsAt_zero allSome_cons allSome_nil stRow_ptr stFin_true allOne_cons allOne_nil there_succ there_zero frozens_succ frozens_zero one_int one_bool one_slice putCells_alloc_at putCells_alloc_old over_all
set_option maxRecDepth 100000 in
set_option maxHeartbeats 8000000 in
theorem calm_any (a : Option Addr) (n cap : Nat) (l : List Tri) (w : World) (h : IsTris w a n l) (hl : HasLaid w) :
    Calls Tryd.prog 5 #[.slice a n cap] w fun e w' => e = .returned (.bool true) ∧ Below w.heap.size w w' := by
  have Hl := Lib.hid h; have HL := Lib.hid hl
  have hnm := h.2.1
  obtain ⟨ti, hti, hz1, hz2, hz3⟩ := itemInfo
  clear h hl
  go_enter Tryd.func5, Tryd.ntmps5
  go_upto_region 2 with (go_at_call 8; refine (awake_any _ HL.out).mono ?_; rintro e w1 ⟨rfl, haw⟩)
  have Hb1 := Lib.hid haw
  have HL1 := Lib.hid (HL.out.below haw HL.out.1)
  have Hn := Lib.hid (show Calls Tryd.prog 9 #[.int .i64 3] w1 (NewPost w1 3) from new_good 3 w1 (by omega) (by omega))
  clear haw
  go_upto_region 3 with (go_at_call 9; refine Hn.out.mono ?_; rintro e w2 ⟨p, g, rfl, hp, hg, hs, hb⟩)
  have Hn2 := Lib.hid (show Calls Tryd.prog 9 #[.int .i64 3] w2 (NewPost w2 3) from new_good 3 w2 (by omega) (by omega))
  go_upto_region 6 with (go_at_call 9; refine Hn2.out.mono ?_; rintro e w3 ⟨p', g', rfl, hp', hg', hs', hb'⟩)
  have hsz := hb.size
  have hz0 := HL1.out.1
  have hlt := hs.lt
  have hnet := NetAt.newC (base := w1.heap.size) (T := 42) (T' := 44) (hs.step hb') hs' ⟨hp, hg, by omega, by omega⟩ ⟨by omega, by omega, by omega, by omega⟩
  have hb5 : Below w1.heap.size w1 (((w3.alloc (.cells #[.pointer (some ⟨p, 0, none⟩), .pointer (some ⟨p', 0, none⟩)] 42)).alloc (.cells #[.slice none 0 0, .slice none 0 0] 44)).alloc (isObj (Shk.new 3) (Shk.new 3))) :=
    (((hb.trans (hb'.mono hsz)).alloc (Nat.le_trans hsz hb'.size) _).alloc (by have := hb'.size; simp; omega) _).alloc (by have := hb'.size; simp; omega) _
  have hex : StageC _ w1.heap.size w3.heap.size (w3.heap.size + 1) (w3.heap.size + 2) 0 := ⟨_, _, hnet, ⟨rfl, rfl⟩, ⟨rfl, rfl⟩, rfl, rfl⟩
  have hkb3 := Nat.le_trans hsz hb'.size
  have Hex := Lib.hid hex; have Hb5 := Lib.hid hb5
  clear hnet hb5 hex hs hs' hb hb' hlt Hn Hn2
  go_upto_region 9 with fail
  have e8 : (#[Value.bool false, Value.bool false, Value.bool false, Value.bool false, Value.bool false, Value.bool false, Value.bool false, Value.bool false] : Array Value) = (isList (Shk.new 3) (Shk.new 3)).toArray := rfl
  rw [e8]
  clear e8
  have e22 : w3.heap.size + 2 = w3.heap.size + 1 + 1 := rfl
  rw [e22] at Hex
  clear e22
  unfold isObj at Hex Hb5
  generalize ((w3.alloc (.cells #[.pointer (some ⟨p, 0, none⟩), .pointer (some ⟨p', 0, none⟩)] 42)).alloc (.cells #[.slice none 0 0, .slice none 0 0] 44)).alloc (.cells (isList (Shk.new 3) (Shk.new 3)).toArray 57) = w5 at *
  have hkb1 : w1.heap.size ≤ w3.heap.size + 1 + 1 := by omega
  have hb1w := Hb1.out.size
  generalize w3.heap.size + 1 + 1 = kb at *
  generalize hbw : w3.heap.size + 1 = bw at *
  generalize w3.heap.size = bx at *
  clear hbw
  go_wp2_with fail
  go_loopw [11] (fun idx wr => ∃ k : Nat, k ≤ 2 ∧ idx = iV k ∧ StageC wr w1.heap.size bx bw kb k ∧ Below w1.heap.size w1 wr) (fun idx _ => 2 - (intOf idx).toNat)
  case atStart => exact ⟨0, by omega, rfl, Hex.out, Hb5.out⟩
  case round =>
    obtain ⟨k, hk, rfl, hst, hbl⟩ := hrel
    have Hst := Lib.hid hst; have Hbl := Lib.hid hbl
    clear hst hbl
    by_cases hk2 : k < 2
    · have hd2 : decide ((k : Int) < 2) = true := decide_eq_true (by omega)
      obtain ⟨o, P, Q, hko, hnet, hps0, hqn, hback⟩ := Hst.out.view hk2
      have hlen : P.s.l.length = 3 := by rw [hps0]; rfl
      have hxa := hnet.xa
      have Hstart := Lib.hid (start_any P.p P.g P.s wr hnet.sa (by rw [hlen]; decide) (by rw [hlen]; decide))
      have Hnet := Lib.hid hnet; have Hlen := Lib.hid hlen; have Hqn := Lib.hid hqn; have Hback := Lib.hid hback
      clear hnet hlen hqn hback hps0
      go_upto_region 13 with (go_at_call 17; refine Hstart.out.mono ?_; rintro e w4 ⟨v, rfl, ht4, hs4, ho4⟩)
      have hbel4 := Hbl.out.trans (ho4.toBelow Hbl.out.size (by intro q hq; have := Hnet.out.lo; simp at hq; omega))
      have hps := PushRel.start (w0 := w1) (Hnet.out.shake hs4 ho4) ht4 ⟨Hnet.out.ltx.2, fun m hm => (Hnet.out.qb.lt m hm).2⟩ hbel4
      have hfew : (startTold P.s.l).length ≤ 3 := by simp [startTold]; have := Hlen.out; omega
      have hbk := Hback.out
      clear ht4 hs4 ho4 hbel4 hxa Hback Hstart
      generalize startTold P.s.l = ns at *
      obtain ⟨av, capn, rfl, _⟩ := hps.notes
      have Hps := Lib.hid hps; have Hbk := Lib.hid hbk
      clear hps hbk
      go_wp2_with fail
      go_loopw [13] (fun idx wr => ∃ (q : Nat) (vb : Value), q ≤ ns.length ∧ idx = iV q ∧ PushRel w1 w1.heap.size bx bw k o { P with s := P.s.start } Q (.slice av ns.length capn) ns wr q vb) (fun idx _ => ns.length - (intOf idx).toNat)
      case atStart => exact ⟨0, Q.v, Nat.zero_le _, rfl, Hps.out⟩
      case round =>
        obtain ⟨q, vb, hq, rfl, hp⟩ := hrel
        by_cases hlt : q < ns.length
        · obtain ⟨t, hnt⟩ : ∃ t, ns[q]? = some t := ⟨_, List.getElem?_eq_getElem hlt⟩
          obtain ⟨_, _, e1, hc⟩ := hp.notes
          injection e1 with e1 _ e1c
          subst e1 e1c
          obtain ⟨b, rfl, hb1, hcell⟩ := hc (by omega)
          obtain ⟨c0, c1, c2, c3, c4, c5, c6, c7, c8, c9, c10⟩ := note_cells (hcell q t hnt)
          have hco := hp.net.cb
          have hfo := hp.net.fb
          have hq0 : (0 : Int) ≤ (q : Int) := by omega
          have hqn : (q : Int) < (ns.length : Int) := by omega
          have hwr : IntKind.i64.wrap (1 - (k : Int)) = (o : Int) := by rw [IntWalk.i64_in _ (by omega)]; omega
          have ho0 : (0 : Int) ≤ (o : Int) := by omega
          have ho2 : (o : Int) < 2 := by omega
          have Hp := Lib.hid hp
          have hlb : (Q.q ++ (ns.take q).map noteItm).length ≤ 100063 := by rw [Hqn.out]; simp; omega
          obtain ⟨n1, hn⟩ : ∃ n1, n1 = (Q.q ++ (ns.take q).map noteItm).length := ⟨_, rfl⟩
          rw [← hn] at hlb
          have hqb : qRow wr w1.heap.size 53 16 vb n1 (itmFlat (Q.q ++ (ns.take q).map noteItm)) := hn ▸ Hp.out.net.qb
          have Hqb := Lib.hid hqb; have Hn := Lib.hid hn
          have H63 := Lib.hid (show n1 + 1 ≤ maxLen by simp only [maxLen]; omega)
          have Hby := Lib.hid (show (n1 + 1) * 72 ≤ 140737488355328 by omega)
          have Hbs := Lib.hid (show w1.heap.size ≤ (wr.alloc (.cells (itmList (noteItm t)).toArray 53)).drew.heap.size by have := Hp.out.net.below; simp; omega)
          have Hnt := Lib.hid hnt
          have hlw := hp.net.ltx.2
          clear hp hc hcell hlb hnt hqb hn
          go_wp2_with fail
          go_region_law ((refine step_append_q _ (by rfl) _ _ _ (by rfl) w1.heap.size 53 ti _ 16 72 Tryd.underlying43 hti hz1 hz2 hz3 rfl (by decide) vb n1 _ (by rfl) (Hqb.out.alloc _).drew ⟨wr.heap.size, 0, none⟩ 1 1 (itmList (noteItm t)) (by rfl) (by rfl) (World.news_of_block (cs := (itmList (noteItm t)).toArray) (t := 53) (fr := (0, 0)) (heap_alloc_new wr _)) (one_itm _) (by decide) H63.out Hby.out Hbs.out (wr.heap.size + 1) (by simp) ?_; intro g1 off1 cap1 w7 hq1 hg1 hat hlt1; have hpc := Hp.out.net.push_cell hg1; obtain ⟨hpc1, hpc2⟩ := hpc))
          all_goals
            go_wp2_with fail
            go_roundw
            case rel => exact ⟨q + 1, _, by omega, by go_num, Hp.out.next Hnt.out Hn.out hq1 hg1 hat⟩
            case measure => simp [intOf]; omega
        · obtain rfl : q = ns.length := by omega
          have hnet := hp.net
          rw [List.take_length] at hnet
          have Hnew := Lib.hid (Hbk.out _ _ hnet); have Hbel := Lib.hid hp.bel
          clear hp hnet
          go_wp2_with fail
          go_roundw
          case rel => exact ⟨k + 1, by omega, by go_num, Hnew.out, Hbel.out⟩
          case measure => simp [intOf]; omega
    · obtain rfl : k = 2 := by omega
      have Hg := Lib.hid (show NetC wr w1.heap.size bx bw (RC 1 3 kb) from Hst.out)
      go_wp2_with fail
      generalize iV ((2 : Nat) : Int) = z3
      clear Hst Hex Hb5
      obtain ⟨w7, rfl⟩ : ∃ w7 : World, w7 = wr := ⟨_, rfl⟩
      go_loopw [14] (fun idx wr => ∃ k : Nat, k ≤ n ∧ k ≤ 200 ∧ idx = iV k ∧ NetC wr w1.heap.size bx bw (RC (2 * k + 1) (3 + k * 126) kb) ∧ Below w1.heap.size w1 wr) (fun idx _ => n - (intOf idx).toNat)
      case atStart => exact ⟨0, by omega, by omega, rfl, Hg.out, Hbl.out⟩
      case round =>
        obtain ⟨i, hin, hi3, rfl, hx, hbl⟩ := hrel
        have Hx := Lib.hid hx; have Hbl := Lib.hid hbl
        clear hx hbl
        by_cases hgo : i < n ∧ i < 200
        · obtain ⟨hlt, hlt2⟩ := hgo
          have hd1 : decide ((i : Int) < (n : Int)) = true := decide_eq_true (by omega)
          have hd2 : decide ((i : Int) < 200) = true := decide_eq_true (by omega)
          obtain ⟨b, off, rfl, hbl3, hc⟩ := Hl.out.2.2 (by omega)
          have hil : i < l.length := by rw [← Hl.out.1]; exact hlt
          have hbw' := Hb1.out.trans (Hbl.out.mono Hb1.out.size)
          obtain ⟨c0, c1, c2⟩ := hc.cells (List.getElem?_eq_getElem hil)
          rw [← hbw'.cell (p := ⟨b, off + i * 3, none⟩) hbl3] at c0
          rw [← hbw'.cell (p := ⟨b, off + i * 3 + 1, none⟩) hbl3] at c1
          rw [← hbw'.cell (p := ⟨b, off + i * 3 + 2, none⟩) hbl3] at c2
          have hi0 : (0 : Int) ≤ (i : Int) := by omega
          have hin2 : (i : Int) < (n : Int) := by omega
          generalize l[i].a = la at c0
          generalize l[i].b = lb at c1
          generalize l[i].c = lc at c2
          clear hc hbw' hil
          obtain ⟨k, hk2, hkb⟩ := and_one lb
          obtain ⟨m, hm2, hmb⟩ := and_one lc
          have hwm : IntKind.i64.wrap (1 + (m : Int)) = 1 + (m : Int) := IntWalk.i64_in _ (by omega)
          obtain ⟨o, P, Q, hko, hnet, hrc⟩ := Hx.out.view (RC.turns _ _ _) k hk2
          go_upto_region 22 with fail
          clear c1 hkb hmb
          have hxa := hnet.xa
          have hkn0 : (0 : Int) ≤ (k : Int) := by omega
          have hkn2 : (k : Int) < 2 := by omega
          have Hnet := Lib.hid (hnet.step (Below.refl _ _).drew); have Hrc := Lib.hid hrc
          have Hbd := Lib.hid (Hbl.out.drew)
          have hxa' : wr.drew.cell? ⟨bx, k, none⟩ = some (.pointer (some ⟨P.p, 0, none⟩)) := Hnet.out.xa
          have c2' : wr.drew.cell? ⟨b, off + i * 3 + 2, none⟩ = some (iV lc) := c2
          obtain ⟨up, hup⟩ : ∃ u, (bits BinOp.and IntKind.i64 lc 4 == 4) = u := ⟨_, rfl⟩
          have Hloc := Lib.hid (local_all P.p P.g (1 + (m : Int)) up P.s wr.drew Hnet.out.sa (by rw [Hrc.out.calm.good.a.len]; decide) (fun x hx => by have := Hrc.out.calm.good.a.owed x hx; omega))
          have hlb : b < wr.drew.heap.size ∧ bx < wr.drew.heap.size := ⟨World.block_lt_of_cell? _ _ c2', World.block_lt_of_cell? _ _ hxa'⟩
          have hgn : bx ∉ [P.g] ∧ b ∉ [P.g] := by
            have h1 := Hnet.out.ap.2.1.2.1
            have h2 := Hnet.out.lo.2.1
            have h3 := Hb1.out.size
            simp; exact ⟨h1, by omega⟩
          clear hnet hrc
          go_region_held3 (fun w' => w'.cell? ⟨bx, k, none⟩ = some (.pointer (some ⟨P.p, 0, none⟩)) ∧ w'.cell? ⟨b, off + i * 3 + 2, none⟩ = some (iV lc)) (first | (exact ⟨hxa', c2'⟩) | (exact ⟨(ho4.cell (p := ⟨bx, k, none⟩) hlb.2 hgn.1).trans hxa', (ho4.cell (p := ⟨b, off + i * 3 + 2, none⟩) hlb.1 hgn.2).trans c2'⟩)) (first | (go_at_call 16; refine Hloc.out.mono ?_; rintro e w4 ⟨v, rfl, ht4, hs4, ho4⟩))
          have hbel4 := Hbd.out.trans (ho4.toBelow Hbd.out.size (by simp; exact Hnet.out.lo.2.1))
          have hka4 : w4.heap[kb]? = some (isAt k P.s Q.s) := by
            have := (Hnet.out.shake hs4 (ho4.mono (by simp))).ka
            rw [show ({ P with s := (localRes P.s (1 + (m : Int)) up).1 } : Side).kb = kb from Hrc.out.kbP, show ({ P with s := (localRes P.s (1 + (m : Int)) up).1 } : Side).ko = _ from Hrc.out.koP] at this; exact this
          have hkbl : kb < wr.drew.heap.size := by have := Hnet.out.ka; rw [Hrc.out.kbP] at this; exact block_lt this
          have c24 : w4.cell? ⟨b, off + i * 3 + 2, none⟩ = some (iV lc) := (ho4.cell (p := ⟨b, off + i * 3 + 2, none⟩) hlb.1 hgn.2).trans c2'
          have cis := (is_cell (m := m + 1) hk2 hka4 (by omega) (by omega)).1
          have fis := is_free hka4 (4 * k + (m + 1))
          have hm0 : (0 : Int) ≤ 1 + (m : Int) := by omega
          have hm4 : 1 + (m : Int) < 4 := by omega
          have hkbb : w1.heap.size ≤ kb := hkb1
          have hb1b : b < w1.heap.size := by omega
          have hnet4 := calm_local Hnet.out Hrc.out hk2 m (by omega) up hs4 ho4
          have hps := PushRel.start (w0 := w1) hnet4 (told_keep ht4 hkbl rfl) ⟨Hnet.out.ltx.2, fun m hm => (Hnet.out.qb.lt m hm).2⟩ (hbel4.setCell hkbb _).drew
          have hfew := told_few P.s (1 + (m : Int)) up
          have c04 : w4.cell? ⟨b, off + i * 3, none⟩ = some (iV la) := (ho4.cell (p := ⟨b, off + i * 3, none⟩) hlb.1 hgn.2).trans c0
          have hgl : ∀ vb', RC (2 * i + 1 + 1) (3 + i * 126 + 63) kb k { P with s := (localRes P.s (1 + (m : Int)) up).1, ko := isAt k (localRes P.s (1 + (m : Int)) up).1 Q.s } { Q with v := vb', q := Q.q ++ (localRes P.s (1 + (m : Int)) up).2.1.map noteItm, ko := isAt k (localRes P.s (1 + (m : Int)) up).1 Q.s } := fun vb' => Hrc.out.local hk2 m (by omega) up vb'
          clear hka4 hnet4 hbel4 ho4 ht4 hs4 hxa' c2' hgn c2 hxa Hloc c0
          rw [show 4 * k + (m + 1) = k * 4 + (1 + m) by omega] at cis fis
          have Hps := Lib.hid hps; have Hgl := Lib.hid hgl
          clear hps hgl
          go_wp2_with fail
          go_region
          clear c24 cis fis
          have hps := Hps.out; have hgl := Hgl.out
          clear Hps Hgl
          generalize isAt k (localRes P.s (1 + (m : Int)) up).1 Q.s = ko' at *
          generalize (localRes P.s (1 + (m : Int)) up).2.1 = ns at *
          generalize (localRes P.s (1 + (m : Int)) up).1 = s' at *
          generalize (localRes P.s (1 + (m : Int)) up).2.2 = cd at *
          have c05 : ((w4.setCell ⟨kb, k * 4 + (1 + m), none⟩ (.bool up)).drew).cell? ⟨b, off + i * 3, none⟩ = some (iV la) := by
            rw [World.cell?_drew, World.cell?_setCell_far (h := by show kb ≠ b; omega)]; exact c04
          generalize (w4.setCell ⟨kb, k * 4 + (1 + m), none⟩ (.bool up)).drew = w5 at *
          obtain ⟨av, capn, rfl, _⟩ := hps.notes
          have Hps := Lib.hid hps; have Hgl := Lib.hid hgl
          clear hps hgl c04
          go_wp2_with fail
          go_loopw [19] (fun idx wr => ∃ (q : Nat) (vb : Value), q ≤ ns.length ∧ idx = iV q ∧ PushRel w1 w1.heap.size bx bw k o { P with s := s', ko := ko' } { Q with ko := ko' } (.slice av ns.length capn) ns wr q vb ∧ wr.cell? ⟨b, off + i * 3, none⟩ = some (iV la)) (fun idx _ => ns.length - (intOf idx).toNat)
          case atStart => exact ⟨0, Q.v, Nat.zero_le _, rfl, Hps.out, c05⟩
          case round =>
            obtain ⟨q, vb, hq, rfl, hp, c0⟩ := hrel
            by_cases hlt : q < ns.length
            · obtain ⟨t, hnt⟩ : ∃ t, ns[q]? = some t := ⟨_, List.getElem?_eq_getElem hlt⟩
              obtain ⟨_, _, e1, hc⟩ := hp.notes
              injection e1 with e1 _ e1c
              subst e1 e1c
              obtain ⟨bn, rfl, hb1, hcell⟩ := hc (by omega)
              have C0 := Lib.hid c0
              clear c0
              obtain ⟨c0, c1, c2, c3, c4, c5, c6, c7, c8, c9, c10⟩ := note_cells (hcell q t hnt)
              have hco := hp.net.cb
              have hfo := hp.net.fb
              have hq0 : (0 : Int) ≤ (q : Int) := by omega
              have hqn : (q : Int) < (ns.length : Int) := by omega
              have hwr : IntKind.i64.wrap (1 - (k : Int)) = (o : Int) := by rw [IntWalk.i64_in _ (by omega)]; omega
              have ho0 : (0 : Int) ≤ (o : Int) := by omega
              have ho2 : (o : Int) < 2 := by omega
              have Hp := Lib.hid hp
              have hlb : (Q.q ++ (ns.take q).map noteItm).length ≤ 100063 := by have := Hrc.out.calm.good.lb; simp; omega
              obtain ⟨n1, hn⟩ : ∃ n1, n1 = (Q.q ++ (ns.take q).map noteItm).length := ⟨_, rfl⟩
              rw [← hn] at hlb
              have hqb : qRow wr w1.heap.size 53 16 vb n1 (itmFlat (Q.q ++ (ns.take q).map noteItm)) := hn ▸ Hp.out.net.qb
              have Hqb := Lib.hid hqb; have Hn := Lib.hid hn
              have H63 := Lib.hid (show n1 + 1 ≤ maxLen by simp only [maxLen]; omega)
              have Hby := Lib.hid (show (n1 + 1) * 72 ≤ 140737488355328 by omega)
              have Hbs := Lib.hid (show w1.heap.size ≤ (wr.alloc (.cells (itmList (noteItm t)).toArray 53)).drew.heap.size by have := Hp.out.net.below; simp; omega)
              have Hnt := Lib.hid hnt
              have hlw := hp.net.ltx.2
              clear hp hc hcell hlb hnt hqb hn
              go_wp2_with fail
              go_region_law ((refine step_append_q _ (by rfl) _ _ _ (by rfl) w1.heap.size 53 ti _ 16 72 Tryd.underlying43 hti hz1 hz2 hz3 rfl (by decide) vb n1 _ (by rfl) (Hqb.out.alloc _).drew ⟨wr.heap.size, 0, none⟩ 1 1 (itmList (noteItm t)) (by rfl) (by rfl) (World.news_of_block (cs := (itmList (noteItm t)).toArray) (t := 53) (fr := (0, 0)) (heap_alloc_new wr _)) (one_itm _) (by decide) H63.out Hby.out Hbs.out (wr.heap.size + 1) (by simp) ?_; intro g1 off1 cap1 w8 hq1 hg1 hat hlt1; have hpc := Hp.out.net.push_cell hg1; obtain ⟨hpc1, hpc2⟩ := hpc))
              all_goals
                go_wp2_with fail
                go_roundw
                case rel => exact ⟨q + 1, _, by omega, by go_num, Hp.out.next Hnt.out Hn.out hq1 hg1 hat, keep_far hb1b (Hp.out) hg1 C0.out⟩
                case measure => simp [intOf]; omega
            · obtain rfl : q = ns.length := by omega
              have hnet := hp.net
              rw [List.take_length] at hnet
              have hrc2 := Hgl.out vb
              have hbel := hp.bel
              have Hnet2 := Lib.hid (hnet.step (Below.refl _ _).drew); have Hrc2 := Lib.hid hrc2; have Hbel := Lib.hid hbel.drew; have Hnet3 := Lib.hid hnet; have Hbel3 := Lib.hid hbel
              clear hp hnet hrc2 hbel
              by_cases hla0 : 0 < la
              · have hlr : HasLaid wr.drew := HL1.out.below Hbel.out HL1.out.1
                have hxa' : wr.drew.cell? ⟨bx, k, none⟩ = some (.pointer (some ⟨P.p, 0, none⟩)) := Hnet2.out.xa
                have Hhear := Lib.hid (hear_any w1.heap.size bx bw k o { P with s := s', ko := ko' } { Q with v := vb, q := Q.q ++ ns.map noteItm, ko := ko' } (2 * i + 1 + 1) wr.drew Hnet2.out Hrc2.out.calm.good.a Hrc2.out.calm.good.ba (by omega) hz0 hlr (by have := Hrc2.out.calm.good.lb; omega))
                have hwr : IntKind.i64.wrap (1 - (k : Int)) = (o : Int) := by rw [IntWalk.i64_in _ (by omega)]; omega
                have ho0 : (0 : Int) ≤ (o : Int) := by omega
                have ho2 : (o : Int) < 2 := by omega
                clear hlr
                go_upto_region 29 with fail
                clear c0
                go_region_held3 (fun w' => w'.cell? ⟨bx, k, none⟩ = some (.pointer (some ⟨P.p, 0, none⟩))) (first | (exact hxa') | (exact hn9.xa)) (first | (go_at_call 18; refine Hhear.out.mono ?_; rintro e w9 ⟨v9, vb9, rfl, hn9, hb9⟩))
                have hrc3 := Hrc2.out.hear (by omega) v9 vb9
                have hnew := NetC.back hn9 hko hrc3 (RC.turns _ _ _)
                have Hnew := Lib.hid hnew; have Hb9 := Lib.hid (Hbel.out.trans hb9)
                clear hn9 hb9 hrc3 hnew hxa'
                go_wp2_with fail
                go_roundw
                case rel => exact ⟨i + 1, by omega, by omega, by go_num, calm_cast Hnew.out (by omega) (by omega), Hb9.out⟩
                case measure => simp [intOf]; omega
              · have Hnew := Lib.hid (NetC.back Hnet3.out hko (Hrc2.out.mono (M' := 2 * i + 1 + 1 + 1) (L' := 3 + i * 126 + 63 + 63) (by omega) (by omega)) (RC.turns _ _ _))
                go_wp2_with fail
                go_roundw
                case rel => exact ⟨i + 1, by omega, by omega, by go_num, calm_cast Hnew.out (by omega) (by omega), Hbel3.out⟩
                case measure => simp [intOf]; omega
        · go_wp2_with fail
          all_goals
            have Hx2 := Lib.hid (calm_end Hx.out (by omega) (by omega))
            clear Hx
            obtain ⟨w8, rfl⟩ : ∃ w8 : World, w8 = wr := ⟨_, rfl⟩
            go_loopg [21] 100812 (fun G _ wr => G ≤ 100812 ∧ NetC wr w1.heap.size bx bw (DrainR kb G) ∧ Below w1.heap.size w1 wr)
            case atStart => exact ⟨by omega, Hx2.out, Hbl.out⟩
            case round =>
              obtain ⟨hG, hx, hbl⟩ := hrel
              have Hx := Lib.hid hx; have Hbl := Lib.hid hbl
              clear hx hbl
              obtain ⟨A, B, hnet, hdr⟩ := Hx.out
              obtain ⟨aA, cA, hvA⟩ := qRow_val hnet.qa
              obtain ⟨aB, cB, hvB⟩ := qRow_val hnet.qb
              have hca := hnet.ca
              have hcb := hnet.cb
              rw [hvA] at hca
              rw [hvB] at hcb
              have hw := hdr.wt
              have hwa := weight_len A.q
              have hwb := weight_len B.q
              have Hnet := Lib.hid hnet; have Hdr := Lib.hid hdr
              clear hnet hdr hvA hvB
              by_cases hpos : 0 < A.q.length + B.q.length
              · have hp1 : (0 : Int) < (A.q.length : Int) + (B.q.length : Int) := by omega
                have Hpos := Lib.hid hpos
                have hx0 : NetC wr w1.heap.size bx bw (Drain (401 + 2 * (100812 - (gk : Int))) kb gk 0) := ⟨A, B, Hnet.out, Drain.start Hdr.out hpos⟩
                have Hx0 := Lib.hid hx0
                clear hx0 Hx
                go_wp2_with fail
                obtain ⟨w9, rfl⟩ : ∃ w9 : World, w9 = wr := ⟨_, rfl⟩
                go_loopw [21] (fun idx wr => ∃ k : Nat, k ≤ 2 ∧ idx = iV k ∧ NetC wr w1.heap.size bx bw (Drain (401 + 2 * (100812 - (gk : Int)) + k) kb gk k) ∧ Below w1.heap.size w1 wr) (fun idx _ => 2 - (intOf idx).toNat)
                case atStart => exact ⟨0, by omega, rfl, by simpa using Hx0.out, Hbl.out⟩
                case round =>
                  obtain ⟨k, hk, rfl, hx, hbl⟩ := hrel
                  have Hx := Lib.hid hx; have Hbl := Lib.hid hbl
                  clear hx hbl hca hcb
                  by_cases hk2 : k < 2
                  · have hd2 : decide ((k : Int) < 2) = true := decide_eq_true (by omega)
                    obtain ⟨o, P, Q, hko, hnet, hdr⟩ := Hx.out.view (Drain.turns _ _ _ _) k hk2
                    have Hnet := Lib.hid (hnet.step (Below.refl _ _).drew); have Hdr := Lib.hid hdr
                    have Hbd := Lib.hid (Hbl.out.drew)
                    have hlr : HasLaid wr.drew := HL1.out.below Hbd.out HL1.out.1
                    have hxa' : wr.drew.cell? ⟨bx, k, none⟩ = some (.pointer (some ⟨P.p, 0, none⟩)) := Hnet.out.xa
                    have hkn0 : (0 : Int) ≤ (k : Int) := by omega
                    have hkn2 : (k : Int) < 2 := by omega
                    have Hhear := Lib.hid (drain_hear Hnet.out hdr hz0 hlr (by omega) (by omega))
                    have hwr : IntKind.i64.wrap (1 - (k : Int)) = (o : Int) := by rw [IntWalk.i64_in _ (by omega)]; omega
                    have ho0 : (0 : Int) ≤ (o : Int) := by omega
                    have ho2 : (o : Int) < 2 := by omega
                    clear hnet hdr hlr
                    go_upto_region 36 with fail
                    go_region_held3 (fun w' => w'.cell? ⟨bx, k, none⟩ = some (.pointer (some ⟨P.p, 0, none⟩))) (first | (exact hxa') | (exact hn9.xa)) (first | (go_at_call 18; refine Hhear.out.mono ?_; rintro e wz ⟨v9, vb9, rfl, hn9, hb9⟩))
                    have hnew := NetC.back hn9 hko (Hdr.out.hear hk2 (by omega) v9 vb9) (Drain.turns _ _ _ _)
                    have Hnew := Lib.hid hnew; have Hb9 := Lib.hid (Hbd.out.trans hb9)
                    clear hn9 hb9 hnew hxa'
                    go_wp2_with fail
                    go_roundw
                    case rel => exact ⟨k + 1, by omega, by go_num, by rw [show 401 + 2 * (100812 - (gk : Int)) + ((k + 1 : Nat) : Int) = 401 + 2 * (100812 - (gk : Int)) + k + 1 by omega]; exact Hnew.out, Hb9.out⟩
                    case measure => simp [intOf]; omega
                  · obtain rfl : k = 2 := by omega
                    obtain ⟨A2, B2, hn2, hd2⟩ := Hx.out
                    have hl2 := hd2.last
                    have hl3 := hl2.2
                    have Hnew := Lib.hid (show NetC wr w1.heap.size bx bw (DrainR kb (gk - 1)) from ⟨A2, B2, hn2, DrainR.of_last hd2 hG⟩)
                    clear hn2 hd2 hl2
                    go_wp2_with fail
                    go_roundg (gk - 1)
                    case measure => omega
                    case rel => exact ⟨by omega, Hnew.out, Hbl.out⟩
              · have hA0 : A.q = [] := List.eq_nil_of_length_eq_zero (by omega)
                have hB0 : B.q = [] := List.eq_nil_of_length_eq_zero (by omega)
                have hx0 : NetC wr w1.heap.size bx bw (Still kb) := ⟨A, B, Hnet.out, Still.of Hdr.out hA0 hB0⟩
                rw [hA0] at hca
                rw [hB0] at hcb
                have Hx0 := Lib.hid hx0
                clear hx0 Hx hA0 hB0
                go_wp2_with fail
                obtain ⟨w9, rfl⟩ : ∃ w9 : World, w9 = wr := ⟨_, rfl⟩
                go_loopw [23] (fun idx wr => ∃ k : Nat, k ≤ 2 ∧ idx = iV k ∧ NetC wr w1.heap.size bx bw (Still kb) ∧ Below w1.heap.size w1 wr) (fun idx _ => 2 - (intOf idx).toNat)
                case atStart => exact ⟨0, by omega, rfl, Hx0.out, Hbl.out⟩
                case round =>
                  obtain ⟨k, hk, rfl, hx, hbl⟩ := hrel
                  have Hx := Lib.hid hx; have Hbl := Lib.hid hbl
                  clear hx hbl hca hcb
                  by_cases hk2 : k < 2
                  · have hd2 : decide ((k : Int) < 2) = true := decide_eq_true (by omega)
                    go_wp2_with fail
                    obtain ⟨wz, rfl⟩ : ∃ wz : World, wz = wr := ⟨_, rfl⟩
                    go_loopw [24] (fun idx wr => ∃ m : Nat, 1 ≤ m ∧ m ≤ 4 ∧ idx = iV m ∧ NetC wr w1.heap.size bx bw (Still kb) ∧ Below w1.heap.size w1 wr) (fun idx _ => 4 - (intOf idx).toNat)
                    case atStart => exact ⟨1, by omega, by omega, rfl, Hx.out, Hbl.out⟩
                    case round =>
                      obtain ⟨m, hm1, hm4, rfl, hx2, hbl2⟩ := hrel
                      have Hx2 := Lib.hid hx2; have Hbl2 := Lib.hid hbl2
                      clear hx2 hbl2
                      by_cases hm : m ≤ 3
                      · obtain ⟨o, P, Q, hko, hnet, hst⟩ := Hx2.out.view (Still.turns _) k hk2
                        obtain ⟨cx, cy⟩ := hst.cells hnet hk2 m hm1 hm
                        obtain ⟨es, eb⟩ := hst.res hnet m hm1 hm
                        have hlen63 : P.s.l.length ≤ 63 := by rw [hst.len]; decide
                        have hxa := hnet.xa
                        have Hsv := Lib.hid (fun W (h : ShkOk W P.p P.g P.s) => es ▸ serves_all P.p P.g m P.s W h hlen63)
                        have Hbk := Lib.hid (fun W (h : ShkOk W P.p P.g P.s) => eb ▸ blocked_all P.p P.g m P.s W h hlen63)
                        have hwr : IntKind.i64.wrap (1 - (k : Int)) = (o : Int) := by rw [IntWalk.i64_in _ (by omega)]; omega
                        have ho0 : (0 : Int) ≤ (o : Int) := by omega
                        have ho2 : (o : Int) < 2 := by omega
                        have hm0 : (0 : Int) ≤ (m : Int) := by omega
                        have hm4' : (m : Int) < 4 := by omega
                        have hkn0 : (0 : Int) ≤ (k : Int) := by omega
                        have hkn2 : (k : Int) < 2 := by omega
                        have hm3' : (m : Int) ≤ 3 := by omega
                        have Hd := Lib.hid (fun j => hnet.sa.step (below_drewN' (Below.refl wr.heap.size wr) j))
                        have Hn2 := Lib.hid (fun j => netC_step Hx2.out (below_drewN' (Below.refl wr.heap.size wr) j))
                        rw [show 4 * k + m = k * 4 + m by omega] at cx
                        rw [show 4 * (1 - k) + m = o * 4 + m by omega] at cy
                        clear hnet hst es eb hlen63
                        generalize upAt P.s m = us at *
                        generalize upAt Q.s m = ub at *
                        cases us <;> cases ub
                        all_goals
                          go_upto_region 45 with fail
                          go_quiet (first | (go_at_call 12; exact Calls.quiet_of_same (Hsv.out _ (Hd.out _))) | (go_at_call 14; exact Calls.quiet_of_same (Hbk.out _ (Hd.out _))))
                          go_wp2_with fail
                          go_roundw
                          case rel => exact ⟨m + 1, by omega, by omega, by go_num, Hn2.out _, Hbl2.out.trans (below_drewN' (Below.refl _ _) _)⟩
                          case measure => simp [intOf]; omega
                      · obtain rfl : m = 4 := by omega
                        go_wp2_with fail
                        go_roundw
                        case rel => exact ⟨k + 1, by omega, by go_num, Hx2.out, Hbl2.out⟩
                        case measure => simp [intOf]; omega
                  · obtain rfl : k = 2 := by omega
                    go_wp2_with fail
                    go_ret
                    exact ⟨rfl, Hb1.out.trans (Hbl.out.mono Hb1.out.size)⟩
end Go.Proofs.YtpkpaloaoopkgaaDoor
