/-
  The walk of the law ShakeOnce.
-/
import Derived.Test.YtpkpaloaoopkgaaDoorOa
import Derived.Deep.RegionLaw
import Derived.StillTailTactics
namespace Go.Proofs.YtpkpaloaoopkgaaDoor
set_option linter.unusedVariables false
set_option linter.unusedSimpArgs false
open Go Go.RowKit
attribute [local go_sem ↓] exec_loadNote exec_storeNote exec_loadItem exec_storeItem
attribute [local go_sem] ldRow_ptr ldFin_some cellsAt_succ cellsAt_zero allSome_cons allSome_nil stRow_ptr stFin_true allOne_cons allOne_nil there_succ there_zero frozens_succ frozens_zero one_int one_bool one_slice putCells_alloc_at putCells_alloc_old over_all
set_option maxRecDepth 100000 in
set_option maxHeartbeats 8000000 in
theorem once_any (a : Option Addr) (n cap : Nat) (l : List Tri) (w : World) (h : IsTris w a n l) (hl : HasLaid w) :
    Calls Tryd.prog 4 #[.slice a n cap] w fun e w' => e = .returned (.bool true) ∧ Below w.heap.size w w' := by
  have Hl := Lib.hid h; have HL := Lib.hid hl
  have hnm := h.2.1
  clear h hl
  go_enter Tryd.func4, Tryd.ntmps4
  go_upto_region 2 with (go_at_call 8; refine (awake_any _ HL.out).mono ?_; rintro e w1 ⟨rfl, haw⟩)
  have Hb1 := Lib.hid haw
  have HL1 := Lib.hid (HL.out.below haw HL.out.1)
  have Hn := Lib.hid (show Calls Tryd.prog 9 #[.int .i64 3] w1 (NewPost w1 3) from new_good 3 w1 (by omega) (by omega))
  clear haw
  go_upto_region 3 with (go_at_call 9; refine Hn.out.mono ?_; rintro e w2 ⟨p, g, rfl, hp, hg, hs, hb⟩)
  have Hn2 := Lib.hid (show Calls Tryd.prog 9 #[.int .i64 3] w2 (NewPost w2 3) from new_good 3 w2 (by omega) (by omega))
  go_upto_region 6 with (go_at_call 9; refine Hn2.out.mono ?_; rintro e w3 ⟨p', g', rfl, hp', hg', hs', hb'⟩)
  have hsz := hb.size
  have hlt := hs.lt
  have hnet := NetAt.new (base := w1.heap.size) (T := 42) (T' := 44) (hs.step hb') hs' ⟨hp, hg, by omega, by omega⟩ ⟨by omega, by omega, by omega, by omega⟩
  have hb5 : Below w1.heap.size w1 ((w3.alloc (.cells #[.pointer (some ⟨p, 0, none⟩), .pointer (some ⟨p', 0, none⟩)] 42)).alloc (.cells #[.slice none 0 0, .slice none 0 0] 44)) :=
    ((hb.trans (hb'.mono hsz)).alloc (Nat.le_trans hsz hb'.size) _).alloc (by have := hb'.size; simp; omega) _
  have hex : NetEx _ w1.heap.size w3.heap.size (w3.heap.size + 1) Pre := ⟨_, _, hnet, ⟨rfl, rfl, rfl, new_owed 3⟩, ⟨rfl, rfl, rfl, new_owed 3⟩⟩
  have Hex := Lib.hid hex; have Hb5 := Lib.hid hb5
  have hz0 := HL1.out.1
  clear hnet hb5 hex hs hs' hb hb' hlt Hn Hn2
  go_upto_region 8 with fail
  generalize (w3.alloc (.cells #[.pointer (some ⟨p, 0, none⟩), .pointer (some ⟨p', 0, none⟩)] 42)).alloc (.cells #[.slice none 0 0, .slice none 0 0] 44) = w5 at *
  generalize hbw : w3.heap.size + 1 = bw at *
  generalize w3.heap.size = bx at *
  clear hbw
  go_wp2_with fail
  go_loopw [10] (fun idx wr => ∃ k : Nat, k ≤ 2 ∧ idx = iV k ∧ NetEx wr w1.heap.size bx bw Pre ∧ Below w1.heap.size w1 wr) (fun idx _ => 2 - (intOf idx).toNat)
  case atStart => exact ⟨0, by omega, rfl, Hex.out, Hb5.out⟩
  case round =>
    obtain ⟨k, hk, rfl, hx, hbl⟩ := hrel
    have Hx := Lib.hid hx; have Hbl := Lib.hid hbl
    clear hx hbl
    by_cases hk2 : k < 2
    · have hd2 : decide ((k : Int) < 2) = true := decide_eq_true (by omega)
      go_wp2_with fail
      go_loopw [11] (fun idx ws => ∃ m : Nat, 1 ≤ m ∧ m ≤ 4 ∧ idx = iV m ∧ NetEx ws w1.heap.size bx bw Pre ∧ Below w1.heap.size w1 ws) (fun idx _ => 4 - (intOf idx).toNat)
      case atStart => exact ⟨1, by omega, by omega, rfl, Hx.out, Hbl.out⟩
      case round =>
        obtain ⟨m, hm1, hm4, rfl, hx2, hbl2⟩ := hrel
        have Hx2 := Lib.hid hx2; have Hbl2 := Lib.hid hbl2
        clear hx2 hbl2
        by_cases hm : m ≤ 3
        · obtain ⟨o, P, Q, hko, hnet, hpre⟩ := Hx2.out.view Pre.swap k hk2
          have hxa := hnet.xa
          have hkm : (0 : Int) ≤ 3 * (k : Int) + m ∧ 3 * (k : Int) + m ≤ 6 := by omega
          have hwr1 : IntKind.i64.wrap (3 * (k : Int)) = 3 * k := IntWalk.i64_in _ (by omega)
          have hwr2 : IntKind.i64.wrap (3 * (k : Int) + m) = 3 * k + m := IntWalk.i64_in _ (by omega)
          by_cases hn0 : n = 0
          · subst hn0
            go_wp2_with fail
            go_roundw
            case rel => exact ⟨m + 1, by omega, by omega, by go_num, Hx2.out, Hbl2.out⟩
            case measure => simp [intOf]; omega
          · obtain ⟨b, off, rfl, hbl3, hc⟩ := Hl.out.2.2 hn0
            have hln : 0 < l.length := by rw [← Hl.out.1]; omega
            have hbw' := Hb1.out.trans (Hbl2.out.mono Hb1.out.size)
            have c2 : wr.cell? ⟨b, off + 2, none⟩ = some (iV l[0].c) := by
              rw [hbw'.cell (p := ⟨b, off + 2, none⟩) hbl3]
              have := (hc.cells (i := 0) (List.getElem?_eq_getElem hln)).2.2
              simpa using this
            have hn1 : (0 : Int) < (n : Int) := by omega
            have hwr3 : IntKind.u64.wrap (3 * (k : Int) + m) = 3 * k + m := by rw [IntKind.wrap_u64]; omega
            generalize l[0].c = lc at c2
            have Hloc := Lib.hid (local_all P.p P.g m true P.s wr hnet.sa (by rw [hpre.1.len]; decide) (fun x hx => by have := hpre.1.owed x hx; omega))
            have Hnet := Lib.hid hnet; have Hpre := Lib.hid hpre
            have Hgl := Lib.hid (hnet.lo.2.1)
            clear hc hln hbw' hnet hpre
            go_wp2_with (go_at_call 16; refine Hloc.out.mono ?_; rintro e w4 ⟨v4, rfl, _, hs4, ho4⟩)
            all_goals
              go_roundw
              case rel => first | exact ⟨m + 1, by omega, by omega, by go_num, pre_up m Hnet.out hko Hpre.out hs4 ho4, Hbl2.out.trans (ho4.toBelow Hbl2.out.size (by simp; exact Hgl.out))⟩ | exact ⟨m + 1, by omega, by omega, by go_num, Hx2.out, Hbl2.out⟩
              case measure => simp [intOf]; omega
        · go_wp2_with fail
          go_roundw
          case rel => exact ⟨k + 1, by omega, by go_num, Hx2.out, Hbl2.out⟩
          case measure => simp [intOf]; omega
    · obtain rfl : k = 2 := by omega
      obtain ⟨ti, hti, hz1, hz2, hz3⟩ := itemInfo
      go_wp2_with fail
      generalize iV ((2 : Nat) : Int) = z2
      obtain ⟨w6, rfl⟩ : ∃ w6 : World, w6 = wr := ⟨_, rfl⟩
      go_loopw [12] (fun idx wr => ∃ k : Nat, k ≤ 2 ∧ idx = iV k ∧ Stage wr w1.heap.size bx bw k ∧ Below w1.heap.size w1 wr) (fun idx _ => 2 - (intOf idx).toNat)
      case atStart => exact ⟨0, by omega, rfl, Hx.out, Hbl.out⟩
      case round =>
        obtain ⟨k, hk, rfl, hst, hbl⟩ := hrel
        have Hst := Lib.hid hst; have Hbl := Lib.hid hbl
        clear hst hbl
        by_cases hk2 : k < 2
        · have hd2 : decide ((k : Int) < 2) = true := decide_eq_true (by omega)
          obtain ⟨o, P, Q, hko, hnet, hlen, hqn, hback⟩ := Hst.out.view hk2
          have hxa := hnet.xa
          have Hstart := Lib.hid (start_any P.p P.g P.s wr hnet.sa (by rw [hlen]; decide) (by rw [hlen]; decide))
          have Hnet := Lib.hid hnet; have Hlen := Lib.hid hlen; have Hqn := Lib.hid hqn; have Hback := Lib.hid hback
          clear hnet hlen hqn hback
          go_upto_region 20 with (go_at_call 17; refine Hstart.out.mono ?_; rintro e w4 ⟨v, rfl, ht4, hs4, ho4⟩)
          have hbel4 := Hbl.out.trans (ho4.toBelow Hbl.out.size (by intro q hq; have := Hnet.out.lo; simp at hq; omega))
          have hps := PushRel.start (w0 := w1) (Hnet.out.shake hs4 ho4) ht4 ⟨Hnet.out.ltx.2, fun m hm => (Hnet.out.qb.lt m hm).2⟩ hbel4
          have hfew : (startTold P.s.l).length ≤ 3 := by simp [startTold]; have := Hlen.out; omega
          have hbk := Hback.out
          clear ht4 hs4 ho4 hbel4 hxa Hback Hstart
          generalize startTold P.s.l = ns at *
          obtain ⟨av, capn, rfl, _⟩ := hps.notes
          have Hps := Lib.hid hps; have Hbk := Lib.hid hbk
          clear hps hbk
          go_wp2_with fail
          go_loopw [14] (fun idx wr => ∃ (q : Nat) (vb : Value), q ≤ ns.length ∧ idx = iV q ∧ PushRel w1 w1.heap.size bx bw k o { P with s := P.s.start } Q (.slice av ns.length capn) ns wr q vb) (fun idx _ => ns.length - (intOf idx).toNat)
          case atStart => exact ⟨0, Q.v, Nat.zero_le _, rfl, Hps.out⟩
          case round =>
            obtain ⟨q, vb, hq, rfl, hp⟩ := hrel
            by_cases hlt : q < ns.length
            · obtain ⟨t, hnt⟩ : ∃ t, ns[q]? = some t := ⟨_, List.getElem?_eq_getElem hlt⟩
              obtain ⟨_, _, e1, hc⟩ := hp.notes
              injection e1 with e1 _ e1c
              subst e1 e1c
              obtain ⟨b, rfl, hb1, hcell⟩ := hc (by omega)
              obtain ⟨c0, c1, c2, c3, c4, c5, c6, c7, c8, c9, c10⟩ := note_cells (hcell q t hnt)
              have hco := hp.net.cb
              have hfo := hp.net.fb
              have hq0 : (0 : Int) ≤ (q : Int) := by omega
              have hqn : (q : Int) < (ns.length : Int) := by omega
              have hwr : IntKind.i64.wrap (1 - (k : Int)) = (o : Int) := by rw [IntWalk.i64_in _ (by omega)]; omega
              have ho0 : (0 : Int) ≤ (o : Int) := by omega
              have ho2 : (o : Int) < 2 := by omega
              have Hp := Lib.hid hp
              have hlb : (Q.q ++ (ns.take q).map noteItm).length ≤ 100063 := by rw [Hqn.out]; simp; omega
              obtain ⟨n1, hn⟩ : ∃ n1, n1 = (Q.q ++ (ns.take q).map noteItm).length := ⟨_, rfl⟩
              rw [← hn] at hlb
              have hqb : qRow wr w1.heap.size 53 16 vb n1 (itmFlat (Q.q ++ (ns.take q).map noteItm)) := hn ▸ Hp.out.net.qb
              have Hqb := Lib.hid hqb; have Hn := Lib.hid hn
              have H63 := Lib.hid (show n1 + 1 ≤ maxLen by simp only [maxLen]; omega)
              have Hby := Lib.hid (show (n1 + 1) * 72 ≤ 140737488355328 by omega)
              have Hbs := Lib.hid (show w1.heap.size ≤ (wr.alloc (.cells (itmList (noteItm t)).toArray 53)).drew.heap.size by have := Hp.out.net.below; simp; omega)
              have Hnt := Lib.hid hnt
              have hlw := hp.net.ltx.2
              clear hp hc hcell hlb hnt hqb hn
              go_wp2_with fail
              go_region_law ((refine step_append_q _ (by rfl) _ _ _ (by rfl) w1.heap.size 53 ti _ 16 72 Tryd.underlying43 hti hz1 hz2 hz3 rfl (by decide) vb n1 _ (by rfl) (Hqb.out.alloc _).drew ⟨wr.heap.size, 0, none⟩ 1 1 (itmList (noteItm t)) (by rfl) (by rfl) (World.news_of_block (cs := (itmList (noteItm t)).toArray) (t := 53) (fr := (0, 0)) (heap_alloc_new wr _)) (one_itm _) (by decide) H63.out Hby.out Hbs.out (wr.heap.size + 1) (by simp) ?_; intro g1 off1 cap1 w7 hq1 hg1 hat hlt1; have hpc := Hp.out.net.push_cell hg1; obtain ⟨hpc1, hpc2⟩ := hpc))
              all_goals
                go_wp2_with fail
                go_roundw
                case rel => exact ⟨q + 1, _, by omega, by go_num, Hp.out.next Hnt.out Hn.out hq1 hg1 hat⟩
                case measure => simp [intOf]; omega
            · obtain rfl : q = ns.length := by omega
              have hnet := hp.net
              rw [List.take_length] at hnet
              have Hnew := Lib.hid (Hbk.out _ _ hnet); have Hbel := Lib.hid hp.bel
              clear hp hnet
              go_wp2_with fail
              go_roundw
              case rel => exact ⟨k + 1, by omega, by go_num, Hnew.out, Hbel.out⟩
              case measure => simp [intOf]; omega
        · obtain rfl : k = 2 := by omega
          have Hg := Lib.hid (show NetEx wr w1.heap.size bx bw fun A B => Good A B 1 3 from Hst.out)
          go_wp2_with fail
          generalize iV ((2 : Nat) : Int) = z3
          clear Hst Hx Hex Hb5
          obtain ⟨w7, rfl⟩ : ∃ w7 : World, w7 = wr := ⟨_, rfl⟩
          go_loopw [15] (fun idx wr => ∃ k : Nat, k ≤ n ∧ k ≤ 300 ∧ idx = iV k ∧ (NetEx wr w1.heap.size bx bw fun A B => Good A B (k + 1) (3 + k * 63)) ∧ Below w1.heap.size w1 wr) (fun idx _ => n - (intOf idx).toNat)
          case atStart => exact ⟨0, by omega, by omega, rfl, Hg.out, Hbl.out⟩
          case round =>
            obtain ⟨i, hin, hi3, rfl, hx, hbl⟩ := hrel
            have Hx := Lib.hid hx; have Hbl := Lib.hid hbl
            clear hx hbl
            by_cases hgo : i < n ∧ i < 300
            · obtain ⟨hlt, hlt2⟩ := hgo
              have hd1 : decide ((i : Int) < (n : Int)) = true := decide_eq_true (by omega)
              have hd2 : decide ((i : Int) < 300) = true := decide_eq_true (by omega)
              obtain ⟨b, off, rfl, hbl3, hc⟩ := Hl.out.2.2 (by omega)
              have hil : i < l.length := by rw [← Hl.out.1]; exact hlt
              have hbw' := Hb1.out.trans (Hbl.out.mono Hb1.out.size)
              obtain ⟨c0, c1, c2⟩ := hc.cells (List.getElem?_eq_getElem hil)
              rw [← hbw'.cell (p := ⟨b, off + i * 3, none⟩) hbl3] at c0
              rw [← hbw'.cell (p := ⟨b, off + i * 3 + 1, none⟩) hbl3] at c1
              rw [← hbw'.cell (p := ⟨b, off + i * 3 + 2, none⟩) hbl3] at c2
              have hi0 : (0 : Int) ≤ (i : Int) := by omega
              have hin2 : (i : Int) < (n : Int) := by omega
              generalize l[i].a = la at c0
              generalize l[i].b = lb at c1
              generalize l[i].c = lc at c2
              clear hc hbw' hil
              obtain ⟨k, hk2, hkb⟩ := and_one lb
              obtain ⟨o, P, Q, hko, hnet, hgood⟩ := Hx.out.view (fun A B h => h.swap) k hk2
              go_upto_region 28 with fail
              clear c1 hkb
              have hxa := hnet.xa
              have hkn0 : (0 : Int) ≤ (k : Int) := by omega
              have hkn2 : (k : Int) < 2 := by omega
              by_cases hla0 : la = 0
              · have e0 : (la == 0) = true := by simpa using hla0
                clear hla0
                have Hnet := Lib.hid (hnet.step (Below.refl _ _).drew); have Hgood := Lib.hid hgood
                have Hbd := Lib.hid (Hbl.out.drew)
                obtain ⟨m, hm3, hmb⟩ := and_three lc
                have hxa' : wr.drew.cell? ⟨bx, k, none⟩ = some (.pointer (some ⟨P.p, 0, none⟩)) := Hnet.out.xa
                have c2' : wr.drew.cell? ⟨b, off + i * 3 + 2, none⟩ = some (iV lc) := c2
                obtain ⟨up, hup⟩ : ∃ u, (bits BinOp.and IntKind.i64 lc 4 == 4) = u := ⟨_, rfl⟩
                have hwm : IntKind.i64.wrap (1 + (m : Int)) = 1 + (m : Int) := IntWalk.i64_in _ (by omega)
                have Hloc := Lib.hid (local_all P.p P.g (1 + (m : Int)) up P.s wr.drew Hnet.out.sa (by rw [Hgood.out.a.len]; decide) (fun x hx => by have := Hgood.out.a.owed x hx; omega))
                have hlb : b < wr.drew.heap.size ∧ bx < wr.drew.heap.size := ⟨World.block_lt_of_cell? _ _ c2', World.block_lt_of_cell? _ _ hxa'⟩
                have hgn : bx ∉ [P.g] ∧ b ∉ [P.g] := by
                  have h1 := Hnet.out.ap.2.1.2.1
                  have h2 := Hnet.out.lo.2.1
                  have h3 := Hb1.out.size
                  simp; exact ⟨h1, by omega⟩
                clear hnet hgood
                go_upto_region 30 with fail
                go_region_held3 (fun w' => w'.cell? ⟨bx, k, none⟩ = some (.pointer (some ⟨P.p, 0, none⟩)) ∧ w'.cell? ⟨b, off + i * 3 + 2, none⟩ = some (iV lc)) (first | (exact ⟨hxa', c2'⟩) | (exact ⟨(ho4.cell (p := ⟨bx, k, none⟩) hlb.2 hgn.1).trans hxa', (ho4.cell (p := ⟨b, off + i * 3 + 2, none⟩) hlb.1 hgn.2).trans c2'⟩)) (first | (go_at_call 16; refine Hloc.out.mono ?_; rintro e w4 ⟨v, rfl, ht4, hs4, ho4⟩))
                have hbel4 := Hbd.out.trans (ho4.toBelow Hbd.out.size (by simp; exact Hnet.out.lo.2.1))
                have hps := PushRel.start (w0 := w1) (Hnet.out.shake hs4 (ho4.mono (by simp))) ht4 ⟨Hnet.out.ltx.2, fun m hm => (Hnet.out.qb.lt m hm).2⟩ hbel4
                have hfew := told_few P.s (1 + (m : Int)) up
                have hgl : ∀ vb', Good { P with s := (localRes P.s (1 + (m : Int)) up).1 } { Q with v := vb', q := Q.q ++ (localRes P.s (1 + (m : Int)) up).2.1.map noteItm } ((i : Int) + 1 + 1) (3 + i * 63 + 63) := fun vb' => Hgood.out.local _ _ vb'
                clear ht4 hs4 ho4 hbel4 hxa' c2' hlb hgn c0 c2 hxa Hloc
                generalize (localRes P.s (1 + (m : Int)) up).2.1 = ns at *
                generalize (localRes P.s (1 + (m : Int)) up).1 = s' at *
                generalize (localRes P.s (1 + (m : Int)) up).2.2 = cd at *
                obtain ⟨av, capn, rfl, _⟩ := hps.notes
                have Hps := Lib.hid hps; have Hgl := Lib.hid hgl
                clear hps hgl
                go_wp2_with fail
                go_loopw [19] (fun idx wr => ∃ (q : Nat) (vb : Value), q ≤ ns.length ∧ idx = iV q ∧ PushRel w1 w1.heap.size bx bw k o { P with s := s' } Q (.slice av ns.length capn) ns wr q vb) (fun idx _ => ns.length - (intOf idx).toNat)
                case atStart => exact ⟨0, Q.v, Nat.zero_le _, rfl, Hps.out⟩
                case round =>
                  obtain ⟨q, vb, hq, rfl, hp⟩ := hrel
                  by_cases hlt : q < ns.length
                  · obtain ⟨t, hnt⟩ : ∃ t, ns[q]? = some t := ⟨_, List.getElem?_eq_getElem hlt⟩
                    obtain ⟨_, _, e1, hc⟩ := hp.notes
                    injection e1 with e1 _ e1c
                    subst e1 e1c
                    obtain ⟨bn, rfl, hb1, hcell⟩ := hc (by omega)
                    obtain ⟨c0, c1, c2, c3, c4, c5, c6, c7, c8, c9, c10⟩ := note_cells (hcell q t hnt)
                    have hco := hp.net.cb
                    have hfo := hp.net.fb
                    have hq0 : (0 : Int) ≤ (q : Int) := by omega
                    have hqn : (q : Int) < (ns.length : Int) := by omega
                    have hwr : IntKind.i64.wrap (1 - (k : Int)) = (o : Int) := by rw [IntWalk.i64_in _ (by omega)]; omega
                    have ho0 : (0 : Int) ≤ (o : Int) := by omega
                    have ho2 : (o : Int) < 2 := by omega
                    have Hp := Lib.hid hp
                    have hlb : (Q.q ++ (ns.take q).map noteItm).length ≤ 100063 := by have := Hgood.out.lb; simp; omega
                    obtain ⟨n1, hn⟩ : ∃ n1, n1 = (Q.q ++ (ns.take q).map noteItm).length := ⟨_, rfl⟩
                    rw [← hn] at hlb
                    have hqb : qRow wr w1.heap.size 53 16 vb n1 (itmFlat (Q.q ++ (ns.take q).map noteItm)) := hn ▸ Hp.out.net.qb
                    have Hqb := Lib.hid hqb; have Hn := Lib.hid hn
                    have H63 := Lib.hid (show n1 + 1 ≤ maxLen by simp only [maxLen]; omega)
                    have Hby := Lib.hid (show (n1 + 1) * 72 ≤ 140737488355328 by omega)
                    have Hbs := Lib.hid (show w1.heap.size ≤ (wr.alloc (.cells (itmList (noteItm t)).toArray 53)).drew.heap.size by have := Hp.out.net.below; simp; omega)
                    have Hnt := Lib.hid hnt
                    have hlw := hp.net.ltx.2
                    clear hp hc hcell hlb hnt hqb hn
                    go_wp2_with fail
                    go_region_law ((refine step_append_q _ (by rfl) _ _ _ (by rfl) w1.heap.size 53 ti _ 16 72 Tryd.underlying43 hti hz1 hz2 hz3 rfl (by decide) vb n1 _ (by rfl) (Hqb.out.alloc _).drew ⟨wr.heap.size, 0, none⟩ 1 1 (itmList (noteItm t)) (by rfl) (by rfl) (World.news_of_block (cs := (itmList (noteItm t)).toArray) (t := 53) (fr := (0, 0)) (heap_alloc_new wr _)) (one_itm _) (by decide) H63.out Hby.out Hbs.out (wr.heap.size + 1) (by simp) ?_; intro g1 off1 cap1 w7 hq1 hg1 hat hlt1; have hpc := Hp.out.net.push_cell hg1; obtain ⟨hpc1, hpc2⟩ := hpc))
                    all_goals
                      go_wp2_with fail
                      go_roundw
                      case rel => exact ⟨q + 1, _, by omega, by go_num, Hp.out.next Hnt.out Hn.out hq1 hg1 hat⟩
                      case measure => simp [intOf]; omega
                  · obtain rfl : q = ns.length := by omega
                    have hnet := hp.net
                    rw [List.take_length] at hnet
                    have hg2 := Hgl.out vb
                    have hnew := NetEx.back (R := fun A B => Good A B ((i : Int) + 1 + 1) (3 + i * 63 + 63)) hnet hko hg2 (fun A B h => h.swap)
                    have Hnew := Lib.hid hnew; have Hbel := Lib.hid hp.bel
                    clear hp hnet hg2 hnew
                    go_wp2_with fail
                    go_roundw
                    case rel => exact ⟨i + 1, by omega, by omega, by go_num, by rw [show ((i + 1 : Nat) : Int) + 1 = (i : Int) + 1 + 1 by omega, show 3 + (i + 1) * 63 = 3 + i * 63 + 63 by omega]; exact Hnew.out, Hbel.out⟩
                    case measure => simp [intOf]; omega
              · have e0 : (la == 0) = false := by simpa using hla0
                clear hla0
                by_cases hla1 : la = 1
                · have e1 : (la == 1) = true := by simpa using hla1
                  clear hla1
                  have Hnet := Lib.hid hnet; have Hgood := Lib.hid hgood
                  obtain ⟨w8, rfl⟩ : ∃ w8 : World, w8 = wr := ⟨_, rfl⟩
                  have hal : (w8.alloc (.cells (itmList (frK P.s 1)).toArray 53)).heap[w8.heap.size]? = some (.cells (itmList (frK P.s 1)).toArray 53 (0, 0)) := heap_alloc_new w8 _
                  have Hal := Lib.hid hal
                  have Hb8 := Lib.hid (show Below w8.heap.size w8 (w8.alloc (.cells (itmList (frK P.s 1)).toArray 53)) from (Below.refl _ _).alloc (Nat.le_refl _) _)
                  clear hnet hgood c2 hal
                  go_upto_region 37 with fail
                  have e2 : (#[Value.int IntKind.i64 0, Value.int IntKind.i64 0, Value.int IntKind.u8 0, Value.int IntKind.u8 0, Value.int IntKind.u8 0, Value.int IntKind.u8 0, Value.int IntKind.u8 0, Value.int IntKind.u8 0, Value.int IntKind.i64 0, Value.int IntKind.i64 0, Value.slice none 0 0, Value.bool true, Value.bool false, Value.bool false, Value.bool false, Value.bool false] : Array Value) = (itmList (frK P.s 1)).toArray := rfl
                  rw [e2]
                  clear e2
                  generalize w8.alloc (.cells (itmList (frK P.s 1)).toArray 53) = wa at *
                  generalize Value.agg (itmList (frK P.s 1)).toArray = u169
                  go_wp2_with fail
                  go_loopw [21] (fun idx wq => ∃ m : Nat, 1 ≤ m ∧ m ≤ 4 ∧ idx = iV m ∧ wq.heap[w8.heap.size]? = some (.cells (itmList (frK P.s m)).toArray 53 (0, 0)) ∧ Below w8.heap.size w8 wq) (fun idx _ => 4 - (intOf idx).toNat)
                  case atStart => exact ⟨1, by omega, by omega, rfl, Hal.out, Hb8.out⟩
                  case round =>
                    obtain ⟨m, hm1, hm4, rfl, hfm, hbq⟩ := hrel
                    have hnq := Hnet.out.step hbq
                    have Hnq := Lib.hid hnq; have Hfm := Lib.hid hfm; have Hbq := Lib.hid hbq
                    have hxq := hnq.xa
                    have hyl : w8.heap.size < wr.heap.size := block_lt hfm
                    clear hnq hfm hbq
                    by_cases hm : m ≤ 3
                    · have hcs := sent_cell (fun o => cell_of_block Hfm.out o) m hm1 hm
                      have hfs := frozen_of_block Hfm.out (12 + m)
                      have hm0 : (0 : Int) ≤ (m : Int) := by omega
                      have hm4' : (m : Int) < 4 := by omega
                      have Hsv := Lib.hid (serves_all P.p P.g m P.s wr Hnq.out.sa (by rw [Hgood.out.a.len]; decide))
                      go_wp2_with (go_at_call 12; refine Hsv.out.mono ?_; rintro e w' ⟨rfl, rfl⟩)
                      go_roundw
                      case rel => exact ⟨m + 1, by omega, by omega, by go_num, frK_store Hfm.out hm1 hm, Hbq.out.setCell (Nat.le_refl _) _⟩
                      case measure => simp [intOf]; omega
                    · obtain rfl : m = 4 := by omega
                      obtain ⟨X, hX⟩ : ∃ X, X = frK P.s 4 := ⟨_, rfl⟩
                      have hfm := Hfm.out
                      rw [← hX] at hfm
                      obtain ⟨c0, c1, c2, c3, c4, c5, c6, c7, c8, c9, c10, c11, c12, c13, c14, c15⟩ := itm_cells (w := wr) (x := X) (g := w8.heap.size) (off := 0) (fun j u hu => by rw [Nat.zero_add, cell_of_block hfm]; simpa using hu)
                      simp only [Nat.zero_add] at c0 c1 c2 c3 c4 c5 c6 c7 c8 c9 c10 c11 c12 c13 c14 c15
                      have hco := Hnq.out.cb
                      have hfo := Hnq.out.fb
                      have hlw := Hnq.out.ltx.2
                      have hwr : IntKind.i64.wrap (1 - (k : Int)) = (o : Int) := by rw [IntWalk.i64_in _ (by omega)]; omega
                      have ho0 : (0 : Int) ≤ (o : Int) := by omega
                      have ho2 : (o : Int) < 2 := by omega
                      have hlb : Q.q.length ≤ 100063 := by have := Hgood.out.lb; omega
                      obtain ⟨n1, hn⟩ : ∃ n1, n1 = Q.q.length := ⟨_, rfl⟩
                      rw [← hn] at hlb
                      have hqb : qRow wr w1.heap.size 53 16 Q.v n1 (itmFlat Q.q) := hn ▸ Hnq.out.qb
                      have Hqb := Lib.hid hqb; have Hn := Lib.hid hn; have HX := Lib.hid hX
                      have H63 := Lib.hid (show n1 + 1 ≤ maxLen by simp only [maxLen]; omega)
                      have Hby := Lib.hid (show (n1 + 1) * 72 ≤ 140737488355328 by omega)
                      have Hbs := Lib.hid (show w1.heap.size ≤ (wr.alloc (.cells (itmList X).toArray 53)).drew.heap.size by have := Hnq.out.below; simp; omega)
                      clear hlb hqb hn hX hfm
                      go_wp2_with fail
                      go_region_law ((refine step_append_q _ (by rfl) _ _ _ (by rfl) w1.heap.size 53 ti _ 16 72 Tryd.underlying43 hti hz1 hz2 hz3 rfl (by decide) Q.v n1 _ (by rfl) (Hqb.out.alloc _).drew ⟨wr.heap.size, 0, none⟩ 1 1 (itmList X) (by rfl) (by rfl) (World.news_of_block (cs := (itmList X).toArray) (t := 53) (fr := (0, 0)) (heap_alloc_new wr _)) (one_itm X) (by decide) H63.out Hby.out Hbs.out (wr.heap.size + 1) (by simp) ?_; intro g1 off1 cap1 w9 hq1 hg1 hat hlt1; have hpc := Hnq.out.push_cell hg1; obtain ⟨hpc1, hpc2⟩ := hpc))
                      all_goals
                        have hfd := frame_done (w0 := w1) Hnq.out hko Hgood.out HX.out (Hbl.out.trans (Hbq.out.mono Hbl.out.size)) Hn.out hq1 hg1 hat
                        have Hfd := Lib.hid hfd
                        clear hfd
                        go_wp2_with fail
                        go_roundw
                        case rel => exact ⟨i + 1, by omega, by omega, by go_num, by rw [show ((i + 1 : Nat) : Int) + 1 = (i : Int) + 1 + 1 by omega, show 3 + (i + 1) * 63 = 3 + i * 63 + 63 by omega]; exact Hfd.out.1, Hfd.out.2⟩
                        case measure => simp [intOf]; omega
                · have e1 : (la == 1) = false := by simpa using hla1
                  clear hla1
                  by_cases hla2 : la = 2
                  · have e2 : (la == 2) = true := by simpa using hla2
                    clear hla2
                    have Hnet := Lib.hid (hnet.step (Below.refl _ _).drew); have Hgood := Lib.hid hgood
                    have Hbd := Lib.hid (Hbl.out.drew)
                    have hlr : HasLaid wr.drew := HL1.out.below Hbd.out HL1.out.1
                    have hxa' : wr.drew.cell? ⟨bx, k, none⟩ = some (.pointer (some ⟨P.p, 0, none⟩)) := Hnet.out.xa
                    have Hhear := Lib.hid (hear_any w1.heap.size bx bw k o P Q ((i : Int) + 1) wr.drew Hnet.out hgood.a hgood.ba (by omega) hz0 hlr (by have := hgood.lb; omega))
                    have hwr : IntKind.i64.wrap (1 - (k : Int)) = (o : Int) := by rw [IntWalk.i64_in _ (by omega)]; omega
                    have ho0 : (0 : Int) ≤ (o : Int) := by omega
                    have ho2 : (o : Int) < 2 := by omega
                    clear hnet hgood hlr c2
                    go_upto_region 43 with fail
                    go_region_held3 (fun w' => w'.cell? ⟨bx, k, none⟩ = some (.pointer (some ⟨P.p, 0, none⟩))) (first | (exact hxa') | (exact hn9.xa)) (first | (go_at_call 18; refine Hhear.out.mono ?_; rintro e w9 ⟨v9, vb9, rfl, hn9, hb9⟩))
                    have hg2 := Hgood.out.hear (by omega) v9 vb9
                    have hnew := NetEx.back (R := fun A B => Good A B ((i : Int) + 1 + 1) (3 + i * 63 + 63)) hn9 hko hg2 (fun A B h => h.swap)
                    have Hnew := Lib.hid hnew; have Hb9 := Lib.hid (Hbd.out.trans hb9)
                    clear hn9 hb9 hg2 hnew hxa' hxa
                    go_wp2_with fail
                    go_roundw
                    case rel => exact ⟨i + 1, by omega, by omega, by go_num, by rw [show ((i + 1 : Nat) : Int) + 1 = (i : Int) + 1 + 1 by omega, show 3 + (i + 1) * 63 = 3 + i * 63 + 63 by omega]; exact Hnew.out, Hb9.out⟩
                    case measure => simp [intOf]; omega
                  · have e2 : (la == 2) = false := by simpa using hla2
                    clear hla2
                    have Hgood := Lib.hid hgood
                    have hnew := NetEx.back (R := fun A B => Good A B ((i : Int) + 1 + 1) (3 + i * 63 + 63)) hnet hko ⟨hgood.a.mono (by omega), hgood.b.mono (by omega), hgood.ab, hgood.ba, by have := hgood.la; omega, by have := hgood.lb; omega⟩ (fun A B h => h.swap)
                    have Hnew := Lib.hid hnew
                    clear hnet hgood hnew
                    go_wp2_with fail
                    go_roundw
                    case rel => exact ⟨i + 1, by omega, by omega, by go_num, by rw [show ((i + 1 : Nat) : Int) + 1 = (i : Int) + 1 + 1 by omega, show 3 + (i + 1) * 63 = 3 + i * 63 + 63 by omega]; exact Hnew.out, Hbl.out⟩
                    case measure => simp [intOf]; omega
            · go_wp2_with fail
              all_goals
                go_ret
                exact ⟨rfl, Hb1.out.trans (Hbl.out.mono Hb1.out.size)⟩
end Go.Proofs.YtpkpaloaoopkgaaDoor
