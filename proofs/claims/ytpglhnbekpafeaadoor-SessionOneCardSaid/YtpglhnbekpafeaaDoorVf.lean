/-
  The walk of the law SessionSticks.
-/
import Derived.Test.YtpglhnbekpafeaaDoorVe
import Derived.Deep.RegionHeld3
namespace Go.Proofs.YtpglhnbekpafeaaDoor
set_option linter.unusedVariables false
set_option linter.unusedSimpArgs false
open Go Go.RowKit

/-- two sessions that lay in a world; nothing else of it has turned. -/
structure PairO (w0 w : World) (x y : Nat) (a b : Ses) : Prop where
  sa : SesAt w x a
  sb : SesAt w y b
  ne : x ≠ y
  off : Off [x, y] w0 w
  zero : 0 ≠ x ∧ 0 ≠ y
section
variable {w0 w w' : World} {x y : Nat} {a b a' : Ses}
theorem PairO.step (h : PairO w0 w x y a b) (hB : Below w.heap.size w w') : PairO w0 w' x y a b := ⟨h.sa.step hB, h.sb.step hB, h.ne, h.off.below hB, h.zero⟩
theorem PairO.swap (h : PairO w0 w x y a b) : PairO w0 w y x b a := ⟨h.sb, h.sa, h.ne.symm, h.off.mono (fun k hk => by simp at hk ⊢; exact hk.symm), ⟨h.zero.2, h.zero.1⟩⟩
theorem PairO.turn (h : PairO w0 w x y a b) (hs : SesAt w' x a') (ho : Off [x] w w') : PairO w0 w' x y a' b :=
  ⟨hs, h.sb.off ho (by have := h.ne; simp; exact fun e => this e.symm), h.ne, h.off.trans (ho.mono (by simp)), h.zero⟩
theorem PairO.laid (h : PairO w0 w x y a b) (hl : HasLaid w0) : HasLaid w :=
  ⟨Nat.lt_of_lt_of_le hl.1 h.off.size, fun k h0 h8 => by rw [h.off.cell (p := ⟨0, k.toNat, none⟩) hl.1 (by have := h.zero; simp; exact this)]; exact hl.2 k h0 h8⟩
theorem PairO.drew (h : PairO w0 w x y a b) : PairO w0 w.drew x y a b := h.step (Below.refl _ _).drew
theorem PairO.drewN (h : PairO w0 w x y a b) (n : Nat) : PairO w0 (w.drewN n) x y a b := h.step (below_drewN' (Below.refl _ _) n)
theorem PairO.cell (h : PairO w0 w x y a b) {c o : Nat} {v : Value} (hc : w0.cell? ⟨c, o, none⟩ = some v) (hx : c ≠ x ∧ c ≠ y) : w.cell? ⟨c, o, none⟩ = some v := by
  rw [h.off.cell (p := ⟨c, o, none⟩) (World.block_lt_of_cell? w0 _ hc) (by simp; exact hx)]; exact hc
end
theorem heard_o {w0 w : World} {x y : Nat} {a b : Ses} (h : PairO w0 w x y a b) (hl : HasLaid w0) (oa : SesOk a) (p : Pkt) (hp : PktIn w p) (now : Int) :
    Calls Tryd.prog 10 #[.pointer (some ⟨x, 0, none⟩), p.val, iV now] w fun e w' => e = .returned (.tuple #[.bool (a.take p now).2.1, iV (a.take p now).2.2]) ∧ PairO w0 w' x y (a.take p now).1 b := by
  refine (take_any x a p now w h.sa oa (h.laid hl) hp).mono ?_
  rintro e w' ⟨rfl, hs, ho⟩
  exact ⟨rfl, h.turn hs ho⟩
theorem tick_o {w0 w : World} {x y : Nat} {a b : Ses} (h : PairO w0 w x y a b) (oa : SesOk a) (now : Int) :
    Calls Tryd.prog 15 #[.pointer (some ⟨x, 0, none⟩), iV now] w fun e w' => e = .returned (.tuple #[.bool (a.tick now).2.1, iV (a.tick now).2.2]) ∧ PairO w0 w' x y (a.tick now).1 b := by
  refine (tick_any x a now w h.sa oa).mono ?_
  rintro e w' ⟨rfl, hs, ho⟩
  exact ⟨rfl, h.turn hs ho⟩
theorem hello_o {w0 w : World} {x y : Nat} {a b : Ses} (h : PairO w0 w x y a b) :
    Calls Tryd.prog 11 #[.pointer (some ⟨x, 0, none⟩)] w fun e w' => e = .returned a.hello.val ∧ PairO w0 w' x y a b := by
  refine (hello_any x a w h.sa).mono ?_
  rintro e w' ⟨rfl, hB⟩
  exact ⟨rfl, h.step hB⟩
theorem left_right {P : Program} {f : FuncId} {args : Array Value} {w : World} {v : Value} (h : Calls P f args w fun e w' => e = .returned v ∧ w = w') : Calls P f args w fun e w' => e = .returned v ∧ w' = w := h.mono fun _ _ ⟨h1, h2⟩ => ⟨h1, h2.symm⟩

/-- s[k] and s[1-k]. -/
structure Stick (w0 : World) (x y bs bl k o px py : Nat) (P Q : Ses) (lk : Int) : Prop where
  ko : k + o = 1
  cp : w0.cell? ⟨bs, k, none⟩ = some (.pointer (some ⟨px, 0, none⟩))
  cq : w0.cell? ⟨bs, o, none⟩ = some (.pointer (some ⟨py, 0, none⟩))
  cl : w0.cell? ⟨bl, k, none⟩ = some (iV lk)
  xy : (x = px ∧ y = py) ∨ (x = py ∧ y = px)
  sP : SesAt w0 px P
  sQ : SesAt w0 py Q
  ok : SesOk P
  start : P.tick 6 = (Ses.reborn { P with role := 2 }, false, 0) ∧ Meet 0 7 268435457 (Ses.reborn { P with role := 2 }) Q ∧ (Ses.reborn { P with role := 2 }).claim = 2 ∧ Q.claim = 0 ∧
    (Ses.reborn { P with role := 2 }).role = 2 ∧ (Ses.reborn { P with role := 2 }).up = false ∧ (Ses.reborn { P with role := 2 }).life = lk + 1
theorem stick_view {w0 : World} {x y bs bl : Nat} {p0 p1 l0 l1 : Int} (h0 : newB 0 p0 l0 = true) (h1 : newB 1 p1 l1 = true) (g0 : l0 ≤ 268435456) (g1 : l1 ≤ 268435456) (sa : SesAt w0 x (Ses.new 0 p0 l0)) (sb : SesAt w0 y (Ses.new 1 p1 l1))
    (c0 : w0.cell? ⟨bs, 0, none⟩ = some (.pointer (some ⟨x, 0, none⟩))) (c1 : w0.cell? ⟨bs, 1, none⟩ = some (.pointer (some ⟨y, 0, none⟩))) (d0 : w0.cell? ⟨bl, 0, none⟩ = some (iV l0)) (d1 : w0.cell? ⟨bl, 1, none⟩ = some (iV l1)) (k : Nat) (hk : k < 2) :
    ∃ o px py P Q lk, Stick w0 x y bs bl k o px py P Q lk ∧ 1 ≤ lk ∧ lk ≤ 268435456 := by
  have i0 := of_decide_eq_true h0
  have i1 := of_decide_eq_true h1
  rcases (by omega : k = 0 ∨ k = 1) with rfl | rfl
  · exact ⟨1, x, y, _, _, l0, ⟨rfl, c0, c1, d0, .inl ⟨rfl, rfl⟩, sa, sb, Ses.new_ok h0, alone_tick h0, stick_start h0 h1 (by decide) (by omega) (by omega) (by omega)⟩, by omega, by omega⟩
  · exact ⟨0, y, x, _, _, l1, ⟨rfl, c1, c0, d1, .inr ⟨rfl, rfl⟩, sb, sa, Ses.new_ok h1, alone_tick h1, stick_start h1 h0 (by decide) (by omega) (by omega) (by omega)⟩, by omega, by omega⟩
def StickW (w0 w : World) (px py j : Nat) : Prop := ∃ a b, PairO w0 w px py a b ∧ Meet j 7 268435457 a b ∧ a.claim = 2 ∧ b.claim = 0
theorem upsO {w0 w : World} {x y : Nat} {a b : Ses} {ra rb : Int} (h : PairO w0 w x y a b) (oa : SesOk a) (ob : SesOk b) (ua : a.up = true) (ub : b.up = true) (he : a.epoch = b.epoch) (hra : a.role = ra) (hrb : b.role = rb) : UpsAt w x y ra rb a.epoch where
  ua := fun n => ua ▸ up_any x a _ (h.drewN n).sa
  ub := fun n => ub ▸ up_any y b _ (h.drewN n).sb
  ea := fun n => epoch_any x a _ (h.drewN n).sa (by have := oa.life; omega) oa.known
  eb := fun n => he ▸ epoch_any y b _ (h.drewN n).sb (by have := ob.life; omega) ob.known
  ra := fun n => hra ▸ role_any x a _ (h.drewN n).sa
  rb := fun n => hrb ▸ role_any y b _ (h.drewN n).sb
theorem and_one' (x : Int) : ∃ n : Nat, n < 2 ∧ bits .and .i64 x 1 = (n : Int) := by
  have h1 : (1 : Nat) % 2 ^ 64 = 1 := rfl
  refine ⟨(BitVec.ofInt 64 x).toNat &&& 1, Nat.lt_succ_of_le Nat.and_le_right, ?_⟩
  have h2 : (BitVec.ofInt 64 x).toNat &&& 1 ≤ 1 := Nat.and_le_right
  have h3 : (BitVec.ofInt 64 x &&& BitVec.ofNat 64 1).toNat = (BitVec.ofInt 64 x).toNat &&& 1 := by
    rw [BitVec.toNat_and, BitVec.toNat_ofNat, h1]
  show IntKind.i64.wrap ((BitVec.ofInt 64 x &&& BitVec.ofInt 64 (1 : Int)).toNat : Int) = _
  rw [show (BitVec.ofInt 64 (1 : Int)) = BitVec.ofNat 64 1 from rfl, h3, IntWalk.i64_in _ (by omega)]

set_option maxRecDepth 100000 in
set_option maxHeartbeats 4000000 in
theorem sticks_any (x0 x1 v0 v1 first : Int) (w : World) (hl : HasLaid w) :
    Calls Tryd.prog 4 #[.agg #[iV x0, iV x1], .agg #[iV v0, iV v1], iV first] w fun e w' => e = .returned (.bool true) ∧ Below w.heap.size w w' := by
  have hb0 : Below w.heap.size w ((w.alloc (.cells #[iV x0, iV x1] 41)).alloc (.cells #[iV v0, iV v1] 41)) := ((Below.refl _ _).alloc (Nat.le_refl _) _).alloc (by simp) _
  have Haw := Lib.hid (awake_any _ (hl.below hb0 hl.1))
  have hx : ((w.alloc (.cells #[iV x0, iV x1] 41)).alloc (.cells #[iV v0, iV v1] 41)).heap[w.heap.size]? = some (.cells #[iV x0, iV x1] 41 (0, 0)) := by rw [heap_alloc_old _ _ (by simp)]; exact heap_alloc_new w _
  have hy : ((w.alloc (.cells #[iV x0, iV x1] 41)).alloc (.cells #[iV v0, iV v1] 41)).heap[w.heap.size + 1]? = some (.cells #[iV v0, iV v1] 41 (0, 0)) := by
    have := heap_alloc_new (w.alloc (.cells #[iV x0, iV x1] 41)) (.cells #[iV v0, iV v1] 41)
    simpa using this
  have Hx := Lib.hid hx; have Hy := Lib.hid hy
  have Hl := Lib.hid hl
  have Hb0 := Lib.hid hb0
  clear hl hb0 hx hy
  go_enter Tryd.func4, Tryd.ntmps4
  go_wp2_with fail
  refine Haw.out.mono ?_
  rintro e w1 ⟨rfl, hB⟩
  have Hbx := Lib.hid (cells_far (c := [iV x0, iV x1]) Hx.out hB)
  have Hby := Lib.hid (cells_far (c := [iV v0, iV v1]) Hy.out hB)
  have Hb1 := Lib.hid (Hb0.out.trans (hB.mono (by simp; omega)))
  have hyl : w.heap.size + 1 < w1.heap.size := block_lt Hby.out
  clear hB Haw Hx Hy Hb0
  have q0 : w1.cell? ⟨w.heap.size, 0, none⟩ = some (iV x0) := by rw [cell_of_block Hbx.out]; rfl
  have q1 : w1.cell? ⟨w.heap.size, 1, none⟩ = some (iV x1) := by rw [cell_of_block Hbx.out]; rfl
  have r0 : w1.cell? ⟨w.heap.size + 1, 0, none⟩ = some (iV v0) := by rw [cell_of_block Hby.out]; rfl
  have r1 : w1.cell? ⟨w.heap.size + 1, 1, none⟩ = some (iV v1) := by rw [cell_of_block Hby.out]; rfl
  cases h0 : newB 0 x0 v0
  · have Hn := Lib.hid (sesNew_no 0 x0 v0 w1 h0)
    clear h0
    go_wp2_with fail
    refine Hn.out.mono ?_
    rintro e w' ⟨rfl, rfl⟩
    go_wp2_with fail
    refine (sesNew_any 1 x1 v1 w1).mono ?_
    rintro e w2 ⟨r, c, rfl, hB⟩
    have Hend := Lib.hid (Hb1.out.trans (hB.mono Hb1.out.size))
    clear hB
    go_wp2_with fail
    go_ret
    exact ⟨rfl, Hend.out⟩
  have Hn := Lib.hid (sesNew_ok 0 x0 v0 w1 h0)
  have H0 := Lib.hid h0
  clear h0
  go_wp2_with fail
  refine Hn.out.mono ?_
  rintro e w2 ⟨x, rfl, hx, hs, hB⟩
  have Hbx2 := Lib.hid (cells_far (c := [iV x0, iV x1]) Hbx.out hB)
  have Hby2 := Lib.hid (cells_far (c := [iV v0, iV v1]) Hby.out hB)
  have Hsa := Lib.hid hs; have HB2 := Lib.hid hB
  clear hs hB q0 q1 r0 r1
  have q1 : w2.cell? ⟨w.heap.size, 1, none⟩ = some (iV x1) := by rw [cell_of_block Hbx2.out]; rfl
  have r0 : w2.cell? ⟨w.heap.size + 1, 0, none⟩ = some (iV v0) := by rw [cell_of_block Hby2.out]; rfl
  have r1 : w2.cell? ⟨w.heap.size + 1, 1, none⟩ = some (iV v1) := by rw [cell_of_block Hby2.out]; rfl
  cases h1 : newB 1 x1 v1
  · have Hn1 := Lib.hid (sesNew_no 1 x1 v1 w2 h1)
    have Hend := Lib.hid (Hb1.out.trans (HB2.out.mono Hb1.out.size))
    clear h1
    go_wp2_with fail
    refine Hn1.out.mono ?_
    rintro e w' ⟨rfl, rfl⟩
    go_wp2_with fail
    go_ret
    exact ⟨rfl, Hend.out⟩
  have Hn1 := Lib.hid (sesNew_ok 1 x1 v1 w2 h1)
  have H1 := Lib.hid h1
  clear h1
  go_wp2_with fail
  refine Hn1.out.mono ?_
  rintro e w3 ⟨y, rfl, hy, hs, hB⟩
  have Hby3 := Lib.hid (cells_far (c := [iV v0, iV v1]) Hby2.out hB)
  have Hp := Lib.hid (show Pair w1 w3 x y (Ses.new 0 x0 v0) (Ses.new 1 x1 v1) from ⟨Hsa.out.step hB, hs, by have := Hsa.out.lt; omega, ⟨hx, by have := HB2.out.size; omega⟩, HB2.out.trans (hB.mono HB2.out.size)⟩)
  clear hs hB q1 r0 r1 Hsa HB2 Hn Hn1 Hbx Hbx2 Hby Hby2
  have r0 : w3.cell? ⟨w.heap.size + 1, 0, none⟩ = some (iV v0) := by rw [cell_of_block Hby3.out]; rfl
  have r1 : w3.cell? ⟨w.heap.size + 1, 1, none⟩ = some (iV v1) := by rw [cell_of_block Hby3.out]; rfl
  have Hend := Lib.hid (Hb1.out.trans (Hp.out.bel.mono Hb1.out.size))
  by_cases g1 : 268435456 < v0
  · have d1 : decide (268435456 < v0) = true := decide_eq_true g1
    clear g1
    go_wp2_with fail
    go_ret
    exact ⟨rfl, Hend.out⟩
  have d1 : decide (268435456 < v0) = false := decide_eq_false g1
  by_cases g3 : 268435456 < v1
  · have d3 : decide (268435456 < v1) = true := decide_eq_true g3
    clear g1 g3
    go_wp2_with fail
    go_ret
    exact ⟨rfl, Hend.out⟩
  have d3 : decide (268435456 < v1) = false := decide_eq_false g3
  obtain ⟨k, hk2, hkb⟩ := and_one' first
  go_upto_region 8 with fail
  clear d1 d3 r0 r1
  have hal : (w3.alloc (.cells #[.pointer (some ⟨x, 0, none⟩), .pointer (some ⟨y, 0, none⟩)] 42)).heap[w3.heap.size]? = some (.cells #[.pointer (some ⟨x, 0, none⟩), .pointer (some ⟨y, 0, none⟩)] 42 (0, 0)) := heap_alloc_new w3 _
  have hp4 := Hp.out.step ((Below.refl _ _).alloc (Nat.le_refl _) (.cells #[.pointer (some ⟨x, 0, none⟩), .pointer (some ⟨y, 0, none⟩)] 42))
  have hby4 := cells_far (c := [iV v0, iV v1]) Hby3.out ((Below.refl _ _).alloc (Nat.le_refl _) (.cells #[.pointer (some ⟨x, 0, none⟩), .pointer (some ⟨y, 0, none⟩)] 42))
  have hxl := Hp.out.sa.lt
  have hyl2 := Hp.out.sb.lt
  generalize hw4 : w3.alloc (.cells #[.pointer (some ⟨x, 0, none⟩), .pointer (some ⟨y, 0, none⟩)] 42) = w4 at *
  obtain ⟨o, px, py, P, Q, lk, hst, hlk1, hlk2⟩ := stick_view (bs := w3.heap.size) (bl := w.heap.size + 1) H0.out H1.out (by omega) (by omega) hp4.sa hp4.sb (by rw [cell_of_block hal]; rfl) (by rw [cell_of_block hal]; rfl) (by rw [cell_of_block hby4]; rfl) (by rw [cell_of_block hby4]; rfl) k hk2
  have Hp4 := Lib.hid (show PairO w4 w4 px py P Q from ⟨hst.sP, hst.sQ, by
    have := hp4.ne
    rcases hst.xy with ⟨e1, e2⟩ | ⟨e1, e2⟩
    · subst e1 e2; exact this
    · subst e1 e2; exact this.symm, Off.refl _ _, by
    have := hp4.lo
    have h0 := (Hl.out.below Hb1.out Hl.out.1).1
    rcases hst.xy with ⟨e1, e2⟩ | ⟨e1, e2⟩ <;> subst e1 e2 <;> omega⟩)
  have hbs : w3.heap.size ≠ px ∧ w3.heap.size ≠ py := by rcases hst.xy with ⟨e1, e2⟩ | ⟨e1, e2⟩ <;> subst e1 e2 <;> omega
  have hbl : w.heap.size + 1 ≠ px ∧ w.heap.size + 1 ≠ py := by
    have := hp4.lo
    rcases hst.xy with ⟨e1, e2⟩ | ⟨e1, e2⟩ <;> subst e1 e2 <;> omega
  have HL4 := Lib.hid (hp4.laid (Hl.out.below Hb1.out Hl.out.1))
  have Hb4 := Lib.hid (show ∀ W, Off [px, py] w4 W → Below w.heap.size w W from fun W ho => (Hb1.out.trans (hp4.bel.mono Hb1.out.size)).trans (ho.toBelow (Nat.le_trans Hb1.out.size hp4.bel.size) (by
    have := hp4.lo
    have := Hb1.out.size
    rcases hst.xy with ⟨e1, e2⟩ | ⟨e1, e2⟩ <;> subst e1 e2 <;> (intro q hq; simp at hq; omega))))
  have Hst := Lib.hid hst
  have hbs3 := hbs
  clear hal hp4 hby4 hw4 hst hxl hyl2 Hby3 Hp Hend hkb
  generalize w3.heap.size = bs at *
  have cp := Hst.out.cp
  have hko := Hst.out.ko
  have hkn0 : (0 : Int) ≤ (k : Int) := by omega
  have hkn2 : (k : Int) < 2 := by omega
  go_wp2_with fail
  refine (tick_o Hp4.out Hst.out.ok 6).mono ?_
  rw [Hst.out.start.1]
  rintro e w5 ⟨rfl, hp5⟩
  have Hp5 := Lib.hid hp5
  have hcp := hp5.cell Hst.out.cp hbs
  have hcl := hp5.cell Hst.out.cl hbl
  clear hp5 cp
  have Hro := Lib.hid (fun n => left_right (Hst.out.start.2.2.2.2.1 ▸ role_any px _ (w5.drewN n) (Hp5.out.drewN n).sa))
  have Hup := Lib.hid (fun n => left_right (Hst.out.start.2.2.2.2.2.1 ▸ up_any px _ (w5.drewN n) (Hp5.out.drewN n).sa))
  have Hli := Lib.hid (fun n => left_right (Hst.out.start.2.2.2.2.2.2 ▸ life_any px _ (w5.drewN n) (Hp5.out.drewN n).sa))
  have hwl : IntKind.i64.wrap (lk + 1) = lk + 1 := IntWalk.i64_in _ (by omega)
  go_upto_region 9 with fail
  go_quiet (first | (go_at_call 14; exact Calls.quiet_of_same (Hro.out _)) | (go_at_call 12; exact Calls.quiet_of_same (Hup.out _)) | (go_at_call 16; exact Calls.quiet_of_same (Hli.out _)))
  have Hsw := Lib.hid (show StickW w4 (w5.drewN nq) px py 0 from ⟨_, _, Hp5.out.drewN _, Hst.out.start.2.1, Hst.out.start.2.2.1, Hst.out.start.2.2.2.1⟩)
  clear hcp hcl Hro Hup Hli hwl Hp5
  have hsz : (w5.drewN nq) = (w5.drewN nq) := rfl
  clear hsz
  go_wp2_with fail
  go_loopw [14] (fun j wr => ∃ m : Nat, m ≤ 3 ∧ j = iV m ∧ StickW w4 wr px py (min m 2)) (fun j _ => 3 - (intOf j).toNat)
  case atStart => exact ⟨0, by omega, rfl, Hsw.out⟩
  case round =>
    obtain ⟨m, hm, rfl, a, b, hp, hmt, hca, hcb⟩ := hrel
    have Hp := Lib.hid hp
    by_cases hm3 : m < 3
    · have hd3 : decide ((m : Int) < 3) = true := decide_eq_true (by omega)
      have hmo : momentB 7 = true := by decide
      obtain ⟨e1, e2, hnew⟩ := meet_any hm3 (by omega) hmo hmt
      obtain ⟨l1, l2, l3⟩ := meet_claims hmo hmt
      have Hoa := Lib.hid hmt.oa; have Hob := Lib.hid hmt.ob
      have Hnew := Lib.hid hnew
      have L := Lib.hid (show (a.take (b.take a.hello 7).1.hello 7).1.claim = 2 ∧ (b.take a.hello 7).1.claim = 0 from ⟨l3.trans hca, l1.trans hcb⟩)
      have hcp := hp.drew.cell Hst.out.cp hbs
      have hcq := hp.drew.cell Hst.out.cq hbs
      have Hk := Lib.hid (fun W a b (h : PairO w4 W px py a b) => show W.cell? ⟨bs, k, none⟩ = some (.pointer (some ⟨px, 0, none⟩)) ∧ W.cell? ⟨bs, o, none⟩ = some (.pointer (some ⟨py, 0, none⟩)) from ⟨h.cell Hst.out.cp hbs, h.cell Hst.out.cq hbs⟩)
      have hwr : IntKind.i64.wrap (1 - (k : Int)) = (o : Int) := by rw [IntWalk.i64_in _ (by omega)]; omega
      have ho0 : (0 : Int) ≤ (o : Int) := by omega
      have ho2 : (o : Int) < 2 := by omega
      clear hp hmt e1 e2 hnew l1 l2 l3 hca hcb
      go_upto_region 14 with fail
      go_region_held3 (fun w' => w'.cell? ⟨bs, k, none⟩ = some (.pointer (some ⟨px, 0, none⟩)) ∧ w'.cell? ⟨bs, o, none⟩ = some (.pointer (some ⟨py, 0, none⟩))) (first | (exact ⟨hcp, hcq⟩) | (exact hk5) | (exact hk6)) (first | (go_at_call 11; refine (hello_o Hp.out.drew).mono ?_; rintro e w6 ⟨rfl, hp6⟩; have hk5 := Hk.out _ _ _ hp6) | (go_at_call 10; refine (heard_o hp6.swap HL4.out Hob.out a.hello (hello_in_mem _ _) 7).mono ?_; rintro e w7 ⟨rfl, hp7⟩; have hk6 := Hk.out _ _ _ hp7.swap))
      have Hp7 := Lib.hid hp7.swap
      clear hp6 hp7
      have hcp := Hp7.out.drew.cell Hst.out.cp hbs
      have hcq := Hp7.out.drew.cell Hst.out.cq hbs
      go_upto_region 15 with fail
      go_region_held3 (fun w' => w'.cell? ⟨bs, k, none⟩ = some (.pointer (some ⟨px, 0, none⟩)) ∧ w'.cell? ⟨bs, o, none⟩ = some (.pointer (some ⟨py, 0, none⟩))) (first | (exact ⟨hcp, hcq⟩) | (exact hk8) | (exact hk9)) (first | (go_at_call 11; refine (hello_o Hp7.out.drew.swap).mono ?_; rintro e w8 ⟨rfl, hp8⟩; have hk8 := Hk.out _ _ _ hp8.swap) | (go_at_call 10; refine (heard_o hp8.swap HL4.out Hoa.out _ (hello_in_mem _ _) 7).mono ?_; rintro e w9 ⟨rfl, hp9⟩; have hk9 := Hk.out _ _ _ hp9))
      have Hend := Lib.hid (show StickW w4 w9 px py (min (m + 1) 2) from ⟨_, _, hp9, Hnew.out, L.out.1, L.out.2⟩)
      clear hp8 hp9 hk5 hk6 hk8 hk9 hcp hcq
      go_wp2_with fail
      go_roundw
      case rel => exact ⟨m + 1, by omega, by go_num, Hend.out⟩
      case measure => simp [intOf]; omega
    · obtain rfl : m = 3 := by omega
      have hmt2 : Meet 2 7 268435457 a b := hmt
      obtain ⟨u1, u2, u3, _⟩ := meet_up hmt2
      obtain ⟨s1, s2⟩ := stick_end hmt2 hca hcb
      have Hmt := Lib.hid hmt2
      have U1 := Lib.hid u1; have U2 := Lib.hid u2; have U3 := Lib.hid u3; have S1 := Lib.hid s1; have S2 := Lib.hid s2
      have hcp := hp.cell Hst.out.cp hbs
      have hcq := hp.cell Hst.out.cq hbs
      have hwr : IntKind.i64.wrap (1 - (k : Int)) = (o : Int) := by rw [IntWalk.i64_in _ (by omega)]; omega
      have ho0 : (0 : Int) ≤ (o : Int) := by omega
      have ho2 : (o : Int) < 2 := by omega
      have Hend := Lib.hid (fun n => Hb4.out _ (hp.drewN n).off)
      have hxy := Hst.out.xy
      clear hp hmt hmt2 u1 u2 u3 s1 s2 hca hcb
      rcases hxy with ⟨rfl, rfl⟩ | ⟨rfl, rfl⟩
      · have Hu := Lib.hid (upsO Hp.out Hmt.out.oa Hmt.out.ob U1.out U2.out U3.out S1.out S2.out)
        go_wp2_with fail
        refine (Hu.out.ua 0).mono ?_
        rintro e w' ⟨rfl, rfl⟩
        go_wp2_with fail
        refine (Hu.out.ub 0).mono ?_
        rintro e w' ⟨rfl, rfl⟩
        go_wp2_with fail
        refine (Hu.out.ea 0).mono ?_
        rintro e w' ⟨rfl, n1, rfl⟩
        go_wp2_with fail
        refine (Hu.out.eb _).mono ?_
        rintro e w' ⟨rfl, n2, rfl⟩
        go_wp2_with fail
        refine (Hu.out.ra _).mono ?_
        rintro e w' ⟨rfl, rfl⟩
        go_wp2_with fail
        refine (Hu.out.rb _).mono ?_
        rintro e w' ⟨rfl, rfl⟩
        go_wp2_with fail
        go_ret
        exact ⟨rfl, Hend.out _⟩
      · have Hu := Lib.hid (upsO Hp.out.swap Hmt.out.ob Hmt.out.oa U2.out U1.out U3.out.symm S2.out S1.out)
        go_wp2_with fail
        refine (Hu.out.ua 0).mono ?_
        rintro e w' ⟨rfl, rfl⟩
        go_wp2_with fail
        refine (Hu.out.ub 0).mono ?_
        rintro e w' ⟨rfl, rfl⟩
        go_wp2_with fail
        refine (Hu.out.ea 0).mono ?_
        rintro e w' ⟨rfl, n1, rfl⟩
        go_wp2_with fail
        refine (Hu.out.eb _).mono ?_
        rintro e w' ⟨rfl, n2, rfl⟩
        go_wp2_with fail
        refine (Hu.out.rb _).mono ?_
        rintro e w' ⟨rfl, rfl⟩
        go_wp2_with fail
        refine (Hu.out.ra _).mono ?_
        rintro e w' ⟨rfl, rfl⟩
        go_wp2_with fail
        go_ret
        exact ⟨rfl, Hend.out _⟩
end Go.Proofs.YtpglhnbekpafeaaDoor
