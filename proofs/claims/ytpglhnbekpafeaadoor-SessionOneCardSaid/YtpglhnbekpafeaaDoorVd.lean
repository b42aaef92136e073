/-
  Two sessions in memory; gemellaw21.awake.
-/
import Derived.Test.YtpglhnbekpafeaaDoorVc
import Derived.Test.YtpglhnbekpafeaaDoorVn
namespace Go.Proofs.YtpglhnbekpafeaaDoor
set_option linter.unusedVariables false
set_option linter.unusedSimpArgs false
open Go Go.RowKit

structure Pair (w0 w : World) (x y : Nat) (a b : Ses) : Prop where
  sa : SesAt w x a
  sb : SesAt w y b
  ne : x ≠ y
  lo : w0.heap.size ≤ x ∧ w0.heap.size ≤ y
  bel : Below w0.heap.size w0 w
section
variable {w0 w w' : World} {x y : Nat} {a b a' : Ses}
theorem Pair.step (h : Pair w0 w x y a b) (hB : Below w.heap.size w w') : Pair w0 w' x y a b := ⟨h.sa.step hB, h.sb.step hB, h.ne, h.lo, h.bel.trans (hB.mono h.bel.size)⟩
theorem Pair.swap (h : Pair w0 w x y a b) : Pair w0 w y x b a := ⟨h.sb, h.sa, h.ne.symm, ⟨h.lo.2, h.lo.1⟩, h.bel⟩
theorem Pair.turn (h : Pair w0 w x y a b) (hs : SesAt w' x a') (ho : Off [x] w w') : Pair w0 w' x y a' b :=
  ⟨hs, h.sb.off ho (by have := h.ne; simp; exact fun e => this e.symm), h.ne, h.lo, h.bel.trans (ho.toBelow h.bel.size (by have := h.lo.1; simp; exact this))⟩
theorem Pair.laid (h : Pair w0 w x y a b) (hl : HasLaid w0) : HasLaid w := hl.below h.bel hl.1
theorem Pair.drewN (h : Pair w0 w x y a b) (n : Nat) : Pair w0 (w.drewN n) x y a b := h.step (below_drewN' (Below.refl _ _) n)
end
theorem hello_in_mem (s : Ses) (w : World) : PktIn w s.hello := ⟨⟨[], Src.zero⟩, fun x hx => by cases hx⟩
/-- a hello, heard by the other one. -/
theorem heard_pair {w0 w : World} {x y : Nat} {a b : Ses} (h : Pair w0 w x y a b) (hl : HasLaid w0) (oa : SesOk a) (p : Pkt) (hp : PktIn w p) (now : Int) :
    Calls Tryd.prog 10 #[.pointer (some ⟨x, 0, none⟩), p.val, iV now] w fun e w' => e = .returned (.tuple #[.bool (a.take p now).2.1, iV (a.take p now).2.2]) ∧ Pair w0 w' x y (a.take p now).1 b := by
  refine (take_any x a p now w h.sa oa (h.laid hl) hp).mono ?_
  rintro e w' ⟨rfl, hs, ho⟩
  exact ⟨rfl, h.turn hs ho⟩
theorem tick_pair {w0 w : World} {x y : Nat} {a b : Ses} (h : Pair w0 w x y a b) (oa : SesOk a) (now : Int) :
    Calls Tryd.prog 15 #[.pointer (some ⟨x, 0, none⟩), iV now] w fun e w' => e = .returned (.tuple #[.bool (a.tick now).2.1, iV (a.tick now).2.2]) ∧ Pair w0 w' x y (a.tick now).1 b := by
  refine (tick_any x a now w h.sa oa).mono ?_
  rintro e w' ⟨rfl, hs, ho⟩
  exact ⟨rfl, h.turn hs ho⟩
theorem hello_pair {w0 w : World} {x y : Nat} {a b : Ses} (h : Pair w0 w x y a b) :
    Calls Tryd.prog 11 #[.pointer (some ⟨x, 0, none⟩)] w fun e w' => e = .returned a.hello.val ∧ Pair w0 w' x y a b := by
  refine (hello_any x a w h.sa).mono ?_
  rintro e w' ⟨rfl, hB⟩
  exact ⟨rfl, h.step hB⟩

def aw0 : Ses := Ses.new 0 5 1
def aw1 : Ses := Ses.new 1 5 1
def aw2 : Ses := (aw1.take aw0.hello 1).1
def aw3 : Ses := (aw0.take aw2.hello 1).1
def aw4 : Ses := (aw2.take aw3.hello 1).1
theorem aw_facts : (aw0.take aw2.hello 1).2 = (true, 0) ∧ (aw2.take aw3.hello 1).2 = (true, 0) ∧ aw3.up = true ∧ aw4.up = true ∧ aw3.epoch = 2 ∧ aw3.role = 2 ∧ aw4.role = 1 := by decide +kernel
theorem aw_ok : SesOk aw0 ∧ SesOk aw1 ∧ SesOk aw2 ∧ SesOk aw3 ∧ SesOk aw4 := by
  have h0 : SesOk aw0 := Ses.new_ok (by decide)
  have h1 : SesOk aw1 := Ses.new_ok (by decide)
  have h2 : SesOk aw2 := h1.take _ _
  have h3 : SesOk aw3 := h0.take _ _
  exact ⟨h0, h1, h2, h3, h2.take _ _⟩

set_option maxHeartbeats 1000000 in
theorem awake_any (w : World) (hl : HasLaid w) : Calls Tryd.prog 8 #[] w fun e w' => e = .returned (.bool true) ∧ Below w.heap.size w w' := by
  have Hn0 := Lib.hid (show Calls Tryd.prog 9 #[.int .i64 0, .int .i64 5, .int .i64 1] w (SesNewPost w 0 5 1) from sesNew_ok 0 5 1 w (by decide))
  have Hl := Lib.hid hl
  clear hl
  go_enter Tryd.func8, Tryd.ntmps8
  go_wp2_with fail
  refine Hn0.out.mono ?_
  rintro e w1 ⟨x, rfl, hx, hs, hB⟩
  have Hn1 := Lib.hid (show Calls Tryd.prog 9 #[.int .i64 1, .int .i64 5, .int .i64 1] w1 (SesNewPost w1 1 5 1) from sesNew_ok 1 5 1 w1 (by decide))
  have H1 := Lib.hid hs; have HB1 := Lib.hid hB; have Hx := Lib.hid hx
  clear hs hB hx
  go_wp2_with fail
  refine Hn1.out.mono ?_
  rintro e w2 ⟨y, rfl, hy, hs, hB⟩
  have hp : Pair w w2 x y aw0 aw1 := ⟨H1.out.step hB, hs, by have := H1.out.lt; omega, ⟨Hx.out, by have := HB1.out.size; omega⟩, HB1.out.trans (hB.mono HB1.out.size)⟩
  have Hp := Lib.hid hp
  clear hs hB hy hp H1 HB1 Hx Hn0 Hn1
  have K := Lib.hid aw_ok; have F := Lib.hid aw_facts
  go_wp2_with fail
  refine (hello_pair Hp.out).mono ?_
  rintro e w3 ⟨rfl, hp3⟩
  have Hp3 := Lib.hid hp3
  clear hp3
  go_wp2_with fail
  refine (heard_pair Hp3.out.swap Hl.out K.out.2.1 aw0.hello (hello_in_mem _ _) 1).mono ?_
  rintro e w4 ⟨rfl, hp4⟩
  have Hp4 := Lib.hid (show Pair w w4 y x aw2 aw0 from hp4)
  clear hp4
  go_wp2_with fail
  refine (hello_pair Hp4.out).mono ?_
  rintro e w5 ⟨rfl, hp5⟩
  have Hp5 := Lib.hid hp5
  clear hp5
  go_wp2_with fail
  refine (heard_pair Hp5.out.swap Hl.out K.out.1 aw2.hello (hello_in_mem _ _) 1).mono ?_
  rw [F.out.1]
  rintro e w6 ⟨rfl, hp6⟩
  have Hp6 := Lib.hid (show Pair w w6 x y aw3 aw2 from hp6)
  clear hp6
  go_wp2_with fail
  refine (hello_pair Hp6.out).mono ?_
  rintro e w7 ⟨rfl, hp7⟩
  have Hp7 := Lib.hid hp7
  clear hp7
  go_wp2_with fail
  refine (heard_pair Hp7.out.swap Hl.out K.out.2.2.1 aw3.hello (hello_in_mem _ _) 1).mono ?_
  rw [F.out.2.1]
  rintro e w8 ⟨rfl, hp8⟩
  have Hp8 := Lib.hid (show Pair w w8 x y aw3 aw4 from hp8.swap)
  clear hp8
  have Hu1 := Lib.hid (F.out.2.2.1 ▸ up_any x aw3 w8 Hp8.out.sa)
  have Hu2 := Lib.hid (F.out.2.2.2.1 ▸ up_any y aw4 w8 Hp8.out.sb)
  have He1 := Lib.hid (F.out.2.2.2.2.1 ▸ epoch_any x aw3 w8 Hp8.out.sa (by have := K.out.2.2.2.1.life; omega) K.out.2.2.2.1.known)
  have Hr1 := Lib.hid (fun n => F.out.2.2.2.2.2.1 ▸ role_any x aw3 (w8.drewN n) (Hp8.out.drewN n).sa)
  have Hr2 := Lib.hid (fun n => F.out.2.2.2.2.2.2 ▸ role_any y aw4 (w8.drewN n) (Hp8.out.drewN n).sb)
  go_wp2_with fail
  refine Hu1.out.mono ?_
  rintro e w' ⟨rfl, rfl⟩
  go_wp2_with fail
  refine Hu2.out.mono ?_
  rintro e w' ⟨rfl, rfl⟩
  go_wp2_with fail
  refine He1.out.mono ?_
  rintro e w' ⟨rfl, n, rfl⟩
  go_wp2_with fail
  refine (Hr1.out _).mono ?_
  rintro e w' ⟨rfl, rfl⟩
  go_wp2_with fail
  refine (Hr2.out _).mono ?_
  rintro e w' ⟨rfl, rfl⟩
  go_wp2_with fail
  go_ret
  exact ⟨rfl, (Hp8.out.drewN _).bel⟩
end Go.Proofs.YtpglhnbekpafeaaDoor
