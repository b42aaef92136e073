/-
  control.short, long, numbered: numbers as bytes behind others.
-/
import Derived.Test.YtpglhnbekpafeaaDoorSa
import Derived.Test.YtpglhnbekpafeaaDoorSm
import Derived.Test.YtpglhnbekpafeaaDoorVp
import Derived.Deep.AppendLies
import Derived.IntWalk
namespace Go.Proofs.YtpglhnbekpafeaaDoor
set_option linter.unusedVariables false
set_option linter.unusedSimpArgs false
open Go Go.RowKit

theorem u8Info : ∃ i : TypeInfo, Tryd.prog.info? 5 = some i ∧ i.zero = some (.int .u8 0) ∧ i.size = 1 ∧ i.bytes = 1 := info_parts (by kernel_rfl)
abbrev bI (x : Int) : Value := .int .u8 x
abbrev Bytes (w : World) (base : Nat) (v : Value) (l : List Int) : Prop := w.ownsRow base 5 1 v l.length (l.map bI)
def be2 (n : Int) : List Int := [n / 256 % 256, n % 256]
def be4 (n : Int) : List Int := be2 (n / 65536) ++ be2 n

/-- a row of bytes, grown. -/
structure Grew (w w' : World) (base : Nat) (v : Value) (l : List Int) (g N cap : Nat) : Prop where
  len : N = l.length
  row : Bytes w' base (.slice (some ⟨g, 0, none⟩) N cap) l
  grow : w.grownBy w' v.ownBlock
  loc : v.ownBlock = some g ∨ w.heap.size ≤ g
  lt : g < w'.heap.size
def GrewPost (w : World) (base : Nat) (v : Value) (l : List Int) (e : Ending) (w' : World) : Prop :=
  ∃ g N cap, e = .returned (.slice (some ⟨g, 0, none⟩) N cap) ∧ Grew w w' base v l g N cap

theorem grown_alloc {w w' : World} {o : Obj} {row : Option Nat} (hg : (w.alloc o).grownBy w' row) : w.grownBy w' row :=
  ⟨hg.os, hg.tape, hg.output, by have := hg.size; simp at this; omega, fun k hk hn => (hg.block k (by simp; omega) hn).trans (heap_alloc_old w o hk)⟩
theorem shr8 (n : Int) (h : 0 ≤ n) : IntKind.u8.wrap (n / 256) = n / 256 % 256 := by rw [IntKind.wrap_u8]
theorem numbered_any (n : Int) (w : World) : Calls Tryd.prog 37 #[iV n] w fun e w' => e = .returned (.bool (numB n)) ∧ w = w' := by
  have H := Lib.hid (within_any n 0 1073741824 w)
  unfold numB
  generalize withinB n 0 1073741824 = b at *
  go_enter Tryd.func37, Tryd.ntmps37
  go_wp2_with (go_at_call 47; refine H.out.mono ?_; rintro e w' ⟨rfl, rfl⟩)
  go_ret
  exact ⟨rfl, rfl⟩

theorem short_any (n : Int) (base : Nat) (v : Value) (l : List Int) (w : World) (h : Bytes w base v l) (hn : 0 ≤ n) (hn2 : n ≤ 9223372036854775807) (hl : l.length ≤ 10000) (hb : base ≤ w.heap.size) :
    Calls Tryd.prog 41 #[v, iV n] w (GrewPost w base v (l ++ be2 n)) := by
  obtain ⟨i0, hi, hz0, hz1, hz2⟩ := u8Info
  have H := Lib.hid h
  have e1 : IntKind.u8.wrap n = n % 256 := by rw [IntKind.wrap_u8]
  have e2 : IntKind.u8.wrap (n / 256) = n / 256 % 256 := by rw [IntKind.wrap_u8]
  clear h
  go_enter Tryd.func41, Tryd.ntmps41
  have hone : ∀ u ∈ (be2 n).map bI, u.oneCell' = true := by intro u hu; simp [be2] at hu; rcases hu with rfl | rfl <;> rfl
  have h63 : l.length + 2 ≤ maxLen := by simp only [maxLen]; omega
  have Hone := Lib.hid hone; have H63 := Lib.hid h63
  clear hone h63
  go_wp2_with (at_builtin; refine wpList_append_lies _ rfl _ _ _ rfl base 5 i0 (.int .u8 0) 1 1 Tryd.underlying32 hi hz0 hz1 hz2 rfl (by omega) v l.length (l.map bI) rfl (H.out.alloc _) ⟨w.heap.size, 0, none⟩ 2 2 ((be2 n).map bI) rfl rfl (World.news_of_block (cs := ((be2 n).map bI).toArray) (heap_alloc_new w _)) Hone.out (by omega) H63.out (by omega) (by simp; omega) (w.heap.size + 1) (by simp) ?_; intro g cap w1 h1 h2 h3 h4)
  go_ret
  rw [← List.map_append] at h1
  have e3 : (l ++ be2 n).length = l.length + 2 := by simp [be2]
  refine ⟨g, l.length + 2, cap, by simp [be2], e3.symm, ?_, grown_alloc h2, by rcases h3 with h3 | h3; exact .inl h3; exact .inr (by omega), h4⟩
  show w1.ownsRow _ _ _ _ (l ++ be2 n).length _
  rw [e3]; exact h1
theorem Grew.trans {w w1 w2 : World} {base : Nat} {v : Value} {l l' : List Int} {g N cap g' N' cap' : Nat} (h : Grew w w1 base v l g N cap) (k : Grew w1 w2 base (.slice (some ⟨g, 0, none⟩) N cap) l' g' N' cap') : Grew w w2 base v l' g' N' cap' := by
  have hs := h.grow.size
  refine ⟨k.len, k.row, ⟨k.grow.os.trans h.grow.os, k.grow.tape.trans h.grow.tape, k.grow.output.trans h.grow.output, Nat.le_trans hs k.grow.size, fun m hm hne => (k.grow.block m (by omega) (fun e => ?_)).trans (h.grow.block m hm hne)⟩, ?_, k.lt⟩
  · have e' : m = g := by injection e
    subst e'
    rcases h.loc with h | h
    · exact hne h.symm
    · omega
  · rcases k.loc with h7 | h7
    · have e' : g = g' := by injection h7
      subst e'; exact h.loc
    · exact .inr (by omega)
set_option maxHeartbeats 1000000 in
theorem long_any (n : Int) (base : Nat) (v : Value) (l : List Int) (w : World) (h : Bytes w base v l) (hn : 0 ≤ n) (hn2 : n ≤ 9223372036854775807) (hl : l.length ≤ 9990) (hb : base ≤ w.heap.size) :
    Calls Tryd.prog 38 #[v, iV n] w (GrewPost w base v (l ++ be4 n)) := by
  have H1 := Lib.hid (short_any (n / 65536) base v l w h (by omega) (by omega) (by omega) hb)
  clear h
  go_enter Tryd.func38, Tryd.ntmps38
  go_wp2_with fail
  refine H1.out.mono ?_
  rintro e w1 ⟨g, N, cap, rfl, h1⟩
  have hs := h1.grow.size
  have H2 := Lib.hid (short_any n base _ (l ++ be2 (n / 65536)) w1 h1.row (by omega) (by omega) (by simp [be2]; omega) (by omega))
  go_wp2_with fail
  refine H2.out.mono ?_
  rintro e w2 ⟨g', N', cap', rfl, h2⟩
  go_wp2_with fail
  go_ret
  refine ⟨g', N', cap', rfl, ?_⟩
  unfold be4
  rw [← List.append_assoc]
  exact h1.trans h2
end Go.Proofs.YtpglhnbekpafeaaDoor
