/-
  gemellaw22.hear.
-/
import Derived.Test.YtpkpaloaoopkgaaDoorHq
import Derived.Deep.RegionLaw
import Derived.RegionTactic
namespace Go.Proofs.YtpkpaloaoopkgaaDoor
set_option linter.unusedVariables false
set_option linter.unusedSimpArgs false
open Go Go.RowKit
attribute [local go_sem ↓] exec_loadNote exec_storeNote exec_loadItem exec_storeItem
attribute [local go_sem] ldRow_ptr ldFin_some cellsAt_succ cellsAt_zero allSome_cons allSome_nil stRow_ptr stFin_true allOne_cons allOne_nil there_succ there_zero frozens_succ frozens_zero one_int one_bool one_slice putCells_alloc_at putCells_alloc_old over_all

def HearPost (base bx bw i j : Nat) (w : World) (A' B' : Side) (e : Ending) (w' : World) : Prop :=
  e = .returned (.bool true) ∧ NetAt w' base bx bw i j A' B' ∧ Below base w w'

theorem hear_nil (base bx bw i j : Nat) (A B : Side) (w : World) (h : NetAt w base bx bw i j A B) (hq : A.q = []) :
    Calls Tryd.prog 18 #[.pointer (some ⟨A.p, 0, none⟩), .pointer (some ⟨bw, i, none⟩), .pointer (some ⟨bw, j, none⟩)] w fun e w' => e = .returned (.bool true) ∧ w = w' := by
  have hca := h.ca
  rcases h.qa.form with ⟨hv, _⟩ | ⟨g, off, cap, hv, _, _⟩
  · rw [hv] at hca
    clear h hq hv
    go_enter Tryd.func18, Tryd.ntmps18
    go_wp2
    go_ret
    exact ⟨rfl, rfl⟩
  · rw [hv, hq] at hca
    clear h hq hv
    go_enter Tryd.func18, Tryd.ntmps18
    go_wp2
    go_ret
    exact ⟨rfl, rfl⟩

/-- the head of a queue, cell by cell. -/
theorem itm_cells {w : World} {g off : Nat} {x : Itm} (h : ∀ (j : Nat) (u : Value), (itmList x)[j]? = some u → w.cell? ⟨g, off + j, none⟩ = some u) :
    w.cell? ⟨g, off, none⟩ = some (iV x.t.kind) ∧ w.cell? ⟨g, off + 1, none⟩ = some (.int .i64 0) ∧ w.cell? ⟨g, off + 2, none⟩ = some (.int .u8 0) ∧ w.cell? ⟨g, off + 3, none⟩ = some (.int .u8 0) ∧
    w.cell? ⟨g, off + 4, none⟩ = some (.int .u8 0) ∧ w.cell? ⟨g, off + 5, none⟩ = some (.int .u8 0) ∧ w.cell? ⟨g, off + 6, none⟩ = some (.int .u8 0) ∧ w.cell? ⟨g, off + 7, none⟩ = some (.int .u8 0) ∧
    w.cell? ⟨g, off + 8, none⟩ = some (iV x.t.port) ∧ w.cell? ⟨g, off + 9, none⟩ = some (iV x.t.state) ∧ w.cell? ⟨g, off + 10, none⟩ = some (.slice none 0 0) ∧
    w.cell? ⟨g, off + 11, none⟩ = some (.bool x.fr) ∧ w.cell? ⟨g, off + 12, none⟩ = some (.bool false) ∧ w.cell? ⟨g, off + 13, none⟩ = some (.bool x.s1) ∧ w.cell? ⟨g, off + 14, none⟩ = some (.bool x.s2) ∧ w.cell? ⟨g, off + 15, none⟩ = some (.bool x.s3) :=
  ⟨h 0 _ rfl, h 1 _ rfl, h 2 _ rfl, h 3 _ rfl, h 4 _ rfl, h 5 _ rfl, h 6 _ rfl, h 7 _ rfl, h 8 _ rfl, h 9 _ rfl, h 10 _ rfl, h 11 _ rfl, h 12 _ rfl, h 13 _ rfl, h 14 _ rfl, h 15 _ rfl⟩

/-- the cut of a slice's head. -/
abbrev cutV (g off n cap : Nat) : Value := .slice (if cap = 1 then some ⟨g, off, none⟩ else some ⟨g, off + 16, none⟩) n (cap - 1)
theorem cut_row {w : World} {base g off cap : Nat} {x : Itm} {r : List Itm} (h : qRow w base 53 16 (.slice (some ⟨g, off, none⟩) (r.length + 1) cap) (r.length + 1) (itmFlat (x :: r))) :
    qRow w base 53 16 (cutV g off r.length cap) r.length (itmFlat r) := by
  rw [itmFlat_cons] at h
  obtain ⟨h1, h2⟩ := h.tail rfl
  unfold cutV
  by_cases hc : cap = 1
  · rw [if_pos hc]
    obtain ⟨h3, h4⟩ := h2 hc
    obtain rfl : r = [] := List.length_eq_zero_iff.1 h3
    subst hc; exact h4
  · rw [if_neg hc]; exact h1
theorem cut_own {g off n cap k : Nat} (h : (cutV g off n cap).ownBlock = some k) : k = g := by
  unfold cutV at h
  split at h <;> (injection h with h; exact h.symm)
theorem itm_arr (x : Itm) (b : Bool) (h : x.fr = b) : (#[iV x.t.kind, Value.int IntKind.i64 0, Value.int IntKind.u8 0, Value.int IntKind.u8 0, Value.int IntKind.u8 0, Value.int IntKind.u8 0, Value.int IntKind.u8 0, Value.int IntKind.u8 0, iV x.t.port, iV x.t.state, Value.slice none 0 0, Value.bool b, Value.bool false, Value.bool x.s1, Value.bool x.s2, Value.bool x.s3] : Array Value) = (itmList x).toArray := by subst h; rfl
def SameW (a b : World) : Prop := a = b
theorem SameW.refl (a : World) : SameW a a := rfl
theorem sent_cell {w : World} {b : Nat} {x : Itm} (h : ∀ o, w.cell? ⟨b, o, none⟩ = (itmList x).toArray[o]?) (k : Nat) (h1 : 1 ≤ k) (h3 : k ≤ 3) : w.cell? ⟨b, 12 + k, none⟩ = some (.bool (x.sent (k - 1))) := by
  rw [h]
  have : k = 1 ∨ k = 2 ∨ k = 3 := by omega
  rcases this with rfl | rfl | rfl <;> rfl

set_option maxHeartbeats 4000000 in
theorem hear_probe (base bx bw i j : Nat) (A B : Side) (x : Itm) (r : List Itm) (M : Int) (w : World) (h : NetAt w base bx bw i j A B) (hq : A.q = x :: r) (hfr : x.fr = true) (hone : One A.s M) (hd : Dir B.s A.s A.q) :
    Calls Tryd.prog 18 #[.pointer (some ⟨A.p, 0, none⟩), .pointer (some ⟨bw, i, none⟩), .pointer (some ⟨bw, j, none⟩)] w fun e w' => ∃ v', HearPost base bx bw i j w { A with v := v', q := r } B e w' := by
  have hca := h.ca
  have hfa := h.fa
  have hqa := h.qa
  rw [hq] at hqa hd
  rcases hqa.form with ⟨_, hv⟩ | ⟨g, off, cap, hv, hcap, hgl⟩
  · cases hv
  rw [hv] at hca hqa
  have hcells := hqa.cells
  obtain ⟨c0, c1, c2, c3, c4, c5, c6, c7, c8, c9, c10, c11, c12, c13, c14, c15⟩ := itm_cells (x := x) (fun k u hu => hcells k u (by
    rw [itmFlat_cons, List.getElem?_append_left (List.getElem?_eq_some_iff.1 hu).1]; exact hu))
  have hlen : (x :: r).length = r.length + 1 := rfl
  rw [hlen] at hca hcap hqa
  have hpop := h.pop (cut_row hqa) (fun k hk => by rw [cut_own hk, hv]; rfl)
  have hba : Below base w (w.setCell ⟨bw, i, none⟩ (cutV g off r.length cap)) := (Below.refl _ _).setCell h.lo.2.2.2.2.2 _
  have hpop2 := hpop.step ((Below.refl _ _).alloc (Nat.le_refl _) (.cells (itmList x).toArray 53))
  have hba2 := hba.alloc (by have := h.ltx.2; have := h.lo.2.2.2.2.2; simp; omega) (.cells (itmList x).toArray 53)
  have hW : ∀ o, ((w.setCell ⟨bw, i, none⟩ (cutV g off r.length cap)).alloc (.cells (itmList x).toArray 53)).cell? ⟨w.heap.size, o, none⟩ = (itmList x).toArray[o]? := fun o => by
    have := heap_alloc_new (w.setCell ⟨bw, i, none⟩ (cutV g off r.length cap)) (.cells (itmList x).toArray 53)
    rw [show (w.setCell ⟨bw, i, none⟩ (cutV g off r.length cap)).heap.size = w.heap.size by simp] at this
    exact cell_of_block this o
  have Hpop := Lib.hid hpop2; have Hba := Lib.hid hba2; have HW := Lib.hid hW
  have hsz : w.heap.size = w.heap.size := rfl
  have hbw := h.ltx.2
  obtain ⟨hfrm, _⟩ := hear_frame hone hd hfr
  have Hfr := Lib.hid hfrm
  have Hlen := Lib.hid hone.len
  clear h hqa hcells hv hlen hpop hba hpop2 hba2 hW hsz hfrm hd hone
  have hne0 : (((r.length : Nat) : Int) + 1 == 0) = false := by rw [beq_eq_false_iff_ne]; omega
  have h11 := c11
  rw [hfr] at c11
  go_enter Tryd.func18, Tryd.ntmps18
  go_upto_region 5 with fail
  have e2 := itm_arr x true hfr
  rw [e2]
  clear c0 c1 c2 c3 c4 c5 c6 c7 c8 c9 c10 c11 c12 c13 c14 c15 h11 hca hfa e2
  generalize (w.setCell ⟨bw, i, none⟩ (cutV g off r.length cap)).alloc (.cells (itmList x).toArray 53) = w2 at *
  generalize Value.agg (itmList x).toArray = u21
  generalize (if cap = 1 then some (⟨g, off, none⟩ : Addr) else some ⟨g, off + 16, none⟩) = ov
  have cf : w2.cell? ⟨w.heap.size, 11, none⟩ = some (.bool true) := by rw [HW.out 11, ← hfr]; rfl
  go_wp2_with fail
  go_loopw [8] (fun idx wr => ∃ k : Nat, 1 ≤ k ∧ k ≤ 4 ∧ idx = iV k ∧ SameW w2 wr) (fun idx _ => 4 - (intOf idx).toNat)
  case atStart => exact ⟨1, by omega, by omega, rfl, SameW.refl _⟩
  case round =>
    obtain ⟨k, hk1, hk4, rfl, hsame⟩ := hrel
    obtain rfl : w2 = wr := hsame
    by_cases hk : k ≤ 3
    · have hs := sent_cell HW.out k hk1 hk
      have hf := Hfr.out (k - 1) (by omega)
      rw [show ((k - 1 : Nat) : Int) + 1 = (k : Int) by omega] at hf
      have hk0 : (0 : Int) ≤ (k : Int) := by omega
      have hk4 : (k : Int) < 4 := by omega
      have Hsv := Lib.hid (serves_all A.p A.g k A.s w2 Hpop.out.sa (by rw [Hlen.out]; decide))
      have Hbl := Lib.hid (blocked_all A.p A.g k A.s w2 Hpop.out.sa (by rw [Hlen.out]; decide))
      cases hse : x.sent (k - 1)
      · rw [hse] at hs
        clear hf hse
        go_wp2_with fail
        go_roundw
        case rel => exact ⟨k + 1, by omega, by omega, by go_num, SameW.refl _⟩
        case measure => simp [intOf]; omega
      · rw [hse] at hs hf
        cases hsv : servesB A.s k
        · have Hsv2 := Lib.hid (hsv ▸ Hsv.out)
          clear hf hse
          go_wp2_with (go_at_call 12; refine Hsv2.out.mono ?_; rintro e w' ⟨rfl, rfl⟩)
          go_roundw
          case rel => exact ⟨k + 1, by omega, by omega, by go_num, SameW.refl _⟩
          case measure => simp [intOf]; omega
        · have Hsv2 := Lib.hid (hsv ▸ Hsv.out)
          have hbl : blockedB A.s k = true := by rw [hsv] at hf; simpa using hf
          have Hbl2 := Lib.hid (hbl ▸ Hbl.out)
          clear hf hse hbl
          go_wp2_with (first | (go_at_call 12; refine Hsv2.out.mono ?_; rintro e w' ⟨rfl, rfl⟩) | (go_at_call 14; refine Hbl2.out.mono ?_; rintro e w' ⟨rfl, rfl⟩))
          go_roundw
          case rel => exact ⟨k + 1, by omega, by omega, by go_num, SameW.refl _⟩
          case measure => simp [intOf]; omega
    · obtain rfl : k = 4 := by omega
      go_wp2
      go_ret
      exact ⟨_, rfl, Hpop.out, Hba.out⟩
end Go.Proofs.YtpkpaloaoopkgaaDoor
