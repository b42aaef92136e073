/-
  control.Encode: a packet as bytes.
-/
import Derived.Test.YtpglhnbekpafeaaDoorEb
import Derived.Test.YtpglhnbekpafeaaDoorSk
import Derived.Deep.DeepCutAuto
import Derived.Deep.CutBlock
import Derived.Deep.DrawnRows
namespace Go.Proofs.YtpglhnbekpafeaaDoor
set_option linter.unusedVariables false
set_option linter.unusedSimpArgs false
open Go Go.RowKit
attribute [local go_sem ↓] exec_loadNote exec_storeNote Go.wp_at_zero Go.wp_at_succ
attribute [local go_sem] ldRow_ptr ldFin_some cellsAt_succ cellsAt_zero allSome_cons allSome_nil stRow_ptr stFin_true allOne_cons allOne_nil there_succ there_zero frozens_succ frozens_zero one_int one_bool one_slice putCells_alloc_at putCells_alloc_old over_all

def fieldL (k : Int) (f : Nat) (l : List Int) : List Int := if hasB k f then l else []
def headL (p : Pkt) : List Int := be4 p.epoch ++ be4 p.seq ++ be4 p.ack ++ [p.note.kind]
/-- a packet's bytes. -/
def encL (p : Pkt) (bs : List Int) : List Int := headL p ++ fieldL p.note.kind 1 (be2 p.note.vlan) ++ fieldL p.note.kind 2 (macInts p.note.mac) ++ fieldL p.note.kind 4 (be2 p.note.port) ++ fieldL p.note.kind 8 [p.note.state] ++ fieldL p.note.kind 16 (be2 p.note.bl ++ bs)
def EncPost (w : World) (p : Pkt) (bs : List Int) (e : Ending) (w' : World) : Prop :=
  ∃ v, e = .returned (.tuple #[v, iV (if encB p then 0 else 1)]) ∧ (if encB p then Bytes w' w.heap.size v (encL p bs) else v = .slice none 0 0) ∧ Below w.heap.size w w'

/-- the first test, whichever way it goes. -/
structure Boxes (w w2 : World) (p : Pkt) : Prop where
  bp : w2.heap[w.heap.size]? = some (.cells (pktList p).toArray 36 (0, 0))
  bn : w2.heap[w.heap.size + 1]? = some (.cells (noteList p.note).toArray 34 (0, 0))
  bel : Below w.heap.size w w2
theorem Boxes.lt {w w2 : World} {p : Pkt} (h : Boxes w w2 p) : w.heap.size + 2 ≤ w2.heap.size := block_lt h.bn
theorem Boxes.step {w w2 w3 : World} {p : Pkt} (h : Boxes w w2 p) (hB : Below (w.heap.size + 2) w2 w3) : Boxes w w3 p :=
  ⟨by rw [hB.block _ (by omega)]; exact h.bp, by rw [hB.block _ (by omega)]; exact h.bn, h.bel.trans (hB.mono (by omega))⟩
theorem Boxes.mk2 (w : World) (p : Pkt) : Boxes w ((w.alloc (.cells (pktList p).toArray 36)).alloc (.cells (noteList p.note).toArray 34)) p := by
  refine ⟨?_, ?_, ((Below.refl _ _).alloc (Nat.le_refl _) _).alloc (by simp) _⟩
  · rw [heap_alloc_old _ _ (by simp)]; exact heap_alloc_new w _
  · have := heap_alloc_new (w.alloc (.cells (pktList p).toArray 36)) (.cells (noteList p.note).toArray 34)
    simpa using this
theorem Boxes.cells {w w2 : World} {p : Pkt} (h : Boxes w w2 p) : w2.cell? ⟨w.heap.size, 0, none⟩ = some (iV p.epoch) ∧ w2.cell? ⟨w.heap.size, 1, none⟩ = some (iV p.seq) ∧ w2.cell? ⟨w.heap.size, 2, none⟩ = some (iV p.ack) := by
  refine ⟨?_, ?_, ?_⟩ <;> rw [cell_of_block h.bp] <;> rfl
theorem Boxes.note {w w2 : World} {p : Pkt} (h : Boxes w w2 p) : ∀ j u, (noteList p.note)[j]? = some u → w2.cell? ⟨w.heap.size + 1, j, none⟩ = some u := fun j u hu => by rw [cell_of_block h.bn]; simpa using hu

set_option maxHeartbeats 4000000 in
theorem encode_no (p : Pkt) (bs : List Int) (w : World) (hl : HasLaid w) (hno : encB p = false) : Calls Tryd.prog 30 #[p.val] w (EncPost w p bs) := by
  have hbx := Boxes.mk2 w p
  have Hr := Lib.hid (right_any p.note _ (hl.below hbx.bel hl.1))
  have Hbx := Lib.hid hbx
  clear hl hbx
  have Hpost := Lib.hid (fun W (hB : Below w.heap.size w W) => show EncPost w p bs (.returned (.tuple #[.slice none 0 0, iV 1])) W from ⟨_, by rw [hno]; rfl, by rw [hno]; rfl, hB⟩)
  have Hno := Lib.hid hno
  clear hno
  go_enter Tryd.func30, Tryd.ntmps30
  go_upto_region 2 with fail
  generalize (w.alloc (.cells (pktList p).toArray 36)).alloc (.cells (noteList p.note).toArray 34) = w2 at *
  have d0 : w2.cell? ⟨w.heap.size + 1, 0, none⟩ = some (iV p.note.kind) := Hbx.out.note 0 _ rfl
  have d1 : w2.cell? ⟨w.heap.size + 1, 1, none⟩ = some (iV p.note.vlan) := Hbx.out.note 1 _ rfl
  have d2 : w2.cell? ⟨w.heap.size + 1, 2, none⟩ = some (bV p.note.mac.a) := Hbx.out.note 2 _ rfl
  have d3 : w2.cell? ⟨w.heap.size + 1, 3, none⟩ = some (bV p.note.mac.b) := Hbx.out.note 3 _ rfl
  have d4 : w2.cell? ⟨w.heap.size + 1, 4, none⟩ = some (bV p.note.mac.c) := Hbx.out.note 4 _ rfl
  have d5 : w2.cell? ⟨w.heap.size + 1, 5, none⟩ = some (bV p.note.mac.d) := Hbx.out.note 5 _ rfl
  have d6 : w2.cell? ⟨w.heap.size + 1, 6, none⟩ = some (bV p.note.mac.e) := Hbx.out.note 6 _ rfl
  have d7 : w2.cell? ⟨w.heap.size + 1, 7, none⟩ = some (bV p.note.mac.f) := Hbx.out.note 7 _ rfl
  have d8 : w2.cell? ⟨w.heap.size + 1, 8, none⟩ = some (iV p.note.port) := Hbx.out.note 8 _ rfl
  have d9 : w2.cell? ⟨w.heap.size + 1, 9, none⟩ = some (iV p.note.state) := Hbx.out.note 9 _ rfl
  have d10 : w2.cell? ⟨w.heap.size + 1, 10, none⟩ = some (.slice p.note.ba p.note.bl p.note.bc) := Hbx.out.note 10 _ rfl
  go_wp2_with fail
  refine Hr.out.mono ?_
  rintro e w3 ⟨rfl, hB3⟩
  have hbx3 := Hbx.out.step (hB3.mono Hbx.out.lt)
  obtain ⟨c0, c1, c2⟩ := hbx3.cells
  have Hbel := Lib.hid hbx3.bel
  clear d0 d1 d2 d3 d4 d5 d6 d7 d8 d9 d10 hbx3 hB3 Hbx
  have hno := Hno.out
  unfold encB at hno
  clear Hno
  cases hR : rightB p.note
  · clear hno
    go_wp2_with fail
    go_ret2
    exact Hpost.out _ Hbel.out
  · rw [hR] at hno
    cases hE : numB p.epoch
    · have He := Lib.hid (hE ▸ numbered_any p.epoch w3)
      clear hno hE
      go_wp2_with (first | (go_at_call 37; refine He.out.mono ?_; rintro e w' ⟨rfl, rfl⟩))
      go_ret2
      exact Hpost.out _ Hbel.out
    · rw [hE] at hno
      have He := Lib.hid (hE ▸ numbered_any p.epoch w3)
      cases hS : numB p.seq
      · have Hs := Lib.hid (hS ▸ numbered_any p.seq w3)
        clear hno hE hS
        go_wp2_with (first | (go_at_call_of 37 (iV p.epoch); refine He.out.mono ?_; rintro e w' ⟨rfl, rfl⟩) | (go_at_call_of 37 (iV p.seq); refine Hs.out.mono ?_; rintro e w' ⟨rfl, rfl⟩))
        go_ret2
        exact Hpost.out _ Hbel.out
      · rw [hS] at hno
        have Hs := Lib.hid (hS ▸ numbered_any p.seq w3)
        have hA : numB p.ack = false := by simpa using hno
        have Ha := Lib.hid (hA ▸ numbered_any p.ack w3)
        clear hno hE hS hA
        go_wp2_with (first | (go_at_call_of 37 (iV p.epoch); refine He.out.mono ?_; rintro e w' ⟨rfl, rfl⟩) | (go_at_call_of 37 (iV p.seq); refine Hs.out.mono ?_; rintro e w' ⟨rfl, rfl⟩) | (go_at_call_of 37 (iV p.ack); refine Ha.out.mono ?_; rintro e w' ⟨rfl, rfl⟩))
        go_ret2
        exact Hpost.out _ Hbel.out
abbrev EncS (w w' : World) (p : Pkt) : Prop := Boxes w w' p ∧ w'.cell? ⟨w.heap.size, 0, none⟩ = some (iV p.epoch) ∧ w'.cell? ⟨w.heap.size, 1, none⟩ = some (iV p.seq) ∧ w'.cell? ⟨w.heap.size, 2, none⟩ = some (iV p.ack) ∧ w'.cell? ⟨w.heap.size + 1, 0, none⟩ = some (iV p.note.kind)
theorem encS {w w' : World} {p : Pkt} (h : Boxes w w' p) : EncS w w' p := ⟨h, h.cells.1, h.cells.2.1, h.cells.2.2, h.note 0 _ rfl⟩
theorem Boxes.alloc {w w' : World} {p : Pkt} (h : Boxes w w' p) (o : Obj) : Boxes w (w'.alloc o) p := h.step ((Below.refl _ _).alloc h.lt o)
theorem Boxes.drew {w w' : World} {p : Pkt} (h : Boxes w w' p) : Boxes w w'.drew p := h.step (Below.refl _ _).drew
theorem Boxes.set {w w' : World} {p : Pkt} (h : Boxes w w' p) {c o : Nat} (hc : w.heap.size + 2 ≤ c) (v : Value) : Boxes w (w'.setCell ⟨c, o, none⟩ v) p := h.step ((Below.refl _ _).setCell hc v)
theorem Boxes.grew {w w' w'' : World} {p : Pkt} {v : Value} {l l2 : List Int} {g N cap : Nat} (h : Boxes w w' p) (hb : Bytes w' (w.heap.size + 2) v l) (k : Grew w' w'' (w.heap.size + 2) v l2 g N cap) : Boxes w w'' p := h.step (k.below hb h.lt)
theorem EncS.lt {w w' : World} {p : Pkt} (h : EncS w w' p) : w.heap.size + 2 ≤ w'.heap.size := h.1.lt
theorem EncS.alloc {w w' : World} {p : Pkt} (h : EncS w w' p) (o : Obj) : EncS w (w'.alloc o) p := encS (h.1.alloc o)
theorem EncS.set {w w' : World} {p : Pkt} (h : EncS w w' p) {c o : Nat} (hc : w.heap.size + 2 ≤ c) (v : Value) : EncS w (w'.setCell ⟨c, o, none⟩ v) p := encS (h.1.set hc v)
theorem EncS.grew {w w' w'' : World} {p : Pkt} {v : Value} {l l2 : List Int} {g N cap : Nat} (h : EncS w w' p) (hb : Bytes w' (w.heap.size + 2) v l) (k : Grew w' w'' (w.heap.size + 2) v l2 g N cap) : EncS w w'' p := encS (h.1.grew hb k)
theorem EncS.app {w w' w'' : World} {p : Pkt} {v : Value} {n : Nat} {xs : List Value} (h : EncS w w' p) (hb : w'.ownsRow (w.heap.size + 2) 5 1 v n xs) (k : w'.grownBy w'' v.ownBlock) : EncS w w'' p :=
  encS (h.1.step ⟨k.os, k.tape, k.output, k.size, fun m hm => k.block m (by have := h.lt; omega) (fun e => by have := (hb.lt m e.symm).1; omega)⟩)
/-- a block that is known. -/
def Has (w : World) (b : Nat) (o : Obj) : Prop := w.heap[b]? = some o
theorem Has.new (w : World) (c : Array Value) (T : TypeId) : Has (w.alloc (.cells c T)) w.heap.size (.cells c T (0, 0)) := heap_alloc_new w _
theorem Has.alloc {w : World} {b : Nat} {o : Obj} (h : Has w b o) (x : Obj) : Has (w.alloc x) b o := by
  unfold Has at *
  rw [heap_alloc_old w x (block_lt h)]; exact h
theorem Has.grew {w w' : World} {b : Nat} {o : Obj} {base : Nat} {v : Value} {l : List Int} {g N cap : Nat} (h : Has w b o) (k : Grew w w' base v l g N cap) (hn : v.ownBlock ≠ some b) : Has w' b o := by
  unfold Has at *
  rw [k.grow.block b (block_lt h) (fun e => hn e.symm)]; exact h
theorem Has.app {w w' : World} {b : Nat} {o : Obj} {row : Option Nat} (h : Has w b o) (k : w.grownBy w' row) (hn : row ≠ some b) : Has w' b o := by
  unfold Has at *
  rw [k.block b (block_lt h) (fun e => hn e.symm)]; exact h
theorem Has.cellz {w : World} {b : Nat} {v : Value} {T : TypeId} (h : Has w b (.cells #[v] T (0, 0))) : w.cell? ⟨b, 0, none⟩ = some v ∧ w.frozen? ⟨b, 0, none⟩ = false := ⟨by rw [cell_of_block h]; rfl, frozen_of_block h 0⟩
theorem Has.news {w : World} {b : Nat} {x : Int} (h : Has w b (.cells #[bI x] 5 (0, 0))) : ∀ j u, ([x].map bI)[j]? = some u → w.cell? (Addr.add ⟨b, 0, none⟩ j) = some u :=
  World.news_of_block (cs := #[bI x]) h
theorem Has.drew {w : World} {b : Nat} {o : Obj} (h : Has w b o) : Has w.drew b o := h
theorem EncS.drew {w w' : World} {p : Pkt} (h : EncS w w' p) : EncS w w'.drew p := encS h.1.drew
theorem Has.new2 (w : World) (c : Array Value) (T : TypeId) (n : Nat) (h : w.heap.size = n) : Has (w.alloc (.cells c T)) n (.cells c T (0, 0)) := h ▸ heap_alloc_new w _
theorem sz_alloc (w : World) (o : Obj) : (w.alloc o).heap.size = w.heap.size + 1 := by simp
theorem sz_drew (w : World) : w.drew.heap.size = w.heap.size := rfl
theorem loc_nil {w w' : World} {base : Nat} {l : List Int} {g N cap : Nat} (k : Grew w w' base (.slice none 0 0) l g N cap) : w.heap.size ≤ g ∧ g < w'.heap.size ∧ w.heap.size ≤ w'.heap.size := by
  refine ⟨?_, k.lt, k.grow.size⟩
  rcases k.loc with h | h
  · cases h
  · exact h
theorem loc_some {w w' : World} {base g0 N0 c0 : Nat} {l : List Int} {g N cap : Nat} (k : Grew w w' base (.slice (some ⟨g0, 0, none⟩) N0 c0) l g N cap) : (g = g0 ∨ w.heap.size ≤ g) ∧ g < w'.heap.size ∧ w.heap.size ≤ w'.heap.size := by
  refine ⟨?_, k.lt, k.grow.size⟩
  rcases k.loc with h | h
  · exact .inl (by injection h with h; exact h.symm)
  · exact .inr h
theorem own_len {w : World} {base : Nat} {v : Value} {l : List Int} {N : Nat} (h : Bytes w base v l) (hN : N = l.length) : w.ownsRow base 5 1 v N (l.map bI) := by subst hN; exact h
theorem own_ne {g N cap b : Nat} (h : b ≠ g) : Value.ownBlock (.slice (some ⟨g, 0, none⟩) N cap) ≠ some b := fun e => h (by injection e with e; exact e.symm)
/-- behind the first bytes. -/
def EncMid (w : World) (p : Pkt) (s5 : Value) (w' : World) : Prop := ∃ c v, s5 = .pointer (some ⟨c, 0, none⟩) ∧ Boxes w w' p ∧ Buf w' (w.heap.size + 2) c v (headL p)
theorem kind_byte {n : Note} (h : rightB n = true) : 0 ≤ n.kind ∧ n.kind ≤ 8 ∧ IntKind.u8.wrap n.kind = n.kind := by
  unfold rightB at h
  simp only [Bool.and_eq_true] at h
  have hk : 0 ≤ n.kind ∧ n.kind ≤ 8 := of_decide_eq_true h.1.1.1.1.1
  exact ⟨hk.1, hk.2, by rw [IntKind.wrap_u8]; omega⟩
theorem encMid1 {w w6 w7 : World} {p : Pkt} {g3 N3 cap3 g4 N4 cap4 c : Nat} (hs : EncS w w7 p) (h5 : w7.ownsRow (w.heap.size + 2) 5 1 (.slice (some ⟨g4, 0, none⟩) N4 cap4) N4 ((([] : List Int) ++ be4 p.epoch ++ be4 p.seq ++ be4 p.ack).map bI ++ ([p.note.kind].map bI))) (hN : N4 = (headL p).length) :
    EncMid w p (.pointer (some ⟨w7.heap.size, 0, none⟩)) (w7.alloc (.cells #[.slice (some ⟨g4, 0, none⟩) N4 cap4] 32)) := by
  refine ⟨_, _, rfl, hs.1.alloc _, ⟨heap_alloc_new w7 _, ?_, fun e => ?_, hs.lt⟩⟩
  · have : w7.ownsRow (w.heap.size + 2) 5 1 (.slice (some ⟨g4, 0, none⟩) N4 cap4) (headL p).length ((headL p).map bI) := by
      rw [← hN]; simpa [headL] using h5
    exact this.alloc _
  · have h := (h5.lt g4 rfl).2
    have e' : g4 = w7.heap.size := by injection e
    omega
theorem encMid2 {w w7 : World} {p : Pkt} {g4 N4 cap4 c : Nat} (hs : EncS w w7 p) (h5 : w7.ownsRow (w.heap.size + 2) 5 1 (.slice (some ⟨g4, 0, none⟩) N4 cap4) N4 ((([] : List Int) ++ be4 p.epoch ++ be4 p.seq ++ be4 p.ack).map bI ++ ([p.note.kind].map bI))) (hN : N4 = (headL p).length)
    (hc : Has w7 c (.cells #[.slice none 0 0] 32 (0, 0))) (hlo : w.heap.size + 2 ≤ c) :
    EncMid w p (.pointer (some ⟨c, 0, none⟩)) (w7.setCell ⟨c, 0, none⟩ (.slice (some ⟨g4, 0, none⟩) N4 cap4)) := by
  have hne : c ≠ g4 := by
    rintro rfl
    rcases h5.2 with ⟨h, _⟩ | ⟨g', cap', cur, hv, _, hg, _⟩
    · cases h
    · injection hv with hv; injection hv with hv; injection hv with hv
      subst hv
      unfold Has at hc
      rw [hg] at hc
      injection hc with hc
      injection hc with _ hc
      exact absurd hc (by decide)
  refine ⟨c, .slice (some ⟨g4, 0, none⟩) N4 cap4, rfl, hs.1.set hlo _, ⟨?_, ?_, own_ne hne, hlo⟩⟩
  · have := shk_heap_same (o := 0) (c := [.slice none 0 0]) hc (.slice (some ⟨g4, 0, none⟩) N4 cap4)
    exact this
  · have : w7.ownsRow (w.heap.size + 2) 5 1 (.slice (some ⟨g4, 0, none⟩) N4 cap4) (headL p).length ((headL p).map bI) := by
      rw [← hN]; simpa [headL] using h5
    exact own_off (ks := [c]) this ((Off.refl _ _).setCell (by simp) _) (fun m hm e => by
      simp at hm; subst hm; exact own_ne hne e)
theorem head_len {p : Pkt} {N : Nat} (h : N = (([] : List Int) ++ be4 p.epoch ++ be4 p.seq ++ be4 p.ack).length) : N + 1 = (headL p).length := by
  rw [h]; simp [headL]; omega
theorem field_app (k : Int) (f : Nat) (l x : List Int) : (if hasB k f then l ++ x else l) = l ++ fieldL k f x := by
  unfold fieldL; cases hasB k f <;> simp
theorem right_bounds {n : Note} (h : rightB n = true) : (0 ≤ n.kind ∧ n.kind ≤ 8) ∧ (0 ≤ n.vlan ∧ n.vlan ≤ 4094) ∧ (0 ≤ n.port ∧ n.port ≤ 1000) ∧ (0 ≤ n.state ∧ n.state ≤ 250) ∧ n.bl ≤ 1600 := by
  unfold rightB at h
  simp only [Bool.and_eq_true] at h
  obtain ⟨⟨⟨⟨⟨hk, _⟩, hv⟩, hp⟩, hs⟩, hb⟩ := h
  have hk : 0 ≤ n.kind ∧ n.kind ≤ 8 := of_decide_eq_true hk
  have fits : ∀ (v : Int) (f : Nat) (lo hi : Int), 0 ≤ lo → 0 ≤ hi → fitsB n.kind v f lo hi = true → 0 ≤ v ∧ v ≤ hi := by
    intro v f lo hi h0 h1 h
    unfold fitsB at h
    split at h
    · have := of_decide_eq_true h; omega
    · have := of_decide_eq_true h; omega
  have hst : statesN n.kind ≤ 250 ∧ 0 ≤ statesN n.kind := by unfold statesN; split; omega; split <;> omega
  have h1 := fits _ _ _ _ (by omega) (by omega) hv
  have h2 := fits _ _ _ _ (by omega) (by omega) hp
  have h3 := fits _ _ _ _ (by omega) hst.2 hs
  have h4 := fits _ _ _ _ (by omega) (by omega) hb
  exact ⟨hk, h1, h2, ⟨h3.1, by omega⟩, by omega⟩
theorem field_len (k : Int) (f : Nat) (x : List Int) : (fieldL k f x).length ≤ x.length := by unfold fieldL; split <;> simp
theorem mac_at {w w2 : World} {p : Pkt} (h : Boxes w w2 p) : ∀ j x, (macInts p.note.mac)[j]? = some x → w2.cell? ⟨w.heap.size + 1, 2 + j, none⟩ = some (bI x) := by
  intro j x hx
  match j, hx with
  | 0, hx => injection hx with hx; subst hx; exact h.note 2 _ rfl
  | 1, hx => injection hx with hx; subst hx; exact h.note 3 _ rfl
  | 2, hx => injection hx with hx; subst hx; exact h.note 4 _ rfl
  | 3, hx => injection hx with hx; subst hx; exact h.note 5 _ rfl
  | 4, hx => injection hx with hx; subst hx; exact h.note 6 _ rfl
  | 5, hx => injection hx with hx; subst hx; exact h.note 7 _ rfl
  | j + 6, hx => simp at hx
theorem src_far {w w2 : World} {a : Option Addr} {n : Nat} {l : List Int} (h : Src w a n l) (hB : Below w.heap.size w w2) : Src w2 a n l := h.step hB
theorem bel_refl2 {w w2 : World} {p : Pkt} (h : Boxes w w2 p) : w.heap.size + 2 ≤ w2.heap.size := h.lt
end Go.Proofs.YtpglhnbekpafeaaDoor
