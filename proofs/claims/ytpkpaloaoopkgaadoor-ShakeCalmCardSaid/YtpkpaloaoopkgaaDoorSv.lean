/-
  gemelref22.SameNotes: two lists of what was told are the same.
-/
import Derived.Test.YtpkpaloaoopkgaaDoorSu
import Derived.Test.YtpkpaloaoopkgaaDoorSh
import Derived.Deep.RegionHeld3
import Derived.Laws.BytesArg
namespace Go.Proofs.YtpkpaloaoopkgaaDoor
set_option linter.unusedVariables false
set_option linter.unusedSimpArgs false
open Go Go.RowKit
attribute [local go_sem ↓] exec_loadNote exec_storeNote
attribute [local go_sem] ldRow_ptr ldFin_some cellsAt_succ cellsAt_zero allSome_cons allSome_nil stRow_ptr stFin_true allOne_cons allOne_nil there_succ there_zero frozens_succ frozens_zero one_int one_bool one_slice putCells_alloc_at putCells_alloc_old over_all

/-- Of a region: what lay below k when it began lies so still. -/
abbrev Kept (k : Nat) (W w : World) : Prop := (∀ b o, b < k → w.cell? ⟨b, o, none⟩ = W.cell? ⟨b, o, none⟩) ∧ RowKit.Below k W w ∧ k ≤ W.heap.size

theorem Kept.mk' {k : Nat} {W w : World} (h : RowKit.Below k W w) (hk : k ≤ W.heap.size) : Kept k W w :=
  ⟨fun b o hb => h.cell (p := ⟨b, o, none⟩) hb, h, hk⟩
theorem Kept.size {k : Nat} {W w : World} (h : Kept k W w) : k ≤ w.heap.size := Nat.le_trans h.2.2 h.2.1.size
theorem Kept.refl {k : Nat} {W : World} (hk : k ≤ W.heap.size) : Kept k W W := Kept.mk' (RowKit.Below.refl _ _) hk
theorem Kept.drew {k : Nat} {W w : World} (h : Kept k W w) : Kept k W w.drew := Kept.mk' h.2.1.drew h.2.2
theorem Kept.drewN {k : Nat} {W w : World} (h : Kept k W w) (n : Nat) : Kept k W (w.drewN n) := Kept.mk' (below_drewN' h.2.1 n) h.2.2
theorem Kept.step {k : Nat} {W w w' : World} (h : Kept k W w) (hb : RowKit.Below w.heap.size w w') : Kept k W w' :=
  Kept.mk' (h.2.1.trans (hb.mono h.size)) h.2.2
theorem Kept.alloc {k : Nat} {W w : World} (h : Kept k W w) (o : Obj) : Kept k W (w.alloc o) := Kept.mk' (h.2.1.alloc h.size o) h.2.2
theorem Kept.setCell {k : Nat} {W w : World} (h : Kept k W w) {p : Addr} (hp : k ≤ p.block) (u : Value) : Kept k W (w.setCell p u) := Kept.mk' (h.2.1.setCell hp u) h.2.2
theorem Kept.fin {k B : Nat} {w W w' : World} (h : Kept k W w') (hb : RowKit.Below B w W) (hk : B ≤ k) : RowKit.Below B w w' := hb.trans (h.2.1.mono hk)

theorem eql_mac0 (w : World) : (binOp .eql 32 (.agg mac0List.toArray) (.agg mac0List.toArray)).run Tryd.prog w = .ok (.bool true) w := by
  have h := eql_mac mac0 mac0 w
  rw [decide_eq_true rfl] at h
  exact h
theorem same_note (t : Tn) (w : World) : Calls Tryd.prog 31 #[.agg (tnList t).toArray, .agg (tnList t).toArray] w fun e w' => e = .returned (.bool true) ∧ Below w.heap.size w w' := by
  have he := fun w => eql_mac0 w
  have hcv := fun w => run_convert_bytes_nil (P := Tryd.prog) w 33 5 Tryd.underlying33 Tryd.underlying5 0 0 9 Tryd.underlying9
  go_enter Tryd.func31, Tryd.ntmps31
  go_wp2
  go_ret
  exact ⟨rfl, ((Below.refl _ _).alloc (Nat.le_refl _) _).alloc (by simp) _⟩

/-- where the notes of a list lie: in a block of its own from its head on. -/
def NotesAt (w : World) (v : Value) (ns : List Tn) : Prop :=
  ∃ a cap, v = .slice a ns.length cap ∧ (0 < ns.length → ∃ b, a = some ⟨b, 0, none⟩ ∧ b < w.heap.size ∧ ∀ (i : Nat) (t : Tn), ns[i]? = some t → ∀ (j : Nat) (u : Value), (tnList t)[j]? = some u → w.cell? ⟨b, i * 11 + j, none⟩ = some u)
theorem NotesAt.of_told {T : TypeId} {w : World} {base : Nat} {v : Value} {ns : List Tn} (h : Told T w base v ns) : NotesAt w v ns := by
  by_cases hn : 0 < ns.length
  · obtain ⟨b, cap, hv, _, hb, hc⟩ := told_form h hn
    exact ⟨_, cap, hv, fun _ => ⟨b, rfl, hb, hc⟩⟩
  · have h0 : ns = [] := List.length_eq_zero_iff.1 (by omega)
    subst h0
    rcases h.2 with ⟨hv, _⟩ | ⟨g, cap, cur, hv, _⟩
    · exact ⟨none, 0, hv, fun h => absurd h (by decide)⟩
    · exact ⟨_, cap, hv, fun h => absurd h (by decide)⟩
theorem NotesAt.below {w w' : World} {v : Value} {ns : List Tn} (h : NotesAt w v ns) (hB : Below w.heap.size w w') : NotesAt w' v ns := by
  obtain ⟨a, cap, hv, hc⟩ := h
  refine ⟨a, cap, hv, fun hn => ?_⟩
  obtain ⟨b, ha, hb, hcell⟩ := hc hn
  exact ⟨b, ha, Nat.lt_of_lt_of_le hb hB.size, fun i t hi j u hu => by rw [hB.cell (p := ⟨b, i * 11 + j, none⟩) hb]; exact hcell i t hi j u hu⟩
theorem note_cells {w : World} {b i : Nat} {t : Tn} (h : ∀ (j : Nat) (u : Value), (tnList t)[j]? = some u → w.cell? ⟨b, i * 11 + j, none⟩ = some u) :
    w.cell? ⟨b, i * 11, none⟩ = some (iV t.kind) ∧ w.cell? ⟨b, i * 11 + 1, none⟩ = some (.int .i64 0) ∧ w.cell? ⟨b, i * 11 + 2, none⟩ = some (.int .u8 0) ∧ w.cell? ⟨b, i * 11 + 3, none⟩ = some (.int .u8 0) ∧
    w.cell? ⟨b, i * 11 + 4, none⟩ = some (.int .u8 0) ∧ w.cell? ⟨b, i * 11 + 5, none⟩ = some (.int .u8 0) ∧ w.cell? ⟨b, i * 11 + 6, none⟩ = some (.int .u8 0) ∧ w.cell? ⟨b, i * 11 + 7, none⟩ = some (.int .u8 0) ∧
    w.cell? ⟨b, i * 11 + 8, none⟩ = some (iV t.port) ∧ w.cell? ⟨b, i * 11 + 9, none⟩ = some (iV t.state) ∧ w.cell? ⟨b, i * 11 + 10, none⟩ = some (.slice none 0 0) :=
  ⟨h 0 _ rfl, h 1 _ rfl, h 2 _ rfl, h 3 _ rfl, h 4 _ rfl, h 5 _ rfl, h 6 _ rfl, h 7 _ rfl, h 8 _ rfl, h 9 _ rfl, h 10 _ rfl⟩

set_option maxHeartbeats 2000000 in
theorem same_notes (v v' : Value) (ns : List Tn) (w : World) (hn : ns.length ≤ 63) (h : NotesAt w v ns) (h' : NotesAt w v' ns) :
    Calls Tryd.prog 22 #[v, v'] w fun e w' => e = .returned (.bool true) ∧ Below w.heap.size w w' := by
  have H := Lib.hid h; have H' := Lib.hid h'
  obtain ⟨a, cap, rfl, _⟩ := h
  obtain ⟨a', cap', rfl, _⟩ := h'
  go_enter Tryd.func22, Tryd.ntmps22
  go_wp2
  go_loopw [5] (fun idx wr => ∃ i : Nat, i ≤ ns.length ∧ idx = iV i ∧ Below w.heap.size w wr) (fun idx _ => ns.length - (intOf idx).toNat)
  case atStart => exact ⟨0, Nat.zero_le _, rfl, Below.refl _ _⟩
  case round =>
    obtain ⟨i, hi, rfl, hb⟩ := hrel
    have Hb := Lib.hid hb
    clear hb
    by_cases hlt : i < ns.length
    · obtain ⟨t, ht⟩ : ∃ t, ns[i]? = some t := ⟨_, List.getElem?_eq_getElem hlt⟩
      obtain ⟨_, _, e1, hc⟩ := H.out.below Hb.out
      obtain ⟨_, _, e2, hc'⟩ := H'.out.below Hb.out
      injection e1 with e1 _ e1c
      injection e2 with e2 _ e2c
      subst e1 e2 e1c e2c
      obtain ⟨b, rfl, hb1, hcell⟩ := hc (by omega)
      obtain ⟨b', rfl, hb2, hcell'⟩ := hc' (by omega)
      obtain ⟨c0, c1, c2, c3, c4, c5, c6, c7, c8, c9, c10⟩ := note_cells (hcell i t ht)
      obtain ⟨d0, d1, d2, d3, d4, d5, d6, d7, d8, d9, d10⟩ := note_cells (hcell' i t ht)
      have hi0 : (0 : Int) ≤ (i : Int) := by omega
      have hin : (i : Int) < (ns.length : Int) := by omega
      clear hc hc' hcell hcell' ht
      go_wp2_with fail
      go_region_held3 (fun w' => Kept wr.heap.size wr w') (with_reducible first | assumption | exact Kept.drew (Kept.refl (Nat.le_refl _)) | exact Kept.step (by assumption) (by assumption)) (first | (go_at_call 31; refine (same_note t _).mono ?_; rintro e w5 ⟨rfl, hcall⟩))
      have hK := Lib.hid (‹Kept wr.heap.size wr _›).2.1
      go_wp2_with fail
      go_roundw
      case rel => exact ⟨i + 1, by omega, by go_num, Hb.out.trans (hK.out.mono Hb.out.size)⟩
      case measure => simp [intOf]; omega
    · go_wp2
      go_ret
      exact ⟨rfl, Hb.out⟩
end Go.Proofs.YtpkpaloaoopkgaaDoor
