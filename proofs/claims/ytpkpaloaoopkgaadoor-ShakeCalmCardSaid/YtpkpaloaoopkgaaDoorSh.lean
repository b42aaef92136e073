/-
  The laws' 'awake' of the layer shake: it answers true.
-/
import Derived.Test.YtpkpaloaoopkgaaDoorSg
namespace Go.Proofs.YtpkpaloaoopkgaaDoor
set_option linter.unusedVariables false
set_option linter.unusedSimpArgs false
open Go Go.RowKit

theorem HasLaid.off {w w' : World} {ks : List Nat} (h : HasLaid w) (ho : Off ks w w') (hk : 0 ∉ ks) : HasLaid w' :=
  ⟨Nat.lt_of_lt_of_le h.1 ho.size, fun k h0 h8 => by rw [ho.cell (p := ⟨0, k.toNat, none⟩) h.1 hk]; exact h.2 k h0 h8⟩

/-- the cells of one note that was told. -/
theorem told_form {T : TypeId} {w : World} {base : Nat} {v : Value} {ns : List Tn} (h : Told T w base v ns) (hn : 0 < ns.length) :
    ∃ b cap, v = .slice (some ⟨b, 0, none⟩) ns.length cap ∧ base ≤ b ∧ b < w.heap.size ∧ ∀ (i : Nat) (t : Tn), ns[i]? = some t → ∀ (j : Nat) (u : Value), (tnList t)[j]? = some u → w.cell? ⟨b, i * 11 + j, none⟩ = some u := by
  obtain ⟨b, cap, hv, h1, h2⟩ := h.form hn
  refine ⟨b, cap, hv, h1, h2, fun i t hi j u hj => ?_⟩
  have hc := h.cells (g := b) (by rw [hv]; rfl)
  have hflat : ∀ (l : List Tn) (i : Nat) (t : Tn), l[i]? = some t → ∀ j u, (tnList t)[j]? = some u → (l.flatMap tnList)[i * 11 + j]? = some u := by
    intro l
    induction l with
    | nil => intro i t hi; simp at hi
    | cons y r ih =>
      intro i t hi j u hu
      rw [List.flatMap_cons]
      have hj : j < 11 := (List.getElem?_eq_some_iff.1 hu).1
      cases i with
      | zero =>
        simp at hi; subst hi
        rw [List.getElem?_append_left (by simp; omega)]; simpa using hu
      | succ i =>
        rw [List.getElem?_append_right (by simp; omega)]
        have := ih i t (by simpa using hi) j u hu
        rw [show (i + 1) * 11 + j - (tnList y).length = i * 11 + j by simp; omega]; exact this
  have := hc _ _ (hflat ns i t hi j u hj)
  have ea : (Addr.add ⟨b, 0, none⟩ (i * 11 + j)) = ⟨b, i * 11 + j, none⟩ := by unfold Addr.add; split <;> simp_all
  rw [ea] at this; exact this

abbrev blkNote : Value := .agg #[.int .i64 4, .int .i64 0, .int .u8 0, .int .u8 0, .int .u8 0, .int .u8 0, .int .u8 0, .int .u8 0, .int .i64 1, .int .i64 1, .slice none 0 0]
theorem blkNote_eq : blkNote = (Tn.note ⟨4, 1, 1⟩).val := rfl

def aw1 : Shk := { l := [⟨true, 0, false⟩, ⟨false, 0, false⟩], session := false, alone := false }
def aw2 : Shk := { l := [⟨true, 1, false⟩, ⟨false, 0, false⟩], session := true, alone := false }
def aw3 : Shk := { l := [⟨true, 0, false⟩, ⟨false, 0, false⟩], session := true, alone := false }
theorem aw_local : (Shk.new 2).local 0 ⟨false, 0, false⟩ true = aw1 := rfl
theorem aw_start : aw1.start = aw2 := rfl
theorem aw_told : startTold aw1.l = [⟨3, 1, 1⟩, ⟨3, 2, 0⟩] := rfl
theorem aw_take : aw2.take (Tn.note ⟨4, 1, 1⟩) = (aw3, [], 0) := by
  have h : rightB (Tn.note ⟨4, 1, 1⟩) = true := by decide +kernel
  unfold Shk.take
  rw [h]
  rfl

set_option maxHeartbeats 2000000 in
theorem awake_any (w : World) (hl : HasLaid w) : Calls Tryd.prog 8 #[] w fun e w' => e = .returned (.bool true) ∧ Below w.heap.size w w' := by
  have Hn := Lib.hid (new_good 2 w (by omega) (by omega))
  have Hl := Lib.hid hl
  clear hl
  go_enter Tryd.func8, Tryd.ntmps8
  go_upto_region 4 with (go_at_call 9; refine Hn.out.mono ?_; rintro e w1 ⟨p, g, rfl, hp, hg, hs, hb⟩)
  have Hloc := Lib.hid (show Calls Tryd.prog 16 #[.pointer (some ⟨p, 0, none⟩), .int .i64 1, .bool true] w1 (LocalPost w1 p g (Shk.new 2) 0 ⟨false, 0, false⟩ true) from local_any p g 0 ⟨false, 0, false⟩ true (Shk.new 2) w1 hs (by decide) rfl (fun x hx => by
    have : x = ⟨false, 0, false⟩ := List.eq_of_mem_replicate (n := 2) hx
    subst this; exact ⟨Int.le_refl 0, by show (0 : Int) ≤ 1000000; decide⟩))
  have Hb := Lib.hid hb
  clear hs hb
  go_upto_region 5 with (go_at_call 16; refine Hloc.out.mono ?_; rintro e w2 ⟨v1, rfl, _, hs2, ho2⟩)
  rw [aw_local] at hs2
  have Hst := Lib.hid (start_any p g aw1 w2 hs2 (by decide) (by decide))
  have Hb2 := Lib.hid (Hb.out.trans (ho2.toBelow Hb.out.size (by simp; exact hg)))
  have lg2 := hs2.lt.2
  clear hs2 ho2
  go_upto_region 6 with (go_at_call 17; refine Hst.out.mono ?_; rintro e w3 ⟨v2, rfl, ht3, hs3, ho3⟩)
  rw [aw_start] at hs3
  rw [aw_told] at ht3
  obtain ⟨b, cap, rfl, hb3, hb4, hcell⟩ := told_form ht3 (by decide)
  have hc9 := hcell 0 ⟨3, 1, 1⟩ rfl 9 _ rfl
  have Hb3 := Lib.hid (Hb2.out.trans (ho3.toBelow Hb2.out.size (by intro k hk; simp at hk; rcases hk with rfl | rfl <;> assumption)))
  have Hse := Lib.hid (show Calls Tryd.prog 12 #[.pointer (some ⟨p, 0, none⟩), .int .i64 1] w3 (fun e w' => e = .returned (.bool false) ∧ w3 = w') from serves_yes p g 0 ⟨true, 1, false⟩ aw2 w3 hs3 (by decide) rfl)
  have hl3 : HasLaid w3 := Hl.out.below Hb3.out Hl.out.1
  have Htk := Lib.hid (show Calls Tryd.prog 20 #[.pointer (some ⟨p, 0, none⟩), blkNote] w3 (TakePost w3 p g aw2 (Tn.note ⟨4, 1, 1⟩)) from take_any p g aw2 (Tn.note ⟨4, 1, 1⟩) w3 hs3 (by decide) (by
    intro x hx
    have : x = ⟨true, 1, false⟩ ∨ x = ⟨false, 0, false⟩ := by simpa [aw2] using hx
    rcases this with rfl | rfl <;> decide) hl3)
  have hbg : b ≠ g := by omega
  clear ht3 ho3 hcell hl3 lg2
  go_upto_region 7 with (go_at_call 12; refine Hse.out.mono ?_; rintro e w' ⟨rfl, rfl⟩)
  go_upto_region 8 with (go_at_call 20; refine Htk.out.mono ?_; rintro e w4 ⟨v4, rfl, _, hs4, ho4⟩)
  rw [aw_take] at hs4
  have Hse4 := Lib.hid (show Calls Tryd.prog 12 #[.pointer (some ⟨p, 0, none⟩), .int .i64 1] w4 (fun e w' => e = .returned (.bool true) ∧ w4 = w') from serves_yes p g 0 ⟨true, 0, false⟩ aw3 w4 hs4 (by decide) rfl)
  have Hbl4 := Lib.hid (show Calls Tryd.prog 14 #[.pointer (some ⟨p, 0, none⟩), .int .i64 1] w4 (fun e w' => e = .returned (.bool true) ∧ w4 = w') from blocked_yes p g 0 ⟨true, 0, false⟩ aw3 w4 hs4 (by decide) rfl)
  have hc4 : w4.cell? ⟨b, 9, none⟩ = some (.int .i64 1) := by rw [ho4.cell (p := ⟨b, 9, none⟩) hb4 (by simp; exact hbg)]; simpa using hc9
  have Hb4 := Lib.hid (Hb3.out.trans (ho4.toBelow Hb3.out.size (by simp; exact hg)))
  clear hs4 ho4 hc9 hs3
  go_wp2_with (first | (go_at_call 12; refine Hse4.out.mono ?_; rintro e w' ⟨rfl, rfl⟩) | (go_at_call 14; refine Hbl4.out.mono ?_; rintro e w' ⟨rfl, rfl⟩))
  go_ret
  exact ⟨rfl, Hb4.out⟩
end Go.Proofs.YtpkpaloaoopkgaaDoor
